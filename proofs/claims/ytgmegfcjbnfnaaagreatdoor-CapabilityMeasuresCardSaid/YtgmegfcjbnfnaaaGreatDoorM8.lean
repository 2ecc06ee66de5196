/- The chapter's example; the reference's Check, Given and Histogram. -/
import Derived.Test.YtgmegfcjbnfnaaaGreatDoorM7
import Derived.Test.YtgmegfcjbnfnaaaGreatDoorM6

/- Walks over the statements of chapter 57: awake. -/
namespace Go.Proofs.YtgmegfcjbnfnaaaGreatDoor
open Go.RowKit Go.Shelf Wide Numer

/-- the chapter's example -/
def exL : List Int := [2, 4, 4, 10]
theorem ex_chk : chkS exL = 0 := by decide +kernel
theorem ex_sort : sortL exL = [2, 4, 4, 10] := List.mergeSort_of_pairwise (by decide +kernel)
theorem ex_mean : rt (ctr exL) = ⟨#[53]⟩ := by decide +kernel
theorem ex_var : rt (vr exL) = ⟨#[49, 50]⟩ := by decide +kernel
theorem ex_vE : vE exL = 0 := by decide +kernel
theorem ex_dE : dE exL 1 13 = 0 := by decide +kernel
theorem ex_bE : bE exL 1 13 = 0 := by decide +kernel
theorem ex_cap : rt (idxV ((13 - 1 : Int) : Rat) 36 (vr exL)) = ⟨#[49, 47, 51]⟩ := by decide +kernel
theorem ex_cen : rt (idxV (Rat.divInt (dist exL 1 13) exL.length) 9 (vr exL)) = ⟨#[52, 47, 50, 55]⟩ := by decide +kernel
theorem ex_sgn : zsgn (dist exL 1 13) = 1 := by decide +kernel
theorem ex_med : rt (medV exL) = ⟨#[52]⟩ := by
  unfold medV
  rw [ex_sort]
  decide +kernel
theorem ex_hist : histC exL 3 3 2 = [1, 2, 0, 1] := by decide +kernel
theorem ex_hE : hE exL 3 3 2 = 0 := by decide +kernel
theorem ex_runs : runsC (1 + 13) 0 exL = [-3, 1] := by decide +kernel
theorem ex_sE : sE exL 2 = 0 := by decide +kernel
theorem ex_spr : spr exL 2 = [2, 6] := by decide +kernel
theorem ex_sprm : rt (ctr [2, 6]) = ⟨#[52]⟩ := by decide +kernel

theorem ex_row {g : Nat} (w : World) (h : w.heap[g]? = some (.cells #[.int .i64 2, .int .i64 4, .int .i64 4, .int .i64 10] 3)) : Row w g 0 exL := by
  intro j hj
  have hj4 : j < 4 := hj
  simp only [World.cell?, h, Nat.zero_add]
  rcases j with _ | _ | _ | _ | j
  · rfl
  · rfl
  · rfl
  · rfl
  · omega
theorem two_row {w : World} {g : Nat} (x y : Int) (h : w.heap[g]? = some (.cells #[.int .i64 x, .int .i64 y] 3)) : ∀ j, j < [x, y].length → w.cell? ⟨g, 0 + j, none⟩ = some (.int .i64 ([x, y].getD j 0)) := by
  intro j hj
  have hj2 : j < 2 := hj
  simp only [World.cell?, h, Nat.zero_add]
  rcases j with _ | _ | j
  · rfl
  · rfl
  · omega
/-- slices.Equal of a slice and a new one of the same two ints -/
theorem equal2_any (b o c : Nat) (x y : Int) (w : World) (hr : Row w b o [x, y]) :
    Calls Tryz.prog 35 #[.slice (some ⟨b, o, none⟩) 2 c, .slice (some ⟨w.heap.size, 0, none⟩) 2 2] (w.alloc (.cells #[.int .i64 x, .int .i64 y] 3)) fun e w' => e = .returned (.bool true) ∧ Kept w w' := by
  have k0 : Kept w (w.alloc (.cells #[.int .i64 x, .int .i64 y] 3)) := (Kept.refl w).alloc _
  have h0 : (w.alloc (.cells #[.int .i64 x, .int .i64 y] 3)).heap[w.heap.size]? = some (.cells #[.int .i64 x, .int .i64 y] 3) := by
    show (w.heap.push _)[w.heap.size]? = _
    simp
  refine (Tryz.slices_Equal_int b o 2 c w.heap.size 0 2 2 [x, y] [x, y] _ (Nat.le_refl 2) (Nat.le_refl 2) (by omega) (by omega) (fun j hj => by rw [List.getD_eq_getElem?_getD]; exact (hr.keep k0) j hj) (two_row x y h0)).mono ?_
  rintro e w' ⟨rfl, q, rfl⟩
  exact ⟨by simp, k0.drewN q⟩

set_option maxHeartbeats 4000000 in
set_option maxRecDepth 100000 in
theorem awake_any (w : World) (hT : Tab w) : Calls Tryz.prog 11 #[] w fun e w' => e = .returned (.bool true) ∧ Kept w w' := by
  have K0 : Kept w ((w.alloc (.cells #[.int .i64 2, .int .i64 4, .int .i64 4, .int .i64 10] 3)).alloc (.cells #[.int .i64 1, .int .i64 13] 34)) := ((Kept.refl w).alloc _).alloc _
  have R0 : Row ((w.alloc (.cells #[.int .i64 2, .int .i64 4, .int .i64 4, .int .i64 10] 3)).alloc (.cells #[.int .i64 1, .int .i64 13] 34)) w.heap.size 0 exL :=
    (ex_row (g := w.heap.size) (w.alloc (.cells #[.int .i64 2, .int .i64 4, .int .i64 4, .int .i64 10] 3)) (by show (w.heap.push _)[w.heap.size]? = _; simp)).keep ((Kept.refl _).alloc _)
  have L0 := two_cells (lim_head 1 13 (w.alloc (.cells #[.int .i64 2, .int .i64 4, .int .i64 4, .int .i64 10] 3)))
  rw [World.size_alloc] at L0
  have S0 : w.heap.size < ((w.alloc (.cells #[.int .i64 2, .int .i64 4, .int .i64 4, .int .i64 10] 3)).alloc (.cells #[.int .i64 1, .int .i64 13] 34)).heap.size := by simp; omega
  obtain ⟨L1, L2⟩ := L0
  obtain ⟨g, hg⟩ : ∃ g, g = w.heap.size := ⟨_, rfl⟩
  have hl4 : exL.length ≤ 100000000000000 := by rw [show exL.length = 4 from rfl]; omega
  have C1 := fun w hT hs => cMean_any (some ⟨g, 0, none⟩) 4 exL w hT hl4 hs
  have C2 := fun w hT hs => cVariance_any (some ⟨g, 0, none⟩) 4 exL w hT hl4 hs
  have C3 := fun w hT hs => cCapability_any (some ⟨g, 0, none⟩) 4 exL 1 13 w hT hl4 hs
  have C4 := fun w hT hs => cCentered_any (some ⟨g, 0, none⟩) 4 exL 1 13 w hT hl4 hs
  have C5 := fun w hT hs => cMedian_any (some ⟨g, 0, none⟩) 4 exL w hT hl4 hs
  have C6 := fun w hs => chist_any (some ⟨g, 0, none⟩) 4 exL 3 3 2 w hl4 hs
  have C7 := fun w hs => cRuns_any (some ⟨g, 0, none⟩) 4 exL 1 13 w hl4 hs
  have C8 := fun w hT hs => cspread_any (some ⟨g, 0, none⟩) 4 exL 2 w hT hl4 hs (Nat.le_refl 4)
  rw [ex_chk, ifS, if_pos rfl, ex_mean] at C1
  rw [ex_vE, ifS, if_pos rfl, ex_var] at C2
  rw [ex_dE, ifS, if_pos rfl, ex_cap] at C3
  rw [ex_dE, ifS, if_pos rfl, if_pos rfl, ex_cen, ex_sgn] at C4
  rw [ex_chk, ifS, if_pos rfl, ex_med] at C5
  rw [show exL.length = 4 from rfl] at C1 C2 C3 C4 C5 C6 C7 C8
  rw [← hg] at R0 S0 L1 L2
  go_enter Tryz.func11, Tryz.ntmps11
  go_wp2_with fail
  rw [← hg]
  generalize ((w.alloc (.cells #[.int .i64 2, .int .i64 4, .int .i64 4, .int .i64 10] 3)).alloc (.cells #[.int .i64 1, .int .i64 13] 34)) = W at *
  have hT0 := hT.keep K0
  have sr := Lib.hid (Ser.of S0 R0)
  clear R0 S0 hg
  refine (C1 W hT0 sr.out).mono ?_
  rintro e w1 ⟨rfl, k1⟩
  go_wp2_with fail
  refine (C2 w1 (hT0.keep k1) (sr.out.keep k1)).mono ?_
  rintro e w2 ⟨rfl, k2⟩
  replace k2 := k1.trans k2
  have a1 := k2.cell L1
  have a2 := k2.cell L2
  go_wp2_with fail
  refine (C3 w2 (hT0.keep k2) (sr.out.keep k2)).mono ?_
  rintro e w3 ⟨rfl, k3⟩
  replace k3 := k2.trans k3
  have a1 := k3.cell L1
  have a2 := k3.cell L2
  go_wp2_with fail
  refine (C4 w3 (hT0.keep k3) (sr.out.keep k3)).mono ?_
  rintro e w4 ⟨rfl, k4⟩
  replace k4 := k3.trans k4
  go_wp2_with fail
  refine (C5 w4 (hT0.keep k4) (sr.out.keep k4)).mono ?_
  rintro e w5 ⟨rfl, k5⟩
  replace k5 := k4.trans k5
  go_wp2_with fail
  refine (C6 w5 (sr.out.keep k5)).mono ?_
  rintro e w6 (⟨_, m, hm, _, hist⟩ | ⟨hne, _⟩)
  rotate_left
  · exact absurd ex_hE hne
  obtain rfl : m = 2 := by omega
  rw [ex_hist] at hist
  obtain ⟨gh, ch, rfl, hgh, hbh, k6⟩ := hist
  replace k6 := k5.trans k6
  have a1 := k6.cell L1
  have a2 := k6.cell L2
  have hist2 : Row w6 gh 1 [2, 0] := fun j hj => by
    have hj2 : j < 2 := hj
    have := hbh.cell (1 + j) (by show 1 + j < 4; omega)
    rw [this]
    rcases j with _ | _ | j
    · rfl
    · rfl
    · omega
  have H2 := Lib.hid hist2
  clear hist2 hbh hm
  go_wp2_with fail
  refine (C7 w6 (sr.out.keep k6)).mono ?_
  rintro e w7 ⟨v, rfl, hruns⟩
  rw [ex_bE, if_pos rfl, ex_runs] at hruns
  obtain ⟨gr, cr, rfl, hgr, _, _, _, hrr⟩ := hruns.row (by decide)
  have k67 := hruns.2.2
  have k7 := k6.trans k67
  have H3 := Lib.hid hrr
  rw [ex_bE]
  clear hruns hrr
  go_wp2_with fail
  refine (C8 w7 (hT0.keep k7) (sr.out.keep k7)).mono ?_
  rintro e w8 (⟨_, m, hm, _, _, v, rfl, hspr⟩ | ⟨hne, _⟩)
  rotate_left
  · exact absurd ex_sE hne
  obtain rfl : m = 2 := by omega
  rw [ex_spr] at hspr
  rw [ex_spr, ex_sprm]
  obtain ⟨gs, cs, rfl, hgs, _, _, _, hss⟩ := hspr.row (by decide)
  have k78 := hspr.2.2
  have H4 := Lib.hid hss
  clear hspr hss hm
  have k8 := k7.trans k78
  have H5 := Lib.hid (H2.out.keep (k67.trans k78))
  have H6 := Lib.hid (H3.out.keep k78)
  clear H2 H3 a1 a2 k1 k2 k3 k4 k5 k6 k7 k67 k78 C1 C2 C3 C4 C5 C6 C7 C8 L1 L2 sr hT0
  go_wp2_with fail
  refine (equal2_any gh 1 ch 2 0 w8 H5.out).mono ?_
  rintro e w9 ⟨rfl, k9⟩
  have H7 := Lib.hid (H6.out.keep k9)
  have H8 := Lib.hid (H4.out.keep k9)
  clear H4 H5 H6
  go_wp2_with fail
  refine (equal2_any gr 0 cr (-3) 1 w9 H7.out).mono ?_
  rintro e w10 ⟨rfl, k10⟩
  have H9 := Lib.hid (H8.out.keep k10)
  clear H7 H8
  go_wp2_with fail
  refine (equal2_any gs 0 cs 2 6 w10 H9.out).mono ?_
  rintro e w11 ⟨rfl, k11⟩
  go_wp2
  go_returns
  exact ⟨rfl, (((K0.trans k8).trans k9).trans k10).trans k11⟩

end Go.Proofs.YtgmegfcjbnfnaaaGreatDoor

/- Walks over the reference of chapter 57: Value, Few, Check, SameInts, Histogram. -/
namespace Go.Proofs.YtgmegfcjbnfnaaaGreatDoor
open Go.RowKit Go.Shelf Wide Numer

set_option maxHeartbeats 1000000 in
set_option maxRecDepth 100000 in
theorem value_any (n : Int) (w : World) :
    Calls Tryz.prog 50 #[.int .i64 n] w fun e w' => e = .returned (.bool (okv n)) ∧ w' = w := by
  by_cases h1 : -1048576 ≤ n
  · by_cases h2 : n ≤ 1048576
    · rw [show okv n = true by simp [okv, h1, h2]]
      go_enter Tryz.func50, Tryz.ntmps50
      go_wp2
      go_returns
      exact ⟨rfl, rfl⟩
    · rw [show okv n = false by simp [okv, h2]]
      go_enter Tryz.func50, Tryz.ntmps50
      go_wp2
      go_returns
      exact ⟨rfl, rfl⟩
  · rw [show okv n = false by simp [okv, h1]]
    go_enter Tryz.func50, Tryz.ntmps50
    go_wp2
    go_returns
    exact ⟨rfl, rfl⟩

/-- few values, or too many -/
def fewB (n : Nat) : Bool := decide (n ≤ 20) || (decide (4096 < n) && decide (n < 8192))
set_option maxHeartbeats 1000000 in
set_option maxRecDepth 100000 in
theorem few_any (a : Option Addr) (n c : Nat) (w : World) :
    Calls Tryz.prog 10 #[.slice a n c] w fun e w' => e = .returned (.bool (fewB n)) ∧ w' = w := by
  by_cases h1 : n ≤ 20
  · rw [show fewB n = true by simp [fewB, h1]]
    have i1 : (n : Int) ≤ 20 := by omega
    go_enter Tryz.func10, Tryz.ntmps10
    go_wp2
    go_returns
    exact ⟨rfl, rfl⟩
  · have i1 : ¬ (n : Int) ≤ 20 := by omega
    by_cases h2 : 4096 < n
    · have i2 : 4096 < (n : Int) := by omega
      by_cases h3 : n < 8192
      · have i3 : (n : Int) < 8192 := by omega
        rw [show fewB n = true by simp [fewB, h2, h3]]
        go_enter Tryz.func10, Tryz.ntmps10
        go_wp2
        go_returns
        exact ⟨rfl, rfl⟩
      · have i3 : ¬ (n : Int) < 8192 := by omega
        rw [show fewB n = false by simp [fewB]; omega]
        go_enter Tryz.func10, Tryz.ntmps10
        go_wp2
        go_returns
        exact ⟨rfl, rfl⟩
    · have i2 : ¬ 4096 < (n : Int) := by omega
      rw [show fewB n = false by simp [fewB]; omega]
      go_enter Tryz.func10, Tryz.ntmps10
      go_wp2
      go_returns
      exact ⟨rfl, rfl⟩

theorem all_take_succ (p : Int → Bool) (l : List Int) (j : Nat) (h : j < l.length) : (l.take (j + 1)).all p = ((l.take j).all p && p (l[j]?.getD 0)) := by
  rw [List.take_add_one, List.all_append]
  simp [h]

set_option maxHeartbeats 1000000 in
set_option maxRecDepth 100000 in
theorem rcheck57_any (a : Option Addr) (c : Nat) (l : List Int) (w : World) (hs : Ser w a l) :
    Calls Tryz.prog 19 #[.slice a l.length c] w fun e w' => e = .returned (.int .i64 (chkS l)) ∧ w' = w := by
  by_cases h0 : l.length = 0
  · rw [show chkS l = 13 by rw [chkS, if_pos h0], h0]
    clear hs
    go_enter Tryz.func19, Tryz.ntmps19
    go_wp2
    go_returns
    exact ⟨rfl, rfl⟩
  · obtain ⟨b, o, rfl, _, hr⟩ := hs (by omega)
    have i0 : ((l.length : Int) == 0) = false := by rw [beq_eq_false_iff_ne]; omega
    by_cases h1 : 4096 < l.length
    · have i1 : 4096 < (l.length : Int) := by omega
      rw [show chkS l = 5 by rw [chkS, if_neg h0, if_pos h1]]
      clear hs hr
      go_enter Tryz.func19, Tryz.ntmps19
      go_wp2
      go_returns
      exact ⟨rfl, rfl⟩
    · have i1 : ¬ 4096 < (l.length : Int) := by omega
      have e : chkS l = if l.all okv then 0 else 2 := by rw [chkS, if_neg h0, if_neg h1]
      have He := Lib.hid e
      have HR := Lib.hid hr
      clear hs hr e
      obtain ⟨E, hE⟩ : ∃ E, chkS l = E := ⟨_, rfl⟩
      rw [hE]
      have HE := Lib.hid hE
      clear hE
      go_enter Tryz.func19, Tryz.ntmps19
      go_wp2_with fail
      go_loopg [3] l.length (fun k i wr => ∃ j : Nat, k + j = l.length ∧ i = .int .i64 j ∧ (l.take j).all okv = true ∧ wr = w)
      case atStart => exact ⟨0, by omega, rfl, by simp, rfl⟩
      case round =>
        obtain ⟨j, hkj, rfl, ha, rfl⟩ := hrel
        by_cases hj : j < l.length
        · have hcj := HR.out j hj
          have hs := all_take_succ okv l j hj
          rw [ha, Bool.true_and] at hs
          have hmem : l[j]?.getD 0 ∈ l := by simp [hj]
          have hall : okv (l[j]?.getD 0) = false → l.all okv = false := fun h => by
            rw [List.all_eq_false]
            exact ⟨_, hmem, by simp [h]⟩
          generalize l[j]?.getD 0 = x at *
          have P := value_any x wr
          generalize okv x = v at *
          have Hs := Lib.hid hs
          have Hall := Lib.hid hall
          clear ha hs hmem hall
          go_wp2_with fail
          refine P.mono ?_
          rintro e w1 ⟨rfl, rfl⟩
          cases v
          · have hE2 : Hid (E = 2) := Lib.hid (by rw [← HE.out, He.out, Hall.out rfl]; rfl)
            go_wp2
            go_returns
            exact ⟨congrArg (fun x => Ending.returned (.int .i64 x)) hE2.out.symm, rfl⟩
          · go_wp2
            go_roundg (gk - 1)
            case measure => omega
            case rel => exact ⟨j + 1, by omega, by go_num, Hs.out, rfl⟩
        · have hE2 : Hid (E = 0) := Lib.hid (by
            rw [List.take_of_length_le (by omega)] at ha
            rw [← HE.out, He.out, ha]; rfl)
          clear ha
          go_wp2
          go_returns
          exact ⟨congrArg (fun x => Ending.returned (.int .i64 x)) hE2.out.symm, rfl⟩

set_option maxHeartbeats 1000000 in
set_option maxRecDepth 100000 in
/-- SameInts of rows that hold the same -/
theorem same_any (b1 o1 c1 b2 o2 c2 : Nat) (l : List Int) (w : World) (h1 : Row w b1 o1 l) (h2 : Row w b2 o2 l) (hl : l.length ≤ 1000000) :
    Calls Tryz.prog 26 #[.slice (some ⟨b1, o1, none⟩) l.length c1, .slice (some ⟨b2, o2, none⟩) l.length c2] w fun e w' => e = .returned (.bool true) ∧ Kept w w' := by
  have H1 := Lib.hid h1
  have H2 := Lib.hid h2
  clear h1 h2
  go_enter Tryz.func26, Tryz.ntmps26
  go_wp2_with fail
  go_loopg [5] l.length (fun k i wr => ∃ j : Nat, k + j = l.length ∧ i = .int .i64 j ∧ Kept w wr)
  case atStart => exact ⟨0, by omega, rfl, Kept.refl w⟩
  case round =>
    obtain ⟨j, hkj, rfl, kr⟩ := hrel
    by_cases hj : j < l.length
    · have d1 := kr.cell (H1.out j hj)
      have d2 := kr.cell (H2.out j hj)
      generalize l[j]?.getD 0 = x at *
      go_wp2_with fail
      go_quiet (fail)
      go_wp2
      go_roundg (gk - 1)
      case measure => omega
      case rel => exact ⟨j + 1, by omega, by go_num, kr.drewN _⟩
    · go_wp2
      go_returns
      exact ⟨rfl, kr⟩
/-- .. of nil slices -/
theorem same_nil (w : World) :
    Calls Tryz.prog 26 #[.slice none 0 0, .slice none 0 0] w fun e w' => e = .returned (.bool true) ∧ Kept w w' := by
  go_enter Tryz.func26, Tryz.ntmps26
  go_wp2_with fail
  go_loopg [5] 0 (fun k i wr => i = .int .i64 0 ∧ Kept w wr)
  case atStart => exact ⟨rfl, Kept.refl w⟩
  case round =>
    obtain ⟨rfl, kr⟩ := hrel
    go_wp2
    go_returns
    exact ⟨rfl, kr⟩

end Go.Proofs.YtgmegfcjbnfnaaaGreatDoor

/- Walks over the reference of chapter 57: Histogram. -/
namespace Go.Proofs.YtgmegfcjbnfnaaaGreatDoor
open Go.RowKit Go.Shelf Wide Numer

/-- the bin of the reference; m or more: none -/
def midF (low width : Int) (m : Nat) (x : Int) : Nat := if x < low then m else ((x - low) / width).toNat
def lowP (low : Int) (x : Int) : Bool := decide (x < low)
def topP (low width : Int) (m : Nat) (x : Int) : Bool := decide (low ≤ x ∧ (m : Int) ≤ (x - low) / width)
theorem countP_take_succ (p : Int → Bool) (l : List Int) (j : Nat) (h : j < l.length) : (l.take (j + 1)).countP p = (l.take j).countP p + (if p (l[j]?.getD 0) = true then 1 else 0) := by
  rw [List.take_add_one, List.countP_append]
  simp [h, List.countP_cons]
theorem countP_same {p q : Int → Bool} {l : List Int} (h : ∀ x, p x = q x) : l.countP p = l.countP q := by
  congr 1; funext x; exact h x
theorem hist_low (l : List Int) (low width : Int) (m : Nat) : (histC l low width m)[0]?.getD 0 = (l.countP (lowP low) : Int) := by
  unfold histC
  rw [cnts_get _ _ _ _ (by omega)]
  congr 1
  apply countP_same
  intro x
  unfold lowP binOf
  by_cases h : x < low <;> simp [h]
theorem hist_top (l : List Int) (low width : Int) (m : Nat) (hw : 1 ≤ width) : (histC l low width m)[m + 1]?.getD 0 = (l.countP (topP low width m) : Int) := by
  unfold histC
  rw [cnts_get _ _ _ _ (by omega)]
  congr 1
  apply countP_same
  intro x
  unfold topP binOf
  by_cases h : x < low
  · have h2 : ¬ low ≤ x := by omega
    simp [h, h2]
  · have hq : 0 ≤ (x - low) / width := Int.ediv_nonneg (by omega) (by omega)
    have h2 : low ≤ x := by omega
    generalize (x - low) / width = Q at *
    simp only [h, if_false, h2, true_and]
    rw [decide_eq_decide]
    omega
theorem hist_mid (l : List Int) (low width : Int) (m : Nat) (hw : 1 ≤ width) (k : Nat) (hk : k < m) : (histC l low width m)[k + 1]?.getD 0 = (cnts (midF low width m) m l)[k]?.getD 0 := by
  unfold histC
  rw [cnts_get _ _ _ _ (by omega), cnts_get _ _ _ _ hk]
  congr 1
  apply countP_same
  intro x
  unfold midF binOf
  by_cases h : x < low
  · simp only [h, if_true]
    rw [decide_eq_decide]
    omega
  · have hq : 0 ≤ (x - low) / width := Int.ediv_nonneg (by omega) (by omega)
    generalize (x - low) / width = Q at *
    simp only [h, if_false]
    rw [decide_eq_decide]
    omega
theorem mid_hi {low width x : Int} {m : Nat} (hlo : ¬ x < low) (hw : 1 ≤ width) (h1 : -1048576 ≤ low) (h2 : x ≤ 1048576) :
    ∃ Q : Int, (x - low).tdiv width = Q ∧ ((midF low width m x : Nat) : Int) = Q ∧ 0 ≤ Q ∧ Q ≤ 2097152 ∧ (topP low width m x = true ↔ (m : Int) ≤ Q) := by
  have hq0 : 0 ≤ (x - low) / width := Int.ediv_nonneg (by omega) (by omega)
  have hq1 : (x - low) / width ≤ x - low := Int.ediv_le_self _ (by omega)
  have ht : (x - low).tdiv width = (x - low) / width := Int.tdiv_eq_ediv_of_nonneg (by omega)
  have hb : midF low width m x = ((x - low) / width).toNat := by rw [midF, if_neg hlo]
  have hp : topP low width m x = decide (low ≤ x ∧ (m : Int) ≤ (x - low) / width) := rfl
  rw [hb, ht, hp]
  generalize (x - low) / width = Q at *
  refine ⟨Q, rfl, by omega, hq0, by omega, ?_⟩
  rw [decide_eq_true_iff]
  omega
theorem set_far (l : List Int) (k : Nat) (v : Int) (h : l.length ≤ k) : l.set k v = l := List.set_eq_of_length_le h

set_option maxHeartbeats 2000000 in
set_option maxRecDepth 100000 in
theorem rhist_yes (b o c : Nat) (l : List Int) (low width : Int) (m : Nat) (w : World) (hb : b < w.heap.size) (hr : Row w b o l) (h0 : 0 < l.length) (hl : l.length ≤ 4096) (hv : Vals l)
    (b1 : -1048576 ≤ low ∧ low ≤ 1048576) (b2 : 1 ≤ width ∧ width ≤ 1048576) (b3 : 1 ≤ m ∧ m ≤ 256) :
    Calls Tryz.prog 25 #[.slice (some ⟨b, o, none⟩) l.length c, .int .i64 low, .int .i64 width, .int .i64 m] w fun e w' =>
      ∃ g cap, e = .returned (.tuple #[.slice (some ⟨g, 0, none⟩) m cap, .int .i64 (l.countP (lowP low) : Nat), .int .i64 (l.countP (topP low width m) : Nat), .int .i64 0]) ∧ w.heap.size ≤ g ∧ IntsB w' g (cnts (midF low width m) m l) ∧ Kept w w' := by
  have C := rcheck57_any (some ⟨b, o, none⟩) c l w (Ser.of hb hr)
  rw [chkS_zero.2 ⟨h0, hl, hv⟩] at C
  have I := value_any low w
  rw [(okv_iff low).2 b1] at I
  have M := make_ints m (by omega) w
  have hB := IntsB.new w (List.replicate m 0)
  have hk := (Kept.refl w).alloc (.cells ((List.replicate m (0 : Int)).map fun c => Value.int .i64 c).toArray 3)
  generalize w.alloc (.cells ((List.replicate m (0 : Int)).map fun c => Value.int .i64 c).toArray 3) = w1 at *
  rw [← cnts_nil (midF low width m)] at hB
  have Hr := Lib.hid hr
  have Hv := Lib.hid hv
  have HB := Lib.hid hB
  obtain ⟨b11, b12⟩ := b1
  obtain ⟨b21, b22⟩ := b2
  obtain ⟨b31, b32⟩ := b3
  clear hr hv hB
  obtain ⟨F1, hF1⟩ : ∃ F : Int, ((l.countP (lowP low) : Nat) : Int) = F := ⟨_, rfl⟩
  obtain ⟨F2, hF2⟩ : ∃ F : Int, ((l.countP (topP low width m) : Nat) : Int) = F := ⟨_, rfl⟩
  rw [hF1, hF2]
  have HF1 := Lib.hid hF1
  have HF2 := Lib.hid hF2
  clear hF1 hF2
  go_enter Tryz.func25, Tryz.ntmps25
  go_wp2_with fail
  refine C.mono ?_
  rintro e w2 ⟨rfl, rfl⟩
  go_wp2_with fail
  refine I.mono ?_
  rintro e w2 ⟨rfl, rfl⟩
  go_wp2_with fail
  obtain ⟨g, hg⟩ : ∃ g, g = w2.heap.size := ⟨_, rfl⟩
  have hgl : w2.heap.size ≤ g := by omega
  rw [← hg] at HB ⊢
  clear hg M C I hb
  have Hk := Lib.hid hk
  clear hk
  go_loopg [14, 15, 16] l.length (fun k a b i wr => ∃ (j A B : Nat), k + j = l.length ∧ a = .int .i64 A ∧ b = .int .i64 B ∧ A = (l.take j).countP (lowP low) ∧ B = (l.take j).countP (topP low width m) ∧ i = .int .i64 j ∧ IntsB wr g (cnts (midF low width m) m (l.take j)) ∧ Kept w2 wr)
  case atStart => exact ⟨0, 0, 0, by omega, rfl, rfl, by simp, by simp, rfl, by rw [List.take_zero]; exact HB.out, Hk.out⟩
  case round =>
    obtain ⟨j, A, B, hkj, rfl, rfl, hA, hB, rfl, hI, hkr⟩ := hrel
    by_cases hj : j < l.length
    · have hcj : wr.cell? ⟨b, o + j, none⟩ = some (.int .i64 (l[j]?.getD 0)) := hkr.cell (Hr.out j hj)
      obtain ⟨bx1, bx2⟩ := Hv.out.get j hj
      have htk : l.take (j + 1) = l.take j ++ [l[j]?.getD 0] := by rw [List.take_add_one]; simp [hj]
      have hs := cnts_snoc (midF low width m) m (l.take j) (l[j]?.getD 0)
      rw [← htk] at hs
      have sA := countP_take_succ (lowP low) l j hj
      have sB := countP_take_succ (topP low width m) l j hj
      rw [← hA] at sA
      rw [← hB] at sB
      have lA := List.countP_le_length (p := lowP low) (l := l.take j)
      have lB := List.countP_le_length (p := topP low width m) (l := l.take j)
      rw [← hA] at lA
      rw [← hB] at lB
      have tl : (l.take j).length ≤ 4096 := by simp; omega
      have A1 : (A : Int) ≤ 4096 := by omega
      have B1 : (B : Int) ≤ 4096 := by omega
      clear lA lB hA hB
      obtain ⟨x, hx⟩ : ∃ x, x = l[j]?.getD 0 := ⟨_, rfl⟩
      rw [← hx] at hcj bx1 bx2 hs sA sB
      have Hkr := Lib.hid hkr
      by_cases hlo : x < low
      · have SA : Hid ((l.take (j + 1)).countP (lowP low) = A + 1) := Lib.hid (by rw [sA, lowP, if_pos (by simpa using hlo)])
        have SB : Hid ((l.take (j + 1)).countP (topP low width m) = B) := Lib.hid (by rw [sB, topP, if_neg (by simp; omega), Nat.add_zero])
        have HI : Hid (IntsB wr g (cnts (midF low width m) m (l.take (j + 1)))) := Lib.hid (by
          rw [hs, set_far _ _ _ (by rw [cnts_length, midF, if_pos hlo]; exact Nat.le_refl _)]; exact hI)
        clear hs sA sB hI hkr htk hx tl
        go_wp2
        go_roundg (gk - 1)
        case measure => omega
        case rel =>
          exact ⟨j + 1, A + 1, B, by omega, by go_num, rfl, SA.out.symm, SB.out.symm, by go_num, HI.out, Hkr.out⟩
      · obtain ⟨Q, ht, hq, hq0, hq1, hqt⟩ := mid_hi (m := m) hlo b21 b11 bx2
        have SA : Hid ((l.take (j + 1)).countP (lowP low) = A) := Lib.hid (by rw [sA, lowP, if_neg (by simpa using hlo), Nat.add_zero])
        have i6 : low ≤ x := by omega
        have i4 : ¬ width = 0 := by omega
        by_cases hm : (m : Int) ≤ Q
        · have SB : Hid ((l.take (j + 1)).countP (topP low width m) = B + 1) := Lib.hid (by rw [sB, if_pos (hqt.2 hm)])
          have HI : Hid (IntsB wr g (cnts (midF low width m) m (l.take (j + 1)))) := Lib.hid (by
            rw [hs, set_far _ _ _ (by rw [cnts_length]; omega)]; exact hI)
          clear hs sA sB hI hkr htk hx tl hlo hqt hq
          go_wp2
          go_roundg (gk - 1)
          case measure => omega
          case rel =>
            exact ⟨j + 1, A, B + 1, by omega, rfl, by go_num, SA.out.symm, SB.out.symm, by go_num, HI.out, Hkr.out⟩
        · have SB : Hid ((l.take (j + 1)).countP (topP low width m) = B) := Lib.hid (by rw [sB, if_neg (fun h => hm (hqt.1 h)), Nat.add_zero])
          have hkm : midF low width m x < m := by omega
          have bd := cnts_bd (midF low width m) m (l.take j) (midF low width m x)
          have hcc := hI.cell (midF low width m x) (by rw [cnts_length]; exact hkm)
          have hff := hI.fz (midF low width m x)
          obtain ⟨v, hvv⟩ : ∃ v, v = (cnts (midF low width m) m (l.take j))[midF low width m x]?.getD 0 := ⟨_, rfl⟩
          rw [← hvv] at hcc bd hs
          obtain ⟨v1, v2⟩ := bd
          have v3 : v ≤ 4096 := by omega
          have HB2 := Lib.hid (hI.set (midF low width m x) (v + 1))
          have Hs := Lib.hid hs
          obtain ⟨k, hk⟩ : ∃ k, k = midF low width m x := ⟨_, rfl⟩
          rw [← hk] at hcc hff HB2 Hs hkm hq
          clear hk hs hI hkr htk hx hvv tl v2 sA sB hqt
          have i8 : (k : Int) < (m : Int) := by omega
          have i9 : (0 : Int) ≤ (k : Int) := Int.natCast_nonneg k
          have hq' := hq.symm
          clear hlo hq
          subst hq'
          go_wp2
          go_roundg (gk - 1)
          case measure => omega
          case rel =>
            refine ⟨j + 1, A, B, by omega, rfl, rfl, SA.out.symm, SB.out.symm, by go_num, ?_, Hkr.out.own (grown_setCell (grown_refl _ _) _ _) hgl⟩
            rw [Hs.out]
            exact HB2.out
    · have htk : l.take j = l := List.take_of_length_le (by omega)
      rw [htk] at hA hB hI
      have HA : Hid ((A : Int) = F1) := Lib.hid (by rw [hA]; exact HF1.out)
      have HBB : Hid ((B : Int) = F2) := Lib.hid (by rw [hB]; exact HF2.out)
      have HI := Lib.hid hI
      have Hkr := Lib.hid hkr
      clear hA hB hI htk hkr
      go_wp2
      go_returns
      refine ⟨g, m, ?_, hgl, HI.out, Hkr.out⟩
      rw [← HA.out, ← HBB.out]

/-- what the reference's Histogram answers, at whatever arguments -/
def RHistR (l : List Int) (low width bins : Int) (w : World) (e : Ending) (w' : World) : Prop :=
  (hE l low width bins = 0 ∧ ∃ m : Nat, bins = m ∧ 1 ≤ m ∧ 1 ≤ width ∧ ∃ g cap, e = .returned (.tuple #[.slice (some ⟨g, 0, none⟩) m cap, .int .i64 (l.countP (lowP low) : Nat), .int .i64 (l.countP (topP low width m) : Nat), .int .i64 0]) ∧ w.heap.size ≤ g ∧ IntsB w' g (cnts (midF low width m) m l) ∧ Kept w w') ∨
  (hE l low width bins ≠ 0 ∧ e = .returned (.tuple #[.slice none 0 0, .int .i64 0, .int .i64 0, .int .i64 (hE l low width bins)]) ∧ w' = w)

set_option maxHeartbeats 2000000 in
set_option maxRecDepth 100000 in
theorem rhist_any (a : Option Addr) (c : Nat) (l : List Int) (low width bins : Int) (w : World) (hs : Ser w a l) :
    Calls Tryz.prog 25 #[.slice a l.length c, .int .i64 low, .int .i64 width, .int .i64 bins] w (RHistR l low width bins w) := by
  have C := rcheck57_any a c l w hs
  by_cases hc : chkS l = 0
  · obtain ⟨h0, h2, h3⟩ := chkS_zero.1 hc
    obtain ⟨b, o, rfl, hb, hr⟩ := hs h0
    by_cases hx : okv low = true ∧ 1 ≤ width ∧ width ≤ 1048576 ∧ 1 ≤ bins ∧ bins ≤ 256
    · have e0 : hE l low width bins = 0 := by rw [hE, if_neg (by omega), if_pos hx]
      obtain ⟨x1, x2, x3, x4, x5⟩ := hx
      obtain ⟨m, rfl⟩ : ∃ m : Nat, bins = m := ⟨bins.toNat, by omega⟩
      exact (rhist_yes b o c l low width m w hb hr h0 h2 h3 ((okv_iff low).1 x1) ⟨x2, x3⟩ ⟨by omega, by omega⟩).mono fun e w' h => .inl ⟨e0, m, rfl, by omega, x2, h⟩
    · have e0 : hE l low width bins = 2 := by rw [hE, if_neg (by omega), if_neg hx]
      have R : Calls Tryz.prog 25 #[.slice (some ⟨b, o, none⟩) l.length c, .int .i64 low, .int .i64 width, .int .i64 bins] w fun e w' =>
          e = .returned (.tuple #[.slice none 0 0, .int .i64 0, .int .i64 0, .int .i64 2]) ∧ w' = w := by
        rw [hc] at C
        have I := value_any low w
        clear hr h3 hs hc e0
        cases hv : okv low
        · rw [hv] at I
          clear hv hx
          go_enter Tryz.func25, Tryz.ntmps25
          go_wp2_with fail
          refine C.mono ?_
          rintro e w2 ⟨rfl, rfl⟩
          go_wp2_with fail
          refine I.mono ?_
          rintro e w2 ⟨rfl, rfl⟩
          go_wp2
          go_returns
          exact ⟨rfl, rfl⟩
        · rw [hv] at I
          simp only [hv, true_and] at hx
          by_cases x1 : 1 ≤ width
          · by_cases x2 : width ≤ 1048576
            · by_cases x3 : 1 ≤ bins
              · have x4 : ¬ bins ≤ 256 := by omega
                clear hv hx
                go_enter Tryz.func25, Tryz.ntmps25
                go_wp2_with fail
                refine C.mono ?_
                rintro e w2 ⟨rfl, rfl⟩
                go_wp2_with fail
                refine I.mono ?_
                rintro e w2 ⟨rfl, rfl⟩
                go_wp2
                go_returns
                exact ⟨rfl, rfl⟩
              · clear hv hx
                go_enter Tryz.func25, Tryz.ntmps25
                go_wp2_with fail
                refine C.mono ?_
                rintro e w2 ⟨rfl, rfl⟩
                go_wp2_with fail
                refine I.mono ?_
                rintro e w2 ⟨rfl, rfl⟩
                go_wp2
                go_returns
                exact ⟨rfl, rfl⟩
            · clear hv hx
              go_enter Tryz.func25, Tryz.ntmps25
              go_wp2_with fail
              refine C.mono ?_
              rintro e w2 ⟨rfl, rfl⟩
              go_wp2_with fail
              refine I.mono ?_
              rintro e w2 ⟨rfl, rfl⟩
              go_wp2
              go_returns
              exact ⟨rfl, rfl⟩
          · clear hv hx
            go_enter Tryz.func25, Tryz.ntmps25
            go_wp2_with fail
            refine C.mono ?_
            rintro e w2 ⟨rfl, rfl⟩
            go_wp2_with fail
            refine I.mono ?_
            rintro e w2 ⟨rfl, rfl⟩
            go_wp2
            go_returns
            exact ⟨rfl, rfl⟩
      exact R.mono fun e w' ⟨he, hw⟩ => .inr ⟨by omega, by rw [e0]; exact he, hw⟩
  · have e0 : hE l low width bins = chkS l := by rw [hE, if_pos hc]
    have R : Calls Tryz.prog 25 #[.slice a l.length c, .int .i64 low, .int .i64 width, .int .i64 bins] w fun e w' =>
        e = .returned (.tuple #[.slice none 0 0, .int .i64 0, .int .i64 0, .int .i64 (chkS l)]) ∧ w' = w := by
      generalize chkS l = v at *
      have hb2 : (v != 0) = true := by simp [hc]
      clear hs hc e0
      go_enter Tryz.func25, Tryz.ntmps25
      go_wp2_with fail
      refine C.mono ?_
      rintro e w2 ⟨rfl, rfl⟩
      go_wp2
      go_returns
      exact ⟨rfl, rfl⟩
    exact R.mono fun e w' ⟨he, hw⟩ => .inr ⟨by rw [e0]; exact hc, by rw [e0]; exact he, hw⟩

end Go.Proofs.YtgmegfcjbnfnaaaGreatDoor

/- Walks over the reference of chapter 57: Given; right. -/
namespace Go.Proofs.YtgmegfcjbnfnaaaGreatDoor
open Go.RowKit Go.Shelf Wide Numer

set_option maxHeartbeats 1000000 in
set_option maxRecDepth 100000 in
theorem given_any (a : Option Addr) (c : Nat) (l : List Int) (lo hi : Int) (w : World) (hs : Ser w a l) :
    Calls Tryz.prog 32 #[.slice a l.length c, .agg #[.int .i64 lo, .int .i64 hi]] w fun e w' => e = .returned (.int .i64 (bE l lo hi)) ∧ Kept w w' := by
  have hs1 := hs.keep ((Kept.refl w).alloc (.cells #[.int .i64 lo, .int .i64 hi] 34))
  have C := rcheck57_any a c l _ hs1
  have K1 := (Kept.refl w).alloc (.cells #[.int .i64 lo, .int .i64 hi] 34)
  have I1 := fun w => value_any lo w
  have I2 := fun w => value_any hi w
  by_cases hc : chkS l = 0
  · rw [hc] at C
    have e0 : bE l lo hi = if (okv lo && okv hi) = false then 2 else if hi < lo then 9 else 0 := by rw [bE, if_neg (by omega)]
    rw [e0]
    generalize okv lo = u at *
    generalize okv hi = v at *
    clear hs hs1 hc e0
    cases u
    · rw [if_pos (by simp)]
      go_enter Tryz.func32, Tryz.ntmps32
      go_wp2_with fail
      refine C.mono ?_
      rintro e w1 ⟨rfl, rfl⟩
      go_wp2_with fail
      refine (I1 _).mono ?_
      rintro e w1 ⟨rfl, rfl⟩
      go_wp2
      go_returns
      exact ⟨rfl, K1⟩
    · cases v
      · rw [if_pos (by simp)]
        go_enter Tryz.func32, Tryz.ntmps32
        go_wp2_with fail
        refine C.mono ?_
        rintro e w1 ⟨rfl, rfl⟩
        go_wp2_with fail
        refine (I1 _).mono ?_
        rintro e w1 ⟨rfl, rfl⟩
        go_wp2_with fail
        refine (I2 _).mono ?_
        rintro e w1 ⟨rfl, rfl⟩
        go_wp2
        go_returns
        exact ⟨rfl, K1⟩
      · rw [if_neg (by simp)]
        by_cases h9 : hi < lo
        · rw [if_pos h9]
          go_enter Tryz.func32, Tryz.ntmps32
          go_wp2_with fail
          refine C.mono ?_
          rintro e w1 ⟨rfl, rfl⟩
          go_wp2_with fail
          refine (I1 _).mono ?_
          rintro e w1 ⟨rfl, rfl⟩
          go_wp2_with fail
          refine (I2 _).mono ?_
          rintro e w1 ⟨rfl, rfl⟩
          go_wp2
          go_returns
          exact ⟨rfl, K1⟩
        · rw [if_neg h9]
          go_enter Tryz.func32, Tryz.ntmps32
          go_wp2_with fail
          refine C.mono ?_
          rintro e w1 ⟨rfl, rfl⟩
          go_wp2_with fail
          refine (I1 _).mono ?_
          rintro e w1 ⟨rfl, rfl⟩
          go_wp2_with fail
          refine (I2 _).mono ?_
          rintro e w1 ⟨rfl, rfl⟩
          go_wp2
          go_returns
          exact ⟨rfl, K1⟩
  · rw [show bE l lo hi = chkS l by rw [bE, if_pos hc]]
    generalize chkS l = v at *
    have hb : (v != 0) = true := by simp [hc]
    clear hs hc
    go_enter Tryz.func32, Tryz.ntmps32
    go_wp2_with fail
    refine C.mono ?_
    rintro e w1 ⟨rfl, rfl⟩
    go_wp2
    go_returns
    exact ⟨rfl, K1⟩

/-- too far from 0 for the laws that are independent of the reference -/
def farP (x : Int) : Bool := decide (x < -8000) || decide (8000 < x)
def rightB (l : List Int) : Bool := decide (1 < l.length) && decide (l.length ≤ 20) && !l.any farP
theorem right1_any (n : Int) (w : World) :
    Calls Tryz.prog 66 #[.int .i64 n] w fun e w' => e = .returned (.bool (farP n)) ∧ w' = w := by
  by_cases h1 : n < -8000
  · rw [show farP n = true by simp [farP, h1]]
    go_enter Tryz.func66, Tryz.ntmps66
    go_wp2
    go_returns
    exact ⟨rfl, rfl⟩
  · by_cases h2 : 8000 < n
    · rw [show farP n = true by simp [farP, h2]]
      go_enter Tryz.func66, Tryz.ntmps66
      go_wp2
      go_returns
      exact ⟨rfl, rfl⟩
    · rw [show farP n = false by simp [farP]; omega]
      go_enter Tryz.func66, Tryz.ntmps66
      go_wp2
      go_returns
      exact ⟨rfl, rfl⟩

set_option maxHeartbeats 1000000 in
set_option maxRecDepth 100000 in
theorem right_any (a : Option Addr) (c : Nat) (l : List Int) (w : World) (hs : Ser w a l) :
    Calls Tryz.prog 31 #[.slice a l.length c] w fun e w' => e = .returned (.bool (rightB l)) ∧ w' = w := by
  by_cases h1 : 1 < l.length
  · have i1 : (1 : Int) < (l.length : Int) := by omega
    by_cases h2 : l.length ≤ 20
    · have i2 : (l.length : Int) ≤ 20 := by omega
      obtain ⟨b, o, rfl, _, hr⟩ := hs (by omega)
      have C := contf_any 66 farP (enters_of Tryz.func66 (by kernel_rfl) rfl) (fun W x => right1_any x W) b o c l w (by omega) hr
      rw [show rightB l = !l.any farP by simp [rightB, h1, h2]]
      generalize l.any farP = v at *
      clear hr hs
      go_enter Tryz.func31, Tryz.ntmps31
      go_wp2_with fail
      refine C.mono ?_
      rintro e w1 ⟨rfl, rfl⟩
      go_wp2
      go_returns
      exact ⟨rfl, rfl⟩
    · have i2 : ¬ (l.length : Int) ≤ 20 := by omega
      rw [show rightB l = false by simp [rightB, h2]]
      clear hs
      go_enter Tryz.func31, Tryz.ntmps31
      go_wp2
      go_returns
      exact ⟨rfl, rfl⟩
  · have i1 : ¬ (1 : Int) < (l.length : Int) := by omega
    rw [show rightB l = false by simp [rightB, h1]]
    clear hs
    go_enter Tryz.func31, Tryz.ntmps31
    go_wp2
    go_returns
    exact ⟨rfl, rfl⟩

theorem rightB_yes {l : List Int} (h : rightB l = true) : 2 ≤ l.length ∧ l.length ≤ 20 ∧ ∀ x ∈ l, -8000 ≤ x ∧ x ≤ 8000 := by
  unfold rightB at h
  rw [Bool.and_eq_true, Bool.and_eq_true, decide_eq_true_iff, decide_eq_true_iff] at h
  refine ⟨by omega, h.1.2, fun x hx => ?_⟩
  have h3 : l.any farP = false := by simpa using h.2
  rw [List.any_eq_false] at h3
  have := h3 x hx
  simp [farP] at this
  omega

end Go.Proofs.YtgmegfcjbnfnaaaGreatDoor

/- The walk of CapabilityCounts. -/
namespace Go.Proofs.YtgmegfcjbnfnaaaGreatDoor
open Go.RowKit Go.Shelf Wide Numer

theorem mid_list (l : List Int) (low width : Int) (m : Nat) (hw : 1 ≤ width) {w : World} {g : Nat} (h : IntsB w g (histC l low width m)) : Row w g 1 (cnts (midF low width m) m l) := by
  intro j hj
  rw [cnts_length] at hj
  rw [← hist_mid l low width m hw j hj, Nat.add_comm 1 j]
  exact h.cell (j + 1) (by unfold histC; rw [cnts_length]; omega)

theorem hE_zero {l : List Int} {low width bins : Int} (h : hE l low width bins = 0) : okv low = true ∧ 1 ≤ width ∧ width ≤ 1048576 ∧ 1 ≤ bins ∧ bins ≤ 256 := by
  unfold hE at h
  split at h
  · omega
  · split at h
    · assumption
    · omega

set_option maxHeartbeats 4000000 in
set_option maxRecDepth 100000 in
theorem counts_walk (a : Option Addr) (c : Nat) (l : List Int) (lo hi bins : Int) (w : World) (hT : Tab w) (hs : Ser w a l) :
    Calls Tryz.prog 5 #[.slice a l.length c, .agg #[.int .i64 lo, .int .i64 hi], .int .i64 bins] w fun e w' => e = .returned (.bool true) ∧ Kept w w' := by
  have K1 := (Kept.refl w).alloc (.cells #[.int .i64 lo, .int .i64 hi] 34)
  obtain ⟨cl, ch⟩ := two_cells (lim_head lo hi w)
  have hT1 := hT.keep K1
  have hs1 := Lib.hid (hs.keep K1)
  clear hs
  have F := fun w => few_any a l.length c w
  have A := fun w hT => awake_any w hT
  go_enter Tryz.func5, Tryz.ntmps5
  go_wp2_with fail
  generalize w.alloc (.cells #[.int .i64 lo, .int .i64 hi] 34) = w1 at *
  refine (F _).mono ?_
  rintro e w2 ⟨rfl, rfl⟩
  cases hf : fewB l.length
  · clear hs1 cl ch F
    go_wp2_with fail
    refine (A _ hT1).mono ?_
    rintro e w3 ⟨rfl, k3⟩
    go_wp2
    go_returns
    exact ⟨rfl, K1.trans k3⟩
  · have hl : l.length ≤ 100000000000000 := by
      unfold fewB at hf
      simp at hf
      omega
    have H1 := fun w hs => chist_any a c l lo hi bins w hl hs
    have H2 := fun w hs => rhist_any a c l lo hi bins w hs
    clear hf F
    go_wp2_with fail
    refine (H1 w2 hs1.out).mono ?_
    rintro e w3 h1
    rcases h1 with ⟨e0, m, rfl, hm1, g1, c1, rfl, hg1, hb1, k1⟩ | ⟨e0, rfl, rfl⟩
    · have a1 := k1.cell cl
      have a2 := k1.cell ch
      have HB1 := Lib.hid hb1
      have m256 : m ≤ 256 := by have := (hE_zero e0).2.2.2.2; omega
      have E0 := Lib.hid e0
      clear hb1 e0
      obtain ⟨X, hX⟩ : ∃ X, (histC l lo hi m)[0]?.getD 0 = X := ⟨_, rfl⟩
      obtain ⟨Y, hY⟩ : ∃ Y, (histC l lo hi m)[m + 1]?.getD 0 = Y := ⟨_, rfl⟩
      rw [hX, hY]
      have HX := Lib.hid hX
      have HY := Lib.hid hY
      clear hX hY
      go_wp2_with fail
      refine (H2 w3 (hs1.out.keep k1)).mono ?_
      rintro e w4 h2
      rcases h2 with ⟨_, m', hm', _, hw1, g2, c2, rfl, hg2, hb2, k2⟩ | ⟨e1, _, _⟩
      rotate_left
      · exact absurd E0.out e1
      obtain rfl : m' = m := by omega
      rw [← hist_low l lo hi m', ← hist_top l lo hi m' hw1, HX.out, HY.out]
      have R1 := mid_list l lo hi m' hw1 HB1.out
      have R2 := hb2.row
      have S := fun w h1 h2 => same_any g1 1 c1 g2 0 c2 (cnts (midF lo hi m') m' l) w h1 h2 (by rw [cnts_length]; omega)
      rw [cnts_length] at S
      have RR := Lib.hid (And.intro R1 R2)
      clear R1 R2 hb2 hm' H1 H2
      go_wp2_with fail
      refine (A _ (hT1.keep (k1.trans k2))).mono ?_
      rintro e w5 ⟨rfl, k5⟩
      go_wp2_with fail
      refine (S _ (RR.out.1.keep (k2.trans k5)) (RR.out.2.keep k5)).mono ?_
      rintro e w6 ⟨rfl, k6⟩
      go_wp2
      go_returns
      exact ⟨rfl, (((K1.trans k1).trans k2).trans k5).trans k6⟩
    · have E0 := Lib.hid e0
      clear e0
      obtain ⟨E, hEE⟩ : ∃ E, hE l lo hi bins = E := ⟨_, rfl⟩
      rw [hEE]
      have HEE := Lib.hid hEE
      clear hEE
      go_wp2_with fail
      refine (H2 w3 (hs1.out)).mono ?_
      rintro e w4 h2
      rcases h2 with ⟨e1, _⟩ | ⟨_, rfl, rfl⟩
      · exact absurd e1 E0.out
      rw [HEE.out]
      clear H1 H2
      go_wp2_with fail
      refine (A _ hT1).mono ?_
      rintro e w5 ⟨rfl, k5⟩
      go_wp2_with fail
      refine (same_nil _).mono ?_
      rintro e w6 ⟨rfl, k6⟩
      go_wp2
      go_returns
      exact ⟨rfl, (K1.trans k5).trans k6⟩

end Go.Proofs.YtgmegfcjbnfnaaaGreatDoor
