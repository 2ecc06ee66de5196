/- CapabilityTotals answers true for every series, limits and number of bins and leaves its arguments as they were. No conditions beyond the row's own; the tables that it lists are tied to the program's text. -/
import Derived.Test.YtgmegfcjbnfnaaaGreatDoorM8
import Derived.Test.YtgmegfcjbnfnaaaGreatDoorM9

/- The walk of CapabilityTotals. -/
namespace Go.Proofs.YtgmegfcjbnfnaaaGreatDoor
open Go.RowKit Go.Shelf Wide Numer

theorem chkS_perm {l k : List Int} (h : l.Perm k) (hc : chkS l = 0) : chkS k = 0 := by
  obtain ⟨h1, h2, h3⟩ := chkS_zero.1 hc
  exact chkS_zero.2 ⟨by rw [← h.length_eq]; exact h1, by rw [← h.length_eq]; exact h2, fun x hx => h3 x (h.mem_iff.2 hx)⟩
theorem hE_yes {l : List Int} {low width bins : Int} (hc : chkS l = 0) (h1 : -1048576 ≤ low ∧ low ≤ 1048576) (h2 : 1 ≤ width ∧ width ≤ 1048576) (h3 : 1 ≤ bins ∧ bins ≤ 256) : hE l low width bins = 0 := by
  rw [hE, if_neg (by omega), if_pos ⟨(okv_iff low).2 h1, h2.1, h2.2, h3.1, h3.2⟩]
/-- the middle of a histogram -/
def midC (l : List Int) (low width : Int) (m : Nat) : List Int := cnts (midF low width m) m l
theorem sum_hist (l : List Int) (low width : Int) (m : Nat) (hw : 1 ≤ width) : (histC l low width m)[0]?.getD 0 + (histC l low width m)[m + 1]?.getD 0 + (midC l low width m).sum = (l.length : Int) := by
  have h1 := cnts_sum (binOf low width m) (m + 2) l (binOf_lt low width m)
  have h2 : (histC l low width m) = (histC l low width m)[0]?.getD 0 :: (midC l low width m ++ [(histC l low width m)[m + 1]?.getD 0]) := by
    apply List.ext_getElem
    · simp [histC, midC, cnts_length]
    · intro i q1 q2
      have hi : i < m + 2 := by simpa [histC, cnts_length] using q1
      have e0 : (histC l low width m)[i] = (histC l low width m)[i]?.getD 0 := by simp [q1]
      rw [e0]
      rcases i with _ | i
      · rfl
      · rw [List.getElem_cons_succ]
        by_cases hm : i < m
        · rw [List.getElem_append_left (by simp [midC, cnts_length, hm]), hist_mid l low width m hw i hm]
          simp [midC, cnts_length, hm]
        · have : i = m := by omega
          subst this
          rw [List.getElem_append_right (by simp [midC, cnts_length])]
          simp [midC, cnts_length]
  unfold histC at h1 h2 ⊢
  rw [h2] at h1
  rw [List.sum_cons, List.sum_append, List.sum_cons, List.sum_nil] at h1
  omega
theorem tota_take_succ (l : List Int) (j : Nat) (h : j < l.length) : tota (l.take (j + 1)) = tota (l.take j) + (l[j]?.getD 0).natAbs := by
  have e : l.take (j + 1) = l.take j ++ [l[j]?.getD 0] := by rw [List.take_add_one]; simp [h]
  rw [e, tota_append]
  simp [tota]
theorem countP_compl (l : List Int) (c : Int) : (l.countP fun n => decide (2 * n ≠ c)) + (l.countP fun n => decide (2 * n = c)) = l.length := by
  induction l with
  | nil => rfl
  | cons x l ih =>
    simp only [List.countP_cons, List.length_cons]
    by_cases h : 2 * x = c <;> simp [h] at ih ⊢ <;> omega

theorem last_sign {c V L : Int} {l' R : List Int} (hR : R = runsC c 0 (l' ++ [V])) (hL : (R.length = 0 → L = 0) ∧ (0 < R.length → L = R[R.length - 1]?.getD 0)) : (c < 2 * V → 0 < L) ∧ (2 * V < c → L < 0) := by
  have key : sd c V ≠ 0 → ∃ k, L = k ∧ (0 < sd c V → 0 < k) ∧ (sd c V < 0 → k < 0) := fun h0 => by
    obtain ⟨ys, k, h1, h2, h3⟩ := runs_last c V h0 l' 0
    rw [h1] at hR
    refine ⟨k, ?_, h2, h3⟩
    rw [hL.2 (by rw [hR]; simp), hR]
    simp
  rcases sd_cases c V with ⟨h1, h2⟩ | ⟨h1, h2⟩ | ⟨h1, h2⟩
  · obtain ⟨k, hk, _, h4⟩ := key (by omega)
    exact ⟨fun h => by omega, fun _ => by rw [hk]; exact h4 (by omega)⟩
  · exact ⟨fun h => by omega, fun h => by omega⟩
  · obtain ⟨k, hk, h3, _⟩ := key (by omega)
    exact ⟨fun _ => by rw [hk]; exact h3 (by omega), fun h => by omega⟩
theorem NewInts.ser {w w' : World} {v : Value} {l : List Int} (h : NewInts w w' v l) : ∃ a c, v = .slice a l.length c ∧ Ser w' a l := by
  by_cases h0 : 0 < l.length
  · obtain ⟨g, cap, hv, _, hg, _, _, hr⟩ := h.row h0
    exact ⟨_, cap, hv, Ser.of hg hr⟩
  · obtain rfl : l = [] := List.eq_nil_of_length_eq_zero (by omega)
    exact ⟨none, 0, h.nil, fun h => by simp at h⟩

set_option maxHeartbeats 8000000 in
set_option maxRecDepth 100000 in
theorem totals_walk (a : Option Addr) (c : Nat) (l : List Int) (lo hi bins : Int) (hbins : 0 ≤ bins ∧ bins ≤ 255) (w : World) (hT : Tab w) (hs : Ser w a l) :
    Calls Tryz.prog 7 #[.slice a l.length c, .agg #[.int .i64 lo, .int .i64 hi], .int .u8 bins] w fun e w' => e = .returned (.bool true) ∧ Kept w w' := by
  have K1 := (Kept.refl w).alloc (.cells #[.int .i64 lo, .int .i64 hi] 34)
  obtain ⟨cl, ch⟩ := two_cells (lim_head lo hi w)
  have hT1 := hT.keep K1
  have hs1 := Lib.hid (hs.keep K1)
  clear hs
  have R := fun w hs => right_any a c l w hs
  have A := fun w hT => awake_any w hT
  have G := fun w hs => given_any a c l lo hi w hs
  go_enter Tryz.func7, Tryz.ntmps7
  go_wp2_with fail
  generalize w.alloc (.cells #[.int .i64 lo, .int .i64 hi] 34) = w1 at *
  refine (R _ hs1.out).mono ?_
  rintro e w2 ⟨rfl, rfl⟩
  cases hr : rightB l
  · clear hs1 cl ch R G
    go_wp2_with fail
    refine (A _ hT1).mono ?_
    rintro e w3 ⟨rfl, k3⟩
    go_wp2
    go_returns
    exact ⟨rfl, K1.trans k3⟩
  · obtain ⟨r1, r2, r3⟩ := rightB_yes hr
    clear hr R
    go_wp2_with fail
    refine (G w2 hs1.out).mono ?_
    rintro e w3 ⟨rfl, k3⟩
    by_cases hb : bE l lo hi = 0
    · obtain ⟨h4, ⟨l1, l2⟩, ⟨l3, l4⟩, l5⟩ := bE_zero hb
      obtain ⟨b, o, rfl, hbb, hrow⟩ := hs1.out (by omega)
      have k3' := k3
      have cl3 := k3.cell cl
      have ch3 := k3.cell ch
      have W0 : 0 ≤ (hi - lo).tdiv 8 ∧ (hi - lo).tdiv 8 ≤ 262144 := by
        rw [Int.tdiv_eq_ediv_of_nonneg (by omega)]; omega
      obtain ⟨D, hD⟩ : ∃ D, (hi - lo).tdiv 8 = D := ⟨_, rfl⟩
      rw [hD] at W0
      obtain ⟨d1, d2⟩ := W0
      obtain ⟨N, hN⟩ : ∃ N : Nat, 1 + bins % 20 = (N : Int) := ⟨(1 + bins % 20).toNat, by omega⟩
      have N1 : 1 ≤ N ∧ N ≤ 20 := by omega
      have S := sortedv_any b o c l w3 (by omega) (by omega) (Nat.lt_of_lt_of_le hbb k3.size) (hrow.keep k3)
      have V := values_in (some ⟨b, o, none⟩) l.length c w3
      have hE1 := hE_yes (low := lo) (width := 1 + D) (bins := N) h4 ⟨l1, l2⟩ (by omega) (by omega)
      have hE2 := hE_yes (low := lo) (width := 1 + D) (bins := N) (chkS_perm (sortL_perm l).symm h4) ⟨l1, l2⟩ (by omega) (by omega)
      have H1 := fun w hs => chist_any (some ⟨b, o, none⟩) c l lo (1 + D) N w (by omega) hs
      have H2 := fun a c w hs => chist_any a c (sortL l) lo (1 + D) N w (by rw [sortL_length]; omega) hs
      have C3 := fun w hs => cRuns_any (some ⟨b, o, none⟩) c l lo hi w (by omega) hs
      have HB := Lib.hid hb
      have Hrow := Lib.hid hrow
      have H4 := Lib.hid h4
      have HE1 := Lib.hid hE1
      have HE2 := Lib.hid hE2
      have R3 := Lib.hid r3
      obtain ⟨n1, n2⟩ := N1
      obtain ⟨b1, b2⟩ := hbins
      rw [hb]
      have hbb3 := Nat.lt_of_lt_of_le hbb k3.size
      clear hb hrow hs1 G h4 hE1 hE2 r3 cl ch
      go_wp2_with fail
      refine V.mono ?_
      rintro e w4 ⟨rfl, rfl⟩
      go_wp2_with fail
      refine S.mono ?_
      rintro e w4 ⟨v, rfl, hn⟩
      obtain ⟨gs, cs, rfl, hgs, hgs2, _, _, hsr⟩ := hn.row (by rw [sortL_length]; omega)
      have k4 := hn.2.2
      have cl4 := k4.cell cl3
      have ch4 := k4.cell ch3
      have HS := Lib.hid (Ser.of hgs2 hsr)
      have hll : (sortL l).length = l.length := sortL_length l
      rw [hll] at H2 ⊢
      clear hn hsr hll V S
      go_wp2_with fail
      refine (H1 w4 (Ser.of (Nat.lt_of_lt_of_le hbb3 k4.size) (Hrow.out.keep (k3.trans k4)))).mono ?_
      rintro e w5 h1
      rcases h1 with ⟨_, m, hm, _, g1, c1, rfl, hg1, hb1, k5⟩ | ⟨e0, _, _⟩
      rotate_left
      · exact absurd HE1.out e0
      obtain rfl : m = N := by omega
      have cl5 := k5.cell cl4
      have ch5 := k5.cell ch4
      have R1 := Lib.hid (mid_list l lo (1 + D) m (by omega) hb1)
      have hsum := sum_hist l lo (1 + D) m (by omega)
      have hX := hist_low l lo (1 + D) m
      have hY := hist_top l lo (1 + D) m (by omega)
      have q1 := List.countP_le_length (p := lowP lo) (l := l)
      have q2 := List.countP_le_length (p := topP lo (1 + D) m) (l := l)
      have X1 : (0 : Int) ≤ (histC l lo (1 + D) m)[0]?.getD 0 ∧ (histC l lo (1 + D) m)[0]?.getD 0 ≤ 20 := by rw [hX]; omega
      have Y1 : (0 : Int) ≤ (histC l lo (1 + D) m)[m + 1]?.getD 0 ∧ (histC l lo (1 + D) m)[m + 1]?.getD 0 ≤ 20 := by rw [hY]; omega
      have hperm : histC (sortL l) lo (1 + D) m = histC l lo (1 + D) m := cnts_perm _ _ (sortL_perm l)
      generalize hXX : (histC l lo (1 + D) m)[0]?.getD 0 = X at *
      generalize hYY : (histC l lo (1 + D) m)[m + 1]?.getD 0 = Y at *
      have HXX := Lib.hid hXX
      have HYY := Lib.hid hYY
      have Hsum := Lib.hid hsum
      have Hperm := Lib.hid hperm
      obtain ⟨X1, X2⟩ := X1
      obtain ⟨Y1, Y2⟩ := Y1
      clear hXX hYY hsum hperm hX hY q1 q2 hb1 hm H1
      go_wp2_with fail
      refine (H2 _ _ w5 (HS.out.keep k5)).mono ?_
      rintro e w6 h2
      rcases h2 with ⟨_, m', hm, _, g2, c2, rfl, hg2, hb2, k6⟩ | ⟨e0, _, _⟩
      rotate_left
      · exact absurd HE2.out e0
      obtain rfl : m' = m := by omega
      rw [Hperm.out] at hb2 ⊢
      rw [HXX.out, HYY.out]
      have cl6 := k6.cell cl5
      have ch6 := k6.cell ch5
      have R2 := Lib.hid (mid_list l lo (1 + D) m' (by omega) hb2)
      have kk : Kept w2 w6 := ((k3.trans k4).trans k5).trans k6
      clear hb2 hm H2
      go_wp2_with fail
      refine (C3 w6 (Ser.of (Nat.lt_of_lt_of_le hbb kk.size) (Hrow.out.keep kk))).mono ?_
      rintro e w7 ⟨v, rfl, hruns⟩
      rw [HB.out, if_pos rfl] at hruns
      rw [HB.out]
      have k7 := hruns.2.2
      have cl7 := k7.cell cl6
      have ch7 := k7.cell ch6
      have Hruns := Lib.hid hruns
      clear hruns C3
      have E1 := Tryz.slices_Equal_int g1 1 m' c1 g2 1 m' c2 (midC l lo (1 + D) m') (midC l lo (1 + D) m') w7 (by unfold midC; rw [cnts_length]; exact Nat.le_refl _) (by unfold midC; rw [cnts_length]; exact Nat.le_refl _) (by omega) (by omega)
        (fun j hj => by rw [List.getD_eq_getElem?_getD]; exact (R1.out.keep (k6.trans k7)) j hj) (fun j hj => by rw [List.getD_eq_getElem?_getD]; exact (R2.out.keep k7) j hj)
      rw [show ((midC l lo (1 + D) m').take m' == (midC l lo (1 + D) m').take m') = true by simp] at E1
      go_wp2_with fail
      refine E1.mono ?_
      rintro e w8 ⟨rfl, nq, rfl⟩
      have cl8 : (w7.drewN nq).cell? ⟨w.heap.size, 0, none⟩ = _ := cl7
      have ch8 : (w7.drewN nq).cell? ⟨w.heap.size, 1, none⟩ = _ := ch7
      have R8 := Lib.hid (R1.out.keep (((k6.trans k7)).drewN nq))
      have k8 : Kept w2 (w7.drewN nq) := (kk.trans k7).drewN nq
      have Hr8 := Lib.hid (Hruns.out.keep ((Kept.refl w7).drewN nq))
      have Hrow8 := Lib.hid (Hrow.out.keep k8)
      generalize w7.drewN nq = w8 at *
      clear E1 Hruns R1 R2 cl3 ch3 cl4 ch4 cl5 ch5 cl6 ch6 cl7 ch7 k3 k4 k5 k6 k7 kk k3' HE1 HE2 HXX HYY Hperm HS H4
      obtain ⟨ar, cr, rfl, hrs⟩ := Hr8.out.ser
      have HRS := Lib.hid hrs
      have hRlen := runs_len (lo + hi) l 0
      have hRtot := runs_tot (lo + hi) l 0
      have hRne := runs_ne (lo + hi) l 0
      have hcompl := countP_compl l (lo + hi)
      rw [show (0 : Int).natAbs = 0 from rfl, Nat.zero_add] at hRtot
      have hlast := fun x hx => runs_last (lo + hi) x hx (l.take (l.length - 1)) 0
      have HL := Lib.hid hlast
      have HRne := Lib.hid hRne
      have HRtot := Lib.hid hRtot
      have HC := Lib.hid hcompl
      have hmid : Valt (midC l lo (1 + D) m') := by
        intro x hx
        unfold midC cnts at hx
        rw [List.mem_map] at hx
        obtain ⟨i, _, rfl⟩ := hx
        have := List.countP_le_length (p := fun x => decide (midF lo (1 + D) m' x = i)) (l := l)
        omega
      have hml : (midC l lo (1 + D) m').length = m' := cnts_length _ _ _
      have HM := Lib.hid hmid
      have R8' : Hid (Row w8 g1 1 (midC l lo (1 + D) m')) := R8
      obtain ⟨M, hMM⟩ : ∃ M, M = midC l lo (1 + D) m' := ⟨_, rfl⟩
      rw [← hMM] at HM Hsum R8' hml
      obtain ⟨R, hRR⟩ : ∃ R, R = runsC (lo + hi) 0 l := ⟨_, rfl⟩
      rw [← hRR] at HRS hRlen HRne HRtot
      rw [← hRR]
      have HRR := Lib.hid hRR
      have hR20 : tota R ≤ 20 := by
        have := HRtot.out
        have := List.countP_le_length (p := fun n => decide (2 * n ≠ lo + hi)) (l := l)
        omega
      have hRl20 : R.length ≤ 20 := by omega
      have Hml := Lib.hid hml
      clear hrs Hr8 hRtot hRne hcompl hlast hmid hMM hRR R8 HB hml hRlen
      go_wp2_with fail
      go_loopg [20, 117] m' (fun k s i wr => ∃ (j : Nat) (S : Int), k + j = m' ∧ s = .int .i64 S ∧ S = X + Y + (M.take j).sum ∧ i = .int .i64 j ∧ wr = w8)
      case atStart => exact ⟨0, X + Y, by omega, rfl, by simp, rfl, rfl⟩
      case round =>
        obtain ⟨j, S, hkj, rfl, hS, rfl, rfl⟩ := hrel
        by_cases hj : j < m'
        · have hcj := R8'.out j (by rw [Hml.out]; exact hj)
          have hst := sum_take_succ M j (by rw [Hml.out]; exact hj)
          have hbd := sum_take_bd HM.out (by rw [Hml.out]; omega) j
          have hbx := HM.out.get j (by rw [Hml.out]; exact hj)
          generalize M[j]?.getD 0 = x at *
          obtain ⟨bx1, bx2⟩ := hbx
          have S1 : -9000000000 ≤ S := by omega
          have S2 : S ≤ 9000000000 := by omega
          have HS1 : Hid (S + x = X + Y + (M.take (j + 1)).sum) := Lib.hid (by rw [hst]; omega)
          clear hst hbd hS
          go_wp2
          go_roundg (gk - 1)
          case measure => omega
          case rel => exact ⟨j + 1, S + x, by omega, rfl, HS1.out, by go_num, rfl⟩
        · have hSl : S = (l.length : Int) := by
            rw [hS, List.take_of_length_le (by rw [Hml.out]; omega)]; exact Hsum.out
          clear hS
          go_wp2_with fail
          go_loopg [23, 24, 127] R.length (fun k p q i w9 => ∃ (j I : Nat) (L : Int), k + j = R.length ∧ p = .int .i64 I ∧ q = .int .i64 L ∧ I = tota (R.take j) ∧ (j = 0 → L = 0) ∧ (0 < j → L = R[j - 1]?.getD 0) ∧ i = .int .i64 j ∧ w9 = wr)
          case atStart => exact ⟨0, 0, 0, by omega, rfl, rfl, by simp [tota], fun _ => rfl, fun h => absurd h (Nat.lt_irrefl 0), rfl, rfl⟩
          case round =>
            obtain ⟨j, I, L, hkj, rfl, rfl, hI, hL0, hL1, rfl, rfl⟩ := hrel
            by_cases hj : j < R.length
            · obtain ⟨br, or, rfl, _, hrr⟩ := HRS.out (by omega)
              have hcj := hrr j hj
              have hst := tota_take_succ R j hj
              have hne : R[j]?.getD 0 ≠ 0 := HRne.out _ (by simp [hj])
              have hle : tota (R.take (j + 1)) ≤ tota R := by
                have h1 := tota_append (R.take (j + 1)) (R.drop (j + 1))
                rw [List.take_append_drop] at h1
                omega
              obtain ⟨K, hK⟩ : ∃ K, K = R[j]?.getD 0 := ⟨_, rfl⟩
              rw [← hK] at hcj hst hne
              obtain ⟨n, hn⟩ : ∃ n : Nat, n = K.natAbs := ⟨_, rfl⟩
              have hmx : max K (-K) = (n : Int) := by omega
              have K1 : -20 ≤ K := by omega
              have K2 : K ≤ 20 := by omega
              have I1 : (I : Int) ≤ 20 := by omega
              have n1' : (n : Int) ≤ 20 := by omega
              have hz : (K == 0) = false := by rw [beq_eq_false_iff_ne]; exact hne
              have HI1 : Hid (I + n = tota (R.take (j + 1))) := Lib.hid (by omega)
              have HK := Lib.hid hK
              clear hst hne hle hI hL0 hL1 hrr hK hn
              go_wp2
              go_roundg (gk - 1)
              case measure => omega
              case rel => exact ⟨j + 1, I + n, K, by omega, by go_num, rfl, HI1.out, fun h => by omega, fun _ => by rw [HK.out]; simp, by go_num, rfl⟩
            · have hjl : j = R.length := by omega
              have hIt : Hid (I + (l.countP fun n => decide (2 * n = lo + hi)) = l.length) := Lib.hid (by
                have := HRtot.out
                have := HC.out
                rw [hI, List.take_of_length_le (by omega)]
                omega)
              have HLL : Hid ((R.length = 0 → L = 0) ∧ (0 < R.length → L = R[R.length - 1]?.getD 0)) := Lib.hid (by subst hjl; exact ⟨hL0, hL1⟩)
              have I1 : (I : Int) ≤ 20 := by have := hIt.out; omega
              clear hI hL0 hL1
              go_wp2_with fail
              go_loopg [27, 143] l.length (fun k p i w9 => ∃ (j C : Nat), k + j = l.length ∧ p = .int .i64 C ∧ C = (l.take j).countP (fun n => decide (2 * n = lo + hi)) ∧ i = .int .i64 j ∧ w9 = wr)
              case atStart => exact ⟨0, 0, by omega, rfl, by simp, rfl, rfl⟩
              case round =>
                obtain ⟨j, C, hkj, rfl, hC, rfl, rfl⟩ := hrel
                by_cases hj : j < l.length
                · have hcj := Hrow8.out j hj
                  have hst := countP_take_succ (fun n => decide (2 * n = lo + hi)) l j hj
                  have hbx := R3.out _ (show l[j]?.getD 0 ∈ l by simp [hj])
                  have hcl := List.countP_le_length (p := fun n => decide (2 * n = lo + hi)) (l := l.take j)
                  rw [← hC] at hst hcl
                  have C1 : (C : Int) ≤ 20 := by
                    have : (l.take j).length ≤ 20 := by simp; omega
                    omega
                  generalize l[j]?.getD 0 = x at *
                  obtain ⟨bx1, bx2⟩ := hbx
                  by_cases hx : 2 * x = lo + hi
                  · have HC1 : Hid (C + 1 = (l.take (j + 1)).countP (fun n => decide (2 * n = lo + hi))) := Lib.hid (by rw [hst, if_pos (by simpa using hx)])
                    have hb : (2 * x == lo + hi) = true := by rw [beq_iff_eq]; exact hx
                    have Hx := Lib.hid hx
                    clear hst hC hcl hx
                    go_wp2
                    go_roundg (gk - 1)
                    case measure => omega
                    case rel => exact ⟨j + 1, C + 1, by omega, by go_num, HC1.out, by go_num, rfl⟩
                  · have HC1 : Hid (C = (l.take (j + 1)).countP (fun n => decide (2 * n = lo + hi))) := Lib.hid (by rw [hst, if_neg (by simpa using hx), Nat.add_zero])
                    have hb : (2 * x == lo + hi) = false := by rw [beq_eq_false_iff_ne]; exact hx
                    clear hst hC hcl hx
                    go_wp2
                    go_roundg (gk - 1)
                    case measure => omega
                    case rel => exact ⟨j + 1, C, by omega, rfl, HC1.out, by go_num, rfl⟩
                · rw [List.take_of_length_le (by omega)] at hC
                  have hIt2 := hIt.out
                  rw [← hC] at hIt2
                  obtain ⟨p, hp⟩ : ∃ p, l.length = p + 1 := ⟨l.length - 1, by omega⟩
                  have hcp := Hrow8.out p (by omega)
                  have hbx := R3.out _ (show l[p]?.getD 0 ∈ l by simp [hp])
                  have HV : Hid (l = l.take (l.length - 1) ++ [l[p]?.getD 0]) := Lib.hid (by
                    have h1 := List.take_add_one (l := l) (i := p)
                    rw [show p + 1 = l.length by omega, List.take_length] at h1
                    rw [show l.length - 1 = p by omega]
                    conv => lhs; rw [h1]
                    simp [hp])
                  generalize l[p]?.getD 0 = V at *
                  obtain ⟨bx1, bx2⟩ := hbx
                  have hp2 : (l.length : Int) - 1 = (p : Int) := by omega
                  have hIC : (I : Int) + (C : Int) = (l.length : Int) := by omega
                  have C1 : (C : Int) ≤ 20 := by omega
                  have Hp := Lib.hid hp
                  clear hC hIt2 hp
                  have hls := last_sign (c := lo + hi) (V := V) (L := L) (l' := l.take (l.length - 1)) (R := R) (by rw [← HV.out]; exact HRR.out) HLL.out
                  have hTr := Lib.hid (hT1.keep k8)
                  have hb1 : ((I : Int) + (C : Int) == (l.length : Int)) = true := by rw [beq_iff_eq]; exact hIC
                  have hb2 : (S == (l.length : Int)) = true := by rw [beq_iff_eq]; exact hSl
                  have HIC := Lib.hid hIC
                  have HSl := Lib.hid hSl
                  have i20 : (l.length : Int) ≤ 20 := by omega
                  rcases Int.lt_trichotomy (2 * V) (lo + hi) with hx | hx | hx
                  · have hL2 := hls.2 hx
                    have hx2 : ¬ lo + hi < 2 * V := by omega
                    clear hls hIC hSl
                    go_wp2_with fail
                    refine (A _ hTr.out).mono ?_
                    rintro e w9 ⟨rfl, k9⟩
                    go_wp2
                    go_returns
                    exact ⟨rfl, (K1.trans k8).trans k9⟩
                  · have hx2 : ¬ lo + hi < 2 * V := by omega
                    have hx3 : ¬ 2 * V < lo + hi := by omega
                    clear hls hIC hSl hx
                    go_wp2_with fail
                    refine (A _ hTr.out).mono ?_
                    rintro e w9 ⟨rfl, k9⟩
                    go_wp2
                    go_returns
                    exact ⟨rfl, (K1.trans k8).trans k9⟩
                  · have hL2 := hls.1 hx
                    clear hls hIC hSl
                    go_wp2_with fail
                    refine (A _ hTr.out).mono ?_
                    rintro e w9 ⟨rfl, k9⟩
                    go_wp2
                    go_returns
                    exact ⟨rfl, (K1.trans k8).trans k9⟩
    · obtain ⟨E, hE⟩ : ∃ E, bE l lo hi = E := ⟨_, rfl⟩
      rw [hE] at hb ⊢
      have hE2 : (E != 0) = true := by simp [hb]
      clear hE hb hs1 cl ch G
      go_wp2_with fail
      refine (A _ (hT1.keep k3)).mono ?_
      rintro e w4 ⟨rfl, k4⟩
      go_wp2
      go_returns
      exact ⟨rfl, (K1.trans k3).trans k4⟩

theorem totals_walk2 (a : Option Addr) (c : Nat) (l : List Int) (lo hi bins : Int) (hbins : 0 ≤ bins ∧ bins ≤ 255) (w : World) (hT : Tab w) (hs : Ser w a l) (_ : l.length ≤ c) :
    Calls Tryz.prog 7 #[.slice a l.length c, .agg #[.int .i64 lo, .int .i64 hi], .int .u8 bins] w fun e w' => e = .returned (.bool true) ∧ Kept w w' := totals_walk a c l lo hi bins hbins w hT hs

end Go.Proofs.YtgmegfcjbnfnaaaGreatDoor

/- The statement CapabilityTotals: for every input the law answers true, and its arguments read as before. No conditions beyond the row's own; the tables that it lists are tied to the program's text. -/
namespace Go.Proofs.YtgmegfcjbnfnaaaGreatDoor
open Go.ChangeShapes Go.WideShapes Go.ChangeAt Go.RowKit Wide

set_option maxRecDepth 100000 in
set_option maxHeartbeats 2000000 in
theorem capabilityTotals_lifted (os : Os) (started : os.Started) (H : Type) (enc : TypeId × Value → H) :
    ReturnsInHanded {} Tryz.checked os 7 .any (fun w args => (Rows.capabilityTotalsSpec.pre enc Tryz.prog Tryz.f7 [] false w args ∧ laidMetH Tryz.prog Rows.capabilityTotalsRow.laid w) ∧ sizedMet enc Tryz.prog Tryz.f7 (OpenSpec.ofChange Rows.capabilityTotalsSpec) false w args)
      (Rows.capabilityTotalsSpec.post enc Tryz.prog Tryz.f7 false true false false) := by
  refine returnsInHanded_of_change_and (C := Tryz.checked) (X := fun w _ => laidMetH Tryz.prog Rows.capabilityTotalsRow.laid w) (fun _ _ _ hh h => h.of_heap hh) own0 started (by kernel_rfl) Tryz.func7
    (witness_laid (enc := enc) (os := os) (s := Rows.capabilityTotalsSpec) (args := #[.slice none 0 0, .agg #[.int .i64 0, .int .i64 0], .int .u8 0]) (by kernel_rfl) (by kernel_rfl) (by kernel_rfl)) ?_
  intro W base args ds gs before hval0 hW _ _ hL _
  have hval : ∀ (j : Nat) t v, Tryz.f7.params[j]? = some t → args[j]? = some v → Value.okWide Tryz.prog W .any base t v := hval0
  have hW' := hW
  obtain ⟨p, q, hA0, hV0, rfl, hfz, hnd⟩ := hW
  have hA : DataW.TrodAll enc Tryz.prog W 0 (fun _ => true) true Tryz.f7.params.toList args.toList ds p := hA0
  rw [Tryz.params7] at hA hval
  obtain ⟨v0, vs0, d0, ds0, p0, q0, hargs, rfl, rfl, h0, r0⟩ := trodAll_cons hA
  obtain ⟨v1, vs1, d1, ds1, p1, q1, rfl, rfl, rfl, h1, r1⟩ := trodAll_cons r0
  obtain ⟨v2, vs2, d2, ds2, p2, q2, rfl, rfl, rfl, h2, r2⟩ := trodAll_cons r1
  obtain ⟨rfl, rfl, rfl⟩ := trodAll_nil r2
  obtain rfl : args = #[v0, v1, v2] := by cases args; simp_all
  obtain ⟨rfl, rfl⟩ := trodVars_none hV0
  simp only [List.append_nil] at hW'
  have hlt : ∀ x ∈ p0 ++ (p1 ++ p2), x.block < W.heap.size := fun x hx => by simpa using hW'.lt x hx
  have k0 := h0
  have k1 := h1
  have k2 := h2
  obtain ⟨a, c, l, rfl, hlc, hs⟩ := open_series (hval 0 22 v0 rfl rfl) h0
  obtain ⟨lo, hi, rfl⟩ := open_limits (hval 1 34 v1 rfl rfl) h1
  obtain ⟨z2, rfl, _, _, w2⟩ := open_int Tryz.underlying5 (hval 2 5 v2 rfl rfl) h2
  have b2 := u8_bd w2
  refine (totals_walk2 a c l lo hi z2 b2 W (tab_of_laid hL) hs hlc).mono fun e W' ⟨he, hk⟩ => ?_
  subst he
  have bel := hk.below
  refine ⟨_, rfl, _, _, _, [], p0 ++ (p1 ++ p2), [], hW', ?_, ?_, rfl, bel.frame _, fun h => by cases h⟩
  · exact trodAll_mk1 (shut_bool Tryz.underlying4 true)
  · exact (trodAll_cons_mk (Below.trod laidOut0 (by kernel_rfl) (of_decide_eq_true (by kernel_rfl)) k0 bel (fun x hx => hlt x (by simp [hx]))) (trodAll_cons_mk (Below.trod laidOut0 (by kernel_rfl) (of_decide_eq_true (by kernel_rfl)) k1 bel (fun x hx => hlt x (by simp [hx]))) (trodAll_mk1 (Below.trod laidOut0 (by kernel_rfl) (of_decide_eq_true (by kernel_rfl)) k2 bel (fun x hx => hlt x (by simp [hx]))))))

theorem capabilityTotals_holds : Rows.CapabilityTotalsSaid :=
  OpenClaim.holds_of_wide 7 Tryz.f7 rfl rfl rfl rfl rfl rfl rfl ⟨rfl, rfl, rfl, rfl, rfl⟩ rfl rfl rfl rfl rfl (by kernel_rfl) Tryz.func7 (by kernel_rfl)
    (of_decide_eq_true (by kernel_rfl)) (by unfold Func.isWrapper; first | (rw [if_pos (by decide +kernel)]; kernel_rfl) | (rw [if_neg (by decide +kernel)]; exact ⟨rfl, rfl⟩))
    (fun os started H enc _ => capabilityTotals_lifted os started H enc)

theorem capabilityTotals_card : Rows.CapabilityTotalsCardSaid :=
  Claim7.holds_tied_plain_at .later [] [.data, .data, .data, .data, .sentinel, .sentinel, .pinned] true (true, "55ac42c2fb987e375d79621de8aa858a6e8e30bb8a7df803310ae96f31e596a9") true
    capabilityTotals_holds (fun _ h => by cases h) (by kernel_rfl) (fun _ h => by cases h) capabilityTotals_row_tie rfl ⟨rfl, rfl⟩ (by kernel_rfl) rfl
    (fun f fn hf hfn => by
      obtain rfl : f = 7 := Option.some.inj ((show Tryz.prog.funcNamed "metrolab/metrolablaw57.CapabilityTotals" = some 7 by kernel_rfl).symm.trans hf) |>.symm
      obtain rfl : fn = Tryz.f7 := (Option.some.inj (Tryz.func7.symm.trans hfn)).symm
      exact ⟨by kernel_rfl, fun j t ht => by
        rw [Tryz.params7] at ht
        rcases j with _ | _ | _ | j
        · obtain rfl : 22 = t := by simpa using ht
          exact (show Tryz.prog.wantsStandIn 22 = false by kernel_rfl)
        · obtain rfl : 34 = t := by simpa using ht
          exact (show Tryz.prog.wantsStandIn 34 = false by kernel_rfl)
        · obtain rfl : 5 = t := by simpa using ht
          exact (show Tryz.prog.wantsStandIn 5 = false by kernel_rfl)
        · simp at ht⟩)
    (by kernel_rfl)

end Go.Proofs.YtgmegfcjbnfnaaaGreatDoor
