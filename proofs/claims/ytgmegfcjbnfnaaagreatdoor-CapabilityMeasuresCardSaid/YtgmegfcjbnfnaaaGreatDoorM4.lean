/- Fractions of ratio: lowest, Mul, Div, Compare, Make, Of, Whole. -/
import Derived.Test.YtgmegfcjbnfnaaaGreatDoorM3

/- Walks over ratio.sums: sub, mul, lowest. -/
namespace Go.Proofs.YtgmegfcjbnfnaaaGreatDoor
open Go.RowKit Wide Numer
open Go.Lib (decDigits itoa nDigits)

theorem ssub_any {w0 : World} (hT : Tab w0) (b : Nat) (e n m : Int) (hn : fits n) (hm : fits m) (w : World) (h : SumsAt w0 b e w) :
    Calls Tryz.prog 151 #[.pointer (some ⟨b, 0, none⟩), .string (tx n), .string (tx m)] w fun r w' =>
      r = .returned (.string (tx (stp e (n - m)).1)) ∧ SumsAt w0 b (stp e (n - m)).2 w' ∧ Own b w w' := by
  go_enter Tryz.func151, Tryz.ntmps151
  go_wp2_with fail
  refine (do_sub_any hT b e n m hn hm w h).mono ?_
  rintro r w1 ⟨rfl, h1, o1⟩
  go_wp2
  go_returns
  exact ⟨rfl, h1, o1⟩

theorem stp_two (e n m : Int) (hn : fits n) : stp (stp e n).2 ((stp e n).1 * m) = stp e (n * m) := by
  by_cases he : e = 0
  · subst he; rw [stp_ok hn]
  · rw [stp_err he, stp_err he, stp_err he]

def MulAt (w0 : World) (b : Nat) (e n m : Int) (w : World) (k : Nat) (o i : Value) (wr : World) : Prop :=
  (k = 2 ∧ i = .int .i64 0 ∧ o = .string ⟨#[49]⟩ ∧ SumsAt w0 b e wr ∧ Own b w wr) ∨
  (k = 1 ∧ i = .int .i64 1 ∧ o = .string (tx (stp e n).1) ∧ SumsAt w0 b (stp e n).2 wr ∧ Own b w wr) ∨
  (k = 0 ∧ i = .int .i64 2 ∧ o = .string (tx (stp e (n * m)).1) ∧ SumsAt w0 b (stp e (n * m)).2 wr ∧ Own b w wr)

set_option maxHeartbeats 1000000 in
set_option maxRecDepth 100000 in
theorem smul_any {w0 : World} (hT : Tab w0) (b g : Nat) (e n m : Int) (hn : fits n) (hm : fits m) (w : World) (h : SumsAt w0 b e w) (hg : g ≠ b)
    (hc : w.heap[g]? = some (.cells #[.string (tx n), .string (tx m)] 84)) :
    Calls Tryz.prog 73 #[.pointer (some ⟨b, 0, none⟩), .slice (some ⟨g, 0, none⟩) 2 2] w fun r w' =>
      r = .returned (.string (tx (stp e (n * m)).1)) ∧ SumsAt w0 b (stp e (n * m)).2 w' ∧ Own b w w' := by
  obtain ⟨c0, c1⟩ := two_cells hc
  have hmf : ∀ (fn : Fn) (first cap : Array Value) (w : World), (Instr.makeFunc fn first cap).run Tryz.prog w = .ok (.func fn first cap) w := fun _ _ _ _ => rfl
  have d1 := do_mul_any hT b e 1 n fits_one hn
  rw [Int.one_mul, tx_one] at d1
  have s2 := Lib.hid (stp_two e n m hn)
  have sf := stp_fits e n
  go_enter Tryz.func73, Tryz.ntmps73
  go_wp2_with fail
  go_loopg [5, 13] 2 (fun k o i wr => MulAt w0 b e n m w k o i wr)
  case atStart => exact .inl ⟨rfl, rfl, rfl, h, Own.refl b w⟩
  case round =>
    rcases hrel with ⟨rfl, rfl, rfl, hs, ho⟩ | ⟨rfl, rfl, rfl, hs, ho⟩ | ⟨rfl, rfl, rfl, hs, ho⟩
    · have c0' := ho.cell hg c0
      have D := d1 wr hs
      clear d1 c0 c1
      go_wp2_with fail
      refine D.mono ?_
      rintro r w1 ⟨rfl, h1, o1⟩
      clear D
      go_wp2
      go_roundg 1
      case measure => omega
      case rel => exact .inr (.inl ⟨rfl, rfl, rfl, h1, ho.trans o1⟩)
    · have c1' := ho.cell hg c1
      have D := do_mul_any hT b (stp e n).2 (stp e n).1 m sf hm wr hs
      rw [s2.out] at D
      clear d1 c0 c1
      go_wp2_with fail
      refine D.mono ?_
      rintro r w1 ⟨rfl, h1, o1⟩
      clear D
      go_wp2
      go_roundg 0
      case measure => omega
      case rel => exact .inr (.inr ⟨rfl, rfl, rfl, h1, ho.trans o1⟩)
    · clear d1
      go_wp2
      go_returns
      exact ⟨rfl, hs, ho⟩

theorem fits_size {n : Int} (h : fits n) : (tx n).size ≤ 1025 := by rw [tx_size]; exact fits_len h
theorem joined_any (n m : Int) (hn : fits n) (hmf : fits m) (w : World) :
    Calls Tryz.prog 152 #[.string (tx n), .string (tx m)] w fun r w' => r = .returned (.string (bs (if m = 1 then itoa n else itoa n ++ 47 :: itoa m))) ∧ w' = w := by
  have h1 : ((tx m).toList == [49]) = decide (m = 1) := by
    rw [tx, bs_toList, ← itoa_one, Bool.eq_iff_iff, beq_iff_eq, decide_eq_true_iff]
    exact ⟨Dec.itoa_inj, fun h => by rw [h]⟩
  by_cases hm : m = 1
  · subst hm
    rw [if_pos rfl]
    rw [show decide ((1 : Int) = 1) = true from rfl] at h1
    show Calls _ _ _ _ fun r w' => r = .returned (.string (tx n)) ∧ w' = w
    generalize tx 1 = t at *
    go_enter Tryz.func152, Tryz.ntmps152
    go_wp2
    go_returns
    exact ⟨rfl, rfl⟩
  · have h2 : decide (m = 1) = false := by simp [hm]
    rw [h2] at h1
    rw [if_neg hm]
    have h3 : Hid (tx n ++ ⟨#[47]⟩ ++ tx m = bs (itoa n ++ 47 :: itoa m)) := by
      show _ = _
      rw [bs_of (tx n ++ ⟨#[47]⟩ ++ tx m)]
      congr 1
      simp [tx, bs]
    have s1 := fits_size hn
    have s2 := fits_size hmf
    have s3 : (tx n ++ (⟨#[47]⟩ : ByteArray)).size = (tx n).size + 1 := by rw [ByteArray.size_append]; rfl
    clear h2
    go_enter Tryz.func152, Tryz.ntmps152
    go_wp2
    go_returns
    exact ⟨by rw [← h3.out]; rfl, rfl⟩

end Go.Proofs.YtgmegfcjbnfnaaaGreatDoor

/- ratio.sums.lowest, and the quotient in lowest terms. -/
namespace Go.Proofs.YtgmegfcjbnfnaaaGreatDoor
open Go.RowKit Wide Numer
open Go.Lib (decDigits itoa nDigits)

/-- the divisor by which a quotient comes to lowest terms -/
def lowG (a b : Int) : Int := if b < 0 then 0 - (Int.gcd a b : Int) else (Int.gcd a b : Int)
theorem lowG_sign {a b : Int} (hb : b ≠ 0) : lowG a b = b.sign * (Int.gcd a b : Int) := by
  unfold lowG
  split
  · rename_i h
    rw [Int.sign_eq_neg_one_of_neg h]; omega
  · rw [Int.sign_eq_one_of_pos (by omega), Int.one_mul]
theorem lowG_ne {a b : Int} (hb : b ≠ 0) : lowG a b ≠ 0 := by
  have : Int.gcd a b ≠ 0 := by
    intro h
    exact hb (Int.gcd_eq_zero_iff.1 h).2
  unfold lowG
  split <;> omega
theorem low_num {a b : Int} (hb : b ≠ 0) : a = lowG a b * (Rat.divInt a b).num := by
  rw [lowG_sign hb, Rat.num_divInt, Int.gcd_comm b a]
  have h1 : (Int.gcd a b : Int) ∣ b.sign * a := Int.dvd_mul_of_dvd_right (Int.gcd_dvd_left ..)
  rw [Int.mul_assoc, Int.mul_ediv_cancel' h1, ← Int.mul_assoc]
  rcases Int.lt_or_gt_of_ne hb with h | h
  · rw [Int.sign_eq_neg_one_of_neg h]; omega
  · rw [Int.sign_eq_one_of_pos h]; omega
theorem low_den {a b : Int} (hb : b ≠ 0) : b = lowG a b * ((Rat.divInt a b).den : Int) := by
  rw [lowG_sign hb, Rat.den_divInt, if_neg hb, Int.gcd_comm b a]
  have h1 : (Int.gcd a b : Int) ∣ (b.natAbs : Int) := by
    rw [Int.dvd_natAbs]; exact Int.gcd_dvd_right ..
  rw [Int.natCast_ediv, Int.mul_assoc, Int.mul_ediv_cancel' h1]
  exact (Int.sign_mul_natAbs b).symm
theorem fits_lowG {a b : Int} (ha : fits a) (hb : fits b) : fits (lowG a b) := by
  have := gcd_le ha hb
  unfold lowG
  split
  · unfold fits at *; rw [Int.zero_sub, Int.natAbs_neg]; exact this
  · exact this
theorem low_le {a b : Int} (hb : b ≠ 0) (ha : fits a) (hf : fits b) : fitsR (Rat.divInt a b) :=
  ⟨fits_quo (low_num hb) (lowG_ne hb) ha, fits_quo (low_den hb) (lowG_ne hb) hf⟩
theorem prefix_minus (n : Int) : Lib.hasPrefix (itoa n) [45] = decide (n < 0) := by
  obtain ⟨c, r, e, hc⟩ := itoa_cons n
  rw [e, Lib.hasPrefix]
  by_cases h : n < 0
  · rw [hc.2 h]; simp [h]
  · have : c ≠ 45 := fun x => h (hc.1 x)
    show ((45 : UInt8) == c && List.isPrefixOf [] r) = decide (n < 0)
    rw [beq_false_of_ne (Ne.symm this)]
    simp [h]
theorem pre_any (n : Int) (w : World) : Calls Tryz.prog 150 #[.string (tx n), .string ⟨#[45]⟩] w fun e w' => e = .returned (.bool (decide (n < 0))) ∧ w' = w :=
  (Tryz.strings_HasPrefix (tx n) ⟨#[45]⟩ w).mono fun e w' ⟨he, hw⟩ => ⟨by rw [he]; show Ending.returned (.bool (Lib.hasPrefix (itoa n) [45])) = _; rw [prefix_minus], hw⟩

set_option maxHeartbeats 1000000 in
set_option maxRecDepth 100000 in
theorem lowest_any {w0 : World} (hT : Tab w0) (b : Nat) (n m : Int) (hn : fits n) (hm : fits m) (hm0 : m ≠ 0) (w : World) (h : SumsAt w0 b 0 w) :
    Calls Tryz.prog 115 #[.pointer (some ⟨b, 0, none⟩), .string (tx n), .string (tx m)] w fun r w' =>
      r = .returned (.string (rt (Rat.divInt n m))) ∧ SumsAt w0 b 0 w' ∧ Own b w w' := by
  have D1 := do_gcd_any hT b 0 n m hn hm w h
  have fg := gcd_le hn hm
  rw [stp_ok fg] at D1
  have hk1 := low_num (a := n) hm0
  have hk2 := low_den (a := n) hm0
  have hg0 := lowG_ne (a := n) hm0
  have fG := fits_lowG hn hm
  have fR := low_le hm0 hn hm
  have hrt : rt (Rat.divInt n m) = bs (if ((Rat.divInt n m).den : Int) = 1 then itoa (Rat.divInt n m).num else itoa (Rat.divInt n m).num ++ 47 :: itoa ((Rat.divInt n m).den : Int)) := by
    unfold rt rtl
    congr 1
    by_cases hd : (Rat.divInt n m).den = 1
    · rw [if_pos hd, if_pos (by omega)]
    · rw [if_neg hd, if_neg (by omega)]
  rw [hrt]
  clear hrt
  obtain ⟨f1, f2⟩ := fR
  generalize (Rat.divInt n m).num = k1 at *
  generalize ((Rat.divInt n m).den : Int) = k2 at *
  have Q1 := fun w => do_quo_any hT b 0 n (lowG n m) k1 hk1 hg0 hn fG w
  have Q2 := fun w => do_quo_any hT b 0 m (lowG n m) k2 hk2 hg0 hm fG w
  rw [stp_ok f1] at Q1
  rw [stp_ok f2] at Q2
  have J := fun w => joined_any k1 k2 f1 f2 w
  generalize bs (if k2 = 1 then itoa k1 else itoa k1 ++ 47 :: itoa k2) = out at *
  have hS := fun w => ssub_any hT b 0 0 (Int.gcd n m) fits_zero fg w
  rw [tx_zero] at hS
  by_cases hneg : m < 0
  · have hl : lowG n m = 0 - (Int.gcd n m : Int) := by unfold lowG; rw [if_pos hneg]
    rw [hl] at Q1 Q2 fG
    rw [stp_ok fG] at hS
    have hd : decide (m < 0) = true := by simp [hneg]
    clear hk1 hk2 hg0 hl
    have P := fun w => pre_any m w
    rw [hd] at P
    clear hd hneg
    dsimp only at D1 hS Q1 Q2
    generalize (0 - (Int.gcd n m : Int)) = gv at *
    generalize (Int.gcd n m : Int) = g0 at *
    go_enter Tryz.func115, Tryz.ntmps115
    go_wp2_with fail
    refine D1.mono ?_
    rintro r w1 ⟨rfl, h1, o1⟩
    clear D1
    go_wp2_with fail
    refine (P w1).mono ?_
    rintro r w1 ⟨rfl, rfl⟩
    go_wp2_with fail
    refine (hS w1 h1).mono ?_
    rintro r w2 ⟨rfl, h2, o2⟩
    have c2 := h2.2.2.cell
    go_wp2_with fail
    refine (Q1 w2 h2).mono ?_
    rintro r w3 ⟨rfl, h3, o3⟩
    go_wp2_with fail
    refine (Q2 w3 h3).mono ?_
    rintro r w4 ⟨rfl, h4, o4⟩
    go_wp2_with fail
    refine (J w4).mono ?_
    rintro r w4 ⟨rfl, rfl⟩
    go_wp2
    go_returns
    exact ⟨rfl, h4, ((o1.trans o2).trans o3).trans o4⟩
  · have hl : lowG n m = (Int.gcd n m : Int) := by unfold lowG; rw [if_neg hneg]
    rw [hl] at Q1 Q2 fG
    have hd : decide (m < 0) = false := by simp [hneg]
    clear hk1 hk2 hg0 hl hS
    have P := fun w => pre_any m w
    rw [hd] at P
    clear hd hneg
    dsimp only at D1 Q1 Q2
    generalize (Int.gcd n m : Int) = g0 at *
    go_enter Tryz.func115, Tryz.ntmps115
    go_wp2_with fail
    refine D1.mono ?_
    rintro r w1 ⟨rfl, h1, o1⟩
    clear D1
    have c2 := h1.2.2.cell
    go_wp2_with fail
    refine (P w1).mono ?_
    rintro r w1 ⟨rfl, rfl⟩
    go_wp2_with fail
    refine (Q1 w1 h1).mono ?_
    rintro r w3 ⟨rfl, h3, o3⟩
    go_wp2_with fail
    refine (Q2 w3 h3).mono ?_
    rintro r w4 ⟨rfl, h4, o4⟩
    go_wp2_with fail
    refine (J w4).mono ?_
    rintro r w4 ⟨rfl, rfl⟩
    go_wp2
    go_returns
    exact ⟨rfl, h4, (o1.trans o3).trans o4⟩

end Go.Proofs.YtgmegfcjbnfnaaaGreatDoor

/- Walks over ratio: checks, the parts of a right number. -/
namespace Go.Proofs.YtgmegfcjbnfnaaaGreatDoor
open Go.RowKit Wide Numer
open Go.Lib (decDigits itoa nDigits)

/-- the first error of some texts -/
def chkRs : List (List UInt8) → Int
  | [] => 0
  | s :: r => if chkR s = 0 then chkRs r else chkR s

set_option maxHeartbeats 1000000 in
set_option maxRecDepth 100000 in
theorem rchecks_any (g : Nat) (ss : List (List UInt8)) (c : Nat) (w : World) (hT : Tab w) (hlen : ss.length ≤ 1000000) (hs : ∀ s ∈ ss, s.length ≤ 100000000000000)
    (hc : ∀ i s, ss[i]? = some s → w.cell? ⟨g, i, none⟩ = some (.string (bs s))) :
    Calls Tryz.prog 71 #[.slice (some ⟨g, 0, none⟩) ss.length c] w fun e w' => e = .returned (.int .i64 (chkRs ss)) ∧ Kept w w' := by
  have HC := Lib.hid hc
  have HS := Lib.hid hs
  clear hc hs
  go_enter Tryz.func71, Tryz.ntmps71
  go_wp2
  go_loopg [8] (ss.length + 1) (fun k i wr => ∃ j : Nat, k + j = ss.length + 1 ∧ j ≤ ss.length ∧ i = .int .i64 j ∧ chkRs (ss.drop j) = chkRs ss ∧ Kept w wr)
  case atStart => exact ⟨0, rfl, Nat.zero_le _, rfl, by simp, Kept.refl _⟩
  case round =>
    obtain ⟨j, hkj, hj, rfl, hch, hk⟩ := hrel
    by_cases hlt : j < ss.length
    · obtain ⟨s, hsj⟩ : ∃ s, s = ss[j] := ⟨_, rfl⟩
      have hcj : wr.cell? ⟨g, j, none⟩ = some (.string (bs s)) := hk.cell (HC.out j s (by rw [hsj]; simp))
      have hsl : s.length ≤ 100000000000000 := HS.out s (by rw [hsj]; exact List.getElem_mem _)
      have hd : ss.drop j = s :: ss.drop (j + 1) := by rw [hsj]; exact List.drop_eq_getElem_cons hlt
      rw [hd] at hch
      have Hch := Lib.hid hch
      clear hsj hd hch
      go_wp2_with fail
      refine (rcheck_any s hsl wr (hT.keep hk)).mono ?_
      rintro e w1 ⟨rfl, hk1⟩
      by_cases h0 : chkR s = 0
      · rw [h0]
        go_wp2
        go_roundg (gk - 1)
        case measure => omega
        case rel =>
          have h1 := Hch.out
          rw [chkRs, if_pos h0] at h1
          exact ⟨j + 1, by omega, by omega, by go_num, h1, hk.trans hk1⟩
      · have hb : (chkR s != 0) = true := by simpa using h0
        have Hb := Lib.hid h0
        clear h0
        go_wp2
        go_returns
        have h1 := Hch.out
        rw [chkRs, if_neg Hb.out] at h1
        exact ⟨by rw [← h1]; rfl, hk.trans hk1⟩
    · have hj' : j = ss.length := by omega
      rw [hj', List.drop_length] at hch
      have Hch := Lib.hid hch
      clear hch hj'
      go_wp2
      go_returns
      exact ⟨by rw [← Hch.out]; rfl, hk⟩

/-- the first error of two texts -/
def chkR2 (l m : List UInt8) : Int := if chkR l = 0 then chkR m else chkR l
theorem rchecks2_any (l m : List UInt8) (hl : l.length ≤ 100000000000000) (hm : m.length ≤ 100000000000000) (g : Nat) (w : World) (hT : Tab w) (h : w.heap[g]? = some (.cells #[.string (bs l), .string (bs m)] 25)) :
    Calls Tryz.prog 71 #[.slice (some ⟨g, 0, none⟩) 2 2] w fun e w' => e = .returned (.int .i64 (chkR2 l m)) ∧ Kept w w' := by
  have h0 : w.cell? ⟨g, 0, none⟩ = some (.string (bs l)) ∧ w.cell? ⟨g, 1, none⟩ = some (.string (bs m)) := by simp [World.cell?, h]
  obtain ⟨c0, c1⟩ := h0
  refine (rchecks_any g [l, m] 2 w hT (by simp) ?_ ?_).mono fun e w' ⟨he, hk⟩ => ⟨?_, hk⟩
  · intro s hs
    simp only [List.mem_cons, List.not_mem_nil, or_false] at hs
    rcases hs with rfl | rfl <;> omega
  · intro i s hi
    rcases i with _ | _ | i
    · simp at hi; subst hi; exact c0
    · simp at hi; subst hi; exact c1
    · simp at hi
  · rw [he, chkRs, chkRs, chkRs, chkR2]
    by_cases h1 : chkR l = 0 <;> by_cases h2 : chkR m = 0 <;> simp [h1, h2]
theorem chkR2_zero {a b : Rat} (ha : fitsR a) (hb : fitsR b) : chkR2 (rtl a) (rtl b) = 0 := by
  unfold chkR2; rw [chkR_rtl ha, if_pos rfl, chkR_rtl hb]
theorem rtl_len {a : Rat} (h : fitsR a) : (rtl a).length ≤ 2051 := by
  have h1 := fits_len h.1
  have h2 := fits_len h.2
  unfold rtl
  split
  · omega
  · simp; omega
theorem rhead (l m : List UInt8) (w : World) : (w.alloc (.cells #[.string (bs l), .string (bs m)] 25)).heap[w.heap.size]? = some (.cells #[.string (bs l), .string (bs m)] 25) := by
  show (w.heap.push _)[w.heap.size]? = _
  simp

/-- the numerator and the denominator of a right number -/
theorem cutr_any (a : Rat) (ha : fitsR a) (w : World) :
    Calls Tryz.prog 72 #[.string (rt a)] w fun e w' => e = .returned (.tuple #[.string (tx a.num), .string (tx (a.den : Int)), .bool (decide (a.den ≠ 1))]) ∧ Quiet w w' := by
  have := cut_any (rtl a) (by have := rtl_len ha; omega) w
  rw [spl_rtl] at this
  exact this

/-- an operation's result, if its numbers are not too long -/
def resT (ok : Prop) [Decidable ok] (r : Rat) : ByteArray := if ok then rt r else ⟨#[]⟩
def resE (ok : Prop) [Decidable ok] : Int := if ok then 0 else 11
theorem resT_pos {ok : Prop} [Decidable ok] (h : ok) (r : Rat) : resT ok r = rt r := if_pos h
theorem resE_pos {ok : Prop} [Decidable ok] (h : ok) : resE ok = 0 := if_pos h
theorem resT_neg {ok : Prop} [Decidable ok] (h : ¬ ok) (r : Rat) : resT ok r = ⟨#[]⟩ := if_neg h
theorem resE_neg {ok : Prop} [Decidable ok] (h : ¬ ok) : resE ok = 11 := if_neg h

/-- two steps one after the other -/
theorem stp2_ok {x y : Int} (hx : fits x) (hy : fits y) : stp (stp 0 x).2 y = (y, 0) := by rw [stp_ok hx, stp_ok hy]
theorem stp2_bad {x y : Int} (h : ¬ (fits x ∧ fits y)) : (stp (stp 0 x).2 y).2 = 11 := by
  by_cases hx : fits x
  · rw [stp_ok hx]
    rw [stp_bad fun hy => h ⟨hx, hy⟩]
  · rw [stp_bad hx, stp_err (by decide)]

end Go.Proofs.YtgmegfcjbnfnaaaGreatDoor

/- Walks over ratio: the closures of Mul and Div. -/
namespace Go.Proofs.YtgmegfcjbnfnaaaGreatDoor
open Go.RowKit Wide Numer
open Go.Lib (decDigits itoa nDigits)

theorem int_head (n m : Int) (w : World) : (w.alloc (.cells #[.string (tx n), .string (tx m)] 84)).heap[w.heap.size]? = some (.cells #[.string (tx n), .string (tx m)] 84) := by
  show (w.heap.push _)[w.heap.size]? = _
  simp

set_option maxHeartbeats 1000000 in
set_option maxRecDepth 100000 in
theorem fn_mul_any {w0 : World} (hT : Tab w0) (b : Nat) (n p m q : Int) (hn : fits n) (hp : fits p) (hm : fits m) (hq : fits q) (w : World) (h : SumsAt w0 b 0 w) :
    Calls Tryz.prog 119 #[.pointer (some ⟨b, 0, none⟩), .string (tx n), .string (tx p), .string (tx m), .string (tx q)] w fun r w' =>
      r = .returned (.tuple #[.string (tx (stp 0 (n * m)).1), .string (tx (stp (stp 0 (n * m)).2 (p * q)).1)]) ∧ SumsAt w0 b (stp (stp 0 (n * m)).2 (p * q)).2 w' ∧ Own b w w' := by
  have k0 : Kept w (w.alloc (.cells #[.string (tx n), .string (tx m)] 84)) := (Kept.refl w).alloc _
  have M1 := smul_any hT b w.heap.size 0 n m hn hm _ (h.keep k0) (by have := h.2.2.lt; omega) (int_head n m w)
  go_enter Tryz.func119, Tryz.ntmps119
  go_wp2_with fail
  refine M1.mono ?_
  rintro r w1 ⟨rfl, h1, o1⟩
  have o1 := (k0.own1 b).trans o1
  have k1 : Kept w1 (w1.alloc (.cells #[.string (tx p), .string (tx q)] 84)) := (Kept.refl w1).alloc _
  have M2 := smul_any hT b w1.heap.size _ p q hp hq _ (h1.keep k1) (by have := h1.2.2.lt; omega) (int_head p q w1)
  clear M1 k0
  go_wp2_with fail
  refine M2.mono ?_
  rintro r w2 ⟨rfl, h2, o2⟩
  go_wp2
  go_returns
  exact ⟨rfl, h2, o1.trans ((k1.own1 b).trans o2)⟩

set_option maxHeartbeats 1000000 in
set_option maxRecDepth 100000 in
theorem fn_div_any {w0 : World} (hT : Tab w0) (b : Nat) (n p m q : Int) (hn : fits n) (hp : fits p) (hm : fits m) (hq : fits q) (w : World) (h : SumsAt w0 b 0 w) :
    Calls Tryz.prog 120 #[.pointer (some ⟨b, 0, none⟩), .string (tx n), .string (tx p), .string (tx m), .string (tx q)] w fun r w' =>
      r = .returned (.tuple #[.string (tx (stp 0 (n * q)).1), .string (tx (stp (stp 0 (n * q)).2 (p * m)).1)]) ∧ SumsAt w0 b (stp (stp 0 (n * q)).2 (p * m)).2 w' ∧ Own b w w' := by
  have k0 : Kept w (w.alloc (.cells #[.string (tx n), .string (tx q)] 84)) := (Kept.refl w).alloc _
  have M1 := smul_any hT b w.heap.size 0 n q hn hq _ (h.keep k0) (by have := h.2.2.lt; omega) (int_head n q w)
  go_enter Tryz.func120, Tryz.ntmps120
  go_wp2_with fail
  refine M1.mono ?_
  rintro r w1 ⟨rfl, h1, o1⟩
  have o1 := (k0.own1 b).trans o1
  have k1 : Kept w1 (w1.alloc (.cells #[.string (tx p), .string (tx m)] 84)) := (Kept.refl w1).alloc _
  have M2 := smul_any hT b w1.heap.size _ p m hp hm _ (h1.keep k1) (by have := h1.2.2.lt; omega) (int_head p m w1)
  clear M1 k0
  go_wp2_with fail
  refine M2.mono ?_
  rintro r w2 ⟨rfl, h2, o2⟩
  go_wp2
  go_returns
  exact ⟨rfl, h2, o1.trans ((k1.own1 b).trans o2)⟩

/-- the products of an operation: the numerator, and the denominator behind it -/
def Outs (w0 : World) (b : Nat) (w : World) (X Y : Int) (r : Ending) (w' : World) : Prop :=
  ∃ x y e, r = .returned (.tuple #[.string (tx x), .string (tx y)]) ∧ SumsAt w0 b e w' ∧ Own b w w' ∧ ((fits X ∧ fits Y ∧ x = X ∧ y = Y ∧ e = 0) ∨ (¬ (fits X ∧ fits Y) ∧ e = 11))
theorem Outs.of {w0 : World} {b : Nat} {w : World} {X Y : Int} {r : Ending} {w' : World}
    (h : r = .returned (.tuple #[.string (tx (stp 0 X).1), .string (tx (stp (stp 0 X).2 Y).1)]) ∧ SumsAt w0 b (stp (stp 0 X).2 Y).2 w' ∧ Own b w w') : Outs w0 b w X Y r w' := by
  by_cases hf : fits X ∧ fits Y
  · rw [stp2_ok hf.1 hf.2, stp_ok hf.1] at h
    exact ⟨X, Y, 0, h.1, h.2.1, h.2.2, .inl ⟨hf.1, hf.2, rfl, rfl, rfl⟩⟩
  · rw [stp2_bad hf] at h
    exact ⟨_, _, 11, h.1, h.2.1, h.2.2, .inr ⟨hf, rfl⟩⟩

end Go.Proofs.YtgmegfcjbnfnaaaGreatDoor

/- Walks over ratio: made, for whatever function value. -/
namespace Go.Proofs.YtgmegfcjbnfnaaaGreatDoor
open Go.RowKit Wide Numer
open Go.Lib (decDigits itoa nDigits)

set_option maxHeartbeats 2000000 in
set_option maxRecDepth 100000 in
theorem made_any (f : Nat) (a b : Rat) (ha : fitsR a) (hb : fitsR b) (X Y : Int) (hY0 : Y ≠ 0) (w : World) (hT : Tab w)
    (eg : ∀ args w, (callFunc f args).run Tryz.prog w = .ok (.enter f args) w)
    (F : ∀ w1, Kept w w1 → Calls Tryz.prog f #[.pointer (some ⟨w1.heap.size, 0, none⟩), .string (tx a.num), .string (tx (a.den : Int)), .string (tx b.num), .string (tx (b.den : Int))] (w1.alloc (.cells #[.int .i64 0] 92)) fun r w' => Outs w w1.heap.size (w1.alloc (.cells #[.int .i64 0] 92)) X Y r w') :
    Calls Tryz.prog 118 #[.string (rt a), .string (rt b), .func (.func f) #[] #[]] w fun r w' =>
      r = .returned (.tuple #[.string (resT (fits X ∧ fits Y) (Rat.divInt X Y)), .int .i64 (resE (fits X ∧ fits Y))]) ∧ Kept w w' := by
  have C1 := rchecks2_any (rtl a) (rtl b) (by have := rtl_len ha; omega) (by have := rtl_len hb; omega) w.heap.size _ (hT.keep ((Kept.refl w).alloc _)) (rhead _ _ w)
  rw [chkR2_zero ha hb] at C1
  have P1 := fun w => cutr_any a ha w
  have P2 := fun w => cutr_any b hb w
  go_enter Tryz.func118, Tryz.ntmps118
  go_wp2_with fail
  refine C1.mono ?_
  rintro r w1 ⟨rfl, k1⟩
  have k1 := ((Kept.refl w).alloc _).trans k1
  clear C1
  go_wp2_with fail
  refine (P1 w1).mono ?_
  rintro r w2 ⟨rfl, q2⟩
  have k2 := k1.trans q2.kept
  go_wp2_with fail
  refine (P2 w2).mono ?_
  rintro r w3 ⟨rfl, q3⟩
  have k3 := k2.trans q3.kept
  have FF := F w3 k3
  clear F P1 P2 k1 k2 q2 q3
  go_wp2_with fail
  refine FF.mono ?_
  rintro r w4 ⟨x, y, e, rfl, h4, o4, hxy⟩
  have k4 : Kept w w4 := h4.2.1
  clear FF o4 k3
  have c4 := h4.2.2.cell
  rcases hxy with ⟨fx, fy, rfl, rfl, rfl⟩ | ⟨hn, rfl⟩
  · have hd := tx_is0 y
    rw [show decide (y = 0) = false by simp [hY0]] at hd
    have L := lowest_any hT _ x y fx fy hY0 w4 h4
    have R1 : Hid (resT (fits x ∧ fits y) (Rat.divInt x y) = rt (Rat.divInt x y)) := resT_pos ⟨fx, fy⟩ _
    have R2 : Hid (resE (fits x ∧ fits y) = 0) := resE_pos ⟨fx, fy⟩
    go_wp2_with fail
    refine L.mono ?_
    rintro r w5 ⟨rfl, h5, o5⟩
    clear L
    have c5 := h5.2.2.cell
    have k5 := h5.2.1
    go_wp2_with fail
    go_quiet (fail)
    go_wp2
    go_returns
    exact ⟨by rw [R1.out, R2.out]; rfl, k5.drewN _⟩
  · have R1 : Hid (resT (fits X ∧ fits Y) (Rat.divInt X Y) = ⟨#[]⟩) := resT_neg hn _
    have R2 : Hid (resE (fits X ∧ fits Y) = 11) := resE_neg hn
    clear hn
    go_wp2_with fail
    go_quiet (fail)
    go_wp2
    go_returns
    exact ⟨by rw [R1.out, R2.out]; rfl, k4.drewN _⟩

end Go.Proofs.YtgmegfcjbnfnaaaGreatDoor

/- Walks over ratio: Mul, Div, Compare, Make, Of, Whole. -/
namespace Go.Proofs.YtgmegfcjbnfnaaaGreatDoor
open Go.RowKit Wide Numer
open Go.Lib (decDigits itoa nDigits)

theorem made_bad (f : Nat) (l m : List UInt8) (hl : l.length ≤ 100000000000000) (hm : m.length ≤ 100000000000000) (hb : chkR2 l m ≠ 0) (w : World) (hT : Tab w) :
    Calls Tryz.prog 118 #[.string (bs l), .string (bs m), .func (.func f) #[] #[]] w fun r w' =>
      r = .returned (.tuple #[.string ⟨#[]⟩, .int .i64 (chkR2 l m)]) ∧ Kept w w' := by
  have C1 := rchecks2_any l m hl hm w.heap.size _ (hT.keep ((Kept.refl w).alloc _)) (rhead _ _ w)
  generalize chkR2 l m = e at *
  go_enter Tryz.func118, Tryz.ntmps118
  go_wp2_with fail
  refine C1.mono ?_
  rintro r w1 ⟨rfl, k1⟩
  have k1 := ((Kept.refl w).alloc _).trans k1
  clear C1
  go_wp2
  go_returns
  exact ⟨rfl, k1⟩

theorem mul_divInt (a b : Rat) : Rat.divInt (a.num * b.num) ((a.den : Int) * (b.den : Int)) = a * b := by
  conv => rhs; rw [← Rat.num_divInt_den a, ← Rat.num_divInt_den b]
  rw [Rat.divInt_mul_divInt]
theorem div_divInt (a b : Rat) : Rat.divInt (a.num * (b.den : Int)) ((a.den : Int) * b.num) = a / b := by
  conv => rhs; rw [← Rat.num_divInt_den a, ← Rat.num_divInt_den b]
  rw [Rat.div_def, Rat.inv_divInt, Rat.divInt_mul_divInt]
theorem den_ne (a : Rat) : (a.den : Int) ≠ 0 := by have := a.den_nz; omega

theorem rmul_any (a b : Rat) (ha : fitsR a) (hb : fitsR b) (w : World) (hT : Tab w) :
    Calls Tryz.prog 85 #[.string (rt a), .string (rt b)] w fun r w' =>
      r = .returned (.tuple #[.string (resT (fits (a.num * b.num) ∧ fits ((a.den : Int) * (b.den : Int))) (a * b)), .int .i64 (resE (fits (a.num * b.num) ∧ fits ((a.den : Int) * (b.den : Int))))]) ∧ Kept w w' := by
  have M := made_any 119 a b ha hb (a.num * b.num) ((a.den : Int) * (b.den : Int)) (Int.mul_ne_zero (den_ne a) (den_ne b)) w hT (enters_of Tryz.func119 (by kernel_rfl) rfl)
    fun w1 k1 => (fn_mul_any hT w1.heap.size _ _ _ _ ha.1 ha.2 hb.1 hb.2 _ (SumsAt.new k1)).mono fun r w' h => Outs.of h
  rw [mul_divInt] at M
  go_enter Tryz.func85, Tryz.ntmps85
  go_wp2_with fail
  refine M.mono ?_
  rintro r w1 ⟨rfl, k1⟩
  go_wp2
  go_returns
  exact ⟨rfl, k1⟩
theorem rmul_bad (l m : List UInt8) (hl : l.length ≤ 100000000000000) (hm : m.length ≤ 100000000000000) (hb : chkR2 l m ≠ 0) (w : World) (hT : Tab w) :
    Calls Tryz.prog 85 #[.string (bs l), .string (bs m)] w fun r w' =>
      r = .returned (.tuple #[.string ⟨#[]⟩, .int .i64 (chkR2 l m)]) ∧ Kept w w' := by
  have M := made_bad 119 l m hl hm hb w hT
  go_enter Tryz.func85, Tryz.ntmps85
  go_wp2_with fail
  refine M.mono ?_
  rintro r w1 ⟨rfl, k1⟩
  go_wp2
  go_returns
  exact ⟨rfl, k1⟩

theorem rt_zero (b : Rat) : ((rt b).toList == [48]) = decide (b = 0) := by
  have h0 : rt 0 = ⟨#[48]⟩ := by
    show bs (if (1 : Nat) = 1 then itoa 0 else _) = _
    rw [if_pos rfl]; exact tx_zero
  rw [Bool.eq_iff_iff, beq_iff_eq, decide_eq_true_iff]
  constructor
  · intro h
    apply rt_inj
    rw [h0, bs_of (rt b)]
    rw [← bs_toList (rt b).data.toList, ← bs_of, h]; rfl
  · intro h
    rw [h, h0]; exact bs_toList [48]

theorem rdiv_zero (a : Rat) (ha : fitsR a) (w : World) (hT : Tab w) :
    Calls Tryz.prog 86 #[.string (rt a), .string (rt 0)] w fun r w' =>
      r = .returned (.tuple #[.string ⟨#[]⟩, .int .i64 10]) ∧ Kept w w' := by
  have h0 : fitsR 0 := ⟨fits_zero, fits_one⟩
  have C1 := rchecks2_any (rtl a) (rtl 0) (by have := rtl_len ha; omega) (by have := rtl_len h0; omega) w.heap.size _ (hT.keep ((Kept.refl w).alloc _)) (rhead _ _ w)
  rw [chkR2_zero ha h0] at C1
  have z := rt_zero 0
  rw [show decide ((0 : Rat) = 0) = true from rfl] at z
  have C1 : Calls Tryz.prog 71 _ (w.alloc (.cells #[.string (rt a), .string (rt 0)] 25)) _ := C1
  generalize rt 0 = t at *
  go_enter Tryz.func86, Tryz.ntmps86
  go_wp2_with fail
  refine C1.mono ?_
  rintro r w1 ⟨rfl, k1⟩
  have k1 := ((Kept.refl w).alloc _).trans k1
  clear C1
  go_wp2
  go_returns
  exact ⟨rfl, k1⟩
theorem rdiv_any (a b : Rat) (ha : fitsR a) (hb : fitsR b) (hb0 : b ≠ 0) (w : World) (hT : Tab w) :
    Calls Tryz.prog 86 #[.string (rt a), .string (rt b)] w fun r w' =>
      r = .returned (.tuple #[.string (resT (fits (a.num * (b.den : Int)) ∧ fits ((a.den : Int) * b.num)) (a / b)), .int .i64 (resE (fits (a.num * (b.den : Int)) ∧ fits ((a.den : Int) * b.num)))]) ∧ Kept w w' := by
  have C1 := rchecks2_any (rtl a) (rtl b) (by have := rtl_len ha; omega) (by have := rtl_len hb; omega) w.heap.size _ (hT.keep ((Kept.refl w).alloc _)) (rhead _ _ w)
  rw [chkR2_zero ha hb] at C1
  have M := fun w hT => made_any 120 a b ha hb (a.num * (b.den : Int)) ((a.den : Int) * b.num) (Int.mul_ne_zero (den_ne a) (by rw [Ne, Rat.num_eq_zero]; exact hb0)) w hT (enters_of Tryz.func120 (by kernel_rfl) rfl)
    fun w1 k1 => (fn_div_any hT w1.heap.size _ _ _ _ ha.1 ha.2 hb.1 hb.2 _ (SumsAt.new k1)).mono fun r w' h => Outs.of h
  rw [div_divInt] at M
  have z := rt_zero b
  rw [show decide (b = 0) = false by simp [hb0]] at z
  go_enter Tryz.func86, Tryz.ntmps86
  go_wp2_with fail
  refine C1.mono ?_
  rintro r w1 ⟨rfl, k1⟩
  have k1 := ((Kept.refl w).alloc _).trans k1
  clear C1
  go_wp2_with fail
  refine (M w1 (hT.keep k1)).mono ?_
  rintro r w2 ⟨rfl, k2⟩
  clear M
  go_wp2
  go_returns
  exact ⟨rfl, k1.trans k2⟩
theorem rdiv_bad (l m : List UInt8) (hl : l.length ≤ 100000000000000) (hm : m.length ≤ 100000000000000) (hb : chkR2 l m ≠ 0) (w : World) (hT : Tab w) :
    Calls Tryz.prog 86 #[.string (bs l), .string (bs m)] w fun r w' =>
      r = .returned (.tuple #[.string ⟨#[]⟩, .int .i64 (chkR2 l m)]) ∧ Kept w w' := by
  have C1 := rchecks2_any l m hl hm w.heap.size _ (hT.keep ((Kept.refl w).alloc _)) (rhead _ _ w)
  generalize chkR2 l m = e at *
  go_enter Tryz.func86, Tryz.ntmps86
  go_wp2_with fail
  refine C1.mono ?_
  rintro r w1 ⟨rfl, k1⟩
  have k1 := ((Kept.refl w).alloc _).trans k1
  clear C1
  go_wp2
  go_returns
  exact ⟨rfl, k1⟩

end Go.Proofs.YtgmegfcjbnfnaaaGreatDoor

/- Walks over ratio: Compare, Make, Of, Whole. -/
namespace Go.Proofs.YtgmegfcjbnfnaaaGreatDoor
open Go.RowKit Wide Numer
open Go.Lib (decDigits itoa nDigits)

/-- the order of two numbers -/
def rsgn (a b : Rat) : Int := zsgn (a.num * (b.den : Int) - b.num * (a.den : Int))
/-- a comparison's result, if its numbers are not too long -/
def cmpV (ok : Prop) [Decidable ok] (v : Int) : Int := if ok then v else 0

set_option maxHeartbeats 2000000 in
set_option maxRecDepth 100000 in
theorem rcompare_any (a b : Rat) (ha : fitsR a) (hb : fitsR b) (w : World) (hT : Tab w) :
    Calls Tryz.prog 40 #[.string (rt a), .string (rt b)] w fun r w' =>
      r = .returned (.tuple #[.int .i64 (cmpV (fits (a.num * (b.den : Int)) ∧ fits (b.num * (a.den : Int))) (rsgn a b)), .int .i64 (resE (fits (a.num * (b.den : Int)) ∧ fits (b.num * (a.den : Int))))]) ∧ Kept w w' := by
  have C1 := rchecks2_any (rtl a) (rtl b) (by have := rtl_len ha; omega) (by have := rtl_len hb; omega) w.heap.size _ (hT.keep ((Kept.refl w).alloc _)) (rhead _ _ w)
  rw [chkR2_zero ha hb] at C1
  have P1 := fun w => cutr_any a ha w
  have P2 := fun w => cutr_any b hb w
  have hs : Hid (rsgn a b = zsgn (a.num * (b.den : Int) - b.num * (a.den : Int))) := rfl
  obtain ⟨fn, fp⟩ := ha
  obtain ⟨fm, fq⟩ := hb
  generalize rsgn a b = sg at *
  generalize decide (a.den ≠ 1) = d1 at *
  generalize decide (b.den ≠ 1) = d2 at *
  generalize a.num = n at *
  generalize (a.den : Int) = p at *
  generalize b.num = m at *
  generalize (b.den : Int) = q at *
  obtain ⟨x, y, e1, e, hx, hy, hxy⟩ : ∃ x y e1 e, stp 0 (n * q) = (x, e1) ∧ stp e1 (m * p) = (y, e) ∧
      Hid (((fits (n * q) ∧ fits (m * p)) ∧ x = n * q ∧ y = m * p ∧ e = 0) ∨ (¬ (fits (n * q) ∧ fits (m * p)) ∧ e = 11)) := by
    refine ⟨(stp 0 (n * q)).1, (stp (stp 0 (n * q)).2 (m * p)).1, (stp 0 (n * q)).2, (stp (stp 0 (n * q)).2 (m * p)).2, rfl, rfl, ?_⟩
    by_cases hf : fits (n * q) ∧ fits (m * p)
    · exact .inl ⟨hf, by rw [stp_ok hf.1], by rw [stp2_ok hf.1 hf.2], by rw [stp2_ok hf.1 hf.2]⟩
    · exact .inr ⟨hf, stp2_bad hf⟩
  have r1 : Hid ((fits (n * q) ∧ fits (m * p)) → cmpV (fits (n * q) ∧ fits (m * p)) sg = sg ∧ resE (fits (n * q) ∧ fits (m * p)) = 0) := fun h => ⟨if_pos h, if_pos h⟩
  have r2 : Hid (¬ (fits (n * q) ∧ fits (m * p)) → cmpV (fits (n * q) ∧ fits (m * p)) sg = 0 ∧ resE (fits (n * q) ∧ fits (m * p)) = 11) := fun h => ⟨if_neg h, if_neg h⟩
  generalize cmpV (fits (n * q) ∧ fits (m * p)) sg = cv at *
  generalize resE (fits (n * q) ∧ fits (m * p)) = ce at *
  have N1 := fun (b g : Nat) (w1 : World) (h : SumsAt w b 0 w1) (hg : g ≠ b) hc => smul_any hT b g 0 n q fn fq w1 h hg hc
  have N2 := fun (b g : Nat) (w1 : World) (h : SumsAt w b e1 w1) (hg : g ≠ b) hc => smul_any hT b g e1 m p fm fp w1 h hg hc
  rw [hx] at N1
  rw [hy] at N2
  dsimp only at N1 N2
  have HX := Lib.hid hx
  have HY := Lib.hid hy
  clear hx hy
  go_enter Tryz.func40, Tryz.ntmps40
  go_wp2_with fail
  refine C1.mono ?_
  rintro r w1 ⟨rfl, k1⟩
  have k1 := ((Kept.refl w).alloc _).trans k1
  clear C1
  go_wp2_with fail
  refine (P1 w1).mono ?_
  rintro r w2 ⟨rfl, q2⟩
  have k2 := k1.trans q2.kept
  go_wp2_with fail
  refine (P2 w2).mono ?_
  rintro r w3 ⟨rfl, q3⟩
  have k3 := k2.trans q3.kept
  have s3 := SumsAt.new k3
  clear P1 P2 k1 k2 q2 q3
  have u4 : Kept (w3.alloc (.cells #[.int .i64 0] 92)) ((w3.alloc (.cells #[.int .i64 0] 92)).alloc (.cells #[.string (tx n), .string (tx q)] 84)) := (Kept.refl _).alloc _
  have hd1 := int_head n q (w3.alloc (.cells #[.int .i64 0] 92))
  rw [World.size_alloc] at hd1
  have M1 := N1 w3.heap.size (w3.heap.size + 1) _ (s3.keep u4) (by omega) hd1
  go_wp2_with fail
  refine M1.mono ?_
  rintro r w5 ⟨rfl, s5, o5⟩
  have u5 : Kept w5 (w5.alloc (.cells #[.string (tx m), .string (tx p)] 84)) := (Kept.refl _).alloc _
  have M2 := N2 w3.heap.size _ _ (s5.keep u5) (by have := s5.2.2.lt; omega) (int_head m p _)
  clear M1 u4 s3 o5 N1 hd1
  go_wp2_with fail
  refine M2.mono ?_
  rintro r w6 ⟨rfl, s6, o6⟩
  clear M2 u5 s5 o6 N2
  have c6 := s6.2.2.cell
  have k6 := s6.2.1
  by_cases he : e = 0
  · have hh : Hid ((fits (n * q) ∧ fits (m * p)) ∧ x = n * q ∧ y = m * p) := by
      rcases hxy.out with ⟨h1, h2, h3, _⟩ | ⟨_, h2⟩
      · exact ⟨h1, h2, h3⟩
      · omega
    have r1 : Hid (cv = sg ∧ ce = 0) := r1.out hh.out.1
    have fx : fits x := by rw [hh.out.2.1]; exact hh.out.1.1
    have fy : fits y := by rw [hh.out.2.2]; exact hh.out.1.2
    have C := compare_any x y fx fy w6
    rw [show zsgn (x - y) = sg by rw [hs.out, hh.out.2.1, hh.out.2.2]] at C
    subst he
    go_wp2_with fail
    refine C.mono ?_
    rintro r w7 ⟨rfl, k7⟩
    clear C
    go_wp2
    go_returns
    exact ⟨by rw [r1.out.1, r1.out.2]; rfl, k6.trans k7⟩
  · have hh : Hid (cv = 0 ∧ ce = 11 ∧ e = 11) := by
      rcases hxy.out with ⟨_, _, _, h2⟩ | ⟨h1, h2⟩
      · omega
      · exact ⟨(r2.out h1).1, (r2.out h1).2, h2⟩
    have e11 : e = 11 := hh.out.2.2
    subst e11
    go_wp2_with fail
    go_quiet (fail)
    go_wp2
    go_returns
    exact ⟨by rw [hh.out.1, hh.out.2.1]; rfl, k6.drewN _⟩

theorem rcompare_bad (l m : List UInt8) (hl : l.length ≤ 100000000000000) (hm : m.length ≤ 100000000000000) (hb : chkR2 l m ≠ 0) (w : World) (hT : Tab w) :
    Calls Tryz.prog 40 #[.string (bs l), .string (bs m)] w fun r w' =>
      r = .returned (.tuple #[.int .i64 0, .int .i64 (chkR2 l m)]) ∧ Kept w w' := by
  have C1 := rchecks2_any l m hl hm w.heap.size _ (hT.keep ((Kept.refl w).alloc _)) (rhead _ _ w)
  generalize chkR2 l m = e at *
  go_enter Tryz.func40, Tryz.ntmps40
  go_wp2_with fail
  refine C1.mono ?_
  rintro r w1 ⟨rfl, k1⟩
  have k1 := ((Kept.refl w).alloc _).trans k1
  clear C1
  go_wp2
  go_returns
  exact ⟨rfl, k1⟩

theorem rt_int (n : Int) : rt (n : Rat) = tx n := by
  show bs (if (1 : Nat) = 1 then itoa n else _) = _
  rw [if_pos rfl]; rfl
theorem whole_any (n : Int) (h0 : -9223372036854775808 ≤ n) (h1 : n ≤ 9223372036854775807) (w : World) (hT : Tab w) :
    Calls Tryz.prog 53 #[.int .i64 n] w fun r w' => r = .returned (.string (rt (n : Rat))) ∧ Kept w w' := by
  rw [rt_int]
  go_enter Tryz.func53, Tryz.ntmps53
  go_wp2_with fail
  refine (wof_any n h0 h1 w hT).mono ?_
  rintro r w1 ⟨rfl, k1⟩
  go_wp2
  go_returns
  exact ⟨rfl, k1⟩

def MakeAt (w : World) (k : Nat) (i : Value) (wr : World) : Prop := ∃ j : Nat, k + j = 2 ∧ i = .int .i64 j ∧ Kept w wr

set_option maxHeartbeats 2000000 in
set_option maxRecDepth 100000 in
theorem make_any (n m : Int) (hn : fits n) (hm : fits m) (hm0 : m ≠ 0) (w : World) (hT : Tab w) :
    Calls Tryz.prog 81 #[.string (tx n), .string (tx m)] w fun r w' => r = .returned (.tuple #[.string (rt (Rat.divInt n m)), .int .i64 0]) ∧ Kept w w' := by
  obtain ⟨c0, c1⟩ := two_cells (two_head n m w)
  have z0 := tx_is0 m
  rw [show decide (m = 0) = false by simp [hm0]] at z0
  have L := fun b w h => lowest_any hT b n m hn hm hm0 w h
  have K1 : ∀ w, Calls Tryz.prog 114 #[.string (tx n)] w fun e w' => e = .returned (.int .i64 0) ∧ Kept w w' := fun w => by
    have := check_any (itoa n) (by have := fits_len hn; omega) w
    rw [fits_chk hn] at this; exact this
  have K2 : ∀ w, Calls Tryz.prog 114 #[.string (tx m)] w fun e w' => e = .returned (.int .i64 0) ∧ Kept w w' := fun w => by
    have := check_any (itoa m) (by have := fits_len hm; omega) w
    rw [fits_chk hm] at this; exact this
  have k0 : Kept w (w.alloc (.cells #[.string (tx n), .string (tx m)] 84)) := (Kept.refl w).alloc _
  generalize rt (Rat.divInt n m) = out at *
  go_enter Tryz.func81, Tryz.ntmps81
  go_wp2_with fail
  generalize hW : w.alloc (.cells #[.string (tx n), .string (tx m)] 84) = w0 at *
  clear hW
  go_loopg [15] 2 (fun k i wr => MakeAt w0 k i wr)
  case atStart => exact ⟨0, rfl, rfl, Kept.refl w0⟩
  case round =>
    obtain ⟨j, hj, rfl, hk⟩ := hrel
    have hj3 : j = 0 ∨ j = 1 ∨ j = 2 := by omega
    rcases hj3 with rfl | rfl | rfl
    · have d0 := hk.cell c0
      clear c0 c1 L K2 z0
      go_wp2_with fail
      refine (K1 wr).mono ?_
      rintro r w1 ⟨rfl, k1⟩
      clear K1
      go_wp2
      go_roundg 1
      case measure => omega
      case rel => exact ⟨1, by omega, rfl, hk.trans k1⟩
    · have d0 := hk.cell c1
      clear c0 c1 L K1 z0
      go_wp2_with fail
      refine (K2 wr).mono ?_
      rintro r w1 ⟨rfl, k1⟩
      clear K2
      go_wp2
      go_roundg 0
      case measure => omega
      case rel => exact ⟨2, by omega, rfl, hk.trans k1⟩
    · have s1 := SumsAt.new (k0.trans hk)
      have L1 := L _ _ s1
      clear c0 c1 L K1 K2
      go_wp2_with fail
      refine L1.mono ?_
      rintro r w1 ⟨rfl, s2, o2⟩
      clear L1
      have c2 := s2.2.2.cell
      have k2 := s2.2.1
      go_wp2
      go_returns
      exact ⟨rfl, k2⟩

theorem rof_any (n m : Int) (h0 : -9223372036854775808 ≤ n) (h1 : n ≤ 9223372036854775807) (h2 : -9223372036854775808 ≤ m) (h3 : m ≤ 9223372036854775807) (hm0 : m ≠ 0) (w : World) (hT : Tab w) :
    Calls Tryz.prog 45 #[.int .i64 n, .int .i64 m] w fun r w' => r = .returned (.tuple #[.string (rt (Rat.divInt n m)), .int .i64 0]) ∧ Kept w w' := by
  have fn : fits n := fits_of_lt (k := 20) (by omega) (by omega) (by omega)
  have fm : fits m := fits_of_lt (k := 20) (by omega) (by omega) (by omega)
  go_enter Tryz.func45, Tryz.ntmps45
  go_wp2_with fail
  refine (wof_any n h0 h1 w hT).mono ?_
  rintro r w1 ⟨rfl, k1⟩
  go_wp2_with fail
  refine (wof_any m h2 h3 w1 (hT.keep k1)).mono ?_
  rintro r w2 ⟨rfl, k2⟩
  have k2 := k1.trans k2
  go_wp2_with fail
  refine (make_any n m fn fm hm0 w2 (hT.keep k2)).mono ?_
  rintro r w3 ⟨rfl, k3⟩
  go_wp2
  go_returns
  exact ⟨rfl, k2.trans k3⟩

end Go.Proofs.YtgmegfcjbnfnaaaGreatDoor
