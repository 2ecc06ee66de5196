/- Add, Mul, Sub, Quo, Gcd, Compare of whole; texts of fractions. -/
import Derived.Test.YtgmegfcjbnfnaaaGreatDoorM2

/- Walks over whole: Add, Sub, Mul. -/
namespace Go.Proofs.YtgmegfcjbnfnaaaGreatDoor
open Go.RowKit Wide Numer
open Go.Lib (decDigits itoa nDigits)

theorem two_cells {w : World} {b : Nat} {x y : Value} {T : TypeId} (h : w.heap[b]? = some (.cells #[x, y] T)) : w.cell? ⟨b, 0, none⟩ = some x ∧ w.cell? ⟨b, 1, none⟩ = some y := by
  simp [World.cell?, h]
/-- both are right -/
theorem all2_any (n m : Int) (hn : fits n) (hm : fits m) (g : Nat) (w : World) (h : w.heap[g]? = some (.cells #[.string (tx n), .string (tx m)] 84)) :
    Calls Tryz.prog 108 #[.slice (some ⟨g, 0, none⟩) 2 2] w fun e w' => e = .returned (.int .i64 0) ∧ Kept w w' := by
  obtain ⟨c0, c1⟩ := two_cells h
  refine (all_any g [itoa n, itoa m] 2 w (by simp) ?_ ?_).mono fun e w' ⟨he, hk⟩ => ⟨?_, hk⟩
  · intro s hs
    simp only [List.mem_cons, List.not_mem_nil, or_false] at hs
    have h1 := fits_len hn
    have h2 := fits_len hm
    rcases hs with rfl | rfl <;> omega
  · intro i s hi
    rcases i with _ | _ | i
    · simp at hi; subst hi; exact c0
    · simp at hi; subst hi; exact c1
    · simp at hi
  · rw [he, chks, fits_chk hn, if_pos rfl, chks, fits_chk hm, if_pos rfl]; rfl
theorem sum2_any (n m : Int) (hn : fits n) (hm : fits m) (g : Nat) (w : World) (h : w.heap[g]? = some (.cells #[.string (tx n), .string (tx m)] 84)) (hT : Tab w) :
    Calls Tryz.prog 148 #[.slice (some ⟨g, 0, none⟩) 2 2] w fun e w' => e = .returned (.tuple #[.string (limT (n + m)), .int .i64 (limE (n + m))]) ∧ Kept w w' := by
  obtain ⟨c0, c1⟩ := two_cells h
  refine (sum_any g 2 [n, m] w (by simp) ?_ ?_ hT).mono fun e w' ⟨he, hk⟩ => ⟨?_, hk⟩
  · intro s hs
    simp only [List.mem_cons, List.not_mem_nil, or_false] at hs
    rcases hs with rfl | rfl <;> assumption
  · intro i s hi
    rcases i with _ | _ | i
    · simp at hi; subst hi; exact c0
    · simp at hi; subst hi; exact c1
    · simp at hi
  · rw [he, isum, isum, isum, Int.add_zero]

theorem small_fits {n : Int} (h0 : -1000000000000000000 ≤ n) (h1 : n ≤ 1000000000000000000) : fits n :=
  fits_of_lt (k := 19) (by omega) (by omega) (by omega)
theorem limT_of {n : Int} (h : fits n) : limT n = tx n := by rw [limT, if_pos h]
theorem limE_of {n : Int} (h : fits n) : limE n = 0 := by rw [limE, if_pos h]

theorem two_head (n m : Int) (w : World) : (w.alloc (.cells #[.string (tx n), .string (tx m)] 84)).heap[w.heap.size]? = some (.cells #[.string (tx n), .string (tx m)] 84) := by
  show (w.heap.push _)[w.heap.size]? = _
  simp
theorem mul_short {n m : Int} (h1 : -1000000000 < n ∧ n < 1000000000) (h2 : -1000000000 < m ∧ m < 1000000000) : n * m ≤ 1000000000000000000 ∧ -1000000000000000000 ≤ n * m := by
  have e : (n * m).natAbs = n.natAbs * m.natAbs := Int.natAbs_mul n m
  have h3 : n.natAbs * m.natAbs ≤ 1000000000 * 1000000000 := Nat.mul_le_mul (by omega) (by omega)
  omega
theorem mul_lt {u v : Nat} (hu : u < B ^ 114) (hv : v < B ^ 114) : u * v < B ^ 231 := by
  have h1 : u * v ≤ B ^ 114 * B ^ 114 := Nat.mul_le_mul (Nat.le_of_lt hu) (Nat.le_of_lt hv)
  have h2 : B ^ 114 * B ^ 114 < B ^ 231 := by decide +kernel
  omega
theorem sv_mul (n m : Int) : sv (decide (n < 0) != decide (m < 0)) (n.natAbs * m.natAbs) = n * m := by
  have h : ∀ (a b : Int), sv (decide (a < 0)) a.natAbs = a := fun a _ => sv_abs a
  have hn := h n 0
  have hm := h m 0
  by_cases h1 : n < 0 <;> by_cases h2 : m < 0 <;> simp only [h1, h2, decide_true, decide_false, sv, if_true, Bool.false_eq_true, if_false] at hn hm ⊢
  all_goals (conv => rhs; rw [← hn, ← hm])
  all_goals simp [Int.natCast_mul, Int.neg_mul, Int.mul_neg]

set_option maxHeartbeats 1000000 in
set_option maxRecDepth 100000 in
theorem add_any (n m : Int) (hn : fits n) (hm : fits m) (w : World) (hT : Tab w) :
    Calls Tryz.prog 113 #[.string (tx n), .string (tx m)] w fun e w' => e = .returned (.tuple #[.string (limT (n + m)), .int .i64 (limE (n + m))]) ∧ Kept w w' := by
  have hh := two_head n m w
  go_enter Tryz.func113, Tryz.ntmps113
  go_wp2_with fail
  refine (all2_any n m hn hm _ _ hh).mono ?_
  rintro e w1 ⟨rfl, hk1⟩
  have k1 : Kept w w1 := ((Kept.refl w).alloc _).trans hk1
  have hT1 := hT.keep k1
  clear hh hk1
  by_cases hsm : (tx n).size ≤ 9 ∧ (tx m).size ≤ 9
  · obtain ⟨h1, h2⟩ := hsm
    have b1 := short_bd (n := n) (by rw [← tx_size]; exact h1)
    have b2 := short_bd (n := m) (by rw [← tx_size]; exact h2)
    obtain ⟨b11, b12⟩ := b1
    obtain ⟨b21, b22⟩ := b2
    have hf : fits (n + m) := small_fits (by omega) (by omega)
    have HF := Lib.hid hf
    go_wp2_with fail
    refine (small_yes n m h1 h2 w1).mono ?_
    rintro e w2 ⟨rfl, hk2⟩
    go_wp2_with fail
    refine (wresult_any (n + m) (by omega) (by omega) w2 (hT1.keep hk2)).mono ?_
    rintro e w3 ⟨rfl, hk3⟩
    go_wp2
    go_returns
    exact ⟨by rw [limT_of HF.out, limE_of HF.out]; rfl, (k1.trans hk2).trans hk3⟩
  · go_wp2_with fail
    refine (small_no n m hsm w1).mono ?_
    rintro e w2 ⟨rfl, rfl⟩
    have hh := two_head n m w2
    go_wp2_with fail
    refine (sum2_any n m hn hm _ _ hh (hT1.keep ((Kept.refl w2).alloc _))).mono ?_
    rintro e w3 ⟨rfl, hk2⟩
    go_wp2
    go_returns
    exact ⟨rfl, (k1.trans ((Kept.refl w2).alloc _)).trans hk2⟩

set_option maxHeartbeats 1000000 in
set_option maxRecDepth 100000 in
theorem mul_any (n m : Int) (hn : fits n) (hm : fits m) (w : World) (hT : Tab w) :
    Calls Tryz.prog 107 #[.string (tx n), .string (tx m)] w fun e w' => e = .returned (.tuple #[.string (limT (n * m)), .int .i64 (limE (n * m))]) ∧ Kept w w' := by
  have hh := two_head n m w
  go_enter Tryz.func107, Tryz.ntmps107
  go_wp2_with fail
  refine (all2_any n m hn hm _ _ hh).mono ?_
  rintro e w1 ⟨rfl, hk1⟩
  have k1 : Kept w w1 := ((Kept.refl w).alloc _).trans hk1
  have hT1 := hT.keep k1
  clear hh hk1
  by_cases hsm : (tx n).size ≤ 9 ∧ (tx m).size ≤ 9
  · obtain ⟨h1, h2⟩ := hsm
    have b1 := short_bd (n := n) (by rw [← tx_size]; exact h1)
    have b2 := short_bd (n := m) (by rw [← tx_size]; exact h2)
    have hp := mul_short b1 b2
    obtain ⟨p1, p2⟩ := hp
    have hf : fits (n * m) := small_fits (by omega) (by omega)
    have HF := Lib.hid hf
    clear b1 b2
    go_wp2_with fail
    refine (small_yes n m h1 h2 w1).mono ?_
    rintro e w2 ⟨rfl, hk2⟩
    go_wp2_with fail
    refine (wresult_any (n * m) (by omega) (by omega) w2 (hT1.keep hk2)).mono ?_
    rintro e w3 ⟨rfl, hk3⟩
    go_wp2
    go_returns
    exact ⟨by rw [limT_of HF.out, limE_of HF.out]; rfl, (k1.trans hk2).trans hk3⟩
  · have n1 := fits_nw hn
    have m1 := fits_nw hm
    have d1 : nDigits n.natAbs ≤ 2070 := by unfold fits at hn; omega
    have d2 : nDigits m.natAbs ≤ 2070 := by unfold fits at hm; omega
    have pl : Hid (n.natAbs * m.natAbs < B ^ 231) := mul_lt (fits_lt hn) (fits_lt hm)
    have ps : Hid (sv (decide (n < 0) != decide (m < 0)) (n.natAbs * m.natAbs) = n * m) := sv_mul n m
    have p231 : nw (n.natAbs * m.natAbs) ≤ 231 := (nw_le_iff _ _).2 pl.out
    go_wp2_with fail
    refine (small_no n m hsm w1).mono ?_
    rintro e w1 ⟨rfl, rfl⟩
    go_wp2_with fail
    refine (read_any n d1 w1).mono ?_
    rintro e w2 ⟨bx, rfl, hbx, hx, hk2⟩
    go_wp2_with fail
    refine (read_any m d2 w2).mono ?_
    rintro e w3 ⟨b_y, rfl, hby, hy, hk3⟩
    go_wp2_with fail
    refine (times_any bx b_y _ _ _ _ w3 (hx.keep hk3) hy (by omega) (Nat.lt_of_lt_of_le pl.out (Nat.pow_le_pow_right B_pos (by omega)))).mono ?_
    rintro e w4 ⟨b, rfl, hb, hp, hk4⟩
    go_wp2_with fail
    refine (limited_any b _ _ w4 hp p231 (((hT1.keep hk2).keep hk3).keep hk4) _ ps.out).mono ?_
    rintro e w5 ⟨rfl, hk5⟩
    go_wp2
    go_returns
    exact ⟨rfl, (((k1.trans hk2).trans hk3).trans hk4).trans hk5⟩

set_option maxHeartbeats 1000000 in
set_option maxRecDepth 100000 in
theorem sub_any (n m : Int) (hn : fits n) (hm : fits m) (w : World) (hT : Tab w) :
    Calls Tryz.prog 181 #[.string (tx n), .string (tx m)] w fun e w' => e = .returned (.tuple #[.string (limT (n - m)), .int .i64 (limE (n - m))]) ∧ Kept w w' := by
  have hh := two_head n m w
  have hm2 : fits (-m) := by unfold fits at *; rw [Int.natAbs_neg]; exact hm
  have hd : nDigits m.natAbs ≤ 1000000 := by unfold fits at hm; omega
  go_enter Tryz.func181, Tryz.ntmps181
  go_wp2_with fail
  refine (all2_any n m hn hm _ _ hh).mono ?_
  rintro e w1 ⟨rfl, hk1⟩
  have k1 : Kept w w1 := ((Kept.refl w).alloc _).trans hk1
  have hT1 := hT.keep k1
  clear hh hk1
  go_wp2_with fail
  refine (opposite_any m hd w1).mono ?_
  rintro e w1 ⟨rfl, rfl⟩
  go_wp2_with fail
  refine (add_any n (-m) hn hm2 w1 hT1).mono ?_
  rintro e w2 ⟨rfl, hk2⟩
  go_wp2
  go_returns
  exact ⟨by rw [Int.sub_eq_add_neg]; rfl, k1.trans hk2⟩

end Go.Proofs.YtgmegfcjbnfnaaaGreatDoor

/- Walks over whole: Quo of an exact quotient. -/
namespace Go.Proofs.YtgmegfcjbnfnaaaGreatDoor
open Go.RowKit Wide Numer
open Go.Lib (decDigits itoa nDigits)

theorem IsWide.set0 {w : World} {b : Nat} {less : Bool} {n v : Nat} (h : IsWide w b less n v) (m : Bool) : IsWide (w.setCell ⟨b, 0, none⟩ (.bool m)) b m n v := by
  unfold IsWide at *
  simp [World.setCell, Array.getElem?_modify, h, cellsOf]
theorem quo_le {N m k : Int} (h : N = m * k) (hm : m ≠ 0) : k.natAbs ≤ N.natAbs := by
  rw [h, Int.natAbs_mul]
  exact Nat.le_mul_of_pos_left _ (by omega)
theorem fits_quo {N m k : Int} (h : N = m * k) (hm : m ≠ 0) (hN : fits N) : fits k := by
  unfold fits at *
  exact Nat.le_trans (nDigits_mono (quo_le h hm)) hN
theorem tx_is0b (n : Int) : ((tx n).toList == [48]) = decide (n = 0) := tx_is0 n
theorem quo_abs {N m k : Int} (h : N = m * k) (hm : m ≠ 0) : N.natAbs / m.natAbs = k.natAbs ∧ N.natAbs % m.natAbs = 0 := by
  rw [h, Int.natAbs_mul]
  exact ⟨Nat.mul_div_cancel_left _ (by omega), Nat.mul_mod_right _ _⟩
theorem quo_sv {N m k : Int} (h : N = m * k) (hm : m ≠ 0) : sv (decide (N < 0) != decide (m < 0)) k.natAbs = k := by
  rcases Int.lt_trichotomy k 0 with h0 | h0 | h0
  · have hd : (decide (N < 0) != decide (m < 0)) = true := by
      rcases Int.lt_or_gt_of_ne hm with h1 | h1
      · have : 0 < N := by rw [h]; exact Int.mul_pos_of_neg_of_neg h1 h0
        simp [h1]; omega
      · have : N < 0 := by rw [h]; exact Int.mul_neg_of_pos_of_neg h1 h0
        simp [this]; omega
    rw [hd, sv, if_pos rfl]; omega
  · subst h0
    unfold sv; split <;> rfl
  · have hd : (decide (N < 0) != decide (m < 0)) = false := by
      rcases Int.lt_or_gt_of_ne hm with h1 | h1
      · have : N < 0 := by rw [h]; exact Int.mul_neg_of_neg_of_pos h1 h0
        simp [h1, this]
      · have : 0 < N := by rw [h]; exact Int.mul_pos h1 h0
        simp; omega
    rw [hd, sv, if_neg (by simp)]; omega
theorem sv_zero (l : Bool) : sv l 0 = 0 := by unfold sv; split <;> rfl

set_option maxHeartbeats 2000000 in
set_option maxRecDepth 100000 in
theorem parted_any (N m k : Int) (hk : N = m * k) (hN : fits N) (hm : fits m) (hm0 : m ≠ 0) (w : World) (hT : Tab w) :
    Calls Tryz.prog 182 #[.string (tx N), .string (tx m)] w fun e w' => e = .returned (.tuple #[.string (tx k), .string (tx 0), .int .i64 0]) ∧ Kept w w' := by
  have hh := two_head N m w
  have z0 := tx_is0 m
  have z1 : decide (m = 0) = false := by simp [hm0]
  rw [z1] at z0
  have HK := Lib.hid hk
  clear z1 hk
  go_enter Tryz.func182, Tryz.ntmps182
  go_wp2_with fail
  refine (all2_any N m hN hm _ _ hh).mono ?_
  rintro e w1 ⟨rfl, hk1⟩
  have k1 : Kept w w1 := ((Kept.refl w).alloc _).trans hk1
  have hT1 := hT.keep k1
  clear hh hk1
  by_cases hsm : (tx N).size ≤ 9 ∧ (tx m).size ≤ 9
  · obtain ⟨h1, h2⟩ := hsm
    have b1 := short_bd (n := N) (by rw [← tx_size]; exact h1)
    have b2 := short_bd (n := m) (by rw [← tx_size]; exact h2)
    obtain ⟨b11, b12⟩ := b1
    obtain ⟨b21, b22⟩ := b2
    have hka := quo_le HK.out hm0
    have k11 : -1000000000 < k := by omega
    have k12 : k < 1000000000 := by omega
    have q1 : N.tdiv m = k := by rw [HK.out]; exact Int.mul_tdiv_cancel_left _ hm0
    have q2 : N.tmod m = 0 := by rw [HK.out]; exact Int.mul_tmod_right _ _
    clear hka
    go_wp2_with fail
    refine (small_yes N m h1 h2 w1).mono ?_
    rintro e w2 ⟨rfl, hk2⟩
    have hT2 := hT1.keep hk2
    go_wp2_with fail
    go_quiet (fail)
    go_wp2_with fail
    refine (wof_any k (by omega) (by omega) _ (by exact hT2)).mono ?_
    rintro e w3 ⟨rfl, hk3⟩
    have k3 := ((Kept.refl w2).drewN _).trans hk3
    clear hk3
    go_wp2_with fail
    refine (wof_any 0 (by omega) (by omega) w3 (hT2.keep k3)).mono ?_
    rintro e w4 ⟨rfl, hk4⟩
    go_wp2
    go_returns
    exact ⟨rfl, ((k1.trans hk2).trans k3).trans hk4⟩
  · have n1 := fits_nw hN
    have m1 := fits_nw hm
    have d1 : nDigits N.natAbs ≤ 2070 := by unfold fits at hN; omega
    have d2 : nDigits m.natAbs ≤ 2070 := by unfold fits at hm; omega
    have he := Lib.hid (quo_abs HK.out hm0)
    have es := Lib.hid (quo_sv HK.out hm0)
    have hkn : nw k.natAbs ≤ 114 := Nat.le_trans (nw_mono (quo_le HK.out hm0)) n1
    go_wp2_with fail
    refine (small_no N m hsm w1).mono ?_
    rintro e w1 ⟨rfl, rfl⟩
    go_wp2_with fail
    refine (read_any N d1 w1).mono ?_
    rintro e w2 ⟨bx, rfl, hbx, hx, hk2⟩
    go_wp2_with fail
    refine (read_any m d2 w2).mono ?_
    rintro e w3 ⟨b_y, rfl, hby, hy, hk3⟩
    have hx := hx.keep hk3
    go_wp2_with fail
    refine (divided_any bx b_y _ _ _ _ w3 hx hy (by omega) (by omega) (by omega)).mono ?_
    rintro e w4 ⟨bq, br, rfl, hbq, hbr, hne, hq, hr, hk4⟩
    rw [he.out.1] at hq
    rw [he.out.2, nw_zero] at hr
    have es := es.out
    generalize decide (N < 0) = lx at *
    generalize decide (m < 0) = ly at *
    have hx4 := hx.keep hk4
    have hy4 := hy.keep hk4
    have hT4 := ((hT1.keep hk2).keep hk3).keep hk4
    have kk : Kept w w3 := (k1.trans hk2).trans hk3
    have cx := hx4.c0
    have cy := hy4.c0
    have cq := hq.c0
    have cr := hr.c0
    have fq := hq.fz 0
    have fr := hr.fz 0
    have hxl := hx.lt
    have hyl := hy.lt
    have hq5 : IsWide ((w4.setCell ⟨bq, 0, none⟩ (.bool (lx != ly))).setCell ⟨br, 0, none⟩ (.bool lx)).drew bq (lx != ly) (nw k.natAbs) k.natAbs :=
      (hq.set0 _).kept (r := some br) (grown_drew (grown_setCell (grown_refl _ _) _ _)) (by simp; exact hne)
    have hr5 : IsWide ((w4.setCell ⟨bq, 0, none⟩ (.bool (lx != ly))).setCell ⟨br, 0, none⟩ (.bool lx)).drew br lx 0 0 :=
      (hr.kept (r := some bq) (grown_setCell (grown_refl _ _) _ _) (by simp; exact fun h => hne h.symm)).set0 _
    have g5 : Kept w3 ((w4.setCell ⟨bq, 0, none⟩ (.bool (lx != ly))).setCell ⟨br, 0, none⟩ (.bool lx)).drew :=
      ((hk4.own (grown_setCell (grown_refl _ _) _ _) hbq).own (grown_setCell (grown_refl _ _) _ _) hbr).drew
    have he := Lib.hid es
    clear hx hy hx4 hy4 hq hr es HK
    go_wp2_with fail
    go_region
    have hd : (!lx == ly) = (lx != ly) := rfl
    rw [hd]
    clear hd fq fr cx cy cq cr hxl hyl
    have kT := hT4
    generalize ((w4.setCell ⟨bq, 0, none⟩ (.bool (lx != ly))).setCell ⟨br, 0, none⟩ (.bool lx)).drew = w5 at *
    have c1 := hr5.c1
    have hT5 := ((hT1.keep hk2).keep hk3).keep g5
    go_wp2_with fail
    go_quiet (fail)
    go_wp2_with fail
    refine (text_any bq _ _ _ (by exact hq5) (by omega) (by exact hT5)).mono ?_
    rintro e w6 ⟨rfl, hk6⟩
    have k6 := ((Kept.refl w5).drewN _).trans hk6
    go_wp2_with fail
    refine (text_any br 0 lx _ (by rw [nw_zero]; exact hr5.keep k6) (by rw [nw_zero]; omega) (hT5.keep k6)).mono ?_
    rintro e w7 ⟨rfl, hk7⟩
    go_wp2
    go_returns
    exact ⟨by rw [he.out, sv_zero]; rfl, ((kk.trans g5).trans k6).trans hk7⟩

set_option maxHeartbeats 1000000 in
set_option maxRecDepth 100000 in
theorem quo_any (N m k : Int) (hk : N = m * k) (hN : fits N) (hm : fits m) (hm0 : m ≠ 0) (w : World) (hT : Tab w) :
    Calls Tryz.prog 153 #[.string (tx N), .string (tx m)] w fun e w' => e = .returned (.tuple #[.string (tx k), .int .i64 0]) ∧ Kept w w' := by
  have fk := fits_quo hk hm0 hN
  have HK := Lib.hid hk
  have hl := fits_len fk
  clear hk
  go_enter Tryz.func153, Tryz.ntmps153
  go_wp2_with fail
  refine (parted_any N m k HK.out hN hm hm0 w hT).mono ?_
  rintro e w1 ⟨rfl, hk1⟩
  go_wp2_with fail
  refine (check_any (itoa k) (by omega) w1).mono ?_
  rintro e w2 ⟨rfl, hk2⟩
  rw [fits_chk fk]
  go_wp2
  go_returns
  exact ⟨rfl, hk1.trans hk2⟩

end Go.Proofs.YtgmegfcjbnfnaaaGreatDoor

/- Walks over whole: Gcd. -/
namespace Go.Proofs.YtgmegfcjbnfnaaaGreatDoor
open Go.RowKit Wide Numer
open Go.Lib (decDigits itoa nDigits)

def GcdAt (w : World) (N m : Int) (k : Nat) (p q : Value) (wr : World) : Prop := ∃ bx b_y X Y lx ly, p = .pointer (some ⟨bx, 0, none⟩) ∧ q = .pointer (some ⟨b_y, 0, none⟩) ∧
  w.heap.size ≤ bx ∧ IsWide wr bx lx (nw X) X ∧ w.heap.size ≤ b_y ∧ IsWide wr b_y ly (nw Y) Y ∧ nw X ≤ 114 ∧ nw Y ≤ 114 ∧ Y = k ∧ Nat.gcd X Y = Int.gcd N m ∧ Kept w wr

theorem gcd_le {n m : Int} : fits n → fits m → fits (Int.gcd n m) := by
  intro hn hm
  unfold fits at *
  by_cases h : n = 0
  · subst h
    rw [Int.gcd_zero_left]; exact hm
  · have : Int.gcd n m ≤ n.natAbs := Nat.le_of_dvd (by omega) (Int.gcd_dvd_natAbs_left n m)
    exact Nat.le_trans (nDigits_mono (by rw [Int.natAbs_natCast]; exact this)) hn
theorem word_le_one {V : Nat} (h : nw V ≤ 1) : wd V 0 = V := by
  have := (nw_le_iff V 1).1 h
  rw [Nat.pow_one] at this
  unfold wd
  rw [Nat.pow_zero, Nat.div_one, Nat.mod_eq_of_lt this]

set_option maxHeartbeats 2000000 in
set_option maxRecDepth 100000 in
theorem gcd_any (N m : Int) (hN : fits N) (hm : fits m) (w : World) (hT : Tab w) :
    Calls Tryz.prog 138 #[.string (tx N), .string (tx m)] w fun e w' => e = .returned (.tuple #[.string (tx (Int.gcd N m)), .int .i64 0]) ∧ Kept w w' := by
  have hh := two_head N m w
  have n1 := fits_nw hN
  have m1 := fits_nw hm
  have d1 : nDigits N.natAbs ≤ 2070 := by unfold fits at hN; omega
  have d2 : nDigits m.natAbs ≤ 2070 := by unfold fits at hm; omega
  go_enter Tryz.func138, Tryz.ntmps138
  go_wp2_with fail
  refine (all2_any N m hN hm _ _ hh).mono ?_
  rintro e w1 ⟨rfl, hk1⟩
  have k1 : Kept w w1 := ((Kept.refl w).alloc _).trans hk1
  clear hh hk1
  go_wp2_with fail
  refine (read_any N d1 w1).mono ?_
  rintro e w2 ⟨bx, rfl, hbx, hx, hk2⟩
  go_wp2_with fail
  refine (read_any m d2 w2).mono ?_
  rintro e w3 ⟨b_y, rfl, hby, hy, hk3⟩
  have g3 : GcdAt w N m m.natAbs (.pointer (some ⟨bx, 0, none⟩)) (.pointer (some ⟨b_y, 0, none⟩)) w3 :=
    ⟨bx, b_y, _, _, _, _, rfl, rfl, Nat.le_trans k1.size hbx, hx.keep hk3, Nat.le_trans (Nat.le_trans k1.size hk2.size) hby, hy, n1, m1, rfl, rfl, (k1.trans hk2).trans hk3⟩
  clear hx hy k1 hk2 hk3 hbx hby n1 m1 d1 d2
  go_wp2_with fail
  go_loopg [7, 8] m.natAbs (fun k p q wr => GcdAt w N m k p q wr)
  case atStart => exact g3
  case round =>
    clear g3
    obtain ⟨bx, b_y, X, Y, lx, ly, rfl, rfl, hbx, hx, hby, hy, hX, hY, rfl, hg, hk⟩ := hrel
    have cx := hx.c1
    have cy := hy.c1
    have HG := Lib.hid hg
    clear hg
    by_cases hY0 : Y = 0
    · subst hY0
      rw [nw_zero] at cy
      have HG2 : Hid (X = Int.gcd N m) := by have := HG.out; rw [Nat.gcd_zero_right] at this; exact this
      have c0 := hx.c0
      have f0 := hx.fz 0
      have hx2 := hx.set0 false
      have k2 : Kept w (wr.setCell ⟨bx, 0, none⟩ (.bool false)) := hk.own (grown_setCell (grown_refl _ _) _ _) hbx
      have hT2 := hT.keep k2
      clear HG
      go_wp2_with fail
      refine (text_any bx X false _ hx2 (by omega) hT2).mono ?_
      rintro e w5 ⟨rfl, hk5⟩
      go_wp2
      go_returns
      exact ⟨by rw [← HG2.out]; rfl, k2.trans hk5⟩
    · have hYn : 0 < nw Y := by obtain ⟨n, hn⟩ := nw_ne hY0; omega
      have hYi : (0 : Int) < (nw Y : Int) := by omega
      by_cases h1 : nw X ≤ 1 ∧ nw Y ≤ 1
      · obtain ⟨h11, h12⟩ := h1
        have x1 : (nw X : Int) ≤ 1 := by omega
        have y1 : (nw Y : Int) ≤ 1 := by omega
        have wx := hx.cw 0 (by omega)
        have wy := hy.cw 0 (by omega)
        rw [word_le_one h11] at wx
        rw [word_le_one h12] at wy
        have bX : X < B := by have := (nw_le_iff X 1).1 h11; rw [Nat.pow_one] at this; exact this
        have bY : Y < B := by have := (nw_le_iff Y 1).1 h12; rw [Nat.pow_one] at this; exact this
        rw [B_eq] at bX bY
        have hTw := hT.keep hk
        clear hx hy hX hY h11 h12
        go_wp2_with fail
        go_quiet (fail)
        go_wp2_with fail
        go_loopg [9, 10] Y (fun k p q w2 => ∃ u v : Nat, p = .int .i64 u ∧ q = .int .i64 v ∧ v = k ∧ u < 1000000000 ∧ v < 1000000000 ∧ Nat.gcd u v = Nat.gcd X Y ∧ Kept wr w2)
        case atStart => exact ⟨X, Y, rfl, rfl, rfl, bX, bY, rfl, (Kept.refl wr).drewN _⟩
        case round =>
          obtain ⟨u, v, rfl, rfl, rfl, hu, hv, hg, hk2⟩ := hrel
          have HG3 := Lib.hid hg
          clear hg
          by_cases hv0 : v = 0
          · subst hv0
            have HG4 : Hid (u = Int.gcd N m) := by have := HG.out; have h3 := HG3.out; rw [Nat.gcd_zero_right] at h3; show u = _; omega
            go_wp2_with fail
            refine (wof_any u (by omega) (by omega) _ (hTw.keep hk2)).mono ?_
            rintro e w5 ⟨rfl, hk5⟩
            go_wp2
            go_returns
            exact ⟨by rw [← HG4.out]; rfl, (hk.trans hk2).trans hk5⟩
          · have v1 : (v : Int) ≠ 0 := by omega
            have tm : (u : Int).tmod (v : Int) = ((u % v : Nat) : Int) := rfl
            have tl : u % v < v := Nat.mod_lt _ (by omega)
            obtain ⟨r, hr⟩ : ∃ r, r = u % v := ⟨_, rfl⟩
            rw [← hr] at tm tl
            have HR := Lib.hid hr
            clear hr
            go_wp2_with fail
            go_quiet (fail)
            go_wp2
            go_roundg r
            case measure => omega
            case rel =>
              refine ⟨v, r, rfl, rfl, rfl, hv, by omega, ?_, hk2.drewN _⟩
              rw [← HG3.out, HR.out, Nat.gcd_comm u v]
              exact (Nat.gcd_comm _ _).trans (Nat.gcd_rec v u).symm
      · have h1i : ¬ ((nw X : Int) ≤ 1 ∧ (nw Y : Int) ≤ 1) := by omega
        have ch : ∀ (c : Prop), (((nw X : Int) ≤ 1) → ((nw Y : Int) > 1) → c) → (((nw X : Int) > 1) → c) → c := by
          intro c a b
          by_cases hx1 : (nw X : Int) ≤ 1
          · exact a hx1 (by omega)
          · exact b (by omega)
        refine ch _ ?_ ?_
        all_goals
          intros
          go_wp2_with fail
          refine (divided_any bx b_y X Y lx ly _ hx hy hY0 (by omega) (by omega)).mono ?_
          rintro e w4 ⟨bq, br, rfl, hbq, hbr, hne, hq, hr, hk4⟩
          have hy4 := hy.keep hk4
          have hlt : X % Y < Y := Nat.mod_lt _ (by omega)
          obtain ⟨R, hR⟩ : ∃ R, R = X % Y := ⟨_, rfl⟩
          rw [← hR] at hr hlt
          have hRn : nw R ≤ 114 := Nat.le_trans (nw_mono (Nat.le_of_lt hlt)) hY
          have HR := Lib.hid hR
          have hks := hk.size
          clear hR
          go_wp2
          go_roundg R
          case measure => exact hlt
          case rel =>
            refine ⟨b_y, br, Y, R, ly, false, rfl, rfl, hby, hy4, by omega, hr, hY, hRn, rfl, ?_, hk.trans hk4⟩
            rw [← HG.out, HR.out, Nat.gcd_comm X Y]
            exact (Nat.gcd_comm _ _).trans (Nat.gcd_rec Y X).symm

end Go.Proofs.YtgmegfcjbnfnaaaGreatDoor

/- Walks: whole.Compare; strings.Cut at a slash. -/
namespace Go.Proofs.YtgmegfcjbnfnaaaGreatDoor
open Go.RowKit Wide Numer
open Go.Lib (decDigits itoa nDigits)

theorem zsgn_bd (n : Int) : -1 ≤ zsgn n ∧ zsgn n ≤ 1 := by unfold zsgn; split <;> (try split) <;> omega
theorem zsgn_lt {n m : Int} (h : zsgn n < zsgn m) : zsgn (n - m) = -1 := by
  apply zsgn_neg
  unfold zsgn at h
  split at h <;> split at h <;> (try split at h) <;> (try split at h) <;> omega
theorem zsgn_gt {n m : Int} (h : zsgn m < zsgn n) : zsgn (n - m) = 1 := by
  apply zsgn_pos
  unfold zsgn at h
  split at h <;> split at h <;> (try split at h) <;> (try split at h) <;> omega
theorem zsgn_eq {n m : Int} (h : zsgn n = zsgn m) : zsgn n * zsgn ((n.natAbs : Int) - (m.natAbs : Int)) = zsgn (n - m) := by
  rcases Int.lt_trichotomy n 0 with h1 | h1 | h1
  · rw [zsgn_neg h1] at h ⊢
    have h2 : m < 0 := by unfold zsgn at h; split at h <;> (try split at h) <;> omega
    have e : ((n.natAbs : Int) - (m.natAbs : Int)) = -(n - m) := by omega
    rw [e]
    unfold zsgn
    split <;> (try split) <;> (try split) <;> (try split) <;> omega
  · subst h1
    have h2 : m = 0 := by unfold zsgn at h; simp at h; split at h <;> (try split at h) <;> omega
    subst h2; rfl
  · rw [zsgn_pos h1] at h ⊢
    have h2 : 0 < m := by unfold zsgn at h; split at h <;> (try split at h) <;> omega
    have e : ((n.natAbs : Int) - (m.natAbs : Int)) = (n - m) := by omega
    rw [e, Int.one_mul]

set_option maxHeartbeats 1000000 in
set_option maxRecDepth 100000 in
theorem compare_any (n m : Int) (hn : fits n) (hm : fits m) (w : World) :
    Calls Tryz.prog 74 #[.string (tx n), .string (tx m)] w fun e w' => e = .returned (.tuple #[.int .i64 (zsgn (n - m)), .int .i64 0]) ∧ Kept w w' := by
  have hh := two_head n m w
  obtain ⟨s1, s2⟩ := zsgn_bd n
  obtain ⟨t1, t2⟩ := zsgn_bd m
  have hlt := Lib.hid (@zsgn_lt n m)
  have hgt := Lib.hid (@zsgn_gt n m)
  have heq := Lib.hid (@zsgn_eq n m)
  have un1 : Hid (bs (un (itoa n)) = bs (decDigits n.natAbs)) := by rw [un_itoa]; exact Lib.hid rfl
  have un2 : Hid (bs (un (itoa m)) = bs (decDigits m.natAbs)) := by rw [un_itoa]; exact Lib.hid rfl
  obtain ⟨z1, z2⟩ := zsgn_bd ((n.natAbs : Int) - (m.natAbs : Int))
  go_enter Tryz.func74, Tryz.ntmps74
  go_wp2_with fail
  refine (all2_any n m hn hm _ _ hh).mono ?_
  rintro e w1 ⟨rfl, hk1⟩
  have k1 : Kept w w1 := ((Kept.refl w).alloc _).trans hk1
  clear hh hk1
  go_wp2_with fail
  refine (wsign_any n w1).mono ?_
  rintro e w1 ⟨rfl, rfl⟩
  go_wp2_with fail
  refine (wsign_any m w1).mono ?_
  rintro e w1 ⟨rfl, rfl⟩
  obtain ⟨s, hs⟩ : ∃ s, s = zsgn n := ⟨_, rfl⟩
  obtain ⟨t, ht⟩ : ∃ t, t = zsgn m := ⟨_, rfl⟩
  rw [← hs] at s1 s2 ⊢
  rw [← ht] at t1 t2 ⊢
  have HS := Lib.hid hs
  have HT := Lib.hid ht
  clear hs ht
  by_cases h1 : s < t
  · have h2 : Hid (zsgn (n - m) = -1) := hlt.out (by rw [← HS.out, ← HT.out]; exact h1)
    go_wp2
    go_returns
    exact ⟨by rw [h2.out]; rfl, k1⟩
  · go_wp2_with fail
    refine (wsign_any m w1).mono ?_
    rintro e w1 ⟨rfl, rfl⟩
    rw [← HT.out]
    by_cases h3 : t < s
    · have h2 : Hid (zsgn (n - m) = 1) := hgt.out (by rw [← HS.out, ← HT.out]; exact h3)
      go_wp2
      go_returns
      exact ⟨by rw [h2.out]; rfl, k1⟩
    · have h4 : Hid (s * zsgn ((n.natAbs : Int) - (m.natAbs : Int)) = zsgn (n - m)) := by
        have := heq.out (by rw [← HS.out, ← HT.out]; omega)
        rw [← HS.out] at this; exact this
      go_wp2_with fail
      refine (trim_any (itoa n) w1).mono ?_
      rintro e w1 ⟨rfl, rfl⟩
      go_wp2_with fail
      refine (trim_any (itoa m) w1).mono ?_
      rintro e w1 ⟨rfl, rfl⟩
      rw [un1.out, un2.out]
      go_wp2_with fail
      refine (order_any n.natAbs m.natAbs w1).mono ?_
      rintro e w1 ⟨rfl, rfl⟩
      obtain ⟨z, hz⟩ : ∃ z, z = zsgn ((n.natAbs : Int) - (m.natAbs : Int)) := ⟨_, rfl⟩
      rw [← hz] at z1 z2 ⊢
      have HZ := Lib.hid hz
      clear hz
      have p1 : -1 ≤ s * z := by
        have : s = -1 ∨ s = 0 ∨ s = 1 := by omega
        rcases this with rfl | rfl | rfl <;> omega
      have p2 : s * z ≤ 1 := by
        have : s = -1 ∨ s = 0 ∨ s = 1 := by omega
        rcases this with rfl | rfl | rfl <;> omega
      go_wp2
      go_returns
      exact ⟨by rw [← h4.out, ← HZ.out]; rfl, k1⟩

/-- a text before its first slash, behind it ("1" without one), and whether there is one -/
def spl : List UInt8 → List UInt8 × List UInt8 × Bool
  | [] => ([], [49], false)
  | c :: l => if c = 47 then ([], l, true) else (c :: (spl l).1, (spl l).2.1, (spl l).2.2)
theorem spl_no : ∀ {l : List UInt8}, (spl l).2.2 = false → Lib.indexByte l 47 = -1 ∧ (spl l).1 = l ∧ (spl l).2.1 = [49]
  | [], _ => ⟨rfl, rfl, rfl⟩
  | c :: l, h => by
    rw [spl] at h ⊢
    by_cases hc : c = 47
    · rw [if_pos hc] at h; cases h
    · rw [if_neg hc] at h ⊢
      obtain ⟨h1, h2, h3⟩ := spl_no h
      refine ⟨?_, by rw [h2], h3⟩
      rw [Lib.indexByte, h1]
      simp [hc]
theorem spl_yes : ∀ {l : List UInt8}, (spl l).2.2 = true → Lib.indexByte l 47 = ((spl l).1.length : Int) ∧ l = (spl l).1 ++ 47 :: (spl l).2.1
  | [], h => by cases h
  | c :: l, h => by
    rw [spl] at h ⊢
    by_cases hc : c = 47
    · subst hc
      rw [if_pos rfl]
      exact ⟨by simp [Lib.indexByte], rfl⟩
    · rw [if_neg hc] at h ⊢
      obtain ⟨h1, h2⟩ := spl_yes h
      refine ⟨?_, ?_⟩
      · rw [Lib.indexByte, h1]
        simp [hc]
      · show c :: l = c :: _ ++ _
        rw [List.cons_append, ← h2]

theorem split_at {l A D : List UInt8} (h : l = A ++ 47 :: D) : l.take A.length = A ∧ l.drop (A.length + 1) = D ∧ l.length = A.length + 1 + D.length := by
  subst h
  refine ⟨by simp, by simp, by simp; omega⟩

set_option maxHeartbeats 1000000 in
set_option maxRecDepth 100000 in
theorem slcut_any (l : List UInt8) (hl : l.length ≤ 140737488355328) (w : World) :
    Calls Tryz.prog 139 #[.string (bs l), .string ⟨#[47]⟩] w fun e w' => e = .returned (.tuple #[.string (bs (spl l).1), .string (bs (if (spl l).2.2 then (spl l).2.1 else [])), .bool (spl l).2.2]) ∧ Quiet w w' := by
  cases hb : (spl l).2.2
  · obtain ⟨h1, h2, h3⟩ := spl_no hb
    rw [h2]
    show Calls _ _ _ _ fun e w' => e = .returned (.tuple #[.string (bs l), .string ⟨#[]⟩, .bool false]) ∧ Quiet w w'
    go_enter Tryz.func139, Tryz.ntmps139
    go_wp2_with fail
    refine (Tryz.stringslite_Index_one (bs l) 47 w).mono ?_
    rintro e w1 ⟨rfl, rfl⟩
    rw [bs_list, h1]
    clear hb h1 h2 h3
    go_wp2
    go_returns
    exact ⟨rfl, Quiet.refl _⟩
  · obtain ⟨h1, h2⟩ := spl_yes hb
    obtain ⟨n, hn⟩ : ∃ n, n = (spl l).1.length := ⟨_, rfl⟩
    have hs : (bs l).size = l.length := bs_size l
    obtain ⟨g1, g2, g3⟩ := split_at h2
    have hl2 : l.length = n + 1 + (spl l).2.1.length := by rw [hn]; exact g3
    have e1 : (bs l).extract 0 n = bs (spl l).1 := by rw [bs_extract, List.drop_zero, hn, g1]
    have e2 : (bs l).extract (n + 1) (bs l).size = bs (spl l).2.1 := by rw [bs_extract, hs, List.take_length, hn, g2]
    clear g1 g2 g3
    have hsz : (bs l).size ≤ 140737488355328 := by rw [hs]; exact hl
    have hn1 : n + 1 ≤ (bs l).size := by rw [hs]; omega
    rw [← hn] at h1
    have E1 := Lib.hid e1
    have E2 := Lib.hid e2
    have H1 := Lib.hid h1
    have i0 : (0 : Int) ≤ (n : Int) := by omega
    clear hb h1 h2 hs hl2 e1 e2 hn
    show Calls _ _ _ _ fun e w' => e = .returned (.tuple #[.string (bs (spl l).1), .string (bs (spl l).2.1), .bool true]) ∧ Quiet w w'
    go_enter Tryz.func139, Tryz.ntmps139
    go_wp2_with fail
    refine (Tryz.stringslite_Index_one (bs l) 47 w).mono ?_
    rintro e w1 ⟨rfl, rfl⟩
    rw [bs_list, H1.out]
    go_wp2_with fail
    go_quiet (fail)
    go_wp2
    go_returns
    exact ⟨by rw [← E1.out, ← E2.out]; rfl, Quiet.drewN (Quiet.refl _) _⟩

theorem scut_any (l : List UInt8) (hl : l.length ≤ 140737488355328) (w : World) :
    Calls Tryz.prog 105 #[.string (bs l), .string ⟨#[47]⟩] w fun e w' => e = .returned (.tuple #[.string (bs (spl l).1), .string (bs (if (spl l).2.2 then (spl l).2.1 else [])), .bool (spl l).2.2]) ∧ Quiet w w' := by
  have hc := slcut_any l hl w
  generalize (if (spl l).2.2 then (spl l).2.1 else []) = D at *
  generalize (spl l).1 = A at *
  generalize (spl l).2.2 = f at *
  go_enter Tryz.func105, Tryz.ntmps105
  go_wp2_with fail
  refine hc.mono ?_
  rintro e w1 ⟨rfl, hk⟩
  clear hc
  go_wp2
  go_returns
  exact ⟨rfl, hk⟩

set_option maxHeartbeats 1000000 in
set_option maxRecDepth 100000 in
theorem cut_any (l : List UInt8) (hl : l.length ≤ 140737488355328) (w : World) :
    Calls Tryz.prog 72 #[.string (bs l)] w fun e w' => e = .returned (.tuple #[.string (bs (spl l).1), .string (bs (spl l).2.1), .bool (spl l).2.2]) ∧ Quiet w w' := by
  have hc := scut_any l hl w
  cases hb : (spl l).2.2
  · obtain ⟨h1, h2, h3⟩ := spl_no hb
    rw [hb] at hc
    rw [h3]
    clear hb h1 h2 h3
    go_enter Tryz.func72, Tryz.ntmps72
    go_wp2_with fail
    refine hc.mono ?_
    rintro e w1 ⟨rfl, hk⟩
    clear hc
    go_wp2
    go_returns
    exact ⟨rfl, hk⟩
  · rw [hb] at hc
    clear hb
    go_enter Tryz.func72, Tryz.ntmps72
    go_wp2_with fail
    refine hc.mono ?_
    rintro e w1 ⟨rfl, hk⟩
    clear hc
    go_wp2
    go_returns
    exact ⟨rfl, hk⟩

end Go.Proofs.YtgmegfcjbnfnaaaGreatDoor

/- Rational numbers as texts: the canonical form, and which texts are right. -/
namespace Go.Proofs.YtgmegfcjbnfnaaaGreatDoor
open Go.RowKit Wide Numer
open Go.Lib (decDigits itoa nDigits)

/-- an integer's value by its text -/
def atI (l : List UInt8) : Int := (Lib.atoi l).getD 0
theorem atI_itoa (n : Int) : atI (itoa n) = n := by unfold atI; rw [atoi_itoa]; rfl

/-- what ratio.Check answers -/
def chkR (l : List UInt8) : Int :=
  if chk (spl l).1 = 3 ∨ chk (spl l).2.1 = 3 then 3
  else if chk (spl l).1 ≠ 0 ∨ chk (spl l).2.1 ≠ 0 then 11
  else if (spl l).2.2 = true then (if atI (spl l).2.1 ≤ 1 ∨ Int.gcd (atI (spl l).1) (atI (spl l).2.1) ≠ 1 then 3 else 0)
  else 0

theorem chk_vals (l : List UInt8) : chk l = 0 ∨ chk l = 3 ∨ chk l = 11 := by
  unfold chk
  split
  · exact .inr (.inl rfl)
  · split
    · exact .inr (.inl rfl)
    · split
      · exact .inr (.inr rfl)
      · exact .inl rfl
theorem chk_zero {l : List UInt8} (h : chk l = 0) : ∃ n : Int, l = itoa n ∧ fits n := by
  obtain ⟨n, hn, hc⟩ := chk_ne3 (l := l) (by omega)
  refine ⟨n, hn, ?_⟩
  rw [h] at hc
  unfold fits
  by_cases h1 : 1024 < nDigits n.natAbs
  · rw [if_pos h1] at hc; omega
  · omega
theorem spl_len (l : List UInt8) : (spl l).1.length ≤ l.length ∧ (spl l).2.1.length ≤ l.length + 1 := by
  cases hb : (spl l).2.2
  · obtain ⟨_, h2, h3⟩ := spl_no hb
    rw [h2, h3]; simp
  · obtain ⟨_, h2⟩ := spl_yes hb
    have := congrArg List.length h2
    simp at this
    omega

/-- the canonical text -/
def rtl (r : Rat) : List UInt8 := if r.den = 1 then itoa r.num else itoa r.num ++ 47 :: itoa (r.den : Int)
def rt (r : Rat) : ByteArray := bs (rtl r)
def fitsR (r : Rat) : Prop := fits r.num ∧ fits (r.den : Int)
instance (r : Rat) : Decidable (fitsR r) := inferInstanceAs (Decidable (_ ∧ _))

theorem spl_plain : ∀ {l : List UInt8}, (∀ c ∈ l, c ≠ 47) → spl l = (l, [49], false)
  | [], _ => rfl
  | c :: l, h => by
    rw [spl, if_neg (h c (List.mem_cons_self ..)), spl_plain fun d hd => h d (List.mem_cons_of_mem _ hd)]
theorem spl_cut : ∀ {l m : List UInt8}, (∀ c ∈ l, c ≠ 47) → spl (l ++ 47 :: m) = (l, m, true)
  | [], m, _ => by simp [spl]
  | c :: l, m, h => by
    rw [List.cons_append, spl, if_neg (h c (List.mem_cons_self ..)), spl_cut fun d hd => h d (List.mem_cons_of_mem _ hd)]
theorem dig_ne47 {l : List UInt8} (h : l.all Dec.dig = true) : ∀ c ∈ l, c ≠ 47 := by
  intro c hc e
  subst e
  have := List.all_eq_true.1 h 47 hc
  revert this; decide
theorem itoa_ne47 (n : Int) : ∀ c ∈ itoa n, c ≠ 47 := by
  intro c hc
  rcases Int.lt_or_le n 0 with h | h
  · rw [Dec.itoa_neg h] at hc
    rcases List.mem_cons.1 hc with rfl | hc
    · decide
    · exact dig_ne47 (Dec.dig_decDigits _) c hc
  · rw [Dec.itoa_nonneg h] at hc
    exact dig_ne47 (Dec.dig_decDigits _) c hc
theorem itoa_one : itoa (1 : Int) = [49] := by decide +kernel
theorem spl_rtl (r : Rat) : spl (rtl r) = (itoa r.num, itoa (r.den : Int), decide (r.den ≠ 1)) := by
  unfold rtl
  by_cases h : r.den = 1
  · rw [if_pos h, spl_plain (itoa_ne47 _), h]
    show _ = (_, itoa (1 : Int), _)
    rw [itoa_one]; rfl
  · rw [if_neg h, spl_cut (itoa_ne47 _)]
    simp [h]
theorem chkR_rtl {r : Rat} (h : fitsR r) : chkR (rtl r) = 0 := by
  unfold chkR
  rw [spl_rtl]
  show (if chk (itoa r.num) = 3 ∨ chk (itoa (r.den : Int)) = 3 then (3 : Int) else _) = 0
  rw [fits_chk h.1, fits_chk h.2, if_neg (by decide), if_neg (by decide), atI_itoa, atI_itoa]
  by_cases hd : r.den = 1
  · rw [if_neg (by simp [hd])]
  · rw [if_pos (by simp [hd]), if_neg]
    have hp := r.den_pos
    have hr := r.reduced
    rintro (h1 | h1)
    · omega
    · exact h1 hr
theorem chkR_zero {l : List UInt8} (h : chkR l = 0) : ∃ r : Rat, l = rtl r ∧ fitsR r := by
  unfold chkR at h
  by_cases h1 : chk (spl l).1 = 3 ∨ chk (spl l).2.1 = 3
  · rw [if_pos h1] at h; omega
  rw [if_neg h1] at h
  by_cases h2 : chk (spl l).1 ≠ 0 ∨ chk (spl l).2.1 ≠ 0
  · rw [if_pos h2] at h; omega
  rw [if_neg h2] at h
  obtain ⟨n, hn, fn⟩ := chk_zero (l := (spl l).1) (by omega)
  obtain ⟨d, hd, fd⟩ := chk_zero (l := (spl l).2.1) (by omega)
  cases hb : (spl l).2.2
  · obtain ⟨_, e2, e3⟩ := spl_no hb
    refine ⟨⟨n, 1, by decide, Nat.coprime_one_right _⟩, ?_, fn, ?_⟩
    · show l = if (1 : Nat) = 1 then itoa n else _
      rw [if_pos rfl, ← hn, e2]
    · show fits (1 : Int)
      decide +kernel
  · rw [hb, if_pos rfl, hn, hd, atI_itoa, atI_itoa] at h
    obtain ⟨_, e2⟩ := spl_yes hb
    by_cases h3 : d ≤ 1 ∨ Int.gcd n d ≠ 1
    · rw [if_pos h3] at h; omega
    · obtain ⟨k, rfl⟩ : ∃ k : Nat, d = k := ⟨d.toNat, by omega⟩
      refine ⟨⟨n, k, by omega, ?_⟩, ?_, fn, fd⟩
      · show Nat.gcd n.natAbs k = 1
        have : Int.gcd n k = 1 := by omega
        exact this
      · show l = if k = 1 then itoa n else _
        rw [if_neg (by omega), ← hn, ← hd]
        exact e2
theorem chkR_vals (l : List UInt8) : chkR l = 0 ∨ chkR l = 3 ∨ chkR l = 11 := by
  unfold chkR
  split
  · exact .inr (.inl rfl)
  · split
    · exact .inr (.inr rfl)
    · split
      · split
        · exact .inr (.inl rfl)
        · exact .inl rfl
      · exact .inl rfl

theorem rt_inj {r s : Rat} (h : rt r = rt s) : r = s := by
  have h1 := congrArg spl (bs_inj h)
  rw [spl_rtl, spl_rtl] at h1
  have h2 := Dec.itoa_inj (congrArg Prod.fst h1)
  have h3 : (r.den : Int) = s.den := Dec.itoa_inj (show itoa (r.den : Int) = itoa (s.den : Int) from congrArg (fun p => p.2.1) h1)
  exact Rat.ext h2 (by omega)

theorem fits_one : fits 1 := by decide +kernel
theorem tx_one : tx 1 = ⟨#[49]⟩ := by rw [tx, itoa_one]; rfl
theorem compare1_any (m : Int) (hm : fits m) (w : World) :
    Calls Tryz.prog 74 #[.string (bs (itoa m)), .string ⟨#[49]⟩] w fun e w' => e = .returned (.tuple #[.int .i64 (zsgn (m - 1)), .int .i64 0]) ∧ Kept w w' := by
  have := compare_any m 1 hm fits_one w
  rw [tx_one] at this
  exact this
theorem gcdb_any (n m : Int) (hn : fits n) (hm : fits m) (w : World) (hT : Tab w) :
    Calls Tryz.prog 138 #[.string (bs (itoa n)), .string (bs (itoa m))] w fun e w' => e = .returned (.tuple #[.string (tx (Int.gcd n m)), .int .i64 0]) ∧ Kept w w' := gcd_any n m hn hm w hT

set_option maxHeartbeats 2000000 in
set_option maxRecDepth 100000 in
theorem rcheck_any (l : List UInt8) (hl : l.length ≤ 100000000000000) (w : World) (hT : Tab w) :
    Calls Tryz.prog 104 #[.string (bs l)] w fun e w' => e = .returned (.int .i64 (chkR l)) ∧ Kept w w' := by
  obtain ⟨l1, l2⟩ := spl_len l
  have hc := cut_any l (by omega) w
  have hC : chkR l = if chk (spl l).1 = 3 ∨ chk (spl l).2.1 = 3 then 3
      else if chk (spl l).1 ≠ 0 ∨ chk (spl l).2.1 ≠ 0 then 11
      else if (spl l).2.2 = true then (if atI (spl l).2.1 ≤ 1 ∨ Int.gcd (atI (spl l).1) (atI (spl l).2.1) ≠ 1 then 3 else 0)
      else 0 := rfl
  rw [hC]
  clear hC
  have v1 := chk_vals (spl l).1
  have v2 := chk_vals (spl l).2.1
  have z1 := @chk_zero (spl l).1
  have z2 := @chk_zero (spl l).2.1
  generalize (spl l).1 = A at *
  generalize (spl l).2.1 = D at *
  generalize (spl l).2.2 = f at *
  have cA := check_any A (by omega)
  have cD := check_any D (by omega)
  generalize chk A = a at *
  generalize chk D = d at *
  have HZ1 := Lib.hid z1
  have HZ2 := Lib.hid z2
  clear z1 z2
  rcases v1 with rfl | rfl | rfl <;> rcases v2 with rfl | rfl | rfl
  case inl.inl =>
    obtain ⟨n, rfl, fn⟩ := HZ1.out rfl
    obtain ⟨m, rfl, fm⟩ := HZ2.out rfl
    rw [if_neg (by decide), if_neg (by decide), atI_itoa, atI_itoa]
    cases f
    · rw [if_neg (by decide)]
      go_enter Tryz.func104, Tryz.ntmps104
      go_wp2_with fail
      refine hc.mono ?_
      rintro e w1 ⟨rfl, hk1⟩
      go_wp2_with fail
      refine (cA w1).mono ?_
      rintro e w2 ⟨rfl, hk2⟩
      go_wp2_with fail
      refine (cD w2).mono ?_
      rintro e w3 ⟨rfl, hk3⟩
      clear hc cA cD
      go_wp2
      go_returns
      exact ⟨rfl, (hk1.kept.trans hk2).trans hk3⟩
    · rw [if_pos rfl]
      generalize hB : (if m ≤ 1 ∨ Int.gcd n m ≠ 1 then (3 : Int) else 0) = B at *
      have HB := Lib.hid hB
      clear hB
      have hs : Hid (zsgn (m - 1) ≤ 0 ↔ m ≤ 1) := by
        show _ ↔ _
        unfold zsgn; split <;> (try split) <;> omega
      have ht : Hid (((tx (Int.gcd n m)).toList == [49]) = true ↔ Int.gcd n m = 1) := by
        show _ ↔ _
        rw [beq_iff_eq, tx, bs_toList, ← itoa_one]
        constructor
        · intro h
          have := Dec.itoa_inj h
          omega
        · intro h; rw [h]; rfl
      go_enter Tryz.func104, Tryz.ntmps104
      go_wp2_with fail
      refine hc.mono ?_
      rintro e w1 ⟨rfl, hk1⟩
      go_wp2_with fail
      refine (cA w1).mono ?_
      rintro e w2 ⟨rfl, hk2⟩
      go_wp2_with fail
      refine (cD w2).mono ?_
      rintro e w3 ⟨rfl, hk3⟩
      clear hc cA cD
      have k3 := (hk1.kept.trans hk2).trans hk3
      clear hk1 hk2 hk3
      go_wp2_with fail
      refine (compare1_any m fm w3).mono ?_
      rintro e w4 ⟨rfl, hk4⟩
      go_wp2_with fail
      refine (gcdb_any n m fn fm w4 (hT.keep (k3.trans hk4))).mono ?_
      rintro e w5 ⟨rfl, hk5⟩
      have k5 := (k3.trans hk4).trans hk5
      generalize zsgn (m - 1) = z at *
      generalize tx (Int.gcd n m) = g at *
      by_cases h1 : z ≤ 0
      · go_wp2
        go_returns
        refine ⟨?_, k5⟩
        rw [← HB.out, if_pos (.inl (hs.out.1 h1))]; rfl
      · have h0 : ¬ m ≤ 1 := fun h => h1 (hs.out.2 h)
        have H0 := Lib.hid h0
        clear h0
        cases h2 : (g.toList == [49])
        · have h3 : Hid (Int.gcd n m ≠ 1) := fun h => by have := ht.out.2 h; rw [h2] at this; cases this
          go_wp2
          all_goals
            go_returns
            refine ⟨?_, k5⟩
            rw [← HB.out, if_pos (.inr h3.out)]; rfl
        · have h3 : Hid (Int.gcd n m = 1) := ht.out.1 h2
          go_wp2
          all_goals
            go_returns
            refine ⟨?_, k5⟩
            rw [← HB.out, if_neg (by rintro (h | h); (have := H0.out; omega); exact h h3.out)]; rfl
  all_goals
    clear HZ1 HZ2
    simp only [show ((0 : Int) = 3) = False by simp, show ((11 : Int) = 3) = False by simp, show ((0 : Int) ≠ 0) = False by simp, show ((11 : Int) ≠ 0) = True by simp, or_true, true_or, or_false, false_or, if_true, if_false]
    go_enter Tryz.func104, Tryz.ntmps104
    go_wp2_with fail
    refine hc.mono ?_
    rintro e w1 ⟨rfl, hk1⟩
    go_wp2_with fail
    refine (cA w1).mono ?_
    rintro e w2 ⟨rfl, hk2⟩
    go_wp2_with fail
    refine (cD w2).mono ?_
    rintro e w3 ⟨rfl, hk3⟩
    clear hc cA cD
    go_wp2
    go_returns
    exact ⟨rfl, (hk1.kept.trans hk2).trans hk3⟩

end Go.Proofs.YtgmegfcjbnfnaaaGreatDoor

/- ratio.sums: the first error of operations on integers. -/
namespace Go.Proofs.YtgmegfcjbnfnaaaGreatDoor
open Go.RowKit Wide Numer
open Go.Lib (decDigits itoa nDigits)

/-- the sums at block b hold the error e -/
def Sums (w : World) (b : Nat) (e : Int) : Prop := w.heap[b]? = some (.cells #[.int .i64 e] 92)
theorem Sums.cell {w : World} {b : Nat} {e : Int} (h : Sums w b e) : w.cell? ⟨b, 0, none⟩ = some (.int .i64 e) := by
  unfold Sums at h
  simp [World.cell?, h]
theorem Sums.fz {w : World} {b : Nat} {e : Int} (h : Sums w b e) : w.frozen? ⟨b, 0, none⟩ = false := by
  unfold Sums at h
  simp [World.frozen?, h]
theorem Sums.set {w : World} {b : Nat} {e : Int} (h : Sums w b e) (f : Int) : Sums (w.setCell ⟨b, 0, none⟩ (.int .i64 f)) b f := by
  unfold Sums at *
  simp [World.setCell, Array.getElem?_modify, h]
theorem Sums.keep {w w1 : World} {b : Nat} {e : Int} (h : Sums w b e) (k : Kept w w1) : Sums w1 b e := k.heap h
theorem Sums.lt {w : World} {b : Nat} {e : Int} (h : Sums w b e) : b < w.heap.size := (Array.getElem?_eq_some_iff.1 h).1
theorem Sums.new (w : World) : Sums (w.alloc (.cells #[.int .i64 0] 92)) w.heap.size 0 := by
  unfold Sums World.alloc; simp

/-- a step behind the error e that comes to v -/
def stp (e v : Int) : Int × Int := if e ≠ 0 then (0, e) else if fits v then (v, 0) else (0, 11)
theorem fits_zero : fits 0 := by decide +kernel
theorem stp_fits (e v : Int) : fits (stp e v).1 := by
  unfold stp
  split
  · exact fits_zero
  · split
    · assumption
    · exact fits_zero
theorem stp_ok {v : Int} (h : fits v) : stp 0 v = (v, 0) := by unfold stp; rw [if_neg (by omega), if_pos h]
theorem stp_bad {v : Int} (h : ¬ fits v) : stp 0 v = (0, 11) := by unfold stp; rw [if_neg (by omega), if_neg h]
theorem stp_err {e v : Int} (h : e ≠ 0) : stp e v = (0, e) := by unfold stp; rw [if_pos h]

/-- the world has grown, and of its blocks b alone may have been written -/
def Own (b : Nat) (w w' : World) : Prop := w.grownBy w' (some b)
theorem Own.refl (b : Nat) (w : World) : Own b w w := grown_refl w (some b)
theorem Own.trans {b : Nat} {w w1 w2 : World} (h : Own b w w1) (k : Own b w1 w2) : Own b w w2 := grown_trans h k
theorem Kept.own1 {w w1 : World} (h : Kept w w1) (b : Nat) : Own b w w1 := Kept.some h (Option.some b)
theorem Own.kept {b : Nat} {w w1 w2 : World} (h : Kept w w1) (k : Own b w1 w2) (hb : w.heap.size ≤ b) : Kept w w2 := h.own k hb
theorem Own.size {b : Nat} {w w1 : World} (h : Own b w w1) : w.heap.size ≤ w1.heap.size := World.grownBy.size h
theorem Own.heap {b c : Nat} {w w1 : World} {o : Obj} (h : Own b w w1) (hc : c ≠ b) (ho : w.heap[c]? = Option.some o) : w1.heap[c]? = Option.some o := by
  have hl := (Array.getElem?_eq_some_iff.1 ho).1
  rw [← ho]
  exact h.block c hl (by simp [hc])
theorem Own.cell {b c i : Nat} {w w1 : World} {v : Value} (h : Own b w w1) (hc : c ≠ b) (hv : w.cell? ⟨c, i, none⟩ = Option.some v) : w1.cell? ⟨c, i, none⟩ = Option.some v := by
  cases ho : w.heap[c]? with
  | none => simp [World.cell?, ho] at hv
  | some o =>
    have h1 := h.heap hc ho
    simp [World.cell?, ho] at hv
    simp [World.cell?, h1, hv]

/-- sums at a block laid since the world w0 -/
def SumsAt (w0 : World) (b : Nat) (e : Int) (w : World) : Prop := w0.heap.size ≤ b ∧ Kept w0 w ∧ Sums w b e
theorem SumsAt.keep {w0 w w1 : World} {b : Nat} {e : Int} (h : SumsAt w0 b e w) (k : Kept w w1) : SumsAt w0 b e w1 := ⟨h.1, h.2.1.trans k, h.2.2.keep k⟩
theorem SumsAt.set {w0 w : World} {b : Nat} {e : Int} (h : SumsAt w0 b e w) (f : Int) : SumsAt w0 b f (w.setCell ⟨b, 0, none⟩ (.int .i64 f)) :=
  ⟨h.1, h.2.1.own (grown_setCell (grown_refl _ _) _ _) h.1, h.2.2.set f⟩
theorem SumsAt.tab {w0 w : World} {b : Nat} {e : Int} (h : SumsAt w0 b e w) (hT : Tab w0) : Tab w := hT.keep h.2.1
theorem SumsAt.new {w0 w : World} (k : Kept w0 w) : SumsAt w0 w.heap.size 0 (w.alloc (.cells #[.int .i64 0] 92)) := ⟨k.size, k.alloc _, Sums.new w⟩
theorem own_set {w : World} {b : Nat} (f : Int) : Own b w (w.setCell ⟨b, 0, none⟩ (.int .i64 f)) := grown_setCell (grown_refl _ _) _ _

end Go.Proofs.YtgmegfcjbnfnaaaGreatDoor

/- ratio.sums' do, by operation. -/
namespace Go.Proofs.YtgmegfcjbnfnaaaGreatDoor
open Go.RowKit Wide Numer
open Go.Lib (decDigits itoa nDigits)

set_option maxHeartbeats 1000000 in
set_option maxRecDepth 100000 in
theorem do_mul_any {w0 : World} (hT : Tab w0) (b : Nat) (e n m : Int) (hn : fits n) (hm : fits m) (w : World) (h : SumsAt w0 b e w) :
    Calls Tryz.prog 106 #[.pointer (some ⟨b, 0, none⟩), .func (.func 107) #[] #[], .string (tx n), .string (tx m)] w fun r w' =>
      r = .returned (.string (tx (stp e (n * m)).1)) ∧ SumsAt w0 b (stp e (n * m)).2 w' ∧ Own b w w' := by
  have c0 := h.2.2.cell
  by_cases he : e = 0
  · subst he
    have hTw := h.tab hT
    go_enter Tryz.func106, Tryz.ntmps106
    go_wp2_with fail
    refine (mul_any n m hn hm w hTw).mono ?_
    rintro r w1 ⟨rfl, hk⟩
    have h1 := h.keep hk
    have c1 := h1.2.2.cell
    have f1 := h1.2.2.fz
    have o1 := hk.own1 b
    by_cases hf : fits (n * m)
    · have HF : Hid (stp 0 (n * m) = (n * m, 0)) := stp_ok hf
      rw [limE_of hf, limT_of hf]
      clear c0
      have h2 := h1.set 0
      have o2 := o1.trans (own_set 0)
      go_wp2
      go_returns
      rw [HF.out]
      exact ⟨rfl, h2, o2⟩
    · have HF : Hid (stp 0 (n * m) = (0, 11)) := stp_bad hf
      have e1 : limE (n * m) = 11 := by rw [limE, if_neg hf]
      rw [e1]
      clear c0 e1
      have h2 := h1.set 11
      have o2 := o1.trans (own_set 11)
      go_wp2
      go_returns
      rw [HF.out]
      exact ⟨by rw [tx_zero]; rfl, h2, o2⟩
  · have HE : Hid (stp e (n * m) = (0, e)) := stp_err he
    go_enter Tryz.func106, Tryz.ntmps106
    go_wp2
    go_returns
    rw [HE.out]
    exact ⟨by rw [tx_zero]; rfl, h, Own.refl b w⟩


set_option maxHeartbeats 1000000 in
set_option maxRecDepth 100000 in
theorem do_gcd_any {w0 : World} (hT : Tab w0) (b : Nat) (e n m : Int) (hn : fits n) (hm : fits m) (w : World) (h : SumsAt w0 b e w) :
    Calls Tryz.prog 106 #[.pointer (some ⟨b, 0, none⟩), .func (.func 138) #[] #[], .string (tx n), .string (tx m)] w fun r w' =>
      r = .returned (.string (tx (stp e ((Int.gcd n m : Int))).1)) ∧ SumsAt w0 b (stp e ((Int.gcd n m : Int))).2 w' ∧ Own b w w' := by
  have c0 := h.2.2.cell
  by_cases he : e = 0
  · subst he
    have hTw := h.tab hT
    go_enter Tryz.func106, Tryz.ntmps106
    go_wp2_with fail
    refine (gcd_any n m hn hm w hTw).mono ?_
    rintro r w1 ⟨rfl, hk⟩
    have h1 := h.keep hk
    have c1 := h1.2.2.cell
    have f1 := h1.2.2.fz
    have o1 := hk.own1 b
    have HF : Hid (stp 0 ((Int.gcd n m : Int)) = ((Int.gcd n m : Int), 0)) := stp_ok (gcd_le hn hm)
    clear c0
    have h2 := h1.set 0
    have o2 := o1.trans (own_set 0)
    go_wp2
    go_returns
    rw [HF.out]
    exact ⟨rfl, h2, o2⟩
  · have HE : Hid (stp e ((Int.gcd n m : Int)) = (0, e)) := stp_err he
    go_enter Tryz.func106, Tryz.ntmps106
    go_wp2
    go_returns
    rw [HE.out]
    exact ⟨by rw [tx_zero]; rfl, h, Own.refl b w⟩


set_option maxHeartbeats 1000000 in
set_option maxRecDepth 100000 in
theorem do_quo_any {w0 : World} (hT : Tab w0) (b : Nat) (e n m : Int) (k : Int) (hk : n = m * k) (hm0 : m ≠ 0) (hn : fits n) (hm : fits m) (w : World) (h : SumsAt w0 b e w) :
    Calls Tryz.prog 106 #[.pointer (some ⟨b, 0, none⟩), .func (.func 153) #[] #[], .string (tx n), .string (tx m)] w fun r w' =>
      r = .returned (.string (tx (stp e (k)).1)) ∧ SumsAt w0 b (stp e (k)).2 w' ∧ Own b w w' := by
  have c0 := h.2.2.cell
  have hfk : fits k := fits_quo hk hm0 hn
  have HK := Lib.hid hk
  clear hk
  by_cases he : e = 0
  · subst he
    have hTw := h.tab hT
    go_enter Tryz.func106, Tryz.ntmps106
    go_wp2_with fail
    refine (quo_any n m k HK.out hn hm hm0 w hTw).mono ?_
    rintro r w1 ⟨rfl, hk⟩
    have h1 := h.keep hk
    have c1 := h1.2.2.cell
    have f1 := h1.2.2.fz
    have o1 := hk.own1 b
    have HF : Hid (stp 0 (k) = (k, 0)) := stp_ok hfk
    clear c0
    have h2 := h1.set 0
    have o2 := o1.trans (own_set 0)
    go_wp2
    go_returns
    rw [HF.out]
    exact ⟨rfl, h2, o2⟩
  · have HE : Hid (stp e (k) = (0, e)) := stp_err he
    go_enter Tryz.func106, Tryz.ntmps106
    go_wp2
    go_returns
    rw [HE.out]
    exact ⟨by rw [tx_zero]; rfl, h, Own.refl b w⟩


set_option maxHeartbeats 1000000 in
set_option maxRecDepth 100000 in
theorem do_sub_any {w0 : World} (hT : Tab w0) (b : Nat) (e n m : Int) (hn : fits n) (hm : fits m) (w : World) (h : SumsAt w0 b e w) :
    Calls Tryz.prog 106 #[.pointer (some ⟨b, 0, none⟩), .func (.func 181) #[] #[], .string (tx n), .string (tx m)] w fun r w' =>
      r = .returned (.string (tx (stp e (n - m)).1)) ∧ SumsAt w0 b (stp e (n - m)).2 w' ∧ Own b w w' := by
  have c0 := h.2.2.cell
  by_cases he : e = 0
  · subst he
    have hTw := h.tab hT
    go_enter Tryz.func106, Tryz.ntmps106
    go_wp2_with fail
    refine (sub_any n m hn hm w hTw).mono ?_
    rintro r w1 ⟨rfl, hk⟩
    have h1 := h.keep hk
    have c1 := h1.2.2.cell
    have f1 := h1.2.2.fz
    have o1 := hk.own1 b
    by_cases hf : fits (n - m)
    · have HF : Hid (stp 0 (n - m) = (n - m, 0)) := stp_ok hf
      rw [limE_of hf, limT_of hf]
      clear c0
      have h2 := h1.set 0
      have o2 := o1.trans (own_set 0)
      go_wp2
      go_returns
      rw [HF.out]
      exact ⟨rfl, h2, o2⟩
    · have HF : Hid (stp 0 (n - m) = (0, 11)) := stp_bad hf
      have e1 : limE (n - m) = 11 := by rw [limE, if_neg hf]
      rw [e1]
      clear c0 e1
      have h2 := h1.set 11
      have o2 := o1.trans (own_set 11)
      go_wp2
      go_returns
      rw [HF.out]
      exact ⟨by rw [tx_zero]; rfl, h2, o2⟩
  · have HE : Hid (stp e (n - m) = (0, e)) := stp_err he
    go_enter Tryz.func106, Tryz.ntmps106
    go_wp2
    go_returns
    rw [HE.out]
    exact ⟨by rw [tx_zero]; rfl, h, Own.refl b w⟩


end Go.Proofs.YtgmegfcjbnfnaaaGreatDoor
