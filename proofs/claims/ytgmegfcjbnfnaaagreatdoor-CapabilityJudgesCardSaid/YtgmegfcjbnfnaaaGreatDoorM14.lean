/- The reference 57: variance, indices, median; the walks of two statements. -/
import Derived.Test.YtgmegfcjbnfnaaaGreatDoorM13
import Derived.Test.YtgmegfcjbnfnaaaGreatDoorM10
import Derived.Test.YtgmegfcjbnfnaaaGreatDoorM11
import Derived.Test.YtgmegfcjbnfnaaaGreatDoorM8
import Derived.Test.YtgmegfcjbnfnaaaGreatDoorM5
import Derived.Test.YtgmegfcjbnfnaaaGreatDoorM6

/- Walks over the reference 57: Deviation, Variance. -/
namespace Go.Proofs.YtgmegfcjbnfnaaaGreatDoor
open Go.RowKit Go.Shelf Wide Numer
open Go.Lib (decDigits itoa nDigits)

theorem dev_snoc (m : Rat) (l : List Int) (x : Int) : dev m (l ++ [x]) = dev m l + ((x : Rat) - m) * ((x : Rat) - m) := by
  induction l with
  | nil => simp only [List.nil_append, dev]; grind
  | cons y l ih => simp only [List.cons_append, dev]; rw [ih]; grind
theorem dev_take (m : Rat) (l : List Int) (j : Nat) (h : j < l.length) : dev m (l.take (j + 1)) = dev m (l.take j) + (((l[j]?.getD 0 : Int) : Rat) - m) * (((l[j]?.getD 0 : Int) : Rat) - m) := by
  rw [List.take_add_one, List.getElem?_eq_getElem h, Option.toList_some, dev_snoc]; rfl
theorem Rk.int {k : Nat} {n : Int} (h : Dk k n) : Rk k (n : Rat) := ⟨by rw [Rat.num_intCast]; exact h, by
  rw [Rat.den_intCast]
  exact (Dk_of_lt (k := 1) (by omega) (by decide)).mono h.pos⟩
theorem dk7 {x : Int} (h : -1048576 ≤ x ∧ x ≤ 1048576) : Dk 7 x := Dk_of_lt (by omega) (by omega)
theorem dev_Rk {m : Rat} (hm : Rk 11 m) : ∀ {l : List Int}, Vals l → Rk (40 * l.length + 1) (dev m l)
  | [], _ => by
    have := Rk.int (k := 1) (n := 0) (Dk_of_lt (by omega) (by decide))
    exact this
  | x :: l, h => by
    have h1 := (Rk.int (dk7 (h x (List.mem_cons_self ..)))).sub hm
    have h2 := dev_Rk hm (l := l) fun y hy => h y (List.mem_cons_of_mem _ hy)
    exact ((h1.mul h1).add h2).mono (by rw [List.length_cons]; omega)
theorem ctr_Rk {l : List Int} (h0 : 0 < l.length) (hl : l.length ≤ 4096) (hv : Vals l) : Rk 11 (ctr l) := by
  have := sum_bdt hv.t
  exact Rk.divInt (by omega) (Dk_of_lt (by omega) (by omega)) (Dk_of_lt (by omega) (by omega))
theorem vr_Rk {l : List Int} (h0 : 2 ≤ l.length) (hl : l.length ≤ 100) (hv : Vals l) : Rk 5000 (vr l) := by
  rw [← vr_dev h0]
  refine Rk.mono (Rk.div (dev_Rk (ctr_Rk (by omega) (by omega) hv) hv) (Rk.int (k := 7) (Dk_of_lt (by omega) (by omega))) (cast_ne (by omega))) (by omega)

set_option maxHeartbeats 2000000 in
set_option maxRecDepth 100000 in
theorem deviation_any (b o c : Nat) (l : List Int) (w : World) (h0 : 2 ≤ l.length) (hl : l.length ≤ 100) (hv : Vals l) (hr : Row w b o l) :
    Calls Tryz.prog 44 #[.slice (some ⟨b, o, none⟩) l.length c] w fun e w' => e = .returned (.string (rt (vr l))) ∧ Kept w w' := by
  have C := fun w hr => center_any b o c l w (by omega) (by omega) hv.t hr
  have hm := ctr_Rk (l := l) (by omega) (by omega) hv
  have HD := Lib.hid fun j => (dev_Rk hm (hv.take j)).mono (show 40 * (l.take j).length + 1 ≤ 5000 by rw [List.length_take]; omega)
  have W2 := fun w => whole2_any ((l.length : Int) - 1) (by omega) (by omega) w
  have B := fun w => by2_any (dev (ctr l) l) ((((l.length : Int) - 1 : Int)) : Rat) ((dev_Rk hm hv).mono (by omega)) ((Rk.int (k := 7) (Dk_of_lt (by omega) (by omega))).mono (by omega)) (cast_ne (by omega)) w
  rw [vr_dev h0] at B
  have HM := Lib.hid hm
  obtain ⟨n, hn⟩ : ∃ n, l.length = n := ⟨_, rfl⟩
  have HN := Lib.hid hn
  have HL := Lib.hid (dev_take (ctr l) l)
  have HE := Lib.hid (show dev (ctr l) (l.take n) = dev (ctr l) l by rw [← hn, List.take_length])
  have HV := Lib.hid hv
  have HR := Lib.hid hr
  have h1 : n ≤ 100 := by omega
  rw [hn] at C W2 B ⊢
  clear hm hn h0 hl hv hr
  generalize rt (vr l) = out at *
  generalize (ctr l) = m at *
  obtain ⟨sn, hsn⟩ : ∃ s, rt (((n : Int) - 1 : Int) : Rat) = s := ⟨_, rfl⟩
  rw [hsn] at W2 B
  obtain ⟨sm, hsm⟩ : ∃ s, rt m = s := ⟨_, rfl⟩
  rw [hsm] at C
  have HSM := Lib.hid hsm
  clear hsn hsm
  have hz : (⟨#[48]⟩ : ByteArray) = rt (dev m (l.take 0)) := by
    rw [List.take_zero]
    show _ = rt ((0 : Int) : Rat)
    rw [rt_int, tx_zero]
  have HZ := Lib.hid hz
  clear hz
  go_enter Tryz.func44, Tryz.ntmps44
  go_wp2_with fail
  refine (C _ HR.out).mono ?_
  rintro e w1 ⟨rfl, k1⟩
  clear C
  go_wp2_with fail
  go_loopg [3, 5] n (fun k s i wr => ∃ j : Nat, k + j = n ∧ i = .int .i64 j ∧ s = .string (rt (dev m (l.take j))) ∧ Kept w wr)
  case atStart => exact ⟨0, rfl, rfl, by rw [← HZ.out], k1⟩
  case round =>
    obtain ⟨j, hj, rfl, rfl, hk⟩ := hrel
    by_cases hlt : j < n
    · have hjl : j < l.length := by rw [HN.out]; exact hlt
      have hcj := (HR.out.keep hk) j hjl
      have hx := HV.out.get j hjl
      have HL2 := Lib.hid (HL.out j hjl)
      have hd := HD.out j
      clear hjl
      generalize l[j]?.getD 0 = x at *
      have W := fun w => whole2_any x (by omega) (by omega) w
      have M := fun w => minus2_any (x : Rat) m ((Rk.int (dk7 hx)).mono (by omega)) (HM.out.mono (by omega)) w
      have hq := (Rk.int (dk7 hx)).sub HM.out
      have T := fun w => times2_any ((x : Rat) - m) ((x : Rat) - m) (hq.mono (by omega)) (hq.mono (by omega)) w
      have P := fun w => plus2_any (dev m (l.take j)) (((x : Rat) - m) * ((x : Rat) - m)) (hd.mono (by omega)) ((hq.mul hq).mono (by omega)) w
      rw [← HL2.out] at P
      rw [HSM.out] at M
      clear hq hd hx
      obtain ⟨s1, hs1⟩ : ∃ s, rt (dev m (l.take (j + 1))) = s := ⟨_, rfl⟩
      rw [hs1] at P
      have HS1 := Lib.hid hs1
      clear hs1
      generalize rt (dev m (l.take j)) = s0 at *
      generalize rt (((x : Rat) - m) * ((x : Rat) - m)) = q at *
      generalize rt ((x : Rat) - m) = d at *
      generalize rt (x : Rat) = tx1 at *
      clear B W2
      go_wp2_with fail
      refine ((W) _).mono ?_
      rintro r w2 ⟨rfl, k2⟩
      go_wp2_with fail
      refine ((M) _).mono ?_
      rintro r w3 ⟨rfl, k3⟩
      go_wp2_with fail
      refine ((T) _).mono ?_
      rintro r w4 ⟨rfl, k4⟩
      go_wp2_with fail
      refine ((P) _).mono ?_
      rintro r w5 ⟨rfl, k5⟩
      go_wp2
      go_roundg (gk - 1)
      case measure => omega
      case rel => exact ⟨j + 1, by omega, by go_num, by rw [HS1.out], (((hk.trans k2).trans k3).trans k4).trans k5⟩
    · obtain rfl : j = n := by omega
      rw [HE.out]
      generalize rt (dev m l) = s at *
      clear hlt hj
      go_wp2_with fail
      refine ((W2) _).mono ?_
      rintro r w2 ⟨rfl, k2⟩
      go_wp2_with fail
      refine ((B) _).mono ?_
      rintro r w3 ⟨rfl, k3⟩
      go_wp2
      go_returns
      exact ⟨rfl, (hk.trans k2).trans k3⟩

set_option maxHeartbeats 2000000 in
set_option maxRecDepth 100000 in
theorem rvariance_any (a : Option Addr) (c : Nat) (l : List Int) (w : World) (hl : l.length ≤ 100 ∨ 4096 < l.length) (hs : Ser w a l) :
    Calls Tryz.prog 15 #[.slice a l.length c] w fun e w' => e = .returned (.tuple #[.string (ifS (vE l) (rt (vr l))), .int .i64 (vE l)]) ∧ Kept w w' := by
  have K := fun w hs => rcheck57_any a c l w hs
  by_cases hc : chkS l = 0
  · obtain ⟨h0, h2, h3⟩ := chkS_zero.1 hc
    obtain ⟨b, o, rfl, hb, hr⟩ := hs h0
    by_cases h1 : l.length = 1
    · have hv : vE l = 14 := by unfold vE; rw [if_neg (by omega), if_pos h1]
      rw [hv, ifS, if_neg (by omega)]
      rw [hc] at K
      have hk := K w hs
      have hb1 : ((l.length : Int) == 1) = true := by rw [beq_iff_eq]; omega
      clear hc h0 h2 h3 h1 hv K hl hr
      generalize l.length = n at *
      go_enter Tryz.func15, Tryz.ntmps15
      go_wp2_with fail
      refine hk.mono ?_
      rintro e w1 ⟨rfl, rfl⟩
      go_wp2
      go_returns
      exact ⟨rfl, Kept.refl _⟩
    · have hv : vE l = 0 := by unfold vE; rw [if_neg (by omega), if_neg h1]
      rw [hv, ifS, if_pos rfl]
      have D := fun w hr => deviation_any b o c l w (by omega) (by omega) h3 hr
      rw [hc] at K
      have hk := K w hs
      have hb1 : ((l.length : Int) == 1) = false := by rw [beq_eq_false_iff_ne]; omega
      have HR := Lib.hid hr
      clear hc h0 h2 h3 h1 hv K hl hr
      generalize rt (vr l) = out at *
      generalize l.length = n at *
      go_enter Tryz.func15, Tryz.ntmps15
      go_wp2_with fail
      refine hk.mono ?_
      rintro e w1 ⟨rfl, rfl⟩
      go_wp2_with fail
      refine (D _ HR.out).mono ?_
      rintro e w2 ⟨rfl, k2⟩
      go_wp2
      go_returns
      exact ⟨rfl, k2⟩
  · have hv : vE l = chkS l := by unfold vE; rw [if_pos hc]
    rw [hv, ifS, if_neg hc]
    have hk := K w hs
    have hb1 : (chkS l != 0) = true := by simp [hc]
    clear hc hv K hl hs
    generalize chkS l = v at *
    generalize l.length = n at *
    go_enter Tryz.func15, Tryz.ntmps15
    go_wp2_with fail
    refine hk.mono ?_
    rintro e w1 ⟨rfl, rfl⟩
    go_wp2
    go_returns
    exact ⟨rfl, Kept.refl _⟩
end Go.Proofs.YtgmegfcjbnfnaaaGreatDoor

/- Walks over the reference 57: varied, Capability. -/
namespace Go.Proofs.YtgmegfcjbnfnaaaGreatDoor
open Go.RowKit Go.Shelf Wide Numer
open Go.Lib (decDigits itoa nDigits)

theorem bE_len {l : List Int} {lo hi : Int} (h : bE l lo hi = 0) (hl : l.length ≤ 100 ∨ 4096 < l.length) : 0 < l.length ∧ l.length ≤ 100 ∧ Vals l := by
  obtain ⟨h1, _⟩ := bE_zero h
  obtain ⟨h0, h2, h3⟩ := chkS_zero.1 h1
  exact ⟨h0, by omega, h3⟩

set_option maxHeartbeats 2000000 in
set_option maxRecDepth 100000 in
theorem rvaried_any (a : Option Addr) (c : Nat) (l : List Int) (lo hi : Int) (w : World) (hl : l.length ≤ 100 ∨ 4096 < l.length) (hs : Ser w a l) :
    Calls Tryz.prog 54 #[.slice a l.length c, .agg #[.int .i64 lo, .int .i64 hi]] w fun e w' => e = .returned (.int .i64 (dE l lo hi)) ∧ Kept w w' := by
  have K1 := (Kept.refl w).alloc (.cells #[.int .i64 lo, .int .i64 hi] 34)
  have G := given_any a c l lo hi _ (hs.keep K1)
  by_cases hb : bE l lo hi = 0
  · obtain ⟨h0, h2, h3⟩ := bE_len hb hl
    obtain ⟨b, o, rfl, hbb, hr⟩ := hs h0
    rw [hb] at G
    have e0 : dE l lo hi = if l.length = 1 then 14 else if vr l = 0 then 10 else 0 := by rw [dE, if_neg (by omega)]
    rw [e0]
    by_cases h1 : l.length = 1
    · rw [if_pos h1]
      have hb1 : ((l.length : Int) == 1) = true := by rw [beq_iff_eq]; omega
      clear e0 h1 hb hs hr h0 h2 h3 hl
      generalize l.length = n at *
      go_enter Tryz.func54, Tryz.ntmps54
      go_wp2_with fail
      refine G.mono ?_
      rintro e w1 ⟨rfl, k1⟩
      go_wp2
      go_returns
      exact ⟨rfl, K1.trans k1⟩
    · rw [if_neg h1]
      have hb1 : ((l.length : Int) == 1) = false := by rw [beq_eq_false_iff_ne]; omega
      have D := fun w hr => deviation_any b o c l w (by omega) (by omega) h3 hr
      have z := rt_is0 (vr l)
      have HR := Lib.hid (hr.keep K1)
      by_cases hv : vr l = 0
      · rw [if_pos hv]
        rw [show decide (vr l = 0) = true by simp [hv]] at z
        clear e0 h1 hb hs hr h0 h2 h3 hl hv
        generalize rt (vr l) = t at *
        generalize l.length = n at *
        go_enter Tryz.func54, Tryz.ntmps54
        go_wp2_with fail
        refine G.mono ?_
        rintro e w1 ⟨rfl, k1⟩
        go_wp2_with fail
        refine (D _ (HR.out.keep k1)).mono ?_
        rintro e w2 ⟨rfl, k2⟩
        go_wp2
        go_returns
        exact ⟨rfl, (K1.trans k1).trans k2⟩
      · rw [if_neg hv]
        rw [show decide (vr l = 0) = false by simp [hv]] at z
        clear e0 h1 hb hs hr h0 h2 h3 hl hv
        generalize rt (vr l) = t at *
        generalize l.length = n at *
        go_enter Tryz.func54, Tryz.ntmps54
        go_wp2_with fail
        refine G.mono ?_
        rintro e w1 ⟨rfl, k1⟩
        go_wp2_with fail
        refine (D _ (HR.out.keep k1)).mono ?_
        rintro e w2 ⟨rfl, k2⟩
        go_wp2
        go_returns
        exact ⟨rfl, (K1.trans k1).trans k2⟩
  · rw [show dE l lo hi = bE l lo hi by rw [dE, if_pos hb]]
    have hb2 : (bE l lo hi != 0) = true := by simp [hb]
    clear hs hb hl
    generalize bE l lo hi = v at *
    generalize l.length = n at *
    go_enter Tryz.func54, Tryz.ntmps54
    go_wp2_with fail
    refine G.mono ?_
    rintro e w1 ⟨rfl, k1⟩
    go_wp2
    go_returns
    exact ⟨rfl, K1.trans k1⟩

theorem tx_36 : tx 36 = ⟨#[51, 54]⟩ := by decide +kernel
theorem tx_9 : tx 9 = ⟨#[57]⟩ := by decide +kernel

set_option maxHeartbeats 2000000 in
set_option maxRecDepth 100000 in
theorem rcapability_any (a : Option Addr) (c : Nat) (l : List Int) (lo hi : Int) (w : World) (hl : l.length ≤ 100 ∨ 4096 < l.length) (hs : Ser w a l) :
    Calls Tryz.prog 21 #[.slice a l.length c, .agg #[.int .i64 lo, .int .i64 hi]] w fun e w' => e = .returned (.tuple #[.string (ifS (dE l lo hi) (rt (idxV ((hi - lo : Int) : Rat) 36 (vr l)))), .int .i64 (dE l lo hi)]) ∧ Kept w w' := by
  have K1 := (Kept.refl w).alloc (.cells #[.int .i64 lo, .int .i64 hi] 34)
  obtain ⟨cl, ch⟩ := two_cells (lim_head lo hi w)
  have V := rvaried_any a c l lo hi _ hl (hs.keep K1)
  by_cases hb : dE l lo hi = 0
  · obtain ⟨h1, h2, h3⟩ := dE_zero hb
    obtain ⟨h4, h5, h6⟩ := bE_len h1 hl
    obtain ⟨_, ⟨l1, l2⟩, ⟨l3, l4⟩, l5⟩ := bE_zero h1
    obtain ⟨b, o, rfl, hbb, hr⟩ := hs h4
    have D := fun w hr => deviation_any b o c l w (by omega) (by omega) h6 hr
    have W := fun w => whole2_any (hi - lo) (by omega) (by omega) w
    have rd : Rk 9 (((hi - lo : Int)) : Rat) := Rk.int (Dk_of_lt (by omega) (by omega))
    have rv := vr_Rk h2 h5 h6
    have r36 : Rk 2 (((36 : Int)) : Rat) := Rk.int (Dk_of_lt (by omega) (by omega))
    have T1 := fun w => times2_any (((hi - lo : Int)) : Rat) (((hi - lo : Int)) : Rat) (rd.mono (by omega)) (rd.mono (by omega)) w
    have T2 := fun w => times2_any (((36 : Int)) : Rat) (vr l) (r36.mono (by omega)) (rv.mono (by omega)) w
    have hne : (((36 : Int)) : Rat) * vr l ≠ 0 := fun e => (Rat.mul_eq_zero.1 e).elim (cast_ne (by omega)) h3
    have B := fun w => by2_any ((((hi - lo : Int)) : Rat) * (((hi - lo : Int)) : Rat)) ((((36 : Int)) : Rat) * vr l) ((rd.mul rd).mono (by omega)) ((r36.mul rv).mono (by omega)) hne w
    rw [show (((hi - lo : Int)) : Rat) * (((hi - lo : Int)) : Rat) / ((((36 : Int)) : Rat) * vr l) = idxV ((hi - lo : Int) : Rat) 36 (vr l) from rfl] at B
    rw [hb] at V
    rw [hb, ifS, if_pos rfl]
    rw [rt_int 36, tx_36] at T2
    have HR := Lib.hid (hr.keep K1)
    have i1 : IntKind.i64.wrap (hi - lo) = hi - lo := by rw [IntKind.wrap_i64]; omega
    clear hb h1 h2 h3 h4 h5 h6 hs hr hl rd rv r36 hne hbb l5 i1
    generalize rt (idxV ((hi - lo : Int) : Rat) 36 (vr l)) = t at *
    generalize rt ((((hi - lo : Int)) : Rat) * (((hi - lo : Int)) : Rat)) = t3 at *
    generalize rt ((((36 : Int)) : Rat) * vr l) = t4 at *
    generalize rt ((hi - lo : Int) : Rat) = t1 at *
    generalize rt (vr l) = t2 at *
    generalize l.length = n at *
    go_enter Tryz.func21, Tryz.ntmps21
    go_wp2_with fail
    refine V.mono ?_
    rintro e w1 ⟨rfl, k1⟩
    have cl1 := k1.cell cl
    have ch1 := k1.cell ch
    go_wp2_with fail
    refine ((W) _).mono ?_
    rintro r w2 ⟨rfl, k2⟩
    go_wp2_with fail
    refine ((T1) _).mono ?_
    rintro r w3 ⟨rfl, k3⟩
    go_wp2_with fail
    refine (D _ (HR.out.keep ((k1.trans k2).trans k3))).mono ?_
    rintro e w4 ⟨rfl, k4⟩
    go_wp2_with fail
    refine ((T2) _).mono ?_
    rintro r w5 ⟨rfl, k5⟩
    go_wp2_with fail
    refine ((B) _).mono ?_
    rintro r w6 ⟨rfl, k6⟩
    go_wp2
    go_returns
    exact ⟨rfl, (((((K1.trans k1).trans k2).trans k3).trans k4).trans k5).trans k6⟩
  · rw [ifS, if_neg hb]
    have hb2 : (dE l lo hi != 0) = true := by simp [hb]
    clear hs hb hl
    generalize dE l lo hi = v at *
    generalize l.length = n at *
    go_enter Tryz.func21, Tryz.ntmps21
    go_wp2_with fail
    refine V.mono ?_
    rintro e w1 ⟨rfl, k1⟩
    go_wp2
    go_returns
    exact ⟨rfl, K1.trans k1⟩
end Go.Proofs.YtgmegfcjbnfnaaaGreatDoor

/- The plain mathematics of the centered capability. -/
namespace Go.Proofs.YtgmegfcjbnfnaaaGreatDoor
open Go.RowKit Wide Numer

theorem zsgn_cases (n : Int) : (zsgn n = -1 ∧ n < 0) ∨ (zsgn n = 0 ∧ n = 0) ∨ (zsgn n = 1 ∧ 0 < n) := by
  rcases Int.lt_trichotomy n 0 with h | h | h
  · exact .inl ⟨zsgn_neg h, h⟩
  · rw [h]; exact .inr (.inl ⟨rfl, rfl⟩)
  · exact .inr (.inr ⟨zsgn_pos h, h⟩)
theorem zsgn_mul {k n : Int} (hk : 0 < k) : zsgn (k * n) = zsgn n := by
  rcases Int.lt_trichotomy n 0 with h | h | h
  · rw [zsgn_neg h, zsgn_neg (Int.mul_neg_of_pos_of_neg hk h)]
  · rw [h, Int.mul_zero]
  · rw [zsgn_pos h, zsgn_pos (Int.mul_pos hk h)]
theorem lowG_pos {a b : Int} (hb : 0 < b) : 0 < lowG a b := by
  have := lowG_ne (a := a) (b := b) (by omega)
  unfold lowG at *
  rw [if_neg (by omega)] at *
  omega
theorem rsgn_div {a b c d : Int} (hb : 0 < b) (hd : 0 < d) : rsgn (Rat.divInt a b) (Rat.divInt c d) = zsgn (a * d - c * b) := by
  have a1 := low_num (a := a) (b := b) (by omega)
  have a2 := low_den (a := a) (b := b) (by omega)
  have c1 := low_num (a := c) (b := d) (by omega)
  have c2 := low_den (a := c) (b := d) (by omega)
  have p1 := lowG_pos (a := a) hb
  have p2 := lowG_pos (a := c) hd
  unfold rsgn
  generalize (Rat.divInt a b).num = n at *
  generalize ((Rat.divInt a b).den : Int) = p at *
  generalize (Rat.divInt c d).num = m at *
  generalize ((Rat.divInt c d).den : Int) = q at *
  generalize lowG a b = g at *
  generalize lowG c d = h at *
  have e : a * d - c * b = (g * h) * (n * q - m * p) := by
    rw [a1, a2, c1, c2]; grind
  rw [e, zsgn_mul (Int.mul_pos p1 p2)]
theorem int_div (n : Int) : (n : Rat) = Rat.divInt n 1 := by rw [Rat.divInt_eq_div, Rat.intCast_one]; grind

theorem vnum_pos {l : List Int} (h : 2 ≤ l.length) (h0 : vr l ≠ 0) : 0 < vnum l := by
  have hd : 0 < vden l := Int.mul_pos (by omega) (by omega)
  have h1 : 0 ≤ vr l := by
    rcases Rat.le_total (a := 0) (b := vr l) with h1 | h1
    · exact h1
    · have e := vr_dev h
      have hn := cast_ne (n := (l.length : Int) - 1) (by omega)
      have h2 := dev_nonneg (ctr l) l
      have h3 : dev (ctr l) l = vr l * ((((l.length : Int) - 1 : Int)) : Rat) := by rw [← e]; grind
      have h4 : (0 : Rat) ≤ ((((l.length : Int) - 1 : Int)) : Rat) := by
        have := Rat.intCast_le_intCast.2 (show (0 : Int) ≤ (l.length : Int) - 1 by omega)
        exact this
      have h5 : 0 ≤ (-vr l) * ((((l.length : Int) - 1 : Int)) : Rat) := Rat.mul_nonneg (by grind) h4
      have h6 : vr l * ((((l.length : Int) - 1 : Int)) : Rat) = 0 := by grind
      rcases Rat.mul_eq_zero.1 h6 with h7 | h7
      · rw [h7]; exact Rat.le_refl
      · exact absurd h7 hn
  have h2 : 0 ≤ vnum l := (Rat.divInt_nonneg_iff_of_pos_right hd).1 h1
  have h3 : vnum l ≠ 0 := fun e => h0 (by unfold vr; rw [e]; exact Rat.zero_divInt _)
  omega
theorem idx_div {n p f v q : Int} (hp : p ≠ 0) (hf : f ≠ 0) (hv : v ≠ 0) : idxV (Rat.divInt n p) f (Rat.divInt v q) = Rat.divInt (n * n * q) (p * p * (f * v)) := by
  have h1 := cast_ne hp
  have h2 := cast_ne hf
  have h3 := cast_ne hv
  unfold idxV
  simp only [Rat.divInt_eq_div, Rat.intCast_mul]
  by_cases hq : (q : Rat) = 0
  · rw [hq]; grind
  · grind
theorem idx_cmp {l : List Int} {lo hi : Int} (h : 2 ≤ l.length) (h0 : vr l ≠ 0) :
    rsgn (idxV (Rat.divInt (dist l lo hi) l.length) 9 (vr l)) (idxV ((hi - lo : Int) : Rat) 36 (vr l)) = zsgn ((2 * dist l lo hi - (l.length : Int) * (hi - lo)) * (2 * dist l lo hi + (l.length : Int) * (hi - lo))) := by
  have hn := vnum_pos h h0
  have hd : 0 < vden l := Int.mul_pos (by omega) (by omega)
  have hl : 0 < (l.length : Int) := by omega
  rw [int_div, vr, idx_div (by omega) (by omega) (by omega), idx_div (by omega) (by omega) (by omega)]
  generalize vnum l = v at *
  generalize vden l = q at *
  generalize (l.length : Int) = n at *
  generalize dist l lo hi = d at *
  rw [rsgn_div (Int.mul_pos (Int.mul_pos hl hl) (by omega)) (by omega)]
  have e : d * d * q * (1 * 1 * (36 * v)) - (hi - lo) * (hi - lo) * q * (n * n * (9 * v)) = (9 * (q * v)) * ((2 * d - n * (hi - lo)) * (2 * d + n * (hi - lo))) := by grind
  rw [e]
  exact zsgn_mul (Int.mul_pos (by omega) (Int.mul_pos hd hn))

/-- what the law compares -/
theorem centers_law {l : List Int} {lo hi : Int} (h : 2 ≤ l.length) (h0 : vr l ≠ 0) (hlh : lo ≤ hi) (S L H M N : Int)
    (hS : S = zsgn (dist l lo hi)) (hL : L = rsgn (ctr l) (lo : Rat)) (hH : H = rsgn (ctr l) (hi : Rat)) (hM : M = rsgn (ctr l) (Rat.divInt (lo + hi) 2))
    (hN : N = rsgn (idxV (Rat.divInt (dist l lo hi) l.length) 9 (vr l)) (idxV ((hi - lo : Int) : Rat) 36 (vr l))) :
    (0 < S ↔ 0 < L ∧ H < 0) ∧ (S < 0 ↔ L < 0 ∨ 0 < H) ∧ (0 ≤ S → N ≤ 0 ∧ (N = 0 ↔ M = 0)) := by
  rw [idx_cmp h h0] at hN
  have hl : 0 < (l.length : Int) := by omega
  rw [int_div, ctr, rsgn_div hl (by omega)] at hL hH
  rw [ctr, rsgn_div hl (by omega)] at hM
  generalize hs : l.sum = s at *
  have e1 : dist l lo hi = min ((l.length : Int) * hi - s) (s - (l.length : Int) * lo) := by rw [← hs]; rfl
  generalize dist l lo hi = d at *
  generalize (l.length : Int) = n at *
  have q1 : hi * n = n * hi := Int.mul_comm ..
  have q2 : lo * n = n * lo := Int.mul_comm ..
  have q3 : (lo + hi) * n = n * hi + n * lo := by grind
  have q4 : n * (hi - lo) = n * hi - n * lo := by grind
  have q5 : n * lo ≤ n * hi := Int.mul_le_mul_of_nonneg_left hlh (by omega)
  rw [q1] at hH
  rw [q2] at hL
  rw [q3] at hM
  rw [q4] at hN
  generalize n * hi = A at *
  generalize n * lo = B at *
  clear q1 q2 q3 q4 h0 hs h
  have cS := zsgn_cases d
  rw [← hS] at cS
  have cL := zsgn_cases (s * 1 - B)
  rw [← hL] at cL
  have cH := zsgn_cases (s * 1 - A)
  rw [← hH] at cH
  have cM := zsgn_cases (s * 2 - (A + B))
  rw [← hM] at cM
  refine ⟨?_, ?_, ?_⟩
  · clear hN; omega
  · clear hN; omega
  · intro h0
    have d0 : 0 ≤ d := by omega
    have d1 : 2 * d - (A - B) ≤ 0 := by omega
    have d2 : 0 ≤ 2 * d + (A - B) := by omega
    have cN := zsgn_cases ((2 * d - (A - B)) * (2 * d + (A - B)))
    rw [← hN] at cN
    have hle : (2 * d - (A - B)) * (2 * d + (A - B)) ≤ 0 := Int.mul_nonpos_of_nonpos_of_nonneg d1 d2
    refine ⟨by omega, ?_⟩
    constructor
    · intro hn
      have : (2 * d - (A - B)) * (2 * d + (A - B)) = 0 := by omega
      rcases Int.mul_eq_zero.1 this with h1 | h1 <;> omega
    · intro hm
      have h1 : 2 * d - (A - B) = 0 := by omega
      rw [h1, Int.zero_mul] at cN
      omega
end Go.Proofs.YtgmegfcjbnfnaaaGreatDoor

/- Walks over the reference 57: Distance, Centered. -/
namespace Go.Proofs.YtgmegfcjbnfnaaaGreatDoor
open Go.RowKit Go.Shelf Wide Numer
open Go.Lib (decDigits itoa nDigits)

/-- the distances to the limits, and which is less -/
theorem up_div {l : List Int} (hi : Int) (h : 0 < l.length) : ((hi : Int) : Rat) - ctr l = Rat.divInt ((l.length : Int) * hi - l.sum) l.length := by
  have hn := cast_ne (n := (l.length : Int)) (by omega)
  rw [ctr, Rat.divInt_eq_div, Rat.divInt_eq_div, Rat.intCast_sub, Rat.intCast_mul]
  grind
theorem down_div {l : List Int} (lo : Int) (h : 0 < l.length) : ctr l - ((lo : Int) : Rat) = Rat.divInt (l.sum - (l.length : Int) * lo) l.length := by
  have hn := cast_ne (n := (l.length : Int)) (by omega)
  rw [ctr, Rat.divInt_eq_div, Rat.divInt_eq_div, Rat.intCast_sub, Rat.intCast_mul]
  grind
theorem dist_cmp {l : List Int} {lo hi : Int} (h : 0 < l.length) :
    (rsgn (((hi : Int) : Rat) - ctr l) (ctr l - ((lo : Int) : Rat)) < 0 → ((hi : Int) : Rat) - ctr l = Rat.divInt (dist l lo hi) l.length) ∧
    (¬ rsgn (((hi : Int) : Rat) - ctr l) (ctr l - ((lo : Int) : Rat)) < 0 → ctr l - ((lo : Int) : Rat) = Rat.divInt (dist l lo hi) l.length) := by
  rw [up_div hi h, down_div lo h, rsgn_div (by omega) (by omega)]
  rw [show ((l.length : Int) * hi - l.sum) * (l.length : Int) - (l.sum - (l.length : Int) * lo) * (l.length : Int) = (l.length : Int) * (((l.length : Int) * hi - l.sum) - (l.sum - (l.length : Int) * lo)) by grind]
  rw [zsgn_mul (by omega)]
  unfold dist
  generalize (l.length : Int) * hi - l.sum = A at *
  generalize l.sum - (l.length : Int) * lo = B at *
  have hz := zsgn_cases (A - B)
  constructor
  · intro h1; rw [Int.min_eq_left (by omega)]
  · intro h1; rw [Int.min_eq_right (by omega)]
theorem zsgn_divNum {a b : Int} (hb : 0 < b) : zsgn (Rat.divInt a b).num = zsgn a := by
  have h := low_num (a := a) (b := b) (by omega)
  have hg := lowG_pos (a := a) hb
  conv => rhs; rw [h]
  rw [zsgn_mul hg]

set_option maxHeartbeats 2000000 in
set_option maxRecDepth 100000 in
theorem distance_any (b o c : Nat) (l : List Int) (lo hi : Int) (w : World) (h0 : 0 < l.length) (hl : l.length ≤ 100) (hv : Vals l) (h1 : -1048576 ≤ lo ∧ lo ≤ 1048576) (h2 : -1048576 ≤ hi ∧ hi ≤ 1048576) (hr : Row w b o l) :
    Calls Tryz.prog 59 #[.slice (some ⟨b, o, none⟩) l.length c, .agg #[.int .i64 lo, .int .i64 hi]] w fun e w' => e = .returned (.string (rt (Rat.divInt (dist l lo hi) l.length))) ∧ Kept w w' := by
  have K1 := (Kept.refl w).alloc (.cells #[.int .i64 lo, .int .i64 hi] 34)
  obtain ⟨cl, ch⟩ := two_cells (lim_head lo hi w)
  have C := fun w hr => center_any b o c l w (by omega) (by omega) hv.t hr
  have W1 := fun w => whole2_any hi (by omega) (by omega) w
  have W2 := fun w => whole2_any lo (by omega) (by omega) w
  have rm := ctr_Rk h0 (by omega) hv
  have M1 := fun w => minus2_any ((hi : Int) : Rat) (ctr l) ((Rk.int (dk7 h2)).mono (by omega)) (rm.mono (by omega)) w
  have M2 := fun w => minus2_any (ctr l) ((lo : Int) : Rat) (rm.mono (by omega)) ((Rk.int (dk7 h1)).mono (by omega)) w
  have O := fun w => order2_any (((hi : Int) : Rat) - ctr l) (ctr l - ((lo : Int) : Rat)) (((Rk.int (dk7 h2)).sub rm).mono (by omega)) ((rm.sub (Rk.int (dk7 h1))).mono (by omega)) w
  obtain ⟨d1, d2⟩ := dist_cmp (l := l) (lo := lo) (hi := hi) h0
  have HR := Lib.hid (hr.keep K1)
  obtain ⟨g1, g2⟩ := h1
  obtain ⟨g3, g4⟩ := h2
  clear h0 hl hv hr rm
  generalize rsgn (((hi : Int) : Rat) - ctr l) (ctr l - ((lo : Int) : Rat)) = s at *
  by_cases hs : s < 0
  · have e := d1 hs
    rw [e] at M1 O
    clear d1 d2 e
    generalize rt (Rat.divInt (dist l lo hi) l.length) = t at *
    generalize rt (ctr l - ((lo : Int) : Rat)) = t2 at *
    generalize rt ((hi : Int) : Rat) = t3 at *
    generalize rt ((lo : Int) : Rat) = t4 at *
    generalize rt (ctr l) = t5 at *
    generalize l.length = n at *
    go_enter Tryz.func59, Tryz.ntmps59
    go_wp2_with fail
    generalize w.alloc (.cells #[.int .i64 lo, .int .i64 hi] 34) = w1 at *
    go_region_held3 (fun w' => Kept w1 w' ∧ w'.cell? ⟨w.heap.size, 0, none⟩ = some (.int .i64 lo) ∧ w'.cell? ⟨w.heap.size, 1, none⟩ = some (.int .i64 hi))
      (first | exact ⟨(Kept.refl _).drew, cl, ch⟩ | exact ⟨(‹Kept w1 _ ∧ _ ∧ _›.1).trans hk, hk.cell (‹Kept w1 _ ∧ _ ∧ _›.2.1), hk.cell (‹Kept w1 _ ∧ _ ∧ _›.2.2)⟩)
      (first | (go_at_call 38; (first | with_reducible refine (W1 _).mono ?_ | with_reducible refine (W2 _).mono ?_); rintro e w2 ⟨rfl, hk⟩)
             | (go_at_call 42; refine (C _ (by exact HR.out.keep (‹Kept w1 _ ∧ _ ∧ _›.1))).mono ?_; rintro e w2 ⟨rfl, hk⟩)
             | (go_at_call 82; (first | with_reducible refine (M1 _).mono ?_ | with_reducible refine (M2 _).mono ?_); rintro e w2 ⟨rfl, hk⟩))
    have hk1 := ‹Kept w1 w2 ∧ _ ∧ _›.1
    go_wp2_with fail
    refine (O _).mono ?_
    rintro e w3 ⟨rfl, k3⟩
    go_wp2
    go_returns
    exact ⟨rfl, (K1.trans hk1).trans k3⟩
  · have e := d2 hs
    rw [e] at M2 O
    clear d1 d2 e
    generalize rt (Rat.divInt (dist l lo hi) l.length) = t at *
    generalize rt (((hi : Int) : Rat) - ctr l) = t2 at *
    generalize rt ((hi : Int) : Rat) = t3 at *
    generalize rt ((lo : Int) : Rat) = t4 at *
    generalize rt (ctr l) = t5 at *
    generalize l.length = n at *
    go_enter Tryz.func59, Tryz.ntmps59
    go_wp2_with fail
    generalize w.alloc (.cells #[.int .i64 lo, .int .i64 hi] 34) = w1 at *
    go_region_held3 (fun w' => Kept w1 w' ∧ w'.cell? ⟨w.heap.size, 0, none⟩ = some (.int .i64 lo) ∧ w'.cell? ⟨w.heap.size, 1, none⟩ = some (.int .i64 hi))
      (first | exact ⟨(Kept.refl _).drew, cl, ch⟩ | exact ⟨(‹Kept w1 _ ∧ _ ∧ _›.1).trans hk, hk.cell (‹Kept w1 _ ∧ _ ∧ _›.2.1), hk.cell (‹Kept w1 _ ∧ _ ∧ _›.2.2)⟩)
      (first | (go_at_call 38; (first | with_reducible refine (W1 _).mono ?_ | with_reducible refine (W2 _).mono ?_); rintro e w2 ⟨rfl, hk⟩)
             | (go_at_call 42; refine (C _ (by exact HR.out.keep (‹Kept w1 _ ∧ _ ∧ _›.1))).mono ?_; rintro e w2 ⟨rfl, hk⟩)
             | (go_at_call 82; (first | with_reducible refine (M1 _).mono ?_ | with_reducible refine (M2 _).mono ?_); rintro e w2 ⟨rfl, hk⟩))
    have hk1 := ‹Kept w1 w2 ∧ _ ∧ _›.1
    go_wp2_with fail
    refine (O _).mono ?_
    rintro e w3 ⟨rfl, k3⟩
    go_wp2
    go_returns
    exact ⟨rfl, (K1.trans hk1).trans k3⟩

set_option maxHeartbeats 2000000 in
set_option maxRecDepth 100000 in
theorem rcentered_any (a : Option Addr) (c : Nat) (l : List Int) (lo hi : Int) (w : World) (hl : l.length ≤ 100 ∨ 4096 < l.length) (hs : Ser w a l) :
    Calls Tryz.prog 23 #[.slice a l.length c, .agg #[.int .i64 lo, .int .i64 hi]] w fun e w' => e = .returned (.tuple #[.string (ifS (dE l lo hi) (rt (idxV (Rat.divInt (dist l lo hi) l.length) 9 (vr l)))), .int .i64 (if dE l lo hi = 0 then zsgn (dist l lo hi) else 0), .int .i64 (dE l lo hi)]) ∧ Kept w w' := by
  have K1 := (Kept.refl w).alloc (.cells #[.int .i64 lo, .int .i64 hi] 34)
  obtain ⟨cl, ch⟩ := two_cells (lim_head lo hi w)
  have V := rvaried_any a c l lo hi _ hl (hs.keep K1)
  by_cases hb : dE l lo hi = 0
  · obtain ⟨h1, h2, h3⟩ := dE_zero hb
    obtain ⟨h4, h5, h6⟩ := bE_len h1 hl
    obtain ⟨_, hlo, hhi, _⟩ := bE_zero h1
    obtain ⟨b, o, rfl, hbb, hr⟩ := hs h4
    have D := fun w hr => deviation_any b o c l w (by omega) (by omega) h6 hr
    have X := fun w hr => distance_any b o c l lo hi w (by omega) (by omega) h6 hlo hhi hr
    have sb := sum_bdt h6.t
    have nb1 := nx_bd (n := (l.length : Int)) (x := hi) (by omega) (by omega) hhi
    have nb2 := nx_bd (n := (l.length : Int)) (x := lo) (by omega) (by omega) hlo
    have db : (dist l lo hi).natAbs < 10 ^ 20 := by unfold dist; omega
    have zd := zsgn_divNum (a := dist l lo hi) (b := (l.length : Int)) (by omega)
    have rd : Rk 20 (Rat.divInt (dist l lo hi) l.length) := Rk.divInt (by omega) (Dk_of_lt (by omega) db) (Dk_of_lt (by omega) (by omega))
    have rv := vr_Rk h2 h5 h6
    have r9 : Rk 1 (((9 : Int)) : Rat) := Rk.int (Dk_of_lt (by omega) (by decide))
    have T1 := fun w => times2_any (Rat.divInt (dist l lo hi) l.length) (Rat.divInt (dist l lo hi) l.length) (rd.mono (by omega)) (rd.mono (by omega)) w
    have T2 := fun w => times2_any (((9 : Int)) : Rat) (vr l) (r9.mono (by omega)) (rv.mono (by omega)) w
    have hne : (((9 : Int)) : Rat) * vr l ≠ 0 := fun e => (Rat.mul_eq_zero.1 e).elim (cast_ne (by omega)) h3
    have B := fun w => by2_any (Rat.divInt (dist l lo hi) l.length * Rat.divInt (dist l lo hi) l.length) ((((9 : Int)) : Rat) * vr l) ((rd.mul rd).mono (by omega)) ((r9.mul rv).mono (by omega)) hne w
    have G := fun w => signum2_any (Rat.divInt (dist l lo hi) l.length) (rd.mono (by omega)) w
    rw [zd] at G
    rw [show Rat.divInt (dist l lo hi) l.length * Rat.divInt (dist l lo hi) l.length / ((((9 : Int)) : Rat) * vr l) = idxV (Rat.divInt (dist l lo hi) l.length) 9 (vr l) from rfl] at B
    rw [hb] at V
    rw [hb, ifS, if_pos rfl, if_pos rfl]
    rw [rt_int 9, tx_9] at T2
    have HR := Lib.hid (hr.keep K1)
    clear hb h1 h2 h3 h4 h5 h6 hs hr hl rd rv r9 hne hbb sb nb1 nb2 db zd hlo hhi
    generalize rt (idxV (Rat.divInt (dist l lo hi) l.length) 9 (vr l)) = t at *
    generalize rt (Rat.divInt (dist l lo hi) l.length * Rat.divInt (dist l lo hi) l.length) = t3 at *
    generalize rt ((((9 : Int)) : Rat) * vr l) = t4 at *
    generalize rt (Rat.divInt (dist l lo hi) l.length) = t1 at *
    generalize rt (vr l) = t2 at *
    generalize zsgn (dist l lo hi) = z at *
    generalize l.length = n at *
    go_enter Tryz.func23, Tryz.ntmps23
    go_wp2_with fail
    refine V.mono ?_
    rintro e w1 ⟨rfl, k1⟩
    have cl1 := k1.cell cl
    have ch1 := k1.cell ch
    go_wp2_with fail
    refine (X _ (HR.out.keep k1)).mono ?_
    rintro e w2 ⟨rfl, k2⟩
    go_wp2_with fail
    refine ((T1) _).mono ?_
    rintro r w3 ⟨rfl, k3⟩
    go_wp2_with fail
    refine (D _ (HR.out.keep ((k1.trans k2).trans k3))).mono ?_
    rintro e w4 ⟨rfl, k4⟩
    go_wp2_with fail
    refine ((T2) _).mono ?_
    rintro r w5 ⟨rfl, k5⟩
    go_wp2_with fail
    refine ((B) _).mono ?_
    rintro r w6 ⟨rfl, k6⟩
    go_wp2_with fail
    refine ((G) _).mono ?_
    rintro r w7 ⟨rfl, k7⟩
    go_wp2
    go_returns
    exact ⟨rfl, ((((((K1.trans k1).trans k2).trans k3).trans k4).trans k5).trans k6).trans k7⟩
  · rw [ifS, if_neg hb, if_neg hb]
    have hb2 : (dE l lo hi != 0) = true := by simp [hb]
    clear hs hb hl
    generalize dE l lo hi = v at *
    generalize l.length = n at *
    go_enter Tryz.func23, Tryz.ntmps23
    go_wp2_with fail
    refine V.mono ?_
    rintro e w1 ⟨rfl, k1⟩
    go_wp2
    go_returns
    exact ⟨rfl, K1.trans k1⟩
end Go.Proofs.YtgmegfcjbnfnaaaGreatDoor

/- Walks over the reference 57: Mean, Median. -/
namespace Go.Proofs.YtgmegfcjbnfnaaaGreatDoor
open Go.RowKit Go.Shelf Wide Numer
open Go.Lib (decDigits itoa nDigits)

set_option maxHeartbeats 2000000 in
set_option maxRecDepth 100000 in
theorem rmean_any (a : Option Addr) (c : Nat) (l : List Int) (w : World) (hs : Ser w a l) :
    Calls Tryz.prog 13 #[.slice a l.length c] w fun e w' => e = .returned (.tuple #[.string (ifS (chkS l) (rt (ctr l))), .int .i64 (chkS l)]) ∧ Kept w w' := by
  have hk := rcheck57_any a c l w hs
  by_cases hc : chkS l = 0
  · obtain ⟨h0, h2, h3⟩ := chkS_zero.1 hc
    obtain ⟨b, o, rfl, hb, hr⟩ := hs h0
    have C := center_any b o c l w h0 (by omega) (Vals.t h3) hr
    rw [hc] at hk
    rw [hc, ifS, if_pos rfl]
    clear hc h0 h2 h3 hb hr hs
    generalize rt (ctr l) = t at *
    generalize l.length = n at *
    go_enter Tryz.func13, Tryz.ntmps13
    go_wp2_with fail
    refine hk.mono ?_
    rintro e w1 ⟨rfl, rfl⟩
    go_wp2_with fail
    refine C.mono ?_
    rintro e w2 ⟨rfl, k2⟩
    go_wp2
    go_returns
    exact ⟨rfl, k2⟩
  · rw [ifS, if_neg hc]
    have hb1 : (chkS l != 0) = true := by simp [hc]
    clear hc hs
    generalize chkS l = v at *
    generalize l.length = n at *
    go_enter Tryz.func13, Tryz.ntmps13
    go_wp2_with fail
    refine hk.mono ?_
    rintro e w1 ⟨rfl, rfl⟩
    go_wp2
    go_returns
    exact ⟨rfl, Kept.refl _⟩

set_option maxHeartbeats 2000000 in
set_option maxRecDepth 100000 in
theorem rmedian_any (a : Option Addr) (c : Nat) (l : List Int) (w : World) (hs : Ser w a l) :
    Calls Tryz.prog 17 #[.slice a l.length c] w fun e w' => e = .returned (.tuple #[.string (ifS (chkS l) (rt (medV l))), .int .i64 (chkS l)]) ∧ Kept w w' := by
  have hk := rcheck57_any a c l w hs
  by_cases hc : chkS l = 0
  · obtain ⟨h0, h2, h3⟩ := chkS_zero.1 hc
    obtain ⟨b, o, rfl, hb, hr⟩ := hs h0
    have S := sorted57_any b o c l w h0 (by omega) hr
    have hl2 : (sortL l).length = l.length := (sortL_perm l).length_eq
    have Hl := Lib.hid hl2
    have p1 := (sortL_vals h3).get ((l.length - 1) / 2) (by rw [hl2]; omega)
    have p2 := (sortL_vals h3).get (l.length / 2) (by rw [hl2]; omega)
    obtain ⟨x, hx⟩ : ∃ x, (sortL l)[(l.length - 1) / 2]?.getD 0 = x := ⟨_, rfl⟩
    obtain ⟨y, hy⟩ : ∃ y, (sortL l)[l.length / 2]?.getD 0 = y := ⟨_, rfl⟩
    rw [hx] at p1
    rw [hy] at p2
    have O := fun w => over_any (x + y) 2 (by omega) (by unfold Sh; omega) (by unfold Sh; omega) w
    rw [show Rat.divInt (x + y) 2 = medV l by unfold medV; rw [hx, hy]] at O
    rw [hc] at hk
    rw [hc, ifS, if_pos rfl]
    have HX := Lib.hid hx
    have HY := Lib.hid hy
    clear hc h3 hb hr hs hl2 hx hy
    generalize rt (medV l) = t at *
    obtain ⟨n, hn⟩ : ∃ n, l.length = n := ⟨_, rfl⟩
    rw [hn] at Hl HX HY S hk h0 h2 ⊢
    clear hn
    go_enter Tryz.func17, Tryz.ntmps17
    go_wp2_with fail
    refine hk.mono ?_
    rintro e w1 ⟨rfl, rfl⟩
    go_wp2_with fail
    refine S.mono ?_
    rintro e w2 ⟨v, rfl, hn⟩
    obtain ⟨g, cap, rfl, hg, hI⟩ := hn.block (by rw [Hl.out]; exact h0)
    have k2 := hn.2.2
    have c1 := hI.cell ((n - 1) / 2) (by rw [Hl.out]; omega)
    have c2 := hI.cell (n / 2) (by rw [Hl.out]; omega)
    rw [HX.out] at c1
    rw [HY.out] at c2
    rw [Hl.out]
    have q1 : ((n : Int) - 1).tdiv 2 = (((n - 1) / 2 : Nat) : Int) := by rw [Int.tdiv_eq_ediv_of_nonneg (by omega)]; omega
    have q2 : (n : Int).tdiv 2 = ((n / 2 : Nat) : Int) := by rw [Int.tdiv_eq_ediv_of_nonneg (by omega)]; omega
    have r1 : (n - 1) / 2 < n := by omega
    have r2 : n / 2 < n := by omega
    generalize (n - 1) / 2 = p at *
    generalize n / 2 = q at *
    have i1 : IntKind.i64.wrap ((n : Int) - 1) = (n : Int) - 1 := by rw [IntKind.wrap_i64]; omega
    have i2 : IntKind.i64.wrap (p : Int) = (p : Int) := by rw [IntKind.wrap_i64]; omega
    have i3 : IntKind.i64.wrap (q : Int) = (q : Int) := by rw [IntKind.wrap_i64]; omega
    have i4 : IntKind.i64.wrap (x + y) = x + y := by rw [IntKind.wrap_i64]; omega
    have hk2 := Lib.hid k2
    have O2 := Lib.hid O
    clear hn hI S k2 O hk Hl
    go_wp2_with fail
    go_region_held3 (fun w' => w'.cell? ⟨g, p, none⟩ = some (.int .i64 x) ∧ w'.cell? ⟨g, q, none⟩ = some (.int .i64 y))
      (first | exact ⟨hk3.cell c1, hk3.cell c2⟩ | exact ⟨c1, c2⟩)
      (first | (go_at_call 39; refine (O2.out _).mono ?_; rintro e w3 ⟨rfl, hk3⟩))
    go_wp2
    go_returns
    exact ⟨rfl, hk2.out.trans (kept_drew hk3)⟩
  · rw [ifS, if_neg hc]
    have hb1 : (chkS l != 0) = true := by simp [hc]
    clear hc hs
    generalize chkS l = v at *
    generalize l.length = n at *
    go_enter Tryz.func17, Tryz.ntmps17
    go_wp2_with fail
    refine hk.mono ?_
    rintro e w1 ⟨rfl, rfl⟩
    go_wp2
    go_returns
    exact ⟨rfl, Kept.refl _⟩
end Go.Proofs.YtgmegfcjbnfnaaaGreatDoor

/- The walks of CapabilityMeasures and CapabilityJudges. -/
namespace Go.Proofs.YtgmegfcjbnfnaaaGreatDoor
open Go.RowKit Go.Shelf Wide Numer
open Go.Lib (itoa)

theorem few_len {n : Nat} (h : fewB n = true) : n ≤ 8192 ∧ (n ≤ 100 ∨ 4096 < n) := by
  unfold fewB at h
  simp at h
  omega

set_option maxHeartbeats 8000000 in
set_option maxRecDepth 100000 in
theorem measures_walk (a : Option Addr) (c : Nat) (l : List Int) (w : World) (hT : Tab w) (hs : Ser w a l) (_ : l.length ≤ c) :
    Calls Tryz.prog 3 #[.slice a l.length c] w fun e w' => e = .returned (.bool true) ∧ Kept w w' := by
  have F := fun w => few_any a l.length c w
  have A := fun w hT => awake_any w hT
  have HT := Lib.hid hT
  have HS := Lib.hid hs
  clear hs hT
  go_enter Tryz.func3, Tryz.ntmps3
  go_wp2_with fail
  refine (F _).mono ?_
  rintro e w2 ⟨rfl, rfl⟩
  cases hf : fewB l.length
  · clear HS F
    go_wp2_with fail
    refine (A _ HT.out).mono ?_
    rintro e w3 ⟨rfl, k3⟩
    go_wp2
    go_returns
    exact ⟨rfl, k3⟩
  · obtain ⟨h1, h2⟩ := few_len hf
    have M1 := fun w hT hs => cMean_any a c l w hT (by omega) hs
    have M2 := fun w hs => rmean_any a c l w hs
    have V1 := fun w hT hs => cVariance_any a c l w hT (by omega) hs
    have V2 := fun w hs => rvariance_any a c l w h2 hs
    have D1 := fun w hT hs => cMedian_any a c l w hT (by omega) hs
    have D2 := fun w hs => rmedian_any a c l w hs
    have C1 := fun w hs => ccheck_ser a c l w (by omega) hs
    have C2 := fun w hs => rcheck57_any a c l w hs
    clear hf F
    generalize ifS (chkS l) (rt (ctr l)) = s1 at *
    generalize ifS (vE l) (rt (vr l)) = s2 at *
    generalize ifS (chkS l) (rt (medV l)) = s3 at *
    generalize chkS l = e1 at *
    generalize vE l = e2 at *
    go_wp2_with fail
    refine (M1 _ HT.out HS.out).mono ?_
    rintro e w1 ⟨rfl, k1⟩
    go_wp2_with fail
    refine (M2 _ (HS.out.keep k1)).mono ?_
    rintro e w3 ⟨rfl, k2⟩
    have k3 := k1.trans k2
    go_wp2_with fail
    refine (V1 _ (HT.out.keep k3) (HS.out.keep k3)).mono ?_
    rintro e w4 ⟨rfl, k4⟩
    replace k4 := k3.trans k4
    go_wp2_with fail
    refine (V2 _ (HS.out.keep k4)).mono ?_
    rintro e w5 ⟨rfl, k5⟩
    replace k5 := k4.trans k5
    go_wp2_with fail
    refine (D1 _ (HT.out.keep k5) (HS.out.keep k5)).mono ?_
    rintro e w6 ⟨rfl, k6⟩
    replace k6 := k5.trans k6
    go_wp2_with fail
    refine (D2 _ (HS.out.keep k6)).mono ?_
    rintro e w7 ⟨rfl, k7⟩
    replace k7 := k6.trans k7
    go_wp2_with fail
    refine (A _ (HT.out.keep k7)).mono ?_
    rintro e w8 ⟨rfl, k8⟩
    replace k8 := k7.trans k8
    have hk := Lib.hid (HS.out.keep k8)
    go_wp2_with fail
    refine (C1 _ hk.out).mono ?_
    rintro e w9 ⟨rfl, rfl⟩
    go_wp2_with fail
    refine (C2 _ hk.out).mono ?_
    rintro e w9 ⟨rfl, rfl⟩
    go_wp2
    go_returns
    exact ⟨rfl, k8⟩

set_option maxHeartbeats 8000000 in
set_option maxRecDepth 100000 in
theorem judges_walk (a : Option Addr) (c : Nat) (l : List Int) (lo hi : Int) (w : World) (hT : Tab w) (hs : Ser w a l) (_ : l.length ≤ c) :
    Calls Tryz.prog 4 #[.slice a l.length c, .agg #[.int .i64 lo, .int .i64 hi]] w fun e w' => e = .returned (.bool true) ∧ Kept w w' := by
  have K1 := (Kept.refl w).alloc (.cells #[.int .i64 lo, .int .i64 hi] 34)
  obtain ⟨cl, ch⟩ := two_cells (lim_head lo hi w)
  have HT := Lib.hid (hT.keep K1)
  have HS := Lib.hid (hs.keep K1)
  have F := fun w => few_any a l.length c w
  have A := fun w hT => awake_any w hT
  clear hs hT
  go_enter Tryz.func4, Tryz.ntmps4
  go_wp2_with fail
  generalize w.alloc (.cells #[.int .i64 lo, .int .i64 hi] 34) = w1 at *
  refine (F _).mono ?_
  rintro e w2 ⟨rfl, rfl⟩
  cases hf : fewB l.length
  · clear HS F cl ch
    go_wp2_with fail
    refine (A _ HT.out).mono ?_
    rintro e w3 ⟨rfl, k3⟩
    go_wp2
    go_returns
    exact ⟨rfl, K1.trans k3⟩
  · obtain ⟨h1, h2⟩ := few_len hf
    have M1 := fun w hT hs => cCapability_any a c l lo hi w hT (by omega) hs
    have M2 := fun w hs => rcapability_any a c l lo hi w h2 hs
    have V1 := fun w hT hs => cCentered_any a c l lo hi w hT (by omega) hs
    have V2 := fun w hs => rcentered_any a c l lo hi w h2 hs
    clear hf F
    generalize ifS (dE l lo hi) (rt (idxV ((hi - lo : Int) : Rat) 36 (vr l))) = s1 at *
    generalize ifS (dE l lo hi) (rt (idxV (Rat.divInt (dist l lo hi) l.length) 9 (vr l))) = s2 at *
    generalize (if dE l lo hi = 0 then zsgn (dist l lo hi) else 0) = s3 at *
    generalize dE l lo hi = e1 at *
    go_wp2_with fail
    refine (M1 _ HT.out HS.out).mono ?_
    rintro e w1 ⟨rfl, k1⟩
    have cl1 := k1.cell cl
    have ch1 := k1.cell ch
    go_wp2_with fail
    refine (M2 _ (HS.out.keep k1)).mono ?_
    rintro e w3 ⟨rfl, k2⟩
    have k3 := k1.trans k2
    have cl3 := k3.cell cl
    have ch3 := k3.cell ch
    clear cl1 ch1
    go_wp2_with fail
    refine (V1 _ (HT.out.keep k3) (HS.out.keep k3)).mono ?_
    rintro e w4 ⟨rfl, k4⟩
    replace k4 := k3.trans k4
    have cl4 := k4.cell cl
    have ch4 := k4.cell ch
    clear cl3 ch3
    go_wp2_with fail
    refine (V2 _ (HS.out.keep k4)).mono ?_
    rintro e w5 ⟨rfl, k5⟩
    replace k5 := k4.trans k5
    clear cl4 ch4
    go_wp2_with fail
    refine (A _ (HT.out.keep k5)).mono ?_
    rintro e w8 ⟨rfl, k8⟩
    replace k8 := k5.trans k8
    go_wp2
    go_returns
    exact ⟨rfl, K1.trans k8⟩
end Go.Proofs.YtgmegfcjbnfnaaaGreatDoor
