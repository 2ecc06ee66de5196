/- The statement CapabilityCenters holds for every input. No conditions beyond the row's own. -/
import Derived.Test.YtgmegfcjbnfnaaaGreatDoorM10
import Derived.Test.YtgmegfcjbnfnaaaGreatDoorM6
import Derived.Test.YtgmegfcjbnfnaaaGreatDoorM8
import Derived.Test.YtgmegfcjbnfnaaaGreatDoorM9

/- The plain mathematics of the centered capability. -/
namespace Go.Proofs.YtgmegfcjbnfnaaaGreatDoor
open Go.RowKit Wide Numer

theorem zsgn_cases (n : Int) : (zsgn n = -1 ∧ n < 0) ∨ (zsgn n = 0 ∧ n = 0) ∨ (zsgn n = 1 ∧ 0 < n) := by
  rcases Int.lt_trichotomy n 0 with h | h | h
  · exact .inl ⟨zsgn_neg h, h⟩
  · rw [h]; exact .inr (.inl ⟨rfl, rfl⟩)
  · exact .inr (.inr ⟨zsgn_pos h, h⟩)
theorem zsgn_mul {k n : Int} (hk : 0 < k) : zsgn (k * n) = zsgn n := by
  rcases Int.lt_trichotomy n 0 with h | h | h
  · rw [zsgn_neg h, zsgn_neg (Int.mul_neg_of_pos_of_neg hk h)]
  · rw [h, Int.mul_zero]
  · rw [zsgn_pos h, zsgn_pos (Int.mul_pos hk h)]
theorem lowG_pos {a b : Int} (hb : 0 < b) : 0 < lowG a b := by
  have := lowG_ne (a := a) (b := b) (by omega)
  unfold lowG at *
  rw [if_neg (by omega)] at *
  omega
theorem rsgn_div {a b c d : Int} (hb : 0 < b) (hd : 0 < d) : rsgn (Rat.divInt a b) (Rat.divInt c d) = zsgn (a * d - c * b) := by
  have a1 := low_num (a := a) (b := b) (by omega)
  have a2 := low_den (a := a) (b := b) (by omega)
  have c1 := low_num (a := c) (b := d) (by omega)
  have c2 := low_den (a := c) (b := d) (by omega)
  have p1 := lowG_pos (a := a) hb
  have p2 := lowG_pos (a := c) hd
  unfold rsgn
  generalize (Rat.divInt a b).num = n at *
  generalize ((Rat.divInt a b).den : Int) = p at *
  generalize (Rat.divInt c d).num = m at *
  generalize ((Rat.divInt c d).den : Int) = q at *
  generalize lowG a b = g at *
  generalize lowG c d = h at *
  have e : a * d - c * b = (g * h) * (n * q - m * p) := by
    rw [a1, a2, c1, c2]; grind
  rw [e, zsgn_mul (Int.mul_pos p1 p2)]
theorem int_div (n : Int) : (n : Rat) = Rat.divInt n 1 := by rw [Rat.divInt_eq_div, Rat.intCast_one]; grind

theorem vnum_pos {l : List Int} (h : 2 ≤ l.length) (h0 : vr l ≠ 0) : 0 < vnum l := by
  have hd : 0 < vden l := Int.mul_pos (by omega) (by omega)
  have h1 : 0 ≤ vr l := by
    rcases Rat.le_total (a := 0) (b := vr l) with h1 | h1
    · exact h1
    · have e := vr_dev h
      have hn := cast_ne (n := (l.length : Int) - 1) (by omega)
      have h2 := dev_nonneg (ctr l) l
      have h3 : dev (ctr l) l = vr l * ((((l.length : Int) - 1 : Int)) : Rat) := by rw [← e]; grind
      have h4 : (0 : Rat) ≤ ((((l.length : Int) - 1 : Int)) : Rat) := by
        have := Rat.intCast_le_intCast.2 (show (0 : Int) ≤ (l.length : Int) - 1 by omega)
        exact this
      have h5 : 0 ≤ (-vr l) * ((((l.length : Int) - 1 : Int)) : Rat) := Rat.mul_nonneg (by grind) h4
      have h6 : vr l * ((((l.length : Int) - 1 : Int)) : Rat) = 0 := by grind
      rcases Rat.mul_eq_zero.1 h6 with h7 | h7
      · rw [h7]; exact Rat.le_refl
      · exact absurd h7 hn
  have h2 : 0 ≤ vnum l := (Rat.divInt_nonneg_iff_of_pos_right hd).1 h1
  have h3 : vnum l ≠ 0 := fun e => h0 (by unfold vr; rw [e]; exact Rat.zero_divInt _)
  omega
theorem idx_div {n p f v q : Int} (hp : p ≠ 0) (hf : f ≠ 0) (hv : v ≠ 0) : idxV (Rat.divInt n p) f (Rat.divInt v q) = Rat.divInt (n * n * q) (p * p * (f * v)) := by
  have h1 := cast_ne hp
  have h2 := cast_ne hf
  have h3 := cast_ne hv
  unfold idxV
  simp only [Rat.divInt_eq_div, Rat.intCast_mul]
  by_cases hq : (q : Rat) = 0
  · rw [hq]; grind
  · grind
theorem idx_cmp {l : List Int} {lo hi : Int} (h : 2 ≤ l.length) (h0 : vr l ≠ 0) :
    rsgn (idxV (Rat.divInt (dist l lo hi) l.length) 9 (vr l)) (idxV ((hi - lo : Int) : Rat) 36 (vr l)) = zsgn ((2 * dist l lo hi - (l.length : Int) * (hi - lo)) * (2 * dist l lo hi + (l.length : Int) * (hi - lo))) := by
  have hn := vnum_pos h h0
  have hd : 0 < vden l := Int.mul_pos (by omega) (by omega)
  have hl : 0 < (l.length : Int) := by omega
  rw [int_div, vr, idx_div (by omega) (by omega) (by omega), idx_div (by omega) (by omega) (by omega)]
  generalize vnum l = v at *
  generalize vden l = q at *
  generalize (l.length : Int) = n at *
  generalize dist l lo hi = d at *
  rw [rsgn_div (Int.mul_pos (Int.mul_pos hl hl) (by omega)) (by omega)]
  have e : d * d * q * (1 * 1 * (36 * v)) - (hi - lo) * (hi - lo) * q * (n * n * (9 * v)) = (9 * (q * v)) * ((2 * d - n * (hi - lo)) * (2 * d + n * (hi - lo))) := by grind
  rw [e]
  exact zsgn_mul (Int.mul_pos (by omega) (Int.mul_pos hd hn))

/-- what the law compares -/
theorem centers_law {l : List Int} {lo hi : Int} (h : 2 ≤ l.length) (h0 : vr l ≠ 0) (hlh : lo ≤ hi) (S L H M N : Int)
    (hS : S = zsgn (dist l lo hi)) (hL : L = rsgn (ctr l) (lo : Rat)) (hH : H = rsgn (ctr l) (hi : Rat)) (hM : M = rsgn (ctr l) (Rat.divInt (lo + hi) 2))
    (hN : N = rsgn (idxV (Rat.divInt (dist l lo hi) l.length) 9 (vr l)) (idxV ((hi - lo : Int) : Rat) 36 (vr l))) :
    (0 < S ↔ 0 < L ∧ H < 0) ∧ (S < 0 ↔ L < 0 ∨ 0 < H) ∧ (0 ≤ S → N ≤ 0 ∧ (N = 0 ↔ M = 0)) := by
  rw [idx_cmp h h0] at hN
  have hl : 0 < (l.length : Int) := by omega
  rw [int_div, ctr, rsgn_div hl (by omega)] at hL hH
  rw [ctr, rsgn_div hl (by omega)] at hM
  generalize hs : l.sum = s at *
  have e1 : dist l lo hi = min ((l.length : Int) * hi - s) (s - (l.length : Int) * lo) := by rw [← hs]; rfl
  generalize dist l lo hi = d at *
  generalize (l.length : Int) = n at *
  have q1 : hi * n = n * hi := Int.mul_comm ..
  have q2 : lo * n = n * lo := Int.mul_comm ..
  have q3 : (lo + hi) * n = n * hi + n * lo := by grind
  have q4 : n * (hi - lo) = n * hi - n * lo := by grind
  have q5 : n * lo ≤ n * hi := Int.mul_le_mul_of_nonneg_left hlh (by omega)
  rw [q1] at hH
  rw [q2] at hL
  rw [q3] at hM
  rw [q4] at hN
  generalize n * hi = A at *
  generalize n * lo = B at *
  clear q1 q2 q3 q4 h0 hs h
  have cS := zsgn_cases d
  rw [← hS] at cS
  have cL := zsgn_cases (s * 1 - B)
  rw [← hL] at cL
  have cH := zsgn_cases (s * 1 - A)
  rw [← hH] at cH
  have cM := zsgn_cases (s * 2 - (A + B))
  rw [← hM] at cM
  refine ⟨?_, ?_, ?_⟩
  · clear hN; omega
  · clear hN; omega
  · intro h0
    have d0 : 0 ≤ d := by omega
    have d1 : 2 * d - (A - B) ≤ 0 := by omega
    have d2 : 0 ≤ 2 * d + (A - B) := by omega
    have cN := zsgn_cases ((2 * d - (A - B)) * (2 * d + (A - B)))
    rw [← hN] at cN
    have hle : (2 * d - (A - B)) * (2 * d + (A - B)) ≤ 0 := Int.mul_nonpos_of_nonpos_of_nonneg d1 d2
    refine ⟨by omega, ?_⟩
    constructor
    · intro hn
      have : (2 * d - (A - B)) * (2 * d + (A - B)) = 0 := by omega
      rcases Int.mul_eq_zero.1 this with h1 | h1 <;> omega
    · intro hm
      have h1 : 2 * d - (A - B) = 0 := by omega
      rw [h1, Int.zero_mul] at cN
      omega
end Go.Proofs.YtgmegfcjbnfnaaaGreatDoor

/- The walk of CapabilityCenters. -/
namespace Go.Proofs.YtgmegfcjbnfnaaaGreatDoor
open Go.RowKit Go.Shelf Wide Numer
open Go.Lib (itoa)

theorem idx_sz {n v : Rat} {f : Int} (hn : Sz n 20) (hf : f.natAbs < 10 ^ 20) (hf0 : f ≠ 0) (hv : Sz v 20) (hv0 : v ≠ 0) : Sz (idxV n f v) 80 := by
  refine Sz.div (k := 40) (m := 40) (hn.mul hn) ((Sz.int (by omega) hf).mul hv) ?_
  intro e
  rcases Rat.mul_eq_zero.1 e with e | e
  · exact cast_ne hf0 e
  · exact hv0 e
theorem rcmp_ok {a b : Rat} {k : Nat} (ha : Sz a k) (hb : Sz b k) (h1 : 1 ≤ k) (h2 : k ≤ 500) (w : World) (hT : Tab w) :
    Calls Tryz.prog 40 #[.string (rt a), .string (rt b)] w fun r w' => r = .returned (.tuple #[.int .i64 (rsgn a b), .int .i64 0]) ∧ Kept w w' := by
  have C := rcompare_any a b (ha.fits h1 (by omega)) (hb.fits h1 (by omega)) w hT
  have f : fits (a.num * (b.den : Int)) ∧ fits (b.num * (a.den : Int)) := ⟨fits_mul ha.1 hb.d (by omega) (by omega), fits_mul hb.1 ha.d (by omega) (by omega)⟩
  rw [cmpV, if_pos f, resE_pos f] at C
  exact C

theorem rsgn_vals (a b : Rat) : rsgn a b = -1 ∨ rsgn a b = 0 ∨ rsgn a b = 1 := by
  have := zsgn_cases (a.num * (b.den : Int) - b.num * (a.den : Int))
  unfold rsgn; omega

set_option maxHeartbeats 16000000 in
set_option maxRecDepth 100000 in
theorem centers_walk (a : Option Addr) (c : Nat) (l : List Int) (lo hi : Int) (w : World) (hT : Tab w) (hs : Ser w a l) (_ : l.length ≤ c) :
    Calls Tryz.prog 9 #[.slice a l.length c, .agg #[.int .i64 lo, .int .i64 hi]] w fun e w' => e = .returned (.bool true) ∧ Kept w w' := by
  have K1 := (Kept.refl w).alloc (.cells #[.int .i64 lo, .int .i64 hi] 34)
  obtain ⟨cl, ch⟩ := two_cells (lim_head lo hi w)
  have hT1 := Lib.hid (hT.keep K1)
  have hs1 := Lib.hid (hs.keep K1)
  clear hs hT
  have R := fun w hs => right_any a c l w hs
  have A := fun w hT => awake_any w hT
  have G := fun w hs => given_any a c l lo hi w hs
  go_enter Tryz.func9, Tryz.ntmps9
  go_wp2_with fail
  generalize w.alloc (.cells #[.int .i64 lo, .int .i64 hi] 34) = w1 at *
  refine (R _ hs1.out).mono ?_
  rintro e w2 ⟨rfl, rfl⟩
  cases hr : rightB l
  · clear hs1 cl ch R G
    go_wp2_with fail
    refine (A _ hT1.out).mono ?_
    rintro e w3 ⟨rfl, k3⟩
    go_wp2
    go_returns
    exact ⟨rfl, K1.trans k3⟩
  · obtain ⟨r1, r2, r3⟩ := rightB_yes hr
    clear hr R
    go_wp2_with fail
    refine (G w2 hs1.out).mono ?_
    rintro e w3 ⟨rfl, k3⟩
    by_cases hb : bE l lo hi = 0
    · obtain ⟨h4, ⟨l1, l2⟩, ⟨l3, l4⟩, l5⟩ := bE_zero hb
      obtain ⟨b, o, rfl, hbb, hrow⟩ := hs1.out (by omega)
      have hgd : ∀ w', Row w' b o l → ∀ j, j < l.length → w'.cell? ⟨b, o + j, none⟩ = some (.int .i64 (l.getD j 0)) := fun w' h j hj => by rw [List.getD_eq_getElem?_getD]; exact h j hj
      have X := fun w' h => Tryz.slices_Max_int b o l.length c l w' (by omega) (Nat.le_refl _) (by omega) (hgd w' h)
      have N := fun w' h => Tryz.slices_Min_int b o l.length c l w' (by omega) (Nat.le_refl _) (by omega) (hgd w' h)
      rw [List.take_length] at X N
      have Hrow := Lib.hid (hrow.keep k3)
      have hT3 := Lib.hid (hT1.out.keep k3)
      have hs3 := Lib.hid (hs1.out.keep k3)
      have cl3 := k3.cell cl
      have ch3 := k3.cell ch
      have hap : apart l = Lib.maxOf l - Lib.minOf l := rfl
      have hvz := vr_zero (l := l) r1
      have hHb := Lib.hid hb
      rw [hb]
      clear hgd hb G cl ch hT1 hs1
      by_cases hmm : Lib.minOf l = Lib.maxOf l
      · have hbq : (Lib.minOf l == Lib.maxOf l) = true := by rw [beq_iff_eq]; exact hmm
        clear hap hvz h4 r3 hrow
        generalize Lib.minOf l = mn at *
        generalize Lib.maxOf l = mx at *
        clear hmm
        go_wp2_with fail
        refine (N w3 Hrow.out).mono ?_
        rintro e w4 ⟨rfl, rfl⟩
        go_wp2_with fail
        refine (X w4 Hrow.out).mono ?_
        rintro e w4 ⟨rfl, rfl⟩
        go_wp2_with fail
        refine (A _ hT3.out).mono ?_
        rintro e w5 ⟨rfl, k5⟩
        go_wp2
        go_returns
        exact ⟨rfl, (K1.trans k3).trans k5⟩
      · have hbq : (Lib.minOf l == Lib.maxOf l) = false := by rw [beq_eq_false_iff_ne]; exact hmm
        have hv0 : vr l ≠ 0 := fun e => hmm (by have := hvz.1 e; omega)
        have hd0 : dE l lo hi = 0 := by rw [dE, if_neg (by rw [hHb.out]; omega), if_neg (by omega), if_neg hv0]
        have hvals : Vals l := fun x hx => by have := r3 x hx; omega
        have CC := fun w hT hs => cCapability_any (some ⟨b, o, none⟩) c l lo hi w hT (by omega) hs
        have CD := fun w hT hs => cCentered_any (some ⟨b, o, none⟩) c l lo hi w hT (by omega) hs
        have CM := fun w hT hs => cMean_any (some ⟨b, o, none⟩) c l w hT (by omega) hs
        rw [hd0, ifS, if_pos rfl] at CC CD
        rw [if_pos rfl] at CD
        rw [h4, ifS, if_pos rfl] at CM
        have W1 := fun w => whole2_any lo (by omega) (by omega) w
        have W2 := fun w => whole2_any hi (by omega) (by omega) w
        have W3 := fun w => over_any (lo + hi) 2 (by omega) (by unfold Sh; omega) (by unfold Sh; omega) w
        obtain ⟨s1, s2⟩ := sum_bd hvals
        have zc : Sz (ctr l) 80 := Sz.divInt (by omega) (by omega) (by omega)
        have zl : Sz (lo : Rat) 80 := Sz.int (by omega) (by omega)
        have zh : Sz (hi : Rat) 80 := Sz.int (by omega) (by omega)
        have zm : Sz (Rat.divInt (lo + hi) 2) 80 := Sz.divInt (by omega) (by omega) (by omega)
        have zv := vr_sz hvals r1 (by omega)
        have nb1 := nx_bd (n := (l.length : Int)) (x := hi) (by omega) (by omega) ⟨l3, l4⟩
        have nb2 := nx_bd (n := (l.length : Int)) (x := lo) (by omega) (by omega) ⟨l1, l2⟩
        have zd : Sz (Rat.divInt (dist l lo hi) l.length) 20 := Sz.divInt (by omega) (by unfold dist; omega) (by omega)
        have zb := idx_sz (f := 9) zd (by omega) (by omega) zv hv0
        have za := idx_sz (n := ((hi - lo : Int) : Rat)) (f := 36) (Sz.int (by omega) (by omega)) (by omega) (by omega) zv hv0
        have Q1 := fun w hT => rcmp_ok zc zl (by omega) (by omega) w hT
        have Q2 := fun w hT => rcmp_ok zc zh (by omega) (by omega) w hT
        have Q3 := fun w hT => rcmp_ok zc zm (by omega) (by omega) w hT
        have Q4 := fun w hT => rcmp_ok zb za (by omega) (by omega) w hT
        have hlaw := Lib.hid <| centers_law (lo := lo) (hi := hi) r1 hv0 l5 _ _ _ _ _ rfl rfl rfl rfl rfl
        have vS : zsgn (dist l lo hi) = -1 ∨ zsgn (dist l lo hi) = 0 ∨ zsgn (dist l lo hi) = 1 := by have := zsgn_cases (dist l lo hi); omega
        have vL := rsgn_vals (ctr l) (lo : Rat)
        have vH := rsgn_vals (ctr l) (hi : Rat)
        have vC := rsgn_vals (idxV (Rat.divInt (dist l lo hi) l.length) 9 (vr l)) (idxV ((hi - lo : Int) : Rat) 36 (vr l))
        have HV := Lib.hid (And.intro vS (And.intro vL (And.intro vH vC)))
        clear vS vL vH vC
        clear zc zl zh zm zv zd zb za nb1 nb2 s1 s2 hvals hd0 hvz hap h4 r3 hrow hmm hHb hv0
        generalize zsgn (dist l lo hi) = S at *
        generalize rsgn (ctr l) (lo : Rat) = L at *
        generalize rsgn (ctr l) (hi : Rat) = H at *
        generalize rsgn (ctr l) (Rat.divInt (lo + hi) 2) = M at *
        generalize rsgn (idxV (Rat.divInt (dist l lo hi) l.length) 9 (vr l)) (idxV ((hi - lo : Int) : Rat) 36 (vr l)) = C at *
        generalize rt (idxV (Rat.divInt (dist l lo hi) l.length) 9 (vr l)) = tb at *
        generalize rt (idxV ((hi - lo : Int) : Rat) 36 (vr l)) = ta at *
        generalize rt (ctr l) = tm at *
        generalize rt (lo : Rat) = tl at *
        generalize rt (hi : Rat) = th at *
        generalize rt (Rat.divInt (lo + hi) 2) = tmd at *
        generalize Lib.minOf l = mn at *
        generalize Lib.maxOf l = mx at *
        go_wp2_with fail
        refine (N w3 Hrow.out).mono ?_
        rintro e w4 ⟨rfl, rfl⟩
        go_wp2_with fail
        refine (X w4 Hrow.out).mono ?_
        rintro e w4 ⟨rfl, rfl⟩
        clear N X
        go_wp2_with fail
        refine (CC w4 hT3.out hs3.out).mono ?_
        rintro e w5 ⟨rfl, k5⟩
        have cl5 := k5.cell cl3
        have ch5 := k5.cell ch3
        have hT5 := Lib.hid (hT3.out.keep k5)
        have hs5 := Lib.hid (hs3.out.keep k5)
        clear cl3 ch3 hT3 hs3 CC
        go_wp2_with fail
        refine (CD w5 hT5.out hs5.out).mono ?_
        rintro e w6 ⟨rfl, k6⟩
        have cl6 := k6.cell cl5
        have ch6 := k6.cell ch5
        have hT6 := Lib.hid (hT5.out.keep k6)
        have hs6 := Lib.hid (hs5.out.keep k6)
        clear cl5 ch5 hT5 hs5 CD
        go_wp2_with fail
        refine (CM w6 hT6.out hs6.out).mono ?_
        rintro e w7 ⟨rfl, k7⟩
        have cl7 := k7.cell cl6
        have ch7 := k7.cell ch6
        have hT7 := Lib.hid (hT6.out.keep k7)
        clear cl6 ch6 hT6 hs6 CM
        go_wp2_with fail
        refine (W1 w7).mono ?_
        rintro e w8 ⟨rfl, k8⟩
        go_wp2_with fail
        refine (Q1 w8 (hT7.out.keep k8)).mono ?_
        rintro e w9 ⟨rfl, k9⟩
        have k79 := k8.trans k9
        have cl9 := k79.cell cl7
        have ch9 := k79.cell ch7
        have hT9 := Lib.hid (hT7.out.keep k79)
        clear cl7 ch7 hT7 k8 k9 W1 Q1
        go_wp2_with fail
        refine (W2 w9).mono ?_
        rintro e w10 ⟨rfl, k10⟩
        go_wp2_with fail
        refine (Q2 w10 (hT9.out.keep k10)).mono ?_
        rintro e w11 ⟨rfl, k11⟩
        have k911 := k10.trans k11
        have cl11 := k911.cell cl9
        have ch11 := k911.cell ch9
        have hT11 := Lib.hid (hT9.out.keep k911)
        clear cl9 ch9 hT9 k10 k11 W2 Q2
        go_wp2_with fail
        refine (W3 w11).mono ?_
        rintro e w12 ⟨rfl, k12⟩
        go_wp2_with fail
        refine (Q3 w12 (hT11.out.keep k12)).mono ?_
        rintro e w13 ⟨rfl, k13⟩
        have k1113 := k12.trans k13
        have hT13 := Lib.hid (hT11.out.keep k1113)
        clear cl11 ch11 hT11 k12 k13 W3 Q3
        go_wp2_with fail
        refine (Q4 w13 hT13.out).mono ?_
        rintro e w14 ⟨rfl, k14⟩
        have hT14 := Lib.hid (hT13.out.keep k14)
        have kk := Lib.hid (((((K1.trans k3).trans k5).trans k6).trans k7).trans ((k79.trans k911).trans (k1113.trans k14)))
        clear hT13 Q4 K1 k3 k5 k6 k7 k79 k911 k1113 k14
        obtain ⟨p1, p2, p3⟩ := hlaw.out
        obtain ⟨vS, vL, vH, vC⟩ := HV.out
        clear hlaw HV
        by_cases hneg : S < 0
        · clear p3 vC
          rcases vS with rfl | rfl | rfl <;> rcases vL with rfl | rfl | rfl <;> rcases vH with rfl | rfl | rfl <;> (try (exfalso; omega))
          all_goals
            clear p1 p2 hneg
            go_wp2_with fail
            refine (A _ hT14.out).mono ?_
            rintro e w15 ⟨rfl, k15⟩
            go_wp2
            go_returns
            exact ⟨rfl, kk.out.trans k15⟩
        · obtain ⟨p4, p5⟩ := p3 (by omega)
          clear p3
          by_cases hM : M = 0
          · obtain rfl : C = 0 := p5.2 hM
            subst hM
            clear p5 p4 vC
            rcases vS with rfl | rfl | rfl <;> rcases vL with rfl | rfl | rfl <;> rcases vH with rfl | rfl | rfl <;> (try (exfalso; omega))
            all_goals
              clear p1 p2 hneg
              go_wp2_with fail
              refine (A _ hT14.out).mono ?_
              rintro e w15 ⟨rfl, k15⟩
              go_wp2
              go_returns
              exact ⟨rfl, kk.out.trans k15⟩
          · obtain rfl : C = -1 := by omega
            have hM2 : (M == 0) = false := by rw [beq_eq_false_iff_ne]; exact hM
            clear p5 p4 vC hM
            rcases vS with rfl | rfl | rfl <;> rcases vL with rfl | rfl | rfl <;> rcases vH with rfl | rfl | rfl <;> (try (exfalso; omega))
            all_goals
              clear p1 p2 hneg
              go_wp2_with fail
              refine (A _ hT14.out).mono ?_
              rintro e w15 ⟨rfl, k15⟩
              go_wp2
              go_returns
              exact ⟨rfl, kk.out.trans k15⟩
    · obtain ⟨E, hE⟩ : ∃ E, bE l lo hi = E := ⟨_, rfl⟩
      rw [hE] at hb ⊢
      have hE2 : (E != 0) = true := by simp [hb]
      clear hE hb hs1 cl ch G
      go_wp2_with fail
      refine (A _ (hT1.out.keep k3)).mono ?_
      rintro e w4 ⟨rfl, k4⟩
      go_wp2
      go_returns
      exact ⟨rfl, (K1.trans k3).trans k4⟩
end Go.Proofs.YtgmegfcjbnfnaaaGreatDoor

/- The statement CapabilityCenters: for every input the law answers true, and its arguments read as before. No conditions beyond the row's own; the tables that it lists are tied to the program's text. -/
namespace Go.Proofs.YtgmegfcjbnfnaaaGreatDoor
open Go.ChangeShapes Go.WideShapes Go.ChangeAt Go.RowKit Wide

set_option maxRecDepth 100000 in
set_option maxHeartbeats 2000000 in
theorem capabilityCenters_lifted (os : Os) (started : os.Started) (H : Type) (enc : TypeId × Value → H) :
    ReturnsInHanded {} Tryz.checked os 9 .any (fun w args => (Rows.capabilityCentersSpec.pre enc Tryz.prog Tryz.f9 [] false w args ∧ laidMetH Tryz.prog Rows.capabilityCentersRow.laid w) ∧ sizedMet enc Tryz.prog Tryz.f9 (OpenSpec.ofChange Rows.capabilityCentersSpec) false w args)
      (Rows.capabilityCentersSpec.post enc Tryz.prog Tryz.f9 false true false false) := by
  refine returnsInHanded_of_change_and (C := Tryz.checked) (X := fun w _ => laidMetH Tryz.prog Rows.capabilityCentersRow.laid w) (fun _ _ _ hh h => h.of_heap hh) own0 started (by kernel_rfl) Tryz.func9
    (witness_laid (enc := enc) (os := os) (s := Rows.capabilityCentersSpec) (args := #[.slice none 0 0, .agg #[.int .i64 0, .int .i64 0]]) (by kernel_rfl) (by kernel_rfl) (by kernel_rfl)) ?_
  intro W base args ds gs before hval0 hW _ _ hL _
  have hval : ∀ (j : Nat) t v, Tryz.f9.params[j]? = some t → args[j]? = some v → Value.okWide Tryz.prog W .any base t v := hval0
  have hW' := hW
  obtain ⟨p, q, hA0, hV0, rfl, hfz, hnd⟩ := hW
  have hA : DataW.TrodAll enc Tryz.prog W 0 (fun _ => true) true Tryz.f9.params.toList args.toList ds p := hA0
  rw [Tryz.params9] at hA hval
  obtain ⟨v0, vs0, d0, ds0, p0, q0, hargs, rfl, rfl, h0, r0⟩ := trodAll_cons hA
  obtain ⟨v1, vs1, d1, ds1, p1, q1, rfl, rfl, rfl, h1, r1⟩ := trodAll_cons r0
  obtain ⟨rfl, rfl, rfl⟩ := trodAll_nil r1
  obtain rfl : args = #[v0, v1] := by cases args; simp_all
  obtain ⟨rfl, rfl⟩ := trodVars_none hV0
  simp only [List.append_nil] at hW'
  have hlt : ∀ x ∈ p0 ++ p1, x.block < W.heap.size := fun x hx => by simpa using hW'.lt x hx
  have k0 := h0
  have k1 := h1
  obtain ⟨a, c, l, rfl, hlc, hs⟩ := open_series (hval 0 22 v0 rfl rfl) h0
  obtain ⟨lo, hi, rfl⟩ := open_limits (hval 1 34 v1 rfl rfl) h1
  refine (centers_walk a c l lo hi  W (tab_of_laid hL) hs hlc).mono fun e W' ⟨he, hk⟩ => ?_
  subst he
  have bel := hk.below
  refine ⟨_, rfl, _, _, _, [], p0 ++ p1, [], hW', ?_, ?_, rfl, bel.frame _, fun h => by cases h⟩
  · exact trodAll_mk1 (shut_bool Tryz.underlying4 true)
  · exact (trodAll_cons_mk (Below.trod laidOut0 (by kernel_rfl) (of_decide_eq_true (by kernel_rfl)) k0 bel (fun x hx => hlt x (by simp [hx]))) (trodAll_mk1 (Below.trod laidOut0 (by kernel_rfl) (of_decide_eq_true (by kernel_rfl)) k1 bel (fun x hx => hlt x (by simp [hx])))))

theorem capabilityCenters_holds : Rows.CapabilityCentersSaid :=
  OpenClaim.holds_of_wide 9 Tryz.f9 rfl rfl rfl rfl rfl rfl rfl ⟨rfl, rfl, rfl, rfl, rfl⟩ rfl rfl rfl rfl rfl (by kernel_rfl) Tryz.func9 (by kernel_rfl)
    (of_decide_eq_true (by kernel_rfl)) (by unfold Func.isWrapper; first | (rw [if_pos (by decide +kernel)]; kernel_rfl) | (rw [if_neg (by decide +kernel)]; exact ⟨rfl, rfl⟩))
    (fun os started H enc _ => capabilityCenters_lifted os started H enc)

theorem capabilityCenters_card : Rows.CapabilityCentersCardSaid :=
  Claim7.holds_tied_plain_at .later [] [.data, .data, .data, .data, .sentinel, .sentinel, .pinned] true (true, "55ac42c2fb987e375d79621de8aa858a6e8e30bb8a7df803310ae96f31e596a9") true
    capabilityCenters_holds (fun _ h => by cases h) (by kernel_rfl) (fun _ h => by cases h) capabilityCenters_row_tie rfl ⟨rfl, rfl⟩ (by kernel_rfl) rfl
    (fun f fn hf hfn => by
      obtain rfl : f = 9 := Option.some.inj ((show Tryz.prog.funcNamed "metrolab/metrolablaw57.CapabilityCenters" = some 9 by kernel_rfl).symm.trans hf) |>.symm
      obtain rfl : fn = Tryz.f9 := (Option.some.inj (Tryz.func9.symm.trans hfn)).symm
      exact ⟨by kernel_rfl, fun j t ht => by
        rw [Tryz.params9] at ht
        rcases j with _ | _ | j
        · obtain rfl : 22 = t := by simpa using ht
          exact (show Tryz.prog.wantsStandIn 22 = false by kernel_rfl)
        · obtain rfl : 34 = t := by simpa using ht
          exact (show Tryz.prog.wantsStandIn 34 = false by kernel_rfl)
        · simp at ht⟩)
    (by kernel_rfl)

end Go.Proofs.YtgmegfcjbnfnaaaGreatDoor
