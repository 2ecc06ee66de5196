/- The references 01 and 02 at any length: quotients, common divisors, fractions. -/
import Derived.Test.YtgmegfcjbnfnaaaGreatDoorM12
import Derived.Test.YtgmegfcjbnfnaaaGreatDoorM10
import Derived.Deep.RegionHeld3

/- Walks over the reference's integers: products of any length, divided. -/
namespace Go.Proofs.YtgmegfcjbnfnaaaGreatDoor
open Go.RowKit Wide Numer
open Go.Lib (decDigits itoa nDigits)

theorem product_any (u v : Nat) (hu : nDigits u ≤ 100000) (hv : nDigits v ≤ 100000) (w : World) :
    Calls Tryz.prog 156 #[.string (dg u), .string (dg v)] w fun r w' => r = .returned (.string (dg (u * v))) ∧ Kept w w' := by
  have P := product_list (decDigits u) (decDigits v) (dd_pos u) (dd_pos v) (Dec.dig_decDigits u) (Dec.dig_decDigits v) (by rw [dd_len]; exact hu) (by rw [dd_len]; exact hv) w
  rw [Dec.val_decDigits, Dec.val_decDigits] at P
  exact P

theorem tx_lt (n : Int) : n.natAbs < 10 ^ (tx n).size := by
  have h := (Dec.nDigits_le_iff n.natAbs _ (Lib.nDigits_pos _)).1 (Nat.le_refl _)
  refine Nat.lt_of_lt_of_le h (Nat.pow_le_pow_right (by omega) ?_)
  rw [tx_size]
  rcases Int.lt_or_le n 0 with h0 | h0
  · rw [Dec.itoa_neg h0, List.length_cons, dd_len]; omega
  · rw [Dec.itoa_nonneg h0, dd_len, show n.toNat = n.natAbs by omega]; exact Nat.le_refl _

set_option maxHeartbeats 2000000 in
set_option maxRecDepth 100000 in
theorem times1_any (n m : Int) (hn : Dk 90000 n) (hm : Dk 90000 m) (w : World) :
    Calls Tryz.prog 121 #[.string (tx n), .string (tx m)] w fun r w' => r = .returned (.string (tx (n * m))) ∧ Kept w w' := by
  have S1 := fun w => size_any n w
  have S2 := fun w => size_any m w
  have L1 := fun w => below_any n w
  have L2 := fun w => below_any m w
  have PP := fun w => product_any n.natAbs m.natAbs (Nat.le_trans hn (by omega)) (Nat.le_trans hm (by omega)) w
  have hd := Dk.mul hn hm
  have SG := fun w => signed_any (n.natAbs * m.natAbs) (by unfold Dk at hd; rw [Int.natAbs_mul] at hd; omega) (decide (n < 0) != decide (m < 0)) w
  rw [sv_mul] at SG
  have z1 := tx_size_pos n
  have z2 := tx_size_pos m
  have z3 := tx_lt n
  have z4 := tx_lt m
  have z5 : (tx n).size ≤ 90001 := by rw [tx_size]; exact Nat.le_trans (itoa_length_le _) (Nat.add_le_add_right hn 1)
  have z6 : (tx m).size ≤ 90001 := by rw [tx_size]; exact Nat.le_trans (itoa_length_le _) (Nat.add_le_add_right hm 1)
  by_cases hb : nDigits n.natAbs ≤ 18 ∧ nDigits m.natAbs ≤ 18
  · have B := brief_yes n m hb.1 hb.2 w
    by_cases hs : (tx n).size + (tx m).size ≤ 18
    · have hp : n.natAbs * m.natAbs < 1000000000000000000 := by
        have h1 := Nat.mul_lt_mul'' z3 z4
        rw [← Nat.pow_add] at h1
        have h2 : 10 ^ ((tx n).size + (tx m).size) ≤ 10 ^ 18 := Nat.pow_le_pow_right (by omega) hs
        omega
      have hq : (n * m).natAbs < 1000000000000000000 := by rw [Int.natAbs_mul]; exact hp
      obtain ⟨P, hP⟩ : ∃ P, n * m = P := ⟨_, rfl⟩
      rw [hP] at hq SG ⊢
      have O := fun w => of1_any P (by omega) (by omega) w
      have hs1 : ((tx n).size : Int) + ((tx m).size : Int) ≤ 18 := by omega
      have p1 : -1000000000000000000 < P := by omega
      have p2 : P < 1000000000000000000 := by omega
      generalize tx P = s at *
      generalize tx n = t1 at *
      generalize tx m = t2 at *
      clear hn hm hb hp hq SG S1 S2 L1 L2 PP hd z1 z2 z3 z4 z5 z6
      go_enter Tryz.func121, Tryz.ntmps121
      go_wp2_with fail
      refine B.mono ?_
      rintro r w1 ⟨rfl, k1⟩
      go_wp2_with fail
      refine (O _).mono ?_
      rintro r w2 ⟨rfl, k2⟩
      go_wp2
      go_returns
      exact ⟨rfl, k1.trans k2⟩
    · generalize tx (n * m) = s at *
      generalize dg (n.natAbs * m.natAbs) = s0 at *
      generalize dg n.natAbs = d1 at *
      generalize dg m.natAbs = d2 at *
      generalize decide (n < 0) = da at *
      generalize decide (m < 0) = db at *
      generalize tx n = t1 at *
      generalize tx m = t2 at *
      have hs1 : ¬ ((t1.size : Int) + (t2.size : Int) ≤ 18) := by omega
      clear hn hm hb hd z3 z4
      go_enter Tryz.func121, Tryz.ntmps121
      go_wp2_with fail
      refine B.mono ?_
      rintro r w1 ⟨rfl, k1⟩
      go_wp2_with fail
      refine (S1 _).mono ?_
      rintro r w1 ⟨rfl, rfl⟩
      go_wp2_with fail
      refine (S2 _).mono ?_
      rintro r w1 ⟨rfl, rfl⟩
      go_wp2_with fail
      refine (PP _).mono ?_
      rintro r w2 ⟨rfl, k2⟩
      go_wp2_with fail
      refine (L1 _).mono ?_
      rintro r w2 ⟨rfl, rfl⟩
      go_wp2_with fail
      refine (L2 _).mono ?_
      rintro r w2 ⟨rfl, rfl⟩
      go_wp2_with fail
      refine (SG _).mono ?_
      rintro r w2 ⟨rfl, rfl⟩
      go_wp2
      go_returns
      exact ⟨rfl, k1.trans k2⟩
  · have B := brief_no n m hb w
    generalize tx (n * m) = s at *
    generalize dg (n.natAbs * m.natAbs) = s0 at *
    generalize dg n.natAbs = d1 at *
    generalize dg m.natAbs = d2 at *
    generalize decide (n < 0) = da at *
    generalize decide (m < 0) = db at *
    generalize tx n = t1 at *
    generalize tx m = t2 at *
    clear hn hm hb hd z3 z4
    go_enter Tryz.func121, Tryz.ntmps121
    go_wp2_with fail
    refine B.mono ?_
    rintro r w1 ⟨rfl, rfl⟩
    go_wp2_with fail
    refine (S1 _).mono ?_
    rintro r w1 ⟨rfl, rfl⟩
    go_wp2_with fail
    refine (S2 _).mono ?_
    rintro r w1 ⟨rfl, rfl⟩
    go_wp2_with fail
    refine (PP _).mono ?_
    rintro r w2 ⟨rfl, k2⟩
    go_wp2_with fail
    refine (L1 _).mono ?_
    rintro r w2 ⟨rfl, rfl⟩
    go_wp2_with fail
    refine (L2 _).mono ?_
    rintro r w2 ⟨rfl, rfl⟩
    go_wp2_with fail
    refine (SG _).mono ?_
    rintro r w2 ⟨rfl, rfl⟩
    go_wp2
    go_returns
    exact ⟨rfl, k2⟩
end Go.Proofs.YtgmegfcjbnfnaaaGreatDoor

/- Walks over the reference's integers: divided. -/
namespace Go.Proofs.YtgmegfcjbnfnaaaGreatDoor
open Go.RowKit Wide Numer
open Go.Lib (decDigits itoa nDigits)

theorem dg_next (R : Nat) (A : List UInt8) (i : Nat) (h : i < A.length) : dg R ++ (bs A).extract i (i + 1) = bs (decDigits R ++ [A[i]]) := by
  rw [bs_extract, bs_of (dg R ++ _)]
  congr 1
  have e : (A.take (i + 1)).drop i = [A[i]] := by
    rw [List.take_add_one, List.getElem?_eq_getElem h, List.drop_append_of_le_length (by rw [List.length_take]; omega), List.drop_of_length_le (by rw [List.length_take]; omega)]
    rfl
  rw [e]
  simp [dg, bs]
theorem bs_snoc (Q : List UInt8) (c : UInt8) : bs Q ++ bs [c] = bs (Q ++ [c]) := by
  rw [bs_of (bs Q ++ bs [c])]
  congr 1
theorem div_next (z x v : Nat) (hv : 0 < v) : (10 * z + x) / v = 10 * (z / v) + (10 * (z % v) + x) / v ∧ (10 * z + x) % v = (10 * (z % v) + x) % v := by
  have e : 10 * z + x = (10 * (z % v) + x) + v * (10 * (z / v)) := by
    have h := Nat.div_add_mod z v
    have h2 : v * (10 * (z / v)) = 10 * (v * (z / v)) := by grind
    omega
  rw [e]
  constructor
  · rw [Nat.add_mul_div_left _ _ hv]; omega
  · rw [Nat.add_mul_mod_self_left]

set_option maxHeartbeats 4000000 in
set_option maxRecDepth 100000 in
theorem divided1_any (u v : Nat) (hv : 0 < v) (hu : nDigits u ≤ 90000) (hvd : nDigits v ≤ 90000) (w : World) :
    Calls Tryz.prog 137 #[.string (dg u), .string (dg v)] w fun r w' => r = .returned (.tuple #[.string (dg (u / v)), .string (dg (u % v))]) ∧ Kept w w' := by
  obtain ⟨A, hA⟩ : ∃ A, decDigits u = A := ⟨_, rfl⟩
  have hAl : A.length ≤ 90000 := by rw [← hA, dd_len]; exact hu
  have hA0 : 0 < A.length := by rw [← hA]; exact dd_pos u
  have hAd : A.all Dec.dig = true := by rw [← hA]; exact Dec.dig_decDigits u
  have hAv : Dec.val A = u := by rw [← hA, Dec.val_decDigits]
  have hdg : dg u = bs A := by rw [← hA]; rfl
  rw [hdg, ← hAv]
  have s1 := bs_size A
  have hz : dg 0 = ⟨#[48]⟩ := by unfold dg; rw [Dec.decDigits_zero]; rfl
  obtain ⟨n, hn⟩ : ∃ n, A.length = n := ⟨_, rfl⟩
  rw [hn] at s1 hAl hA0
  have HN := Lib.hid hn
  have HD := Lib.hid hAd
  have HZ := Lib.hid hz
  obtain ⟨tA, htA⟩ : ∃ t, bs A = t := ⟨_, rfl⟩
  have HTA := Lib.hid htA
  rw [htA] at s1 ⊢
  clear hA hAd hAv hdg hu hn hz htA
  go_enter Tryz.func137, Tryz.ntmps137
  go_wp2_with fail
  rw [← HZ.out]
  go_loopg [6, 7, 8] n (fun k q r i wr => ∃ (j : Nat) (Q : List UInt8), k + j = n ∧ i = .int .i64 j ∧ q = .string (bs Q) ∧ r = .string (dg (Dec.val (A.take j) % v)) ∧ Q.length = j ∧ Q.all Dec.dig = true ∧ Dec.val Q = Dec.val (A.take j) / v ∧ Kept w wr)
  case atStart => exact ⟨0, [], by omega, rfl, rfl, by rw [List.take_zero, Dec.val_nil, Nat.zero_mod], rfl, rfl, by rw [List.take_zero, Dec.val_nil, Nat.zero_div], Kept.refl w⟩
  case round =>
    obtain ⟨j, Q, hkj, rfl, rfl, rfl, hQl, hQd, hQv, hK⟩ := hrel
    have HQl := Lib.hid hQl
    have HQd := Lib.hid hQd
    have HQv := Lib.hid hQv
    have HK := Lib.hid hK
    have sQ := bs_size Q
    rw [hQl] at sQ
    by_cases hj : j < n
    · have hjA : j < A.length := by rw [HN.out]; exact hj
      have hvs := Lib.hid (val_take_succ A j hjA)
      have hcat := dg_next (Dec.val (A.take j) % v) A j hjA
      have dA := List.all_eq_true.1 HD.out _ (List.getElem_mem hjA)
      have dA2 := (Dec.dig_iff _).1 dA
      have hcd : (decDigits (Dec.val (A.take j) % v) ++ [A[j]]).all Dec.dig = true := by rw [List.all_append, Dec.dig_decDigits]; simp [dA]
      have hRv : Dec.val (A.take j) % v < v := Nat.mod_lt _ hv
      have hRd : nDigits (Dec.val (A.take j) % v) ≤ 90000 := Nat.le_trans (nDigits_mono (by omega)) hvd
      have hcl : (decDigits (Dec.val (A.take j) % v) ++ [A[j]]).length ≤ 90001 := by rw [List.length_append, dd_len]; simp; omega
      have Br := fun w => bare_any (decDigits (Dec.val (A.take j) % v) ++ [A[j]]) (by simp) hcd (by omega) w
      rw [Dec.val_append, Dec.val_decDigits, Dec.val_one, ← hcat] at Br
      have sR : (dg (Dec.val (A.take j) % v)).size ≤ 90000 := by rw [dg_size]; exact hRd
      rw [HTA.out] at Br
      obtain ⟨x, hx⟩ : ∃ x, A[j].toNat - 48 = x := ⟨_, rfl⟩
      have x9 : x ≤ 9 := by omega
      rw [hx] at Br hvs
      rw [show Dec.val (A.take j) % v * 10 ^ ([A[j]] : List UInt8).length + x = 10 * (Dec.val (A.take j) % v) + x by simp; omega] at Br
      have HN2 := Lib.hid (div_next (Dec.val (A.take j)) x v hv)
      have sx : (tA.extract j (j + 1)).size = 1 := by rw [ByteArray.size_extract]; omega
      generalize Dec.val (A.take j) % v = R at *
      clear hcat dA dA2 hcd hcl hQl hQd hQv hK hx
      obtain ⟨S, hS⟩ : ∃ S, 10 * R + x = S := ⟨_, rfl⟩
      rw [hS] at Br HN2
      have hS10 : S < 10 * v := by omega
      obtain ⟨qk, hqk⟩ : ∃ qk, qk + 1 = gk := ⟨gk - 1, by omega⟩
      have hjs : j + 1 ≤ tA.size := by omega
      clear hS hRv
      have LS := fun (T : Nat) w => less_any T v w
      have hsz : S < 10 * v := hS10
      have hSd : nDigits S ≤ 90001 := by
        have aux : ∀ K : Nat, 1 ≤ K → nDigits v ≤ K → nDigits S ≤ K + 1 := fun K hK h => by
          have h1 := (Dec.nDigits_le_iff v K hK).1 h
          refine (Dec.nDigits_le_iff S (K + 1) (by omega)).2 ?_
          rw [Nat.pow_succ]; omega
        exact Nat.le_trans (aux 90000 (by omega) hvd) (by omega)
      have HV := Lib.hid hv
      have HVD := Lib.hid hvd
      have HSD := Lib.hid hSd
      have HKJ := Lib.hid hkj
      clear hvd hSd x9 hjA hkj
      go_wp2_with fail
      refine ((Br) _).mono ?_
      rintro r w2 ⟨rfl, k2⟩
      clear Br
      go_wp2_with fail
      go_loopg [7, 9] S (fun k r d w9 => ∃ (q T : Nat), T = k ∧ r = .string (dg T) ∧ d = .int .u8 ((48 + q : Nat) : Int) ∧ T + q * v = S ∧ q ≤ 9 ∧ Kept w w9)
      case atStart => exact ⟨0, S, rfl, rfl, rfl, by omega, by omega, HK.out.trans k2⟩
      case round =>
        obtain ⟨q, T, rfl, rfl, rfl, hTS, hq9, hk9⟩ := hrel
        have LT := LS T
        have HTS := Lib.hid hTS
        have HK9 := Lib.hid hk9
        clear hTS hk9 k2 LS
        by_cases hlt : T < v
        · rw [show decide (T < v) = true by simp [hlt]] at LT
          have hqv : q = S / v ∧ T = S % v := by
            rw [← HTS.out]
            constructor
            · rw [Nat.add_mul_div_right _ _ HV.out, Nat.div_eq_of_lt hlt, Nat.zero_add]
            · rw [Nat.add_mul_mod_self_right, Nat.mod_eq_of_lt hlt]
          have HQ2 := Lib.hid hqv
          clear hqv hlt
          go_wp2_with fail
          refine ((LT) _).mono ?_
          rintro r w2 ⟨rfl, rfl⟩
          rename World => w4
          have O := one_str w4 (48 + q) (by omega)
          rw [show ((48 + q : Nat) : Int) = 48 + (q : Int) by omega] at O
          obtain ⟨c, hcc⟩ : ∃ c, c = UInt8.ofNat (48 + q) := ⟨_, rfl⟩
          rw [← hcc] at O
          have Hc := Lib.hid hcc
          have hs1 : (bs [c]).size = 1 := rfl
          have hcat := bs_snoc Q c
          have hcl : (bs Q ++ bs [c]).size ≤ 1000000 := by rw [ByteArray.size_append, bs_size, bs_size, HQl.out]; simp; omega
          clear hcc
          go_wp2
          go_roundg qk
          case measure => omega
          case rel =>
            refine ⟨j + 1, Q ++ [c], by have := HKJ.out; omega, by go_num, by rw [← hcat], ?_, by rw [List.length_append, HQl.out]; rfl, ?_, ?_, HK9.out.alloc _⟩
            · rw [hvs.out, HN2.out.2, ← HQ2.out.2]
            · rw [List.all_append, HQd.out, Hc.out, List.all_cons, Dec.dig_digit (show q < 10 by omega)]
              rfl
            · rw [Dec.val_append, Dec.val_one, HQv.out, hvs.out, HN2.out.1, ← HQ2.out.1, Hc.out, Dec.toNat_digit (by omega)]
              simp; omega
        · rw [show decide (T < v) = false by simp [hlt]] at LT
          have PP := fun w => paper_any false T v (Nat.le_trans (nDigits_mono (show T ≤ S by have := HTS.out; omega)) (by have := HSD.out; omega)) (by have := HVD.out; omega) (fun _ => by omega) w
          rw [show (if false = true then T + v else T - v) = T - v from rfl] at PP
          have hq10 : q + 1 ≤ 9 := by
            rcases Nat.lt_or_ge 8 q with h | h
            · have : 9 * v ≤ q * v := Nat.mul_le_mul_right _ h
              have := HTS.out
              omega
            · omega
          have hq255 : q + 1 < 200 := by omega
          have HLT := Lib.hid hlt
          clear hlt
          go_wp2_with fail
          refine ((LT) _).mono ?_
          rintro r w2 ⟨rfl, rfl⟩
          go_wp2_with fail
          refine ((PP) _).mono ?_
          rintro r w5 ⟨rfl, k5⟩
          go_wp2
          go_roundg (T - v)
          case measure => have := HLT.out; have := HV.out; omega
          case rel => exact ⟨q + 1, T - v, rfl, rfl, by go_num, by have := HTS.out; have := HLT.out; rw [Nat.add_mul]; omega, hq10, HK9.out.trans k5⟩
    · obtain rfl : j = n := by omega
      have hAt : A.take j = A := List.take_of_length_le (by rw [HN.out]; omega)
      rw [hAt] at HQv ⊢
      have hQ0 : Q ≠ [] := by intro e; rw [e] at HQl; have := HQl.out; simp at this; omega
      have Br := fun w => bare_any Q hQ0 HQd.out (by rw [HQl.out]; omega) w
      rw [HQv.out] at Br
      clear hj hAt hQ0 hQl hQd hQv
      go_wp2_with fail
      refine ((Br) _).mono ?_
      rintro r w2 ⟨rfl, k2⟩
      go_wp2
      go_returns
      exact ⟨rfl, HK.out.trans k2⟩
end Go.Proofs.YtgmegfcjbnfnaaaGreatDoor

/- Walks over the reference's integers: Parted, Shared, Lowest of any length. -/
namespace Go.Proofs.YtgmegfcjbnfnaaaGreatDoor
open Go.RowKit Wide Numer
open Go.Lib (decDigits itoa nDigits)

/-- the quotient and the rest: where nothing is left, or where neither is negative -/
def pq (n m : Int) : Int := sv (decide (n < 0) != decide (m < 0)) (n.natAbs / m.natAbs)
theorem dg_zero' (u : Nat) : ((dg u).toList == [48]) = decide (u = 0) := dg_zero u
theorem Dk.div {k : Nat} {n : Int} (h : Dk k n) (m : Int) : Dk k (pq n m) := by
  unfold Dk pq sv at *
  refine Nat.le_trans (nDigits_mono ?_) h
  have := Nat.div_le_self n.natAbs m.natAbs
  generalize n.natAbs / m.natAbs = t at *
  split <;> omega
theorem pq_exact {n m k : Int} (h : n = m * k) (hm : m ≠ 0) : pq n m = k := by
  unfold pq
  rw [(quo_abs h hm).1, quo_sv h hm]
theorem pq_nat (u v : Nat) : pq (u : Int) (v : Int) = ((u / v : Nat) : Int) := by
  unfold pq sv
  rw [show decide ((u : Int) < 0) = false by simp, show decide ((v : Int) < 0) = false by simp]
  rfl

theorem pq_tdiv (n m : Int) : pq n m = n.tdiv m := by
  unfold pq sv
  rcases Int.lt_or_le n 0 with a | a <;> rcases Int.lt_or_le m 0 with b | b
  · rw [show n = -((n.natAbs : Nat) : Int) by omega, show m = -((m.natAbs : Nat) : Int) by omega, Int.neg_tdiv, Int.tdiv_neg, Int.neg_neg, ← Int.ofNat_tdiv]
    simp; omega
  · rw [show decide (n < 0) = true by simp [a], show decide (m < 0) = false by simp; omega]
    conv => rhs; rw [show n = -((n.natAbs : Nat) : Int) by omega, show m = ((m.natAbs : Nat) : Int) by omega, Int.neg_tdiv, ← Int.ofNat_tdiv]
    rfl
  · rw [show decide (n < 0) = false by simp; omega, show decide (m < 0) = true by simp [b]]
    conv => rhs; rw [show n = ((n.natAbs : Nat) : Int) by omega, show m = -((m.natAbs : Nat) : Int) by omega, Int.tdiv_neg, ← Int.ofNat_tdiv]
    rfl
  · rw [show decide (n < 0) = false by simp; omega, show decide (m < 0) = false by simp; omega]
    conv => rhs; rw [show n = ((n.natAbs : Nat) : Int) by omega, show m = ((m.natAbs : Nat) : Int) by omega, ← Int.ofNat_tdiv]
    rfl
theorem pq_rest (n m : Int) : n - pq n m * m = n.tmod m := by rw [pq_tdiv, Int.tmod_def, Int.mul_comm]

-- brief integers parted
set_option maxHeartbeats 2000000 in
set_option maxRecDepth 100000 in
theorem parted1_brief (n m q r : Int) (hq : n.tdiv m = q) (hr : n.tmod m = r) (hc : r = 0 ∨ (0 < r ∧ 0 < m)) (hm0 : m ≠ 0) (hn : Sh n) (hm : Sh m) (w : World) :
    Calls Tryz.prog 103 #[.string (tx n), .string (tx m)] w fun e w' => e = .returned (.tuple #[.string (tx q), .string (tx r)]) ∧ Kept w w' := by
  have B := fun w => brief_yes n m hn.d hm.d w
  have hn' : n.natAbs < 1000000000000000000 := hn
  have hm' : m.natAbs < 1000000000000000000 := hm
  have hqb : q.natAbs ≤ n.natAbs := by rw [← hq, Int.natAbs_tdiv]; exact Nat.div_le_self _ _
  have hrb : r.natAbs ≤ n.natAbs := by rw [← hr, Int.natAbs_tmod]; exact Nat.mod_le _ _
  have O1 := fun w => of1_any q (by omega) (by omega) w
  have O2 := fun w => of1_any r (by omega) (by omega) w
  have hx : (n - r).tdiv m = q := by
    have h := Int.tmod_add_mul_tdiv n m
    rw [hq, hr] at h
    rw [show n - r = m * q by omega, Int.mul_tdiv_cancel_left _ hm0]
  have hn1 : -1000000000000000000 ≤ n := by omega
  have hn2 : n ≤ 1000000000000000000 := by omega
  have hr1 : -1000000000000000000 ≤ r := by omega
  have hr2 : r ≤ 1000000000000000000 := by omega
  have hq1 : -1000000000000000000 ≤ q := by omega
  have hq2 : q ≤ 1000000000000000000 := by omega
  have hm1 : -1000000000000000000 ≤ m := by omega
  have hm2 : m ≤ 1000000000000000000 := by omega
  have hnr1 : -1000000000000000000 ≤ n - r := by
    rcases hc with rfl | ⟨h1, h2⟩
    · omega
    · have : 0 ≤ n := by
        rcases Int.lt_or_le n 0 with a | a
        · have := Int.tmod_nonneg (a := -n) m (by omega)
          rw [Int.neg_tmod] at this
          omega
        · exact a
      omega
  have hnr2 : n - r ≤ 1000000000000000000 := by
    rcases hc with rfl | ⟨h1, h2⟩ <;> omega
  generalize tx n = s1 at *
  generalize tx m = s2 at *
  generalize tx q = s3 at *
  generalize tx r = s4 at *
  clear hq hqb hrb hn' hm' hn hm
  rcases hc with h0 | ⟨h1, h2⟩
  · rw [h0, Int.sub_zero] at hx
    rw [h0] at hr O2
    clear h0 hr1 hr2 hnr1 hnr2
    go_enter Tryz.func103, Tryz.ntmps103
    go_wp2_with fail
    refine ((B) _).mono ?_
    rintro r w1 ⟨rfl, k1⟩
    go_wp2_with fail
    refine ((O1) _).mono ?_
    rintro r w2 ⟨rfl, k2⟩
    go_wp2_with fail
    refine ((O2) _).mono ?_
    rintro r w3 ⟨rfl, k3⟩
    go_wp2
    go_returns
    exact ⟨rfl, (k1.trans k2).trans k3⟩
  · have h3 : (r != 0) = true := by rw [bne_iff_ne]; omega
    have h4 : decide (r < 0) = false := by simp; omega
    have h5 : decide (m < 0) = false := by simp; omega
    clear h1 h2 hm1
    go_enter Tryz.func103, Tryz.ntmps103
    go_wp2_with fail
    refine ((B) _).mono ?_
    rintro r w1 ⟨rfl, k1⟩
    go_wp2_with fail
    refine ((O1) _).mono ?_
    rintro r w2 ⟨rfl, k2⟩
    go_wp2_with fail
    refine ((O2) _).mono ?_
    rintro r w3 ⟨rfl, k3⟩
    go_wp2
    go_returns
    exact ⟨rfl, (k1.trans k2).trans k3⟩

set_option maxHeartbeats 2000000 in
set_option maxRecDepth 100000 in
theorem parted1_any (n m : Int) (hm0 : m ≠ 0) (hc : n.natAbs % m.natAbs = 0 ∨ (0 ≤ n ∧ 0 < m)) (hn : Dk 40000 n) (hm : Dk 40000 m) (w : World) :
    Calls Tryz.prog 103 #[.string (tx n), .string (tx m)] w fun r w' => r = .returned (.tuple #[.string (tx (pq n m)), .string (tx (n - pq n m * m))]) ∧ Kept w w' := by
  by_cases hb : nDigits n.natAbs ≤ 18 ∧ nDigits m.natAbs ≤ 18
  · rw [pq_rest, pq_tdiv]
    refine parted1_brief n m _ _ rfl rfl ?_ hm0 ((Dec.nDigits_le_iff _ 18 (by omega)).1 hb.1) ((Dec.nDigits_le_iff _ 18 (by omega)).1 hb.2) w
    rcases hc with h | ⟨h1, h2⟩
    · left
      have := Int.natAbs_tmod n m
      omega
    · have := Int.tmod_nonneg m h1
      omega
  · have hq := hn.div m
    have hp := hq.mul hm
    have hT := fun w => times1_any (pq n m) m (hq.mono (by omega)) (hm.mono (by omega)) w
    have hM := fun w => minus1_any n (pq n m * m) (hn.mono (by omega)) (hp.mono (by omega)) w
    have B := fun w => brief_no n m hb w
    have S1 := fun w => size_any n w
    have S2 := fun w => size_any m w
    have L1 := fun w => below_any n w
    have L2 := fun w => below_any m w
    have D := fun w => divided1_any n.natAbs m.natAbs (by omega) (Nat.le_trans hn (by omega)) (Nat.le_trans hm (by omega)) w
    have SG := fun w => signed_any (n.natAbs / m.natAbs) (Nat.le_trans (nDigits_mono (Nat.div_le_self _ _)) (Nat.le_trans hn (by omega))) (decide (n < 0) != decide (m < 0)) w
    rw [show sv (decide (n < 0) != decide (m < 0)) (n.natAbs / m.natAbs) = pq n m from rfl] at SG
    have hz := dg_zero' (n.natAbs % m.natAbs)
    have hc2 : (decide (n.natAbs % m.natAbs = 0)) = true ∨ ((decide (n < 0) = false) ∧ (decide (m < 0) = false)) := by
      rcases hc with h | ⟨h1, h2⟩
      · exact .inl (by simp [h])
      · exact .inr ⟨by simp; omega, by simp; omega⟩
    clear hb hc hn hm hq hp hm0
    generalize tx (n - pq n m * m) = o2 at *
    generalize tx (pq n m * m) = o3 at *
    generalize tx (pq n m) = o1 at *
    generalize decide (n.natAbs % m.natAbs = 0) = z at *
    generalize dg (n.natAbs % m.natAbs) = dr at *
    generalize dg (n.natAbs / m.natAbs) = dq at *
    generalize dg n.natAbs = d1 at *
    generalize dg m.natAbs = d2 at *
    generalize decide (n < 0) = da at *
    generalize decide (m < 0) = db at *
    generalize tx n = t1 at *
    generalize tx m = t2 at *
    rcases hc2 with rfl | ⟨rfl, rfl⟩
    · go_enter Tryz.func103, Tryz.ntmps103
      go_wp2_with fail
      refine ((B) _).mono ?_
      rintro r w ⟨rfl, rfl⟩
      go_wp2_with fail
      refine ((S1) _).mono ?_
      rintro r w ⟨rfl, rfl⟩
      go_wp2_with fail
      refine ((S2) _).mono ?_
      rintro r w ⟨rfl, rfl⟩
      go_wp2_with fail
      refine ((D) _).mono ?_
      rintro r w1 ⟨rfl, k1⟩
      go_wp2_with fail
      refine ((L1) _).mono ?_
      rintro r w1 ⟨rfl, rfl⟩
      go_wp2_with fail
      refine ((L2) _).mono ?_
      rintro r w1 ⟨rfl, rfl⟩
      go_wp2_with fail
      refine ((SG) _).mono ?_
      rintro r w1 ⟨rfl, rfl⟩
      go_wp2_with fail
      refine ((hT) _).mono ?_
      rintro r w2 ⟨rfl, k2⟩
      go_wp2_with fail
      refine ((hM) _).mono ?_
      rintro r w3 ⟨rfl, k3⟩
      go_wp2
      go_returns
      exact ⟨rfl, (k1.trans k2).trans k3⟩
    · cases z
      · go_enter Tryz.func103, Tryz.ntmps103
        go_wp2_with fail
        refine ((B) _).mono ?_
        rintro r w ⟨rfl, rfl⟩
        go_wp2_with fail
        refine ((S1) _).mono ?_
        rintro r w ⟨rfl, rfl⟩
        go_wp2_with fail
        refine ((S2) _).mono ?_
        rintro r w ⟨rfl, rfl⟩
        go_wp2_with fail
        refine ((D) _).mono ?_
        rintro r w1 ⟨rfl, k1⟩
        go_wp2_with fail
        refine ((L1) _).mono ?_
        rintro r w1 ⟨rfl, rfl⟩
        go_wp2_with fail
        refine ((L2) _).mono ?_
        rintro r w1 ⟨rfl, rfl⟩
        go_wp2_with fail
        refine ((SG) _).mono ?_
        rintro r w1 ⟨rfl, rfl⟩
        go_wp2_with fail
        refine ((L1) _).mono ?_
        rintro r w1 ⟨rfl, rfl⟩
        go_wp2_with fail
        refine ((L2) _).mono ?_
        rintro r w1 ⟨rfl, rfl⟩
        go_wp2_with fail
        refine ((hT) _).mono ?_
        rintro r w2 ⟨rfl, k2⟩
        go_wp2_with fail
        refine ((hM) _).mono ?_
        rintro r w3 ⟨rfl, k3⟩
        go_wp2
        go_returns
        exact ⟨rfl, (k1.trans k2).trans k3⟩
      · go_enter Tryz.func103, Tryz.ntmps103
        go_wp2_with fail
        refine ((B) _).mono ?_
        rintro r w ⟨rfl, rfl⟩
        go_wp2_with fail
        refine ((S1) _).mono ?_
        rintro r w ⟨rfl, rfl⟩
        go_wp2_with fail
        refine ((S2) _).mono ?_
        rintro r w ⟨rfl, rfl⟩
        go_wp2_with fail
        refine ((D) _).mono ?_
        rintro r w1 ⟨rfl, k1⟩
        go_wp2_with fail
        refine ((L1) _).mono ?_
        rintro r w1 ⟨rfl, rfl⟩
        go_wp2_with fail
        refine ((L2) _).mono ?_
        rintro r w1 ⟨rfl, rfl⟩
        go_wp2_with fail
        refine ((SG) _).mono ?_
        rintro r w1 ⟨rfl, rfl⟩
        go_wp2_with fail
        refine ((hT) _).mono ?_
        rintro r w2 ⟨rfl, k2⟩
        go_wp2_with fail
        refine ((hM) _).mono ?_
        rintro r w3 ⟨rfl, k3⟩
        go_wp2
        go_returns
        exact ⟨rfl, (k1.trans k2).trans k3⟩

/-- the rest of natural numbers -/
theorem parted1_nat (x y : Nat) (hy : 0 < y) (hn : Dk 40000 x) (hm : Dk 40000 y) (w : World) :
    Calls Tryz.prog 103 #[.string (tx x), .string (tx y)] w fun r w' => r = .returned (.tuple #[.string (tx ((x / y : Nat) : Int)), .string (tx ((x % y : Nat) : Int))]) ∧ Kept w w' := by
  have P := parted1_any x y (by omega) (.inr ⟨by omega, by omega⟩) hn hm w
  rw [pq_rest, pq_tdiv, ← Int.ofNat_tdiv, ← Int.ofNat_tmod] at P
  exact P

theorem Dk.nat_le {k : Nat} {x y : Nat} (h : Dk k (y : Int)) (hxy : x ≤ y) : Dk k (x : Int) := by
  unfold Dk at *
  rw [Int.natAbs_natCast] at *
  exact Nat.le_trans (nDigits_mono hxy) h

set_option maxHeartbeats 2000000 in
set_option maxRecDepth 100000 in
theorem shared1_any (n m : Int) (hn : Dk 40000 n) (hm : Dk 40000 m) (w : World) :
    Calls Tryz.prog 101 #[.string (tx n), .string (tx m)] w fun r w' => r = .returned (.string (tx (Int.gcd n m : Int))) ∧ Kept w w' := by
  have S1 := fun w => size_any n w
  have S2 := fun w => size_any m w
  have G1 := fun w => signed_any n.natAbs (Nat.le_trans hn (by omega)) false w
  have G2 := fun w => signed_any m.natAbs (Nat.le_trans hm (by omega)) false w
  rw [show sv false n.natAbs = ((n.natAbs : Nat) : Int) from rfl] at G1
  rw [show sv false m.natAbs = ((m.natAbs : Nat) : Int) from rfl] at G2
  have hg : (Int.gcd n m : Int) = ((Nat.gcd n.natAbs m.natAbs : Nat) : Int) := rfl
  rw [hg]
  have hu : Hid (Dk 40000 ((n.natAbs : Nat) : Int)) := Lib.hid (by unfold Dk at *; rw [Int.natAbs_natCast]; exact hn)
  have hv : Hid (Dk 40000 ((m.natAbs : Nat) : Int)) := Lib.hid (by unfold Dk at *; rw [Int.natAbs_natCast]; exact hm)
  clear hn hm hg
  generalize tx n = t1 at *
  generalize tx m = t2 at *
  generalize n.natAbs = u at *
  generalize m.natAbs = v at *
  obtain ⟨d, hd⟩ : ∃ d, Nat.gcd u v = d := ⟨_, rfl⟩
  rw [hd]
  have Hd := Lib.hid hd
  clear hd
  obtain ⟨t3, ht3⟩ : ∃ t3, tx ((u : Nat) : Int) = t3 := ⟨_, rfl⟩
  obtain ⟨t4, ht4⟩ : ∃ t4, tx ((v : Nat) : Int) = t4 := ⟨_, rfl⟩
  obtain ⟨t5, ht5⟩ : ∃ t5, tx ((d : Nat) : Int) = t5 := ⟨_, rfl⟩
  rw [ht3] at G1
  rw [ht4] at G2
  rw [ht5]
  have T3 := Lib.hid ht3
  have T4 := Lib.hid ht4
  have T5 := Lib.hid ht5
  clear ht3 ht4 ht5
  go_enter Tryz.func101, Tryz.ntmps101
  go_wp2_with fail
  refine ((S1) _).mono ?_
  rintro r w ⟨rfl, rfl⟩
  go_wp2_with fail
  refine ((G1) _).mono ?_
  rintro r w ⟨rfl, rfl⟩
  go_wp2_with fail
  refine ((S2) _).mono ?_
  rintro r w ⟨rfl, rfl⟩
  go_wp2_with fail
  refine ((G2) _).mono ?_
  rintro r w ⟨rfl, rfl⟩
  go_wp2_with fail
  go_loopg [0, 1] v (fun k a b wr => ∃ x y : Nat, y = k ∧ a = .string (tx (x : Int)) ∧ b = .string (tx (y : Int)) ∧ Nat.gcd x y = d ∧ Dk 40000 (x : Int) ∧ Dk 40000 (y : Int) ∧ Kept w wr)
  case atStart => exact ⟨u, v, rfl, by rw [T3.out], by rw [T4.out], Hd.out, hu.out, hv.out, Kept.refl _⟩
  case round =>
    obtain ⟨x, y, rfl, rfl, rfl, hxy, hx, hy, hk⟩ := hrel
    have hz := tx_is0 ((y : Nat) : Int)
    have Hx := Lib.hid hx
    have Hy := Lib.hid hy
    have Hxy := Lib.hid hxy
    clear hx hy hxy
    by_cases h0 : y = 0
    · rw [show decide (((y : Nat) : Int) = 0) = true by simp [h0]] at hz
      have hxd : tx ((x : Nat) : Int) = t5 := by
        have := Hxy.out
        rw [h0, Nat.gcd_zero_right] at this
        rw [this]; exact T5.out
      rw [hxd]
      clear hxd h0
      generalize tx ((y : Nat) : Int) = t6 at *
      go_wp2
      go_returns
      exact ⟨rfl, hk⟩
    · rw [show decide (((y : Nat) : Int) = 0) = false by simp [h0]] at hz
      by_cases hb : nDigits ((x : Nat) : Int).natAbs ≤ 18 ∧ nDigits ((y : Nat) : Int).natAbs ≤ 18
      · have B := fun w => brief_yes ((x : Nat) : Int) ((y : Nat) : Int) hb.1 hb.2 w
        have hx9 : x < 1000000000000000000 := by have := (Dec.nDigits_le_iff _ 18 (by omega)).1 hb.1; omega
        have hy9 : y < 1000000000000000000 := by have := (Dec.nDigits_le_iff _ 18 (by omega)).1 hb.2; omega
        have hdu : d ≤ 1000000000000000000 := by
          rw [← Hxy.out]
          exact Nat.le_trans (Nat.gcd_le_right x (by omega)) (by omega)
        have O := fun w => of1_any (d : Int) (by omega) (by omega) w
        rw [T5.out] at O
        clear h0 hb
        generalize tx ((x : Nat) : Int) = t6 at *
        generalize tx ((y : Nat) : Int) = t7 at *
        go_wp2_with fail
        refine ((B) _).mono ?_
        rintro r w2 ⟨rfl, k2⟩
        go_wp2_with fail
        go_loopg [5, 6] y (fun k a b w9 => ∃ x y : Nat, y = k ∧ a = .int .i64 x ∧ b = .int .i64 y ∧ Nat.gcd x y = d ∧ x < 1000000000000000000 ∧ y < 1000000000000000000 ∧ Kept w w9)
        case atStart => exact ⟨x, y, rfl, rfl, rfl, Hxy.out, hx9, hy9, hk.trans k2⟩
        case round =>
          clear hx9 hy9 Hxy Hx Hy hz
          obtain ⟨x, y, rfl, rfl, rfl, hxy, hx, hy, k3⟩ := hrel
          by_cases h0 : 0 < y
          · have i1 : (0 : Int) < (y : Int) := by omega
            have i2 : ¬ (y : Int) = 0 := by omega
            have hm : (x : Int).tmod (y : Int) = ((x % y : Nat) : Int) := by rw [Int.tmod_eq_emod_of_nonneg (by omega)]; rfl
            have hgg : Hid (Nat.gcd y (x % y) = d) := Lib.hid (by rw [← hxy, Nat.gcd_comm x y, Nat.gcd_rec y x, Nat.gcd_comm])
            have hlt : x % y < y := Nat.mod_lt _ h0
            have Hlt := Lib.hid hlt
            have hyy := Lib.hid hy
            clear hxy hlt
            go_wp2_with fail
            go_quiet (fail)
            go_wp2
            go_roundg (x % y)
            case measure => exact Hlt.out
            case rel => exact ⟨y, x % y, rfl, rfl, by go_num, hgg.out, by omega, by have := Hlt.out; omega, k3.drewN _⟩
          · have hy0 : y = 0 := by omega
            have hxd : x = d := by rw [hy0, Nat.gcd_zero_right] at hxy; exact hxy
            subst hy0
            subst hxd
            clear hxy
            go_wp2_with fail
            refine ((O) _).mono ?_
            rintro r w4 ⟨rfl, k4⟩
            go_wp2
            go_returns
            exact ⟨rfl, k3.trans k4⟩
      · have B := fun w => brief_no ((x : Nat) : Int) ((y : Nat) : Int) hb w
        have P := fun w => parted1_nat x y (by omega) Hx.out Hy.out w
        have hgg : Hid (Nat.gcd y (x % y) = d) := Lib.hid (by rw [← Hxy.out, Nat.gcd_comm x y, Nat.gcd_rec y x, Nat.gcd_comm])
        have Hlt := Lib.hid (Nat.mod_lt x (show 0 < y by omega))
        have Hr := Lib.hid (Hy.out.nat_le (Nat.le_of_lt Hlt.out))
        clear hb h0
        obtain ⟨z, hz'⟩ : ∃ z, x % y = z := ⟨_, rfl⟩
        rw [hz'] at P hgg Hlt Hr
        clear hz'
        obtain ⟨t6, ht6⟩ : ∃ t6, tx ((x : Nat) : Int) = t6 := ⟨_, rfl⟩
        obtain ⟨t7, ht7⟩ : ∃ t7, tx ((y : Nat) : Int) = t7 := ⟨_, rfl⟩
        obtain ⟨t8, ht8⟩ : ∃ t8, tx ((z : Nat) : Int) = t8 := ⟨_, rfl⟩
        obtain ⟨t9, ht9⟩ : ∃ t9, tx (((x / y : Nat)) : Int) = t9 := ⟨_, rfl⟩
        rw [ht6, ht7] at B
        rw [ht6, ht7, ht8, ht9] at P
        rw [ht7] at hz
        rw [ht6, ht7]
        have T7 := Lib.hid ht7
        have T8 := Lib.hid ht8
        clear ht6 ht7 ht8 ht9
        go_wp2_with fail
        refine ((B) _).mono ?_
        rintro r w4 ⟨rfl, rfl⟩
        go_wp2_with fail
        refine ((P) _).mono ?_
        rintro r w2 ⟨rfl, k2⟩
        go_wp2
        go_roundg z
        case measure => exact Hlt.out
        case rel => exact ⟨y, z, rfl, by rw [T7.out], by rw [T8.out], hgg.out, Hy.out, Hr.out, hk.trans k2⟩

theorem Dk.lowG {k : Nat} {n m : Int} (hm0 : m ≠ 0) (hm : Dk k m) : Dk k (lowG n m) := by
  have : Int.gcd n m ≤ m.natAbs := Nat.gcd_le_right _ (by omega)
  unfold Dk at *
  refine Nat.le_trans (nDigits_mono ?_) hm
  unfold Go.Proofs.YtgmegfcjbnfnaaaGreatDoor.lowG
  split <;> omega

theorem parted1_exact (n m k : Int) (h : n = m * k) (hm0 : m ≠ 0) (hn : Dk 40000 n) (hm : Dk 40000 m) (w : World) :
    Calls Tryz.prog 103 #[.string (tx n), .string (tx m)] w fun r w' => r = .returned (.tuple #[.string (tx k), .string (tx 0)]) ∧ Kept w w' := by
  have P := parted1_any n m hm0 (.inl (quo_abs h hm0).2) hn hm w
  rw [pq_exact h hm0, show n - k * m = 0 by rw [h, Int.mul_comm]; omega] at P
  exact P

theorem lowest2_any (n m : Int) (hm0 : m ≠ 0) (hn : Dk 40000 n) (hm : Dk 40000 m) (w : World) :
    Calls Tryz.prog 70 #[.string (tx n), .string (tx m)] w fun r w' => r = .returned (.string (rt (Rat.divInt n m))) ∧ Kept w w' :=
  lowest2_of n m hm0 (Nat.le_trans hn (by omega)) (Nat.le_trans hm (by omega)) (shared1_any n m hn hm)
    (parted1_exact n _ _ (low_num hm0) (lowG_ne hm0) hn (hm.lowG hm0)) (parted1_exact m _ _ (low_den hm0) (lowG_ne hm0) hm (hm.lowG hm0)) w
end Go.Proofs.YtgmegfcjbnfnaaaGreatDoor

/- Walks over the reference's fractions: slash, Split. -/
namespace Go.Proofs.YtgmegfcjbnfnaaaGreatDoor
open Go.RowKit Wide Numer
open Go.Lib (decDigits itoa nDigits)

theorem idx_none {l : List UInt8} (h : ∀ c ∈ l, c ≠ 47) : Lib.indexByte l 47 = -1 := (spl_no (l := l) (by rw [spl_plain h])).1
theorem idx_some {l : List UInt8} {j : Nat} (hj : j < l.length) (h : ∀ c ∈ l.take j, c ≠ 47) (hc : l[j] = 47) : Lib.indexByte l 47 = (j : Int) := by
  have e : l = l.take j ++ 47 :: l.drop (j + 1) := by
    rw [← hc, ← List.drop_eq_getElem_cons hj, List.take_append_drop]
  have s : spl l = (l.take j, l.drop (j + 1), true) := by
    conv => lhs; rw [e]
    exact spl_cut h
  have := (spl_yes (l := l) (by rw [s])).1
  rw [this, s]
  show ((l.take j).length : Int) = _
  rw [List.length_take]; omega
theorem take_ne {l : List UInt8} {j : Nat} (hj : j < l.length) (h : ∀ c ∈ l.take j, c ≠ 47) (hc : l[j] ≠ 47) : ∀ c ∈ l.take (j + 1), c ≠ 47 := by
  intro c hm
  rw [List.take_add_one, List.getElem?_eq_getElem hj] at hm
  rcases List.mem_append.1 hm with h1 | h1
  · exact h c h1
  · simp at h1; rw [h1]; exact hc
theorem u8_is47 (c : UInt8) : ((c.toNat : Int) == 47) = decide (c = 47) := by
  rw [Bool.eq_iff_iff, beq_iff_eq, decide_eq_true_iff]
  constructor
  · intro h
    have : c.toNat = (47 : UInt8).toNat := by
      show c.toNat = 47
      omega
    exact UInt8.toNat_inj.1 this
  · intro h; rw [h]; rfl

set_option maxHeartbeats 2000000 in
set_option maxRecDepth 100000 in
theorem slash_any (l : List UInt8) (hl : l.length ≤ 140737488355328) (w : World) :
    Calls Tryz.prog 122 #[.string (bs l)] w fun r w' => r = .returned (.int .i64 (Lib.indexByte l 47)) ∧ Kept w w' := by
  have hz : (bs l).size = l.length := bs_size l
  have HZ := Lib.hid hz
  obtain ⟨n, hn⟩ : ∃ n, (bs l).size = n := ⟨_, rfl⟩
  have hn2 : n ≤ 140737488355328 := by omega
  obtain ⟨s, hs⟩ : ∃ s, bs l = s := ⟨_, rfl⟩
  have HS := Lib.hid hs
  have hsn : s.size = n := by rw [← hs]; exact hn
  have HSN := Lib.hid hsn
  have hs1 : s.size ≤ 140737488355328 := by omega
  rw [hs]
  clear hz hl hn hsn hs
  go_enter Tryz.func122, Tryz.ntmps122
  go_wp2_with fail
  go_loopg [3] n (fun k i wr => ∃ j : Nat, k + j = n ∧ i = .int .i64 j ∧ (∀ c ∈ l.take j, c ≠ 47) ∧ Kept w wr)
  case atStart => exact ⟨0, rfl, rfl, by simp, Kept.refl w⟩
  case round =>
    obtain ⟨j, hj, rfl, hne, hk⟩ := hrel
    have HN := Lib.hid hne
    clear hne
    by_cases hlt : j < s.size
    · have hjl : j < l.length := by rw [← HZ.out, HS.out]; exact hlt
      have hc := u8_is47 (s[j]'hlt)
      have e : s[j]'hlt = l[j] := by
        have := HS.out
        subst this
        exact bs_get l j _
      rw [e] at hc
      have hg := Lib.hid e
      clear e
      by_cases h47 : l[j] = 47
      · have hi := Lib.hid (idx_some hjl HN.out h47)
        rw [decide_eq_true h47, ← hg.out] at hc
        clear h47
        go_wp2
        go_returns
        exact ⟨by rw [hi.out]; rfl, hk⟩
      · have hi := Lib.hid (take_ne hjl HN.out h47)
        rw [decide_eq_false h47, ← hg.out] at hc
        clear h47
        go_wp2
        go_roundg (gk - 1)
        case measure => have := HSN.out; omega
        case rel => exact ⟨j + 1, by have := HSN.out; omega, by go_num, hi.out, hk⟩
    · have hi : Lib.indexByte l 47 = -1 := by
        refine idx_none ?_
        have := HN.out
        rwa [List.take_of_length_le (by have := HZ.out; rw [HS.out] at this; omega)] at this
      have hlt2 : s.size ≤ j := by omega
      have HI := Lib.hid hi
      clear hlt hi
      go_wp2
      go_returns
      exact ⟨by rw [HI.out]; rfl, hk⟩

set_option maxHeartbeats 2000000 in
set_option maxRecDepth 100000 in
theorem split2_any (l : List UInt8) (hl : l.length ≤ 140737488355328) (w : World) :
    Calls Tryz.prog 93 #[.string (bs l)] w fun r w' => r = .returned (.tuple #[.string (bs (spl l).1), .string (bs (spl l).2.1)]) ∧ Kept w w' := by
  have S := fun w => slash_any l hl w
  cases hb : (spl l).2.2
  · obtain ⟨h1, h2, h3⟩ := spl_no hb
    rw [h2, h3]
    rw [h1] at S
    rw [show bs [49] = (⟨#[49]⟩ : ByteArray) from rfl]
    clear hb h1 h2 h3
    generalize bs l = s at *
    go_enter Tryz.func93, Tryz.ntmps93
    go_wp2_with fail
    refine ((S) _).mono ?_
    rintro r w1 ⟨rfl, k1⟩
    go_wp2
    go_returns
    exact ⟨rfl, k1⟩
  · obtain ⟨h1, h2⟩ := spl_yes hb
    obtain ⟨n, hn⟩ : ∃ n, n = (spl l).1.length := ⟨_, rfl⟩
    have hs : (bs l).size = l.length := bs_size l
    obtain ⟨g1, g2, g3⟩ := split_at h2
    have hl2 : l.length = n + 1 + (spl l).2.1.length := by rw [hn]; exact g3
    have e1 : (bs l).extract 0 n = bs (spl l).1 := by rw [bs_extract, List.drop_zero, hn, g1]
    have e2 : (bs l).extract (n + 1) (bs l).size = bs (spl l).2.1 := by rw [bs_extract, hs, List.take_length, hn, g2]
    clear g1 g2 g3
    have hsz : (bs l).size ≤ 140737488355328 := by rw [hs]; exact hl
    have hn1 : n + 1 ≤ (bs l).size := by rw [hs]; omega
    rw [← hn] at h1
    rw [h1] at S
    have E1 := Lib.hid e1
    have E2 := Lib.hid e2
    have i0 : (0 : Int) ≤ (n : Int) := by omega
    clear hb h1 h2 hs hl2 e1 e2 hn
    generalize bs (spl l).1 = o1 at *
    generalize bs (spl l).2.1 = o2 at *
    generalize bs l = s at *
    go_enter Tryz.func93, Tryz.ntmps93
    go_wp2_with fail
    refine ((S) _).mono ?_
    rintro r w1 ⟨rfl, k1⟩
    go_wp2_with fail
    go_quiet (fail)
    go_wp2
    go_returns
    exact ⟨by rw [← E1.out, ← E2.out]; rfl, k1.drewN _⟩

theorem rtl_lenk {k : Nat} {r : Rat} (h1 : Dk k r.num) (h2 : Dk k (r.den : Int)) : (rtl r).length ≤ 2 * k + 3 := by
  unfold rtl
  have a := Nat.le_trans (itoa_length_le r.num) (Nat.add_le_add_right h1 1)
  have b := Nat.le_trans (itoa_length_le (r.den : Int)) (Nat.add_le_add_right h2 1)
  split
  · omega
  · simp; omega
/-- a fraction's text split -/
theorem splitr_any (r : Rat) (h1 : Dk 100000 r.num) (h2 : Dk 100000 (r.den : Int)) (w : World) :
    Calls Tryz.prog 93 #[.string (rt r)] w fun e w' => e = .returned (.tuple #[.string (tx r.num), .string (tx (r.den : Int))]) ∧ Kept w w' := by
  have S := split2_any (rtl r) (by have := rtl_lenk h1 h2; omega) w
  rw [spl_rtl] at S
  exact S
end Go.Proofs.YtgmegfcjbnfnaaaGreatDoor

/- Walks over the reference's fractions: crossed, Plus, Minus, Times, By, Order, Signum. -/
namespace Go.Proofs.YtgmegfcjbnfnaaaGreatDoor
open Go.RowKit Wide Numer
open Go.Lib (decDigits itoa nDigits)

/-- numerator and denominator of at most k digits -/
def Rk (k : Nat) (r : Rat) : Prop := Dk k r.num ∧ Dk k (r.den : Int)
theorem Rk.mono {j k : Nat} {r : Rat} (h : Rk j r) (hjk : j ≤ k) : Rk k r := ⟨h.1.mono hjk, h.2.mono hjk⟩
theorem Dk.dvd {k : Nat} {n m c : Int} (hm : m = c * n) (hc : c ≠ 0) (h : Dk k m) : Dk k n := by
  unfold Dk at *
  refine Nat.le_trans (nDigits_mono ?_) h
  rw [hm, Int.natAbs_mul]
  exact Nat.le_mul_of_pos_left _ (by omega)
theorem Rk.divInt {k : Nat} {n m : Int} (hm0 : m ≠ 0) (hn : Dk k n) (hm : Dk k m) : Rk k (Rat.divInt n m) :=
  ⟨hn.dvd (low_num hm0) (lowG_ne hm0), hm.dvd (low_den hm0) (lowG_ne hm0)⟩
theorem add_divInt (a b : Rat) : Rat.divInt (a.num * (b.den : Int) + b.num * (a.den : Int)) ((a.den : Int) * (b.den : Int)) = a + b := by
  conv => rhs; rw [← Rat.num_divInt_den a, ← Rat.num_divInt_den b]
  rw [Rat.divInt_add_divInt _ _ (den_ne a) (den_ne b)]
theorem sub_divInt (a b : Rat) : Rat.divInt (a.num * (b.den : Int) - b.num * (a.den : Int)) ((a.den : Int) * (b.den : Int)) = a - b := by
  conv => rhs; rw [← Rat.num_divInt_den a, ← Rat.num_divInt_den b]
  rw [Rat.divInt_sub_divInt _ _ (den_ne a) (den_ne b)]
theorem den2_ne (a b : Rat) : (a.den : Int) * (b.den : Int) ≠ 0 := Int.mul_ne_zero (den_ne a) (den_ne b)
theorem Rk.add {j k : Nat} {a b : Rat} (h : Rk j a) (g : Rk k b) : Rk (j + k + 1) (a + b) := by
  rw [← add_divInt]
  have h1 := h.1.mul g.2
  have h2 := g.1.mul h.2
  rw [Nat.add_comm k j] at h2
  exact Rk.divInt (den2_ne a b) (h1.add h2) ((h.2.mul g.2).mono (by omega))
theorem Rk.sub {j k : Nat} {a b : Rat} (h : Rk j a) (g : Rk k b) : Rk (j + k + 1) (a - b) := by
  rw [← sub_divInt]
  have h1 := h.1.mul g.2
  have h2 := g.1.mul h.2
  rw [Nat.add_comm k j] at h2
  exact Rk.divInt (den2_ne a b) (h1.sub h2) ((h.2.mul g.2).mono (by omega))
theorem Rk.mul {j k : Nat} {a b : Rat} (h : Rk j a) (g : Rk k b) : Rk (j + k) (a * b) := by
  rw [← mul_divInt]
  exact Rk.divInt (den2_ne a b) (h.1.mul g.1) (h.2.mul g.2)
theorem num_ne {b : Rat} (h : b ≠ 0) : b.num ≠ 0 := fun e => h (Rat.num_eq_zero.1 e)
theorem Rk.div {j k : Nat} {a b : Rat} (h : Rk j a) (g : Rk k b) (hb : b ≠ 0) : Rk (j + k) (a / b) := by
  rw [← div_divInt]
  exact Rk.divInt (Int.mul_ne_zero (den_ne a) (num_ne hb)) (h.1.mul g.2) (h.2.mul g.1)

/-- the five products -/
def Cross (w : World) (x0 x1 x2 x3 x4 : ByteArray) (e : Ending) (w' : World) : Prop :=
  ∃ b : Nat, e = .returned (.slice (some ⟨b, 0, none⟩) 5 5) ∧ w'.cell? ⟨b, 0, none⟩ = some (.string x0) ∧ w'.cell? ⟨b, 1, none⟩ = some (.string x1) ∧ w'.cell? ⟨b, 2, none⟩ = some (.string x2) ∧ w'.cell? ⟨b, 3, none⟩ = some (.string x3) ∧ w'.cell? ⟨b, 4, none⟩ = some (.string x4) ∧ Kept w w'

set_option maxHeartbeats 2000000 in
set_option maxRecDepth 100000 in
theorem crossed_any (a b : Rat) (ha : Rk 20000 a) (hb : Rk 20000 b) (w : World) :
    Calls Tryz.prog 87 #[.string (rt a), .string (rt b)] w
      (Cross w (tx (a.num * (b.den : Int))) (tx (b.num * (a.den : Int))) (tx ((a.den : Int) * (b.den : Int))) (tx (a.num * b.num)) (tx ((a.den : Int) * b.num))) := by
  have S1 := fun w => splitr_any a (ha.1.mono (by omega)) (ha.2.mono (by omega)) w
  have S2 := fun w => splitr_any b (hb.1.mono (by omega)) (hb.2.mono (by omega)) w
  have T0 := fun w => times1_any a.num (b.den : Int) (ha.1.mono (by omega)) (hb.2.mono (by omega)) w
  have T1 := fun w => times1_any b.num (a.den : Int) (hb.1.mono (by omega)) (ha.2.mono (by omega)) w
  have T2 := fun w => times1_any (a.den : Int) (b.den : Int) (ha.2.mono (by omega)) (hb.2.mono (by omega)) w
  have T3 := fun w => times1_any a.num b.num (ha.1.mono (by omega)) (hb.1.mono (by omega)) w
  have T4 := fun w => times1_any (a.den : Int) b.num (ha.2.mono (by omega)) (hb.1.mono (by omega)) w
  generalize tx (a.num * (b.den : Int)) = x0 at *
  generalize tx (b.num * (a.den : Int)) = x1 at *
  generalize tx ((a.den : Int) * (b.den : Int)) = x2 at *
  generalize tx (a.num * b.num) = x3 at *
  generalize tx ((a.den : Int) * b.num) = x4 at *
  generalize tx a.num = n at *
  generalize tx b.num = m at *
  generalize tx (a.den : Int) = p at *
  generalize tx (b.den : Int) = q at *
  generalize rt a = s at *
  generalize rt b = t at *
  clear ha hb
  go_enter Tryz.func87, Tryz.ntmps87
  go_wp2_with fail
  refine ((S1) _).mono ?_
  rintro r w1 ⟨rfl, k1⟩
  go_wp2_with fail
  refine ((S2) _).mono ?_
  rintro r w2 ⟨rfl, k2⟩
  go_wp2_with fail
  refine ((T0) _).mono ?_
  rintro r w3 ⟨rfl, k3⟩
  go_wp2_with fail
  refine ((T1) _).mono ?_
  rintro r w4 ⟨rfl, k4⟩
  go_wp2_with fail
  refine ((T2) _).mono ?_
  rintro r w5 ⟨rfl, k5⟩
  go_wp2_with fail
  refine ((T3) _).mono ?_
  rintro r w6 ⟨rfl, k6⟩
  go_wp2_with fail
  refine ((T4) _).mono ?_
  rintro r w7 ⟨rfl, k7⟩
  go_wp2
  go_returns
  refine ⟨_, rfl, ?_, ?_, ?_, ?_, ?_, (((((((k1.trans k2).trans k3).trans k4).trans k5).trans k6).trans k7).alloc _)⟩ <;> simp

set_option maxHeartbeats 2000000 in
set_option maxRecDepth 100000 in
theorem plus2_any (a b : Rat) (ha : Rk 9000 a) (hb : Rk 9000 b) (w : World) :
    Calls Tryz.prog 83 #[.string (rt a), .string (rt b)] w fun e w' => e = .returned (.string (rt (a + b))) ∧ Kept w w' := by
  have C := fun w => crossed_any a b (ha.mono (by omega)) (hb.mono (by omega)) w
  have h1 := ha.1.mul hb.2
  have h2 := hb.1.mul ha.2
  have P := fun w => plus1_any (a.num * (b.den : Int)) (b.num * (a.den : Int)) (h1.mono (by omega)) (h2.mono (by omega)) w
  have L := fun w => lowest2_any (a.num * (b.den : Int) + b.num * (a.den : Int)) ((a.den : Int) * (b.den : Int)) (den2_ne a b) ((h1.add h2).mono (by omega)) ((ha.2.mul hb.2).mono (by omega)) w
  rw [add_divInt] at L
  generalize tx (a.num * (b.den : Int) + b.num * (a.den : Int)) = x5 at *
  generalize tx (a.num * (b.den : Int)) = x0 at *
  generalize tx (b.num * (a.den : Int)) = x1 at *
  generalize tx ((a.den : Int) * (b.den : Int)) = x2 at *
  generalize tx (a.num * b.num) = x3 at *
  generalize tx ((a.den : Int) * b.num) = x4 at *
  generalize rt (a + b) = r at *
  generalize rt a = s at *
  generalize rt b = t at *
  clear ha hb h1 h2
  go_enter Tryz.func83, Tryz.ntmps83
  go_wp2_with fail
  refine (C _).mono ?_
  rintro e w1 ⟨g, rfl, c0, c1, c2, c3, c4, k1⟩
  have P2 := Lib.hid P
  have L2 := Lib.hid L
  clear c3 c4 P L C
  go_wp2_with fail
  go_region_held3 (fun w' => w'.cell? ⟨g, 0, none⟩ = some (.string x0) ∧ w'.cell? ⟨g, 1, none⟩ = some (.string x1) ∧ w'.cell? ⟨g, 2, none⟩ = some (.string x2))
    (first | exact ⟨hk3.cell (hk2.cell c0), hk3.cell (hk2.cell c1), hk3.cell (hk2.cell c2)⟩ | exact ⟨hk2.cell c0, hk2.cell c1, hk2.cell c2⟩ | exact ⟨c0, c1, c2⟩)
    (first | (go_at_call 117; refine (P2.out _).mono ?_; rintro e w2 ⟨rfl, hk2⟩)
           | (go_at_call 70; refine (L2.out _).mono ?_; rintro e w3 ⟨rfl, hk3⟩))
  go_wp2
  go_returns
  exact ⟨rfl, k1.trans ((kept_drew hk2).trans (hk3))⟩

set_option maxHeartbeats 2000000 in
set_option maxRecDepth 100000 in
theorem minus2_any (a b : Rat) (ha : Rk 9000 a) (hb : Rk 9000 b) (w : World) :
    Calls Tryz.prog 82 #[.string (rt a), .string (rt b)] w fun e w' => e = .returned (.string (rt (a - b))) ∧ Kept w w' := by
  have C := fun w => crossed_any a b (ha.mono (by omega)) (hb.mono (by omega)) w
  have h1 := ha.1.mul hb.2
  have h2 := hb.1.mul ha.2
  have P := fun w => minus1_any (a.num * (b.den : Int)) (b.num * (a.den : Int)) (h1.mono (by omega)) (h2.mono (by omega)) w
  have L := fun w => lowest2_any (a.num * (b.den : Int) - b.num * (a.den : Int)) ((a.den : Int) * (b.den : Int)) (den2_ne a b) ((h1.sub h2).mono (by omega)) ((ha.2.mul hb.2).mono (by omega)) w
  rw [sub_divInt] at L
  generalize tx (a.num * (b.den : Int) - b.num * (a.den : Int)) = x5 at *
  generalize tx (a.num * (b.den : Int)) = x0 at *
  generalize tx (b.num * (a.den : Int)) = x1 at *
  generalize tx ((a.den : Int) * (b.den : Int)) = x2 at *
  generalize tx (a.num * b.num) = x3 at *
  generalize tx ((a.den : Int) * b.num) = x4 at *
  generalize rt (a - b) = r at *
  generalize rt a = s at *
  generalize rt b = t at *
  clear ha hb h1 h2
  go_enter Tryz.func82, Tryz.ntmps82
  go_wp2_with fail
  refine (C _).mono ?_
  rintro e w1 ⟨g, rfl, c0, c1, c2, c3, c4, k1⟩
  have P2 := Lib.hid P
  have L2 := Lib.hid L
  clear c3 c4 P L C
  go_wp2_with fail
  go_region_held3 (fun w' => w'.cell? ⟨g, 0, none⟩ = some (.string x0) ∧ w'.cell? ⟨g, 1, none⟩ = some (.string x1) ∧ w'.cell? ⟨g, 2, none⟩ = some (.string x2))
    (first | exact ⟨hk3.cell (hk2.cell c0), hk3.cell (hk2.cell c1), hk3.cell (hk2.cell c2)⟩ | exact ⟨hk2.cell c0, hk2.cell c1, hk2.cell c2⟩ | exact ⟨c0, c1, c2⟩)
    (first | (go_at_call 116; refine (P2.out _).mono ?_; rintro e w2 ⟨rfl, hk2⟩)
           | (go_at_call 70; refine (L2.out _).mono ?_; rintro e w3 ⟨rfl, hk3⟩))
  go_wp2
  go_returns
  exact ⟨rfl, k1.trans ((kept_drew hk2).trans (hk3))⟩

set_option maxHeartbeats 2000000 in
set_option maxRecDepth 100000 in
theorem times2_any (a b : Rat) (ha : Rk 9000 a) (hb : Rk 9000 b) (w : World) :
    Calls Tryz.prog 56 #[.string (rt a), .string (rt b)] w fun e w' => e = .returned (.string (rt (a * b))) ∧ Kept w w' := by
  have C := fun w => crossed_any a b (ha.mono (by omega)) (hb.mono (by omega)) w
  have L := fun w => lowest2_any (a.num * b.num) ((a.den : Int) * (b.den : Int)) (den2_ne a b) ((ha.1.mul hb.1).mono (by omega)) ((ha.2.mul hb.2).mono (by omega)) w
  rw [mul_divInt] at L
  generalize tx (a.num * (b.den : Int)) = x0 at *
  generalize tx (b.num * (a.den : Int)) = x1 at *
  generalize tx ((a.den : Int) * (b.den : Int)) = x2 at *
  generalize tx (a.num * b.num) = x3 at *
  generalize tx ((a.den : Int) * b.num) = x4 at *
  generalize rt (a * b) = r at *
  generalize rt a = s at *
  generalize rt b = t at *
  clear ha hb
  go_enter Tryz.func56, Tryz.ntmps56
  go_wp2_with fail
  refine (C _).mono ?_
  rintro e w1 ⟨g, rfl, c0, c1, c2, c3, c4, k1⟩
  have L2 := Lib.hid L
  clear L C
  go_wp2_with fail
  go_region_held3 (fun w' => w'.cell? ⟨g, 3, none⟩ = some (.string x3) ∧ w'.cell? ⟨g, 2, none⟩ = some (.string x2))
    (first | exact ⟨hk3.cell c3, hk3.cell c2⟩ | exact ⟨c3, c2⟩)
    (first | (go_at_call 70; refine (L2.out _).mono ?_; rintro e w3 ⟨rfl, hk3⟩))
  go_wp2
  go_returns
  exact ⟨rfl, k1.trans (kept_drew hk3)⟩

set_option maxHeartbeats 2000000 in
set_option maxRecDepth 100000 in
theorem by2_any (a b : Rat) (ha : Rk 9000 a) (hb : Rk 9000 b) (hb0 : b ≠ 0) (w : World) :
    Calls Tryz.prog 55 #[.string (rt a), .string (rt b)] w fun e w' => e = .returned (.string (rt (a / b))) ∧ Kept w w' := by
  have C := fun w => crossed_any a b (ha.mono (by omega)) (hb.mono (by omega)) w
  have L := fun w => lowest2_any (a.num * (b.den : Int)) ((a.den : Int) * b.num) (Int.mul_ne_zero (den_ne a) (num_ne hb0)) ((ha.1.mul hb.2).mono (by omega)) ((ha.2.mul hb.1).mono (by omega)) w
  rw [div_divInt] at L
  clear hb0
  generalize tx (a.num * (b.den : Int)) = x0 at *
  generalize tx (b.num * (a.den : Int)) = x1 at *
  generalize tx ((a.den : Int) * (b.den : Int)) = x2 at *
  generalize tx (a.num * b.num) = x3 at *
  generalize tx ((a.den : Int) * b.num) = x4 at *
  generalize rt (a / b) = r at *
  generalize rt a = s at *
  generalize rt b = t at *
  clear ha hb
  go_enter Tryz.func55, Tryz.ntmps55
  go_wp2_with fail
  refine (C _).mono ?_
  rintro e w1 ⟨g, rfl, c0, c1, c2, c3, c4, k1⟩
  have L2 := Lib.hid L
  clear L C
  go_wp2_with fail
  go_region_held3 (fun w' => w'.cell? ⟨g, 0, none⟩ = some (.string x0) ∧ w'.cell? ⟨g, 4, none⟩ = some (.string x4))
    (first | exact ⟨hk3.cell c0, hk3.cell c4⟩ | exact ⟨c0, c4⟩)
    (first | (go_at_call 70; refine (L2.out _).mono ?_; rintro e w3 ⟨rfl, hk3⟩))
  go_wp2
  go_returns
  exact ⟨rfl, k1.trans (kept_drew hk3)⟩

set_option maxHeartbeats 2000000 in
set_option maxRecDepth 100000 in
theorem order2_any (a b : Rat) (ha : Rk 9000 a) (hb : Rk 9000 b) (w : World) :
    Calls Tryz.prog 92 #[.string (rt a), .string (rt b)] w fun e w' => e = .returned (.int .i64 (rsgn a b)) ∧ Kept w w' := by
  have C := fun w => crossed_any a b (ha.mono (by omega)) (hb.mono (by omega)) w
  have L := fun w => order1_any (a.num * (b.den : Int)) (b.num * (a.den : Int)) ((ha.1.mul hb.2).mono (by omega)) ((hb.1.mul ha.2).mono (by omega)) w
  rw [show zsgn (a.num * (b.den : Int) - b.num * (a.den : Int)) = rsgn a b from rfl] at L
  generalize tx (a.num * (b.den : Int)) = x0 at *
  generalize tx (b.num * (a.den : Int)) = x1 at *
  generalize tx ((a.den : Int) * (b.den : Int)) = x2 at *
  generalize tx (a.num * b.num) = x3 at *
  generalize tx ((a.den : Int) * b.num) = x4 at *
  generalize rsgn a b = r at *
  generalize rt a = s at *
  generalize rt b = t at *
  clear ha hb
  go_enter Tryz.func92, Tryz.ntmps92
  go_wp2_with fail
  refine (C _).mono ?_
  rintro e w1 ⟨g, rfl, c0, c1, c2, c3, c4, k1⟩
  have L2 := Lib.hid L
  clear L C
  go_wp2_with fail
  go_region_held3 (fun w' => w'.cell? ⟨g, 0, none⟩ = some (.string x0) ∧ w'.cell? ⟨g, 1, none⟩ = some (.string x1))
    (first | exact ⟨hk3.cell c0, hk3.cell c1⟩ | exact ⟨c0, c1⟩)
    (first | (go_at_call 94; refine (L2.out _).mono ?_; rintro e w3 ⟨rfl, hk3⟩))
  go_wp2
  go_returns
  exact ⟨rfl, k1.trans (kept_drew hk3)⟩

set_option maxHeartbeats 2000000 in
set_option maxRecDepth 100000 in
theorem signum2_any (a : Rat) (ha : Rk 9000 a) (w : World) :
    Calls Tryz.prog 60 #[.string (rt a)] w fun e w' => e = .returned (.int .i64 (zsgn a.num)) ∧ Kept w w' := by
  have S := fun w => splitr_any a (ha.1.mono (by omega)) (ha.2.mono (by omega)) w
  have O := fun w => order1_any a.num 0 (ha.1.mono (by omega)) ((Dk_of_lt (k := 1) (by omega) (by decide)).mono (by omega)) w
  rw [Int.sub_zero, tx_zero] at O
  generalize zsgn a.num = r at *
  generalize tx a.num = n at *
  generalize tx (a.den : Int) = p at *
  generalize rt a = s at *
  clear ha
  go_enter Tryz.func60, Tryz.ntmps60
  go_wp2_with fail
  refine ((S) _).mono ?_
  rintro r w1 ⟨rfl, k1⟩
  go_wp2_with fail
  refine ((O) _).mono ?_
  rintro r w2 ⟨rfl, k2⟩
  go_wp2
  go_returns
  exact ⟨rfl, k1.trans k2⟩
end Go.Proofs.YtgmegfcjbnfnaaaGreatDoor
