/- The references 01 and 02 at short integers; groups and the variance. -/
import Derived.Test.YtgmegfcjbnfnaaaGreatDoorM4
import Derived.Laws.IdiomStrings
import Derived.Test.YtgmegfcjbnfnaaaGreatDoorM7

/- Walks over the reference's integers: size, Below, signed, Turned, less. -/
namespace Go.Proofs.YtgmegfcjbnfnaaaGreatDoor
open Go.RowKit Wide Numer
open Go.Lib (decDigits itoa nDigits)

/-- the digits of a natural number, as a text -/
def dg (u : Nat) : ByteArray := bs (decDigits u)
theorem tx_dg {n : Int} (h : 0 ≤ n) : tx n = dg n.natAbs := by unfold tx dg; rw [Dec.itoa_nonneg h, show n.toNat = n.natAbs by omega]
theorem dg_size (u : Nat) : (dg u).size = nDigits u := by unfold dg; rw [bs_size, Lib.decDigits_length]
theorem dg_zero (u : Nat) : ((dg u).toList == [48]) = decide (u = 0) := by
  have := tx_is0 (u : Int)
  rw [tx_dg (by omega)] at this
  rw [show ((u : Int)).natAbs = u by omega] at this
  rw [this]
  by_cases h : u = 0 <;> simp [h]
theorem tx_neg {n : Int} (h : n < 0) : (⟨#[45]⟩ : ByteArray) ++ dg n.natAbs = tx n := by
  have := tx_opp_pos (n := -n) (by omega)
  rw [Int.neg_neg, tx_dg (by omega), Int.natAbs_neg] at this
  exact this
theorem tx_ne (n : Int) : ((tx n).toList == []) = false := by
  have h := itoa_length_pos n
  rw [tx, bs_toList]
  cases hi : itoa n with
  | nil => rw [hi] at h; simp at h
  | cons c r => rfl

theorem size_any (n : Int) (w : World) :
    Calls Tryz.prog 135 #[.string (tx n)] w fun r w' => r = .returned (.string (dg n.natAbs)) ∧ w' = w := by
  have hp := tx_size_pos n
  have hp0 : 0 < (tx n).size := by omega
  have h0 := tx_ne n
  have h1 := tx_minus_int n hp0
  rcases Int.lt_or_le n 0 with h | h
  · rw [show decide (n < 0) = true by simp [h]] at h1
    have h2 : Hid ((tx n).extract 1 (tx n).size = dg n.natAbs) := by
      have := tx_opp_neg h
      rw [tx_dg (show 0 ≤ -n by omega), Int.natAbs_neg] at this
      exact this
    go_enter Tryz.func135, Tryz.ntmps135
    go_wp2
    all_goals go_returns
    all_goals exact ⟨by rw [← h2.out]; rfl, rfl⟩
  · rw [show decide (n < 0) = false by simp; omega] at h1
    rw [← tx_dg h]
    clear h
    go_enter Tryz.func135, Tryz.ntmps135
    go_wp2
    all_goals go_returns
    all_goals exact ⟨rfl, rfl⟩

theorem below_any (n : Int) (w : World) :
    Calls Tryz.prog 102 #[.string (tx n)] w fun r w' => r = .returned (.bool (decide (n < 0))) ∧ w' = w := by
  have hp := tx_size_pos n
  have hp0 : 0 < (tx n).size := by omega
  have h1 := tx_minus_int n hp0
  generalize decide (n < 0) = d at *
  go_enter Tryz.func102, Tryz.ntmps102
  go_wp2
  go_returns
  exact ⟨by rw [← h1]; rfl, rfl⟩

theorem signed_any (u : Nat) (hu : nDigits u ≤ 1000000) (b : Bool) (w : World) :
    Calls Tryz.prog 134 #[.string (dg u), .bool b] w fun r w' => r = .returned (.string (tx (sv b u))) ∧ w' = w := by
  have hz := dg_zero u
  have hs := dg_size u
  have hl : (dg u).size ≤ 1000000 := by omega
  have hc : ((⟨#[45]⟩ : ByteArray) ++ dg u).size = (dg u).size + 1 := by rw [ByteArray.size_append, Nat.add_comm]; rfl
  cases b
  · have e : tx (sv false u) = dg u := by
      rw [show sv false u = (u : Int) from rfl, tx_dg (by omega), show ((u : Int)).natAbs = u by omega]
    rw [e]
    clear hs
    go_enter Tryz.func134, Tryz.ntmps134
    go_wp2
    all_goals go_returns
    all_goals exact ⟨rfl, rfl⟩
  · by_cases h0 : u = 0
    · have e : tx (sv true u) = dg u := by
        subst h0
        rw [show sv true 0 = 0 from rfl, tx_dg (by omega)]; rfl
      rw [e]
      rw [show decide (u = 0) = true by simp [h0]] at hz
      clear hs h0
      go_enter Tryz.func134, Tryz.ntmps134
      go_wp2
      all_goals go_returns
      all_goals exact ⟨rfl, rfl⟩
    · have e : Hid ((⟨#[45]⟩ : ByteArray) ++ dg u = tx (sv true u)) := by
        have := tx_neg (n := -(u : Int)) (by omega)
        rw [show (-(u : Int)).natAbs = u by omega] at this
        exact this
      rw [show decide (u = 0) = false by simp [h0]] at hz
      clear hs h0
      go_enter Tryz.func134, Tryz.ntmps134
      go_wp2
      all_goals go_returns
      all_goals exact ⟨by rw [← e.out]; rfl, rfl⟩

theorem turned_any (n : Int) (hn : nDigits n.natAbs ≤ 1000000) (w : World) :
    Calls Tryz.prog 100 #[.string (tx n)] w fun r w' => r = .returned (.string (tx (-n))) ∧ w' = w := by
  have e : Hid (sv (!decide (n < 0)) n.natAbs = -n) := by
    show _ = _
    by_cases h : n < 0
    · simp only [h, decide_true, Bool.not_true, sv, Bool.false_eq_true, if_false]; omega
    · simp only [h, decide_false, Bool.not_false, sv, if_true]; omega
  generalize hd : decide (n < 0) = d at *
  have b1 := below_any n
  rw [hd] at b1
  clear hd
  go_enter Tryz.func100, Tryz.ntmps100
  go_wp2_with fail
  refine (size_any n w).mono ?_
  rintro r w ⟨rfl, rfl⟩
  go_wp2_with fail
  refine (b1 w).mono ?_
  rintro r w ⟨rfl, rfl⟩
  go_wp2_with fail
  refine (signed_any n.natAbs hn (!d) w).mono ?_
  rintro r w ⟨rfl, rfl⟩
  go_wp2
  go_returns
  exact ⟨by rw [e.out]; rfl, rfl⟩

end Go.Proofs.YtgmegfcjbnfnaaaGreatDoor

/- Walks over the reference's integers: bare, less. -/
namespace Go.Proofs.YtgmegfcjbnfnaaaGreatDoor
open Go.RowKit Wide Numer
open Go.Lib (decDigits itoa nDigits)

theorem bs_head_bool {d : List UInt8} (h : 0 < (bs d).size) : ((((bs d)[0]'h).toNat : Int) == 48) = decide (d.head? = some 48) := by
  rw [Bool.eq_iff_iff, beq_iff_eq, decide_eq_true_iff]; exact bs_head h

set_option maxHeartbeats 1000000 in
set_option maxRecDepth 100000 in
theorem bare_any (l : List UInt8) (hne : l ≠ []) (hd : l.all Dec.dig = true) (hl : l.length ≤ 1000000) (w : World) :
    Calls Tryz.prog 163 #[.string (bs l)] w fun r w' => r = .returned (.string (dg (Dec.val l))) ∧ Kept w w' := by
  have HN := Lib.hid hne
  have HD := Lib.hid hd
  clear hne hd
  go_enter Tryz.func163, Tryz.ntmps163
  go_wp2
  go_loopg [0] l.length (fun k o wr => ∃ m : List UInt8, k = m.length ∧ o = .string (bs m) ∧ m ≠ [] ∧ m.all Dec.dig = true ∧ m.length ≤ 1000000 ∧ Dec.val m = Dec.val l ∧ Kept w wr)
  case atStart => exact ⟨l, rfl, rfl, HN.out, HD.out, hl, rfl, Kept.refl w⟩
  case round =>
    obtain ⟨m, rfl, rfl, hne, hd, hml, hv, hk⟩ := hrel
    have hz : (bs m).size = m.length := bs_size m
    have hp : 0 < (bs m).size := by
      cases m with
      | nil => exact absurd rfl hne
      | cons c r => rw [hz]; simp
    have hh := bs_head_bool hp
    have HV := Lib.hid hv
    by_cases h48 : m.head? = some 48 ∧ 1 < m.length
    · obtain ⟨h1, h2⟩ := h48
      rw [show decide (m.head? = some 48) = true by simp [h1]] at hh
      obtain ⟨r, hr⟩ : ∃ r, m = 48 :: r := by
        cases m with
        | nil => simp at h1
        | cons c r => simp at h1; exact ⟨r, by rw [h1]⟩
      have he : Hid ((bs m).extract 1 (bs m).size = bs r) := by
        show _ = _
        rw [bs_extract, bs_size, List.take_length, hr]; rfl
      have hr2 : Hid (r ≠ [] ∧ r.all Dec.dig = true ∧ r.length + 1 = m.length ∧ Dec.val r = Dec.val m) := by
        rw [hr] at hd h2
        refine ⟨by intro e; rw [e] at h2; simp at h2, ?_, by rw [hr]; rfl, ?_⟩
        · simp only [List.all_cons, Bool.and_eq_true] at hd; exact hd.2
        · rw [hr, Dec.val_cons]; simp
      have hs2 : 1 < (bs m).size := by omega
      clear hr h1 h2 hz hd hne hv
      go_wp2
      all_goals
        go_roundg r.length
        case measure => have := hr2.out.2.2.1; omega
        case rel =>
          have h4 := hr2.out
          refine ⟨r, rfl, ?_, h4.1, h4.2.1, by omega, h4.2.2.2.trans HV.out, hk⟩
          rw [← he.out]
    · have hout : Hid (bs m = dg (Dec.val l)) := by
        show _ = _
        rw [← hv, dg, Dec.decDigits_val hne hd]
        by_cases h1 : m.length = 1
        · exact .inl h1
        · refine .inr fun r e => h48 ⟨by rw [e]; rfl, ?_⟩
          have : m.length ≠ 0 := by rw [← hz]; omega
          omega
      by_cases h1 : m.length = 1
      · have hs1 : (bs m).size = 1 := by omega
        clear h48 hz hd hne hv h1 hh
        have hs1' : (bs m).size ≤ 1 := by omega
        clear hs1
        go_wp2
        all_goals go_returns
        all_goals exact ⟨by rw [← hout.out]; rfl, hk⟩
      · have hs2 : 1 < (bs m).size := by
          have : m.length ≠ 0 := by rw [← hz]; omega
          omega
        have h3 : ¬ m.head? = some 48 := fun h => h48 ⟨h, by omega⟩
        rw [show decide (m.head? = some 48) = false by simp [h3]] at hh
        clear h48 hz hd hne hv h1 h3
        go_wp2
        all_goals go_returns
        all_goals exact ⟨by rw [← hout.out]; rfl, hk⟩

end Go.Proofs.YtgmegfcjbnfnaaaGreatDoor

/- Walks over the reference's integers: less. -/
namespace Go.Proofs.YtgmegfcjbnfnaaaGreatDoor
open Go.RowKit Wide Numer
open Go.Lib (decDigits itoa nDigits)

theorem less_digits : ∀ (a b : List UInt8), a.length = b.length → a.all Dec.dig = true → b.all Dec.dig = true → Op.bytesLess a b = decide (Dec.val a < Dec.val b)
  | [], [], _, _, _ => by rfl
  | c :: a, d :: b, hl, ha, hb => by
    simp only [List.length_cons, Nat.add_right_cancel_iff] at hl
    simp only [List.all_cons, Bool.and_eq_true] at ha hb
    have hc := (Dec.dig_iff c).1 ha.1
    have hd := (Dec.dig_iff d).1 hb.1
    have va := Dec.val_lt a ha.2
    have vb := Dec.val_lt b hb.2
    rw [hl] at va
    have ih := less_digits a b hl ha.2 hb.2
    rw [Dec.val_cons, Dec.val_cons, hl]
    unfold Op.bytesLess
    by_cases h1 : c < d
    · have h2 : c.toNat < d.toNat := UInt8.lt_iff_toNat_lt.1 h1
      have h3 : (c.toNat - 48 + 1) * 10 ^ b.length ≤ (d.toNat - 48) * 10 ^ b.length := Nat.mul_le_mul_right _ (by omega)
      rw [Nat.add_mul] at h3
      have h4 : (c.toNat - 48) * 10 ^ b.length + Dec.val a < (d.toNat - 48) * 10 ^ b.length + Dec.val b := by omega
      simp [h1, h4]
    · by_cases h2 : d < c
      · have h3 : d.toNat < c.toNat := UInt8.lt_iff_toNat_lt.1 h2
        have h4 : (d.toNat - 48 + 1) * 10 ^ b.length ≤ (c.toNat - 48) * 10 ^ b.length := Nat.mul_le_mul_right _ (by omega)
        rw [Nat.add_mul] at h4
        have h5 : ¬ ((c.toNat - 48) * 10 ^ b.length + Dec.val a < (d.toNat - 48) * 10 ^ b.length + Dec.val b) := by omega
        have h6 : c ≠ d := by intro e; subst e; omega
        simp [h1, h5, h6]
      · have h3 : c = d := by
          apply UInt8.toNat_inj.1
          have g1 : ¬ c.toNat < d.toNat := fun h => h1 (UInt8.lt_iff_toNat_lt.2 h)
          have g2 : ¬ d.toNat < c.toNat := fun h => h2 (UInt8.lt_iff_toNat_lt.2 h)
          omega
        subst h3
        simp [ih]

theorem less_any (u v : Nat) (w : World) :
    Calls Tryz.prog 155 #[.string (dg u), .string (dg v)] w fun r w' => r = .returned (.bool (decide (u < v))) ∧ w' = w := by
  have s1 := dg_size u
  have s2 := dg_size v
  rcases Nat.lt_trichotomy (nDigits u) (nDigits v) with h | h | h
  · have hu := lt_of_digits h
    have e : Hid (decide (u < v) = true) := by show _ = _; simp [hu]
    have h' : (dg u).size < (dg v).size := by omega
    clear h hu s1 s2
    go_enter Tryz.func155, Tryz.ntmps155
    go_wp2
    all_goals go_returns
    all_goals exact ⟨by rw [e.out]; rfl, rfl⟩
  · have h' : (dg u).size = (dg v).size := by omega
    have e : Hid (Op.bytesLess (dg u).toList (dg v).toList = decide (u < v)) := by
      show _ = _
      rw [dg, dg, bs_toList, bs_toList, less_digits _ _ (by rw [Lib.decDigits_length, Lib.decDigits_length, h]) (Dec.dig_decDigits u) (Dec.dig_decDigits v), Dec.val_decDigits, Dec.val_decDigits]
    clear s1 s2
    go_enter Tryz.func155, Tryz.ntmps155
    go_wp2
    all_goals go_returns
    all_goals exact ⟨by rw [← e.out]; rfl, rfl⟩
  · have hu := lt_of_digits h
    have e : Hid (decide (u < v) = false) := by show _ = _; simp; omega
    have h' : (dg v).size < (dg u).size := by omega
    clear h hu s1 s2
    go_enter Tryz.func155, Tryz.ntmps155
    go_wp2
    all_goals go_returns
    all_goals exact ⟨by rw [e.out]; show Ending.returned (.bool (decide ((dg u).size < (dg v).size))) = _; rw [decide_eq_false (by omega)], rfl⟩

end Go.Proofs.YtgmegfcjbnfnaaaGreatDoor

/- Walks over the reference's integers: number, brief. -/
namespace Go.Proofs.YtgmegfcjbnfnaaaGreatDoor
open Go.RowKit Wide Numer
open Go.Lib (decDigits itoa nDigits)

theorem bs_get (l : List UInt8) (j : Nat) (h : j < (bs l).size) : (bs l)[j]'h = l[j]'(by rw [bs_size] at h; exact h) := rfl

set_option maxHeartbeats 1000000 in
set_option maxRecDepth 100000 in
theorem number_any (n : Int) (hn : nDigits n.natAbs ≤ 18) (w : World) :
    Calls Tryz.prog 162 #[.string (tx n)] w fun r w' => r = .returned (.int .i64 n) ∧ Kept w w' := by
  have hlt : n.natAbs < 1000000000000000000 := (Dec.nDigits_le_iff _ 18 (by omega)).1 hn
  obtain ⟨l, hl⟩ : ∃ l, l = decDigits n.natAbs := ⟨_, rfl⟩
  have S := size_any n
  rw [dg, ← hl] at S
  have hlen : l.length ≤ 18 := by rw [hl, Lib.decDigits_length]; exact hn
  have hd : l.all Dec.dig = true := by rw [hl]; exact Dec.dig_decDigits _
  have hv : Dec.val l = n.natAbs := by rw [hl, Dec.val_decDigits]
  have hz : (bs l).size = l.length := bs_size l
  have HV := Lib.hid hv
  have HD := Lib.hid hd
  have HZ := Lib.hid hz
  have hsz : (bs l).size ≤ 18 := by omega
  clear hl hd hv hz
  go_enter Tryz.func162, Tryz.ntmps162
  go_wp2_with fail
  refine (S w).mono ?_
  rintro r w ⟨rfl, rfl⟩
  go_wp2_with fail
  go_loopg [3, 5] (bs l).size (fun k a i wr => ∃ j : Nat, k + j = (bs l).size ∧ i = .int .i64 j ∧ a = .int .i64 (Dec.val (l.take j)) ∧ Kept w wr)
  case atStart => exact ⟨0, rfl, rfl, by rw [List.take_zero]; rfl, Kept.refl w⟩
  case round =>
    obtain ⟨j, hj, rfl, rfl, hk⟩ := hrel
    by_cases hlt2 : j < (bs l).size
    · have hjl : j < l.length := by rw [← HZ.out]; exact hlt2
      have hc := (Dec.dig_iff (l[j])).1 (List.all_eq_true.1 HD.out _ (List.getElem_mem hjl))
      rw [← bs_get l j hlt2] at hc
      obtain ⟨hc1, hc2⟩ := hc
      have hstep : Hid (Dec.val (l.take (j + 1)) = 10 * Dec.val (l.take j) + (((bs l)[j]'hlt2).toNat - 48)) := by
        show _ = _
        rw [List.take_add_one, List.getElem?_eq_getElem hjl, Option.toList_some, Dec.val_append, Dec.val_one, bs_get]
        simp [Nat.mul_comm]
      have hb : Dec.val (l.take j) < 1000000000000000000 := by
        have h1 := Dec.val_lt (l.take j) (by rw [List.all_eq_true]; intro x hx; exact List.all_eq_true.1 HD.out x (List.mem_of_mem_take hx))
        have h2 : 10 ^ (l.take j).length ≤ 10 ^ 17 := Nat.pow_le_pow_right (by omega) (by rw [List.length_take]; omega)
        omega
      have hb2 : Dec.val (l.take j) < 100000000000000000 := by
        have h1 := Dec.val_lt (l.take j) (by rw [List.all_eq_true]; intro x hx; exact List.all_eq_true.1 HD.out x (List.mem_of_mem_take hx))
        have h2 : 10 ^ (l.take j).length ≤ 10 ^ 17 := Nat.pow_le_pow_right (by omega) (by rw [List.length_take]; omega)
        omega
      generalize hA : Dec.val (l.take j) = A at *
      clear hA hb hjl
      go_wp2
      go_roundg (gk - 1)
      case measure => omega
      case rel =>
        refine ⟨j + 1, by omega, by go_num, ?_, hk⟩
        rw [hstep.out]
        have e2 : (10 * (A : Int) + (((bs l)[j]'hlt2).toNat - 48 : Int)) = ((10 * A + (((bs l)[j]'hlt2).toNat - 48) : Nat) : Int) := by omega
        exact congrArg (Value.int .i64) e2
    · have hj2 : j = l.length := by rw [← HZ.out]; omega
      have hval : Dec.val (l.take j) = n.natAbs := by rw [hj2, List.take_length, HV.out]
      rw [hval]
      clear hval
      have hjs : (bs l).size ≤ j := by omega
      have B := below_any n wr
      have hlt3 : Hid (n.natAbs < 1000000000000000000) := hlt
      clear hj2 S
      rcases Int.lt_or_le n 0 with h | h
      · rw [show decide (n < 0) = true by simp [h]] at B
        have e3 : Hid ((-(n.natAbs : Int)) = n) := by show _ = _; omega
        clear h
        go_wp2_with fail
        refine B.mono ?_
        rintro r w1 ⟨rfl, rfl⟩
        go_wp2
        go_returns
        exact ⟨congrArg (fun x => Ending.returned (.int .i64 x)) e3.out, hk⟩
      · rw [show decide (n < 0) = false by simp; omega] at B
        have e3 : Hid (((n.natAbs : Int)) = n) := by show _ = _; omega
        clear h
        go_wp2_with fail
        refine B.mono ?_
        rintro r w1 ⟨rfl, rfl⟩
        go_wp2
        go_returns
        exact ⟨congrArg (fun x => Ending.returned (.int .i64 x)) e3.out, hk⟩

/-- brief: both have at most 18 digits -/
theorem brief_yes (n m : Int) (hn : nDigits n.natAbs ≤ 18) (hm : nDigits m.natAbs ≤ 18) (w : World) :
    Calls Tryz.prog 136 #[.string (tx n), .string (tx m)] w fun r w' => r = .returned (.tuple #[.int .i64 n, .int .i64 m, .bool true]) ∧ Kept w w' := by
  have s1 := dg_size n.natAbs
  have s2 := dg_size m.natAbs
  have s1 : (dg n.natAbs).size ≤ 18 := by omega
  have s2 : (dg m.natAbs).size ≤ 18 := by omega
  go_enter Tryz.func136, Tryz.ntmps136
  go_wp2_with fail
  refine (size_any n w).mono ?_
  rintro r w ⟨rfl, rfl⟩
  go_wp2_with fail
  refine (size_any m w).mono ?_
  rintro r w ⟨rfl, rfl⟩
  go_wp2_with fail
  refine (number_any n hn w).mono ?_
  rintro r w1 ⟨rfl, k1⟩
  go_wp2_with fail
  refine (number_any m hm w1).mono ?_
  rintro r w2 ⟨rfl, k2⟩
  go_wp2
  go_returns
  exact ⟨rfl, k1.trans k2⟩
theorem brief_no (n m : Int) (h : ¬ (nDigits n.natAbs ≤ 18 ∧ nDigits m.natAbs ≤ 18)) (w : World) :
    Calls Tryz.prog 136 #[.string (tx n), .string (tx m)] w fun r w' => r = .returned (.tuple #[.int .i64 0, .int .i64 0, .bool false]) ∧ w' = w := by
  have s1 := dg_size n.natAbs
  have s2 := dg_size m.natAbs
  by_cases h1 : nDigits n.natAbs ≤ 18
  · have t1 : (dg n.natAbs).size ≤ 18 := by omega
    have t2 : 18 < (dg m.natAbs).size := by omega
    clear s1 s2
    go_enter Tryz.func136, Tryz.ntmps136
    go_wp2_with fail
    refine (size_any n w).mono ?_
    rintro r w ⟨rfl, rfl⟩
    go_wp2_with fail
    refine (size_any m w).mono ?_
    rintro r w ⟨rfl, rfl⟩
    go_wp2
    go_returns
    exact ⟨rfl, rfl⟩
  · have t1 : 18 < (dg n.natAbs).size := by omega
    clear s1 s2
    go_enter Tryz.func136, Tryz.ntmps136
    go_wp2_with fail
    refine (size_any n w).mono ?_
    rintro r w ⟨rfl, rfl⟩
    go_wp2
    go_returns
    exact ⟨rfl, rfl⟩

end Go.Proofs.YtgmegfcjbnfnaaaGreatDoor

/- Walks over the reference's integers: Of. -/
namespace Go.Proofs.YtgmegfcjbnfnaaaGreatDoor
open Go.RowKit Wide Numer
open Go.Lib (decDigits itoa nDigits)

/-- string([]byte{c}) -/
theorem one_str (w : World) (c : Nat) (hc : c < 256) :
    (convert 113 9 (.slice (some ⟨w.heap.size, 0, none⟩) 1 1)).run Tryz.prog (w.alloc (.cells #[.int .u8 (c : Int)] 5)) = .ok (.string (bs [UInt8.ofNat c])) (w.alloc (.cells #[.int .u8 (c : Int)] 5)) := by
  refine run_convert_bytes_back (P := Tryz.prog) _ _ _ 5 ⟨w.heap.size, 0, none⟩ 1 [UInt8.ofNat c] (by kernel_rfl) (by kernel_rfl) (by kernel_rfl) ?_
  intro j hj
  have : j = 0 := by simp at hj; exact hj
  subst this
  have e : (UInt8.ofNat c).toNat = c := by simp; omega
  show (w.alloc _).cell? ⟨w.heap.size, 0, none⟩ = some (.int .u8 ((UInt8.ofNat c).toNat : Int))
  rw [e]
  simp

set_option maxHeartbeats 1000000 in
set_option maxRecDepth 100000 in
theorem of1_nat (N : Nat) (hN : N ≤ 9223372036854775807) (w : World) :
    Calls Tryz.prog 69 #[.int .i64 N] w fun r w' => r = .returned (.string (dg N)) ∧ Kept w w' := by
  have h0 : (0 : Int) ≤ (N : Int) := by omega
  go_enter Tryz.func69, Tryz.ntmps69
  by_cases hz : N = 0
  all_goals
    go_wp2_with fail
    go_loopg [0, 3] N (fun k a s wr => ∃ (j : Nat) (m : List UInt8), j = k ∧ a = .int .i64 j ∧ s = .string (bs m) ∧ j ≤ N ∧ decDigits N = decDigits j ++ m ∧ Kept w wr)
    case atStart => exact ⟨N, [], rfl, by first | rfl | (rw [hz]; rfl), rfl, Nat.le_refl _, by simp, Kept.refl w⟩
    case round =>
      obtain ⟨j, m, rfl, rfl, rfl, hj, hd, hk⟩ := hrel
      have hml : (bs m).size ≤ 100 := by
        have h1 := congrArg List.length hd
        rw [Lib.decDigits_length, List.length_append] at h1
        have h2 := (Dec.nDigits_le_iff N 19 (by omega)).2 (by omega)
        rw [bs_size]; omega
      have Hd := Lib.hid hd
      clear hd hz
      by_cases h9 : 9 < j
      · have i9 : (9 : Int) < (j : Int) := by omega
        have O := one_str wr (48 + j % 10) (by omega)
        rw [show ((48 + j % 10 : Nat) : Int) = 48 + (j : Int) % 10 by omega] at O
        obtain ⟨c, hcc⟩ : ∃ c, c = UInt8.ofNat (48 + j % 10) := ⟨_, rfl⟩
        rw [← hcc] at O
        have Hc := Lib.hid hcc
        clear hcc
        have hs1 : (bs [c]).size = 1 := rfl
        have he : Hid (bs [c] ++ bs m = bs ([c] ++ m)) := by
          show _ = _
          rw [bs_of (bs [c] ++ bs m)]
          congr 1
        go_wp2
        go_roundg (j / 10)
        case measure => omega
        case rel =>
          refine ⟨j / 10, [c] ++ m, rfl, by go_num, ?_, by omega, ?_, hk.alloc _⟩
          · rw [← he.out]
          · rw [Hd.out, Dec.decDigits_big (u := j) (by omega), List.append_assoc, Hc.out]
      · have i9 : (j : Int) ≤ 9 := by omega
        have O := one_str wr (48 + j) (by omega)
        rw [show ((48 + j : Nat) : Int) = 48 + (j : Int) by omega] at O
        obtain ⟨c, hcc⟩ : ∃ c, c = UInt8.ofNat (48 + j) := ⟨_, rfl⟩
        rw [← hcc] at O
        have Hc := Lib.hid hcc
        clear hcc
        have hs1 : (bs [c]).size = 1 := rfl
        have he : Hid (bs [c] ++ bs m = dg N) := by
          show _ = _
          rw [dg, Hd.out, Dec.decDigits_small (u := j) (by omega), bs_of (bs [c] ++ bs m), ← Hc.out]
          congr 1
        go_wp2
        go_returns
        exact ⟨by rw [← he.out]; rfl, hk.alloc _⟩

end Go.Proofs.YtgmegfcjbnfnaaaGreatDoor

/- Walks over the reference's integers: Of of any int but the least. -/
namespace Go.Proofs.YtgmegfcjbnfnaaaGreatDoor
open Go.RowKit Wide Numer
open Go.Lib (decDigits itoa nDigits)

theorem of1_any (n : Int) (h0 : -9223372036854775808 < n) (h1 : n ≤ 9223372036854775807) (w : World) :
    Calls Tryz.prog 69 #[.int .i64 n] w fun r w' => r = .returned (.string (tx n)) ∧ Kept w w' := by
  rcases Int.lt_or_le n 0 with h | h
  · have O := of1_nat n.natAbs (by omega) w
    have hg : dg n.natAbs = tx (-n) := by rw [tx_dg (by omega), Int.natAbs_neg]
    rw [hg] at O
    clear hg
    have hn : ((n.natAbs : Nat) : Int) = -n := by omega
    rw [hn] at O
    have hd : nDigits (-n).natAbs ≤ 1000000 := by
      have := (Dec.nDigits_le_iff (-n).natAbs 19 (by omega)).2 (by omega)
      omega
    have T := fun w => turned_any (-n) hd w
    rw [Int.neg_neg] at T
    clear hn
    go_enter Tryz.func69, Tryz.ntmps69
    go_wp2_with fail
    refine O.mono ?_
    rintro r w1 ⟨rfl, k1⟩
    go_wp2_with fail
    refine (T w1).mono ?_
    rintro r w1 ⟨rfl, rfl⟩
    go_wp2
    go_returns
    exact ⟨rfl, k1⟩
  · obtain ⟨N, rfl⟩ : ∃ N : Nat, n = N := ⟨n.toNat, by omega⟩
    rw [tx_dg h]
    exact of1_nat N (by omega) w

end Go.Proofs.YtgmegfcjbnfnaaaGreatDoor

/- Walks over the references 01 and 02 at short integers: Shared, Parted, Lowest, Over, Whole. -/
namespace Go.Proofs.YtgmegfcjbnfnaaaGreatDoor
open Go.RowKit Wide Numer
open Go.Lib (decDigits itoa nDigits)

/-- at most 18 digits -/
def Sh (n : Int) : Prop := n.natAbs < 1000000000000000000
theorem Sh.d {n : Int} (h : Sh n) : nDigits n.natAbs ≤ 18 := (Dec.nDigits_le_iff _ 18 (by omega)).2 h
theorem Sh.abs {n : Int} (h : Sh n) : nDigits ((n.natAbs : Nat) : Int).natAbs ≤ 18 := by rw [Int.natAbs_natCast]; exact h.d

set_option maxHeartbeats 2000000 in
set_option maxRecDepth 100000 in
theorem shared_small (n m : Int) (hn : Sh n) (hm : Sh m) (w : World) :
    Calls Tryz.prog 101 #[.string (tx n), .string (tx m)] w fun r w' => r = .returned (.string (tx (Int.gcd n m : Int))) ∧ Kept w w' := by
  have dn := hn.d
  have dm := hm.d
  have S1 := fun w => size_any n w
  have S2 := fun w => size_any m w
  have G1 := fun w => signed_any n.natAbs (by omega) false w
  have G2 := fun w => signed_any m.natAbs (by omega) false w
  rw [show sv false n.natAbs = ((n.natAbs : Nat) : Int) from rfl] at G1
  rw [show sv false m.natAbs = ((m.natAbs : Nat) : Int) from rfl] at G2
  have hg : (Int.gcd n m : Int) = ((Nat.gcd n.natAbs m.natAbs : Nat) : Int) := rfl
  rw [hg]
  have B := fun w => brief_yes ((n.natAbs : Nat) : Int) ((m.natAbs : Nat) : Int) hn.abs hm.abs w
  have hz := tx_is0 ((m.natAbs : Nat) : Int)
  have hu : n.natAbs < 1000000000000000000 := hn
  have hv : m.natAbs < 1000000000000000000 := hm
  generalize n.natAbs = u at *
  generalize m.natAbs = v at *
  clear hn hm hg
  generalize tx n = t1 at *
  generalize tx m = t2 at *
  by_cases h0 : v = 0
  · rw [show decide (((v : Nat) : Int) = 0) = true by simp [h0]] at hz
    have hgu : Nat.gcd u v = u := by rw [h0, Nat.gcd_zero_right]
    rw [hgu]
    clear hgu h0
    generalize tx ((u : Nat) : Int) = t3 at *
    generalize tx ((v : Nat) : Int) = t4 at *
    go_enter Tryz.func101, Tryz.ntmps101
    go_wp2_with fail
    refine (S1 _).mono ?_
    rintro r w1 ⟨rfl, rfl⟩
    go_wp2_with fail
    refine (G1 _).mono ?_
    rintro r w1 ⟨rfl, rfl⟩
    go_wp2_with fail
    refine (S2 _).mono ?_
    rintro r w1 ⟨rfl, rfl⟩
    go_wp2_with fail
    refine (G2 _).mono ?_
    rintro r w1 ⟨rfl, rfl⟩
    go_wp2_with fail
    go_loopg [0, 1] 0 (fun k a b wr => a = .string t3 ∧ b = .string t4 ∧ wr = w1)
    case atStart => exact ⟨rfl, rfl, rfl⟩
    case round =>
      obtain ⟨rfl, rfl, rfl⟩ := hrel
      go_wp2
      go_returns
      exact ⟨rfl, Kept.refl _⟩
  · rw [show decide (((v : Nat) : Int) = 0) = false by simp [h0]] at hz
    obtain ⟨d, hd⟩ : ∃ d, d = Nat.gcd u v := ⟨_, rfl⟩
    rw [← hd]
    have Hd := Lib.hid hd
    clear hd h0
    have hdu : d ≤ 1000000000000000000 := by
      rw [Hd.out]
      rcases Nat.eq_zero_or_pos u with h | h
      · rw [h, Nat.gcd_zero_left]; omega
      · exact Nat.le_trans (Nat.gcd_le_left v h) (by omega)
    have O := fun w => of1_any (d : Int) (by omega) (by omega) w
    generalize tx ((u : Nat) : Int) = t3 at *
    generalize tx ((v : Nat) : Int) = t4 at *
    obtain ⟨t5, ht5⟩ : ∃ t5, tx (d : Int) = t5 := ⟨_, rfl⟩
    rw [ht5] at O ⊢
    clear ht5
    go_enter Tryz.func101, Tryz.ntmps101
    go_wp2_with fail
    refine (S1 _).mono ?_
    rintro r w1 ⟨rfl, rfl⟩
    go_wp2_with fail
    refine (G1 _).mono ?_
    rintro r w1 ⟨rfl, rfl⟩
    go_wp2_with fail
    refine (S2 _).mono ?_
    rintro r w1 ⟨rfl, rfl⟩
    go_wp2_with fail
    refine (G2 _).mono ?_
    rintro r w1 ⟨rfl, rfl⟩
    go_wp2_with fail
    go_loopg [0, 1] 0 (fun k a b wr => a = .string t3 ∧ b = .string t4 ∧ wr = w1)
    case atStart => exact ⟨rfl, rfl, rfl⟩
    case round =>
      obtain ⟨rfl, rfl, rfl⟩ := hrel
      go_wp2_with fail
      refine (B _).mono ?_
      rintro r w2 ⟨rfl, k2⟩
      go_wp2_with fail
      go_loopg [5, 6] v (fun k a b w9 => ∃ x y : Nat, y = k ∧ a = .int .i64 x ∧ b = .int .i64 y ∧ Nat.gcd x y = d ∧ x < 1000000000000000000 ∧ y < 1000000000000000000 ∧ Kept wr w9)
      case atStart => exact ⟨u, v, rfl, rfl, rfl, Hd.out.symm, hu, hv, k2⟩
      case round =>
        obtain ⟨x, y, rfl, rfl, rfl, hxy, hx, hy, k3⟩ := hrel
        by_cases h0 : 0 < y
        · have i1 : (0 : Int) < (y : Int) := by omega
          have i2 : ¬ (y : Int) = 0 := by omega
          have hm : (x : Int).tmod (y : Int) = ((x % y : Nat) : Int) := by rw [Int.tmod_eq_emod_of_nonneg (by omega)]; rfl
          have hgg : Hid (Nat.gcd y (x % y) = d) := Lib.hid (by rw [← hxy, Nat.gcd_comm x y, Nat.gcd_rec y x, Nat.gcd_comm])
          have hlt : x % y < y := Nat.mod_lt _ h0
          have Hlt := Lib.hid hlt
          have hyy := Lib.hid hy
          clear hxy hlt
          go_wp2_with fail
          go_quiet (fail)
          go_wp2
          go_roundg (x % y)
          case measure => exact Hlt.out
          case rel => exact ⟨y, x % y, rfl, rfl, by go_num, hgg.out, by omega, by have := Hlt.out; omega, k3.drewN _⟩
        · have hy0 : y = 0 := by omega
          have hxd : x = d := by rw [hy0, Nat.gcd_zero_right] at hxy; exact hxy
          subst hy0
          subst hxd
          clear hxy
          go_wp2_with fail
          refine (O _).mono ?_
          rintro r w4 ⟨rfl, k4⟩
          go_wp2
          go_returns
          exact ⟨rfl, k3.trans k4⟩

end Go.Proofs.YtgmegfcjbnfnaaaGreatDoor

/- Walks over the references 01 and 02: Parted where nothing is left, Lowest, Over, Whole. -/
namespace Go.Proofs.YtgmegfcjbnfnaaaGreatDoor
open Go.RowKit Wide Numer
open Go.Lib (decDigits itoa nDigits)

set_option maxHeartbeats 1000000 in
set_option maxRecDepth 100000 in
theorem parted_small (n m k : Int) (h : n = m * k) (hm0 : m ≠ 0) (hn : Sh n) (hm : Sh m) (w : World) :
    Calls Tryz.prog 103 #[.string (tx n), .string (tx m)] w fun r w' => r = .returned (.tuple #[.string (tx k), .string (tx 0)]) ∧ Kept w w' := by
  have B := fun w => brief_yes n m hn.d hm.d w
  have t0 : n.tmod m = 0 := by rw [h]; exact Int.mul_tmod_right ..
  have t1 : n.tdiv m = k := by rw [h]; exact Int.mul_tdiv_cancel_left _ hm0
  have hk : k.natAbs ≤ n.natAbs := by
    rw [h, Int.natAbs_mul]
    exact Nat.le_mul_of_pos_left _ (by omega)
  have hn' : n.natAbs < 1000000000000000000 := hn
  have O1 := fun w => of1_any k (by omega) (by omega) w
  have O2 := fun w => of1_any 0 (by omega) (by omega) w
  have hkb : -1000000000000000000 ≤ k ∧ k ≤ 1000000000000000000 := by omega
  have hnb : -1000000000000000000 ≤ n ∧ n ≤ 1000000000000000000 := by omega
  obtain ⟨hk1, hk2⟩ := hkb
  obtain ⟨hn1, hn2⟩ := hnb
  generalize tx n = s1 at *
  generalize tx m = s2 at *
  generalize tx k = s3 at *
  generalize tx 0 = s4 at *
  clear h hk hn' hn hm
  go_enter Tryz.func103, Tryz.ntmps103
  go_wp2_with fail
  refine (B _).mono ?_
  rintro r w1 ⟨rfl, k1⟩
  go_wp2_with fail
  refine (O1 _).mono ?_
  rintro r w2 ⟨rfl, k2⟩
  go_wp2_with fail
  refine (O2 _).mono ?_
  rintro r w3 ⟨rfl, k3⟩
  go_wp2
  go_returns
  exact ⟨rfl, (k1.trans k2).trans k3⟩

theorem rt_if (r : Rat) : rt r = bs (if (r.den : Int) = 1 then itoa r.num else itoa r.num ++ 47 :: itoa (r.den : Int)) := by
  unfold rt rtl
  congr 1
  by_cases hd : r.den = 1
  · rw [if_pos hd, if_pos (by omega)]
  · rw [if_neg hd, if_neg (by omega)]
theorem tx_is1 (n : Int) : ((tx n).toList == [49]) = decide (n = 1) := by
  rw [tx, bs_toList, ← itoa_one, Bool.eq_iff_iff, beq_iff_eq, decide_eq_true_iff]
  exact ⟨Dec.itoa_inj, fun h => by rw [h]⟩
theorem tx_cat (n m : Int) : tx n ++ ⟨#[47]⟩ ++ tx m = bs (itoa n ++ 47 :: itoa m) := by
  rw [bs_of (tx n ++ ⟨#[47]⟩ ++ tx m)]
  congr 1
  simp [tx, bs]
theorem tx_size_le (n : Int) (k : Nat) (h : nDigits n.natAbs ≤ k) : (tx n).size ≤ k + 1 := by
  rw [tx_size]
  exact Nat.le_trans (itoa_length_le _) (by omega)

set_option maxHeartbeats 1000000 in
set_option maxRecDepth 100000 in
/-- Lowest, from what Shared and Parted answer. -/
theorem lowest2_of (n m : Int) (hm0 : m ≠ 0) (hn : nDigits n.natAbs ≤ 100000) (hm : nDigits m.natAbs ≤ 100000)
    (S : ∀ w, Calls Tryz.prog 101 #[.string (tx n), .string (tx m)] w fun r w' => r = .returned (.string (tx (Int.gcd n m : Int))) ∧ Kept w w')
    (P1 : ∀ w, Calls Tryz.prog 103 #[.string (tx n), .string (tx (lowG n m))] w fun r w' => r = .returned (.tuple #[.string (tx (Rat.divInt n m).num), .string (tx 0)]) ∧ Kept w w')
    (P2 : ∀ w, Calls Tryz.prog 103 #[.string (tx m), .string (tx (lowG n m))] w fun r w' => r = .returned (.tuple #[.string (tx ((Rat.divInt n m).den : Int)), .string (tx 0)]) ∧ Kept w w')
    (w : World) :
    Calls Tryz.prog 70 #[.string (tx n), .string (tx m)] w fun r w' => r = .returned (.string (rt (Rat.divInt n m))) ∧ Kept w w' := by
  have Bl := fun w => below_any m w
  have hgd : nDigits ((Int.gcd n m : Int)).natAbs ≤ 1000000 := by
    have : Int.gcd n m ≤ m.natAbs := Nat.gcd_le_right _ (by omega)
    exact Nat.le_trans (nDigits_mono (by rw [Int.natAbs_natCast]; exact this)) (by omega)
  have T := fun w => turned_any (Int.gcd n m : Int) hgd w
  rw [rt_if]
  have d1 : nDigits (Rat.divInt n m).num.natAbs ≤ 100000 := by
    have e := low_num (a := n) hm0
    have g := lowG_ne (a := n) hm0
    have : (Rat.divInt n m).num.natAbs ≤ n.natAbs := by
      conv => rhs; rw [e]
      rw [Int.natAbs_mul]; exact Nat.le_mul_of_pos_left _ (by omega)
    have := nDigits_mono this
    omega
  have d2 : nDigits ((Rat.divInt n m).den : Int).natAbs ≤ 100000 := by
    have e := low_den (a := n) hm0
    have g := lowG_ne (a := n) hm0
    have : ((Rat.divInt n m).den : Int).natAbs ≤ m.natAbs := by
      conv => rhs; rw [e]
      rw [Int.natAbs_mul]; exact Nat.le_mul_of_pos_left _ (by omega)
    have := nDigits_mono this
    omega
  have hl : lowG n m = if m < 0 then -(Int.gcd n m : Int) else (Int.gcd n m : Int) := by unfold lowG; rw [Int.zero_sub]
  have z1 := tx_size_le _ _ d1
  have z2 := tx_size_le _ _ d2
  clear d1 d2 hgd
  generalize (Rat.divInt n m).num = k1 at *
  generalize ((Rat.divInt n m).den : Int) = k2 at *
  generalize (Int.gcd n m : Int) = g at *
  have i1 := tx_is1 k2
  have hz : (tx k1 ++ (⟨#[47]⟩ : ByteArray)).size = (tx k1).size + 1 := by rw [ByteArray.size_append]; rfl
  have hc := Lib.hid (tx_cat k1 k2)
  have hi : Hid (∀ c : Bool, decide (k2 = 1) = c → bs (if k2 = 1 then itoa k1 else itoa k1 ++ 47 :: itoa k2) = if c then tx k1 else bs (itoa k1 ++ 47 :: itoa k2)) := by
    intro c e; subst e
    by_cases h : k2 = 1
    · simp [h]; rfl
    · simp [h]
  have ho : Hid (∀ c : Bool, decide (k2 = 1) = c → ∀ r w1, (r = Ending.returned (.string (if c then tx k1 else bs (itoa k1 ++ 47 :: itoa k2))) ∧ Kept w w1) → (r = Ending.returned (.string (bs (if k2 = 1 then itoa k1 else itoa k1 ++ 47 :: itoa k2))) ∧ Kept w w1)) := by
    intro c e r w1 h; rw [hi.out c e]; exact h
  clear hi
  obtain ⟨c, hcd⟩ : ∃ c, decide (k2 = 1) = c := ⟨_, rfl⟩
  rw [hcd] at i1
  refine Calls.mono ?_ (ho.out c hcd)
  clear ho hcd
  generalize bs (itoa k1 ++ 47 :: itoa k2) = out at *
  generalize tx k1 = t1 at *
  generalize tx k2 = t2 at *
  generalize tx n = sn at *
  generalize tx m = sm at *
  by_cases hneg : m < 0
  · rw [if_pos hneg] at hl
    rw [hl] at P1 P2
    clear hl
    rw [show decide (m < 0) = true by simp [hneg]] at Bl
    clear hneg hm0 hn hm
    generalize tx (-g) = tg at *
    generalize tx g = tg0 at *
    cases c
    all_goals
      go_enter Tryz.func70, Tryz.ntmps70
      go_wp2_with fail
      refine (S _).mono ?_
      rintro r w1 ⟨rfl, k1⟩
      go_wp2_with fail
      refine (Bl _).mono ?_
      rintro r w1 ⟨rfl, rfl⟩
      go_wp2_with fail
      refine (T _).mono ?_
      rintro r w1 ⟨rfl, rfl⟩
      go_wp2_with fail
      refine (P1 _).mono ?_
      rintro r w2 ⟨rfl, k2⟩
      go_wp2_with fail
      refine (P2 _).mono ?_
      rintro r w3 ⟨rfl, k3⟩
      go_wp2
      go_returns
      refine ⟨?_, (k1.trans k2).trans k3⟩
      first | rfl | (rw [← hc.out]; rfl)
  · rw [if_neg hneg] at hl
    rw [hl] at P1 P2
    clear hl
    rw [show decide (m < 0) = false by simp [hneg]] at Bl
    clear hneg hm0 hn hm T
    generalize tx g = tg at *
    cases c
    all_goals
      go_enter Tryz.func70, Tryz.ntmps70
      go_wp2_with fail
      refine (S _).mono ?_
      rintro r w1 ⟨rfl, k1⟩
      go_wp2_with fail
      refine (Bl _).mono ?_
      rintro r w1 ⟨rfl, rfl⟩
      go_wp2_with fail
      refine (P1 _).mono ?_
      rintro r w2 ⟨rfl, k2⟩
      go_wp2_with fail
      refine (P2 _).mono ?_
      rintro r w3 ⟨rfl, k3⟩
      go_wp2
      go_returns
      refine ⟨?_, (k1.trans k2).trans k3⟩
      first | rfl | (rw [← hc.out]; rfl)

theorem lowest_small (n m : Int) (hm0 : m ≠ 0) (hn : Sh n) (hm : Sh m) (w : World) :
    Calls Tryz.prog 70 #[.string (tx n), .string (tx m)] w fun r w' => r = .returned (.string (rt (Rat.divInt n m))) ∧ Kept w w' := by
  have hg : Sh (lowG n m) := by
    have : Int.gcd n m ≤ m.natAbs := Nat.gcd_le_right _ (by omega)
    unfold Sh at *
    unfold lowG
    split <;> omega
  exact lowest2_of n m hm0 (by have := hn.d; omega) (by have := hm.d; omega) (shared_small n m hn hm)
    (parted_small n _ _ (low_num hm0) (lowG_ne hm0) hn hg) (parted_small m _ _ (low_den hm0) (lowG_ne hm0) hm hg) w

set_option maxHeartbeats 1000000 in
set_option maxRecDepth 100000 in
theorem over_any (n m : Int) (hm0 : m ≠ 0) (hn : Sh n) (hm : Sh m) (w : World) :
    Calls Tryz.prog 39 #[.int .i64 n, .int .i64 m] w fun r w' => r = .returned (.string (rt (Rat.divInt n m))) ∧ Kept w w' := by
  have hn' : n.natAbs < 1000000000000000000 := hn
  have hm' : m.natAbs < 1000000000000000000 := hm
  have O1 := fun w => of1_any n (by omega) (by omega) w
  have O2 := fun w => of1_any m (by omega) (by omega) w
  have L := fun w => lowest_small n m hm0 hn hm w
  generalize rt (Rat.divInt n m) = out at *
  generalize tx n = sn at *
  generalize tx m = sm at *
  clear hm0 hn hm hn' hm'
  go_enter Tryz.func39, Tryz.ntmps39
  go_wp2_with fail
  refine (O1 _).mono ?_
  rintro r w1 ⟨rfl, k1⟩
  go_wp2_with fail
  refine (O2 _).mono ?_
  rintro r w2 ⟨rfl, k2⟩
  go_wp2_with fail
  refine (L _).mono ?_
  rintro r w3 ⟨rfl, k3⟩
  go_wp2
  go_returns
  exact ⟨rfl, (k1.trans k2).trans k3⟩

set_option maxHeartbeats 1000000 in
set_option maxRecDepth 100000 in
theorem whole2_any (n : Int) (h0 : -9223372036854775808 < n) (h1 : n ≤ 9223372036854775807) (w : World) :
    Calls Tryz.prog 38 #[.int .i64 n] w fun r w' => r = .returned (.string (rt (n : Rat))) ∧ Kept w w' := by
  rw [rt_int]
  have O1 := fun w => of1_any n h0 h1 w
  generalize tx n = sn at *
  clear h0 h1
  go_enter Tryz.func38, Tryz.ntmps38
  go_wp2_with fail
  refine (O1 _).mono ?_
  rintro r w1 ⟨rfl, k1⟩
  go_wp2
  go_returns
  exact ⟨rfl, k1⟩
end Go.Proofs.YtgmegfcjbnfnaaaGreatDoor

/- The plain mathematics of groups: how far values lie apart, and the variance. -/
namespace Go.Proofs.YtgmegfcjbnfnaaaGreatDoor
open Go.RowKit Wide Numer
open Go.Lib (itoa)

theorem apart_nonneg {m : List Int} (h : 0 < m.length) : 0 ≤ apart m := by
  have := minOf_le (maxOf_mem h)
  unfold apart; omega
theorem apart_grp {l : List Int} {g i : Nat} (hi : i < l.length / g) (hg : 0 < g) : apart (grp l g i) ≤ apart l := by
  have e := grp_length (l := l) (g := g) hi
  have h1 := le_maxOf (grp_mem (maxOf_mem (l := grp l g i) (by omega)))
  have h2 := minOf_le (grp_mem (minOf_mem (l := grp l g i) (by omega)))
  unfold apart; omega
theorem spr_length (l : List Int) (g : Nat) : (spr l g).length = l.length / g := by simp [spr]
theorem spr_mem {l : List Int} {g : Nat} {x : Int} (hg : 0 < g) (hx : x ∈ spr l g) : 0 ≤ x ∧ x ≤ apart l := by
  unfold spr at hx
  obtain ⟨i, _, rfl⟩ := List.mem_map.1 hx
  have hi : i.1 < l.length / g := i.2
  exact ⟨apart_nonneg (by rw [grp_length hi]; exact hg), apart_grp hi hg⟩
theorem spr_all {l : List Int} (h : 0 < l.length) : spr l l.length = [apart l] := by
  have e : (spr l l.length).length = 1 := by rw [spr_length]; exact Nat.div_self h
  apply List.ext_getElem
  · rw [e]; rfl
  · intro i h1 h2
    have : i = 0 := by omega
    subst this
    simp [spr, grp]
theorem ctr_one (x : Int) : ctr [x] = (x : Rat) := by
  show Rat.divInt [x].sum 1 = _
  rw [List.sum_cons, List.sum_nil, Int.add_zero]; rw [Rat.divInt_eq_div, Rat.intCast_one]; grind

theorem sq_nonneg (x : Rat) : 0 ≤ x * x := by
  rcases Rat.le_total (a := 0) (b := x) with h | h
  · exact Rat.mul_nonneg h h
  · have : x * x = (-x) * (-x) := by grind
    rw [this]
    have h2 : 0 ≤ -x := by grind
    exact Rat.mul_nonneg h2 h2
theorem dev_nonneg (m : Rat) (l : List Int) : 0 ≤ dev m l := by
  induction l with
  | nil => exact Rat.le_refl
  | cons x l ih => exact Rat.add_nonneg (sq_nonneg _) ih
theorem dev_zero {m : Rat} {l : List Int} (h : dev m l = 0) : ∀ x ∈ l, (x : Rat) = m := by
  induction l with
  | nil => intro x hx; cases hx
  | cons y l ih =>
    have h1 := sq_nonneg ((y : Rat) - m)
    have h2 := dev_nonneg m l
    rw [dev] at h
    have h3 : ((y : Rat) - m) * ((y : Rat) - m) = 0 := by grind
    have h4 : dev m l = 0 := by grind
    intro x hx
    rcases List.mem_cons.1 hx with rfl | hx
    · rcases Rat.mul_eq_zero.1 h3 with h | h <;> grind
    · exact ih h4 x hx
theorem sum_same {l : List Int} {c : Int} (h : ∀ x ∈ l, x = c) : l.sum = (l.length : Int) * c ∧ sqs l = (l.length : Int) * (c * c) := by
  induction l with
  | nil => simp [sqs]
  | cons y l ih =>
    obtain ⟨h1, h2⟩ := ih fun x hx => h x (List.mem_cons_of_mem _ hx)
    have h3 := h y (List.mem_cons_self ..)
    subst h3
    rw [List.sum_cons, sqs_cons, List.length_cons, h1, h2, Int.natCast_add, Int.add_mul, Int.add_mul]
    constructor <;> simp <;> omega
theorem vr_zero {l : List Int} (h : 2 ≤ l.length) : vr l = 0 ↔ apart l = 0 := by
  constructor
  · intro h0
    rw [← vr_dev h] at h0
    have hn := cast_ne (n := (l.length : Int) - 1) (by omega)
    have h1 : dev (ctr l) l = 0 := by
      have e : dev (ctr l) l = dev (ctr l) l / (((l.length : Int) - 1 : Int) : Rat) * (((l.length : Int) - 1 : Int) : Rat) := by grind
      rw [e, h0]; grind
    have h2 := dev_zero h1
    have a1 := h2 _ (maxOf_mem (l := l) (by omega))
    have a2 := h2 _ (minOf_mem (l := l) (by omega))
    have : Lib.maxOf l = Lib.minOf l := Rat.intCast_inj.1 (a1.trans a2.symm)
    unfold apart; omega
  · intro h0
    have hs : ∀ x ∈ l, x = Lib.minOf l := fun x hx => by
      have b1 := le_maxOf hx
      have b2 := minOf_le hx
      unfold apart at h0; omega
    obtain ⟨h1, h2⟩ := sum_same hs
    have e : vnum l = 0 := by
      unfold vnum
      rw [h1, h2]
      grind
    unfold vr
    rw [e]
    exact Rat.zero_divInt _
theorem rt_is0 (r : Rat) : ((rt r).toList == [48]) = decide (r = 0) := by
  rw [show rt r = bs (rtl r) from rfl, bs_toList, Bool.eq_iff_iff, beq_iff_eq, decide_eq_true_iff]
  have h0 : rtl 0 = [48] := by
    show (if (1 : Nat) = 1 then itoa 0 else _) = _
    rw [if_pos rfl]
    exact bs_inj (show tx 0 = bs [48] from tx_zero)
  constructor
  · intro h
    exact rt_inj (show bs (rtl r) = bs (rtl 0) by rw [h, h0])
  · intro h; rw [h, h0]
end Go.Proofs.YtgmegfcjbnfnaaaGreatDoor
