/- Integers of whole in memory: sums, products, quotients of words. -/
import Derived.Lib.ItoaNum
import Derived.Lib.Bytealg
import Derived.Lib.Strings
import Derived.Test.YtgmegfcjbnfnaaaGreatDoorProg
import Derived.WalkKit
import Derived.WalkSpells
import Derived.Deep.Draws
import Derived.Laws.Tables
import Derived.Handy
import Derived.Lib.Hide
import Derived.Deep.LoopGhost
import Derived.Deep.QuietTactic
import Derived.BigQuiet
import Derived.StillTailTactics
import Derived.Deep.RegionWith
import Derived.Laws.CopyOwn
import Derived.Lib.Atoi

namespace Go.Proofs.YtgmegfcjbnfnaaaGreatDoor.Dec
open Go.Lib (decDigits itoa nDigits decDigits_length)

/-- is a byte a decimal digit -/
def dig (c : UInt8) : Bool := 48 ≤ c && c ≤ 57
/-- the number that decimal digits mean -/
def val (l : List UInt8) : Nat := l.foldl (fun a c => 10 * a + (c.toNat - 48)) 0

theorem foldl_val (l : List UInt8) : ∀ a, l.foldl (fun a c => 10 * a + (c.toNat - 48)) a = a * 10 ^ l.length + val l := by
  unfold val
  induction l with
  | nil => intro a; simp
  | cons c l ih =>
    intro a
    simp only [List.foldl_cons, List.length_cons]
    rw [ih, ih (10 * 0 + _), Nat.pow_succ]
    simp only [Nat.mul_zero, Nat.zero_add, Nat.add_mul]
    have : 10 * a * 10 ^ l.length = a * (10 ^ l.length * 10) := by
      rw [Nat.mul_comm 10 a, Nat.mul_assoc, Nat.mul_comm 10]
    omega

theorem val_append (l m : List UInt8) : val (l ++ m) = val l * 10 ^ m.length + val m := by
  conv => lhs; unfold val
  rw [List.foldl_append, foldl_val]; rfl

theorem val_nil : val [] = 0 := rfl
theorem val_one (c : UInt8) : val [c] = c.toNat - 48 := by simp [val]
theorem val_cons (c : UInt8) (l : List UInt8) : val (c :: l) = (c.toNat - 48) * 10 ^ l.length + val l := by
  have := val_append [c] l
  rwa [val_one] at this

theorem toNat_digit {d : Nat} (h : d < 10) : (UInt8.ofNat (48 + d)).toNat = 48 + d := by
  rw [UInt8.toNat_ofNat']; omega

theorem dig_iff (c : UInt8) : dig c = true ↔ 48 ≤ c.toNat ∧ c.toNat ≤ 57 := by
  simp [dig, UInt8.le_iff_toNat_le]

theorem dig_digit {d : Nat} (h : d < 10) : dig (UInt8.ofNat (48 + d)) = true := by
  rw [dig_iff, toNat_digit h]; omega

theorem decDigits_small {u : Nat} (h : u < 10) : decDigits u = [UInt8.ofNat (48 + u)] := by rw [decDigits, dif_pos h]
theorem decDigits_big {u : Nat} (h : ¬ u < 10) : decDigits u = decDigits (u / 10) ++ [UInt8.ofNat (48 + u % 10)] := by rw [decDigits, dif_neg h]

theorem val_decDigits (u : Nat) : val (decDigits u) = u := by
  induction u using Nat.strongRecOn with
  | _ u ih =>
    by_cases h : u < 10
    · rw [decDigits_small h, val_one, toNat_digit h]; omega
    · rw [decDigits_big h, val_append, ih (u / 10) (by omega), val_one, toNat_digit (by omega)]
      simp; omega

theorem dig_decDigits (u : Nat) : (decDigits u).all dig = true := by
  induction u using Nat.strongRecOn with
  | _ u ih =>
    by_cases h : u < 10
    · rw [decDigits_small h]; rw [List.all_cons, List.all_nil, Bool.and_true]; exact dig_digit h
    · rw [decDigits_big h, List.all_append, ih (u / 10) (by omega)]
      rw [Bool.true_and, List.all_cons, List.all_nil, Bool.and_true]; exact dig_digit (by omega)

theorem decDigits_ne_nil (u : Nat) : decDigits u ≠ [] := by
  have := Go.Lib.nDigits_pos u
  rw [← decDigits_length] at this
  intro h; rw [h] at this; simp at this

theorem decDigits_inj {u v : Nat} (h : decDigits u = decDigits v) : u = v := by
  rw [← val_decDigits u, h, val_decDigits]

theorem decDigits_zero : decDigits 0 = [48] := by rw [decDigits_small (by omega)]; rfl

/-- no numeral but 0's begins with 0 -/
theorem decDigits_head (u : Nat) (h : u ≠ 0) : ∃ c l, decDigits u = c :: l ∧ dig c = true ∧ c ≠ 48 := by
  induction u using Nat.strongRecOn with
  | _ u ih =>
    by_cases h10 : u < 10
    · refine ⟨_, _, decDigits_small h10, dig_digit h10, ?_⟩
      intro e
      have := congrArg UInt8.toNat e
      rw [toNat_digit h10] at this
      simp at this; omega
    · obtain ⟨c, l, e, h1, h2⟩ := ih (u / 10) (by omega) (by omega)
      exact ⟨c, l ++ [_], by rw [decDigits_big h10, e]; rfl, h1, h2⟩

theorem val_lt (l : List UInt8) (h : l.all dig = true) : val l < 10 ^ l.length := by
  induction l with
  | nil => simp [val]
  | cons c l ih =>
    simp only [List.all_cons, Bool.and_eq_true] at h
    have h1 := ih h.2
    have h2 := (dig_iff c).1 h.1
    rw [val_cons, List.length_cons, Nat.pow_succ]
    have : (c.toNat - 48) * 10 ^ l.length ≤ 9 * 10 ^ l.length := Nat.mul_le_mul_right _ (by omega)
    omega

theorem le_val (c : UInt8) (l : List UInt8) (hc : dig c = true) (h48 : c ≠ 48) : 10 ^ l.length ≤ val (c :: l) := by
  rw [val_cons]
  have h2 := (dig_iff c).1 hc
  have h3 : c.toNat ≠ 48 := by intro e; apply h48; exact UInt8.toNat_inj.1 (by simpa using e)
  have : 1 * 10 ^ l.length ≤ (c.toNat - 48) * 10 ^ l.length := Nat.mul_le_mul_right _ (by omega)
  omega

theorem snoc_ind {α : Type} {P : List α → Prop} (h0 : P []) (h1 : ∀ l a, P l → P (l ++ [a])) (l : List α) : P l := by
  have : ∀ n (l : List α), l.length = n → P l := by
    intro n
    induction n with
    | zero => intro l h; rw [List.length_eq_zero_iff.1 h]; exact h0
    | succ n ih =>
      intro l h
      have hne : l ≠ [] := by intro e; rw [e] at h; simp at h
      rw [← List.dropLast_concat_getLast hne]
      exact h1 _ _ (ih _ (by rw [List.length_dropLast]; omega))
  exact this _ l rfl

/-- what digits without zeros ahead are -/
theorem decDigits_val_snoc (l : List UInt8) : ∀ c, l.all dig = true → dig c = true → (∀ d m, l = d :: m → d ≠ 48) → decDigits (val (l ++ [c])) = l ++ [c] := by
  induction l using snoc_ind with
  | h0 =>
    intro c _ hc _
    have h := (dig_iff c).1 hc
    rw [List.nil_append, val_one, decDigits_small (by omega)]
    congr 1
    apply UInt8.toNat_inj.1
    rw [toNat_digit (by omega)]; omega
  | h1 l d ih =>
    intro c hl hc hh
    simp only [List.all_append, List.all_cons, List.all_nil, Bool.and_true, Bool.and_eq_true] at hl
    have h := (dig_iff c).1 hc
    have hd := ih d hl.1 hl.2 (fun e m he => hh e (m ++ [d]) (by rw [he]; rfl))
    have hp : val (l ++ [d]) ≠ 0 := by
      intro h0
      rw [h0, decDigits_zero] at hd
      have := hh 48 [] hd.symm
      exact this rfl
    rw [val_append _ [c], val_one]
    simp only [List.length_cons, List.length_nil, Nat.zero_add, Nat.pow_one]
    rw [decDigits_big (by omega), show (val (l ++ [d]) * 10 + (c.toNat - 48)) / 10 = val (l ++ [d]) by omega, hd,
      show (val (l ++ [d]) * 10 + (c.toNat - 48)) % 10 = c.toNat - 48 by omega]
    congr 2
    apply UInt8.toNat_inj.1
    rw [toNat_digit (by omega)]; omega

/-- digits without zeros ahead are the numeral of their number -/
theorem decDigits_val {l : List UInt8} (hne : l ≠ []) (hl : l.all dig = true) (h0 : l.length = 1 ∨ ∀ m, l ≠ 48 :: m) : decDigits (val l) = l := by
  obtain ⟨m, c, rfl⟩ : ∃ m c, l = m ++ [c] := ⟨l.dropLast, l.getLast hne, (List.dropLast_concat_getLast hne).symm⟩
  simp only [List.all_append, List.all_cons, List.all_nil, Bool.and_true, Bool.and_eq_true] at hl
  refine decDigits_val_snoc m c hl.1 hl.2 fun d k e => ?_
  rcases h0 with h | h
  · rw [e] at h; simp at h
  · intro e48
    exact h (k ++ [c]) (by rw [e, e48]; rfl)

theorem nDigits_le_iff (u k : Nat) (hk : 1 ≤ k) : nDigits u ≤ k ↔ u < 10 ^ k := by
  constructor
  · intro h
    exact Nat.lt_of_lt_of_le (Go.Lib.lt_pow_nDigits u) (Nat.pow_le_pow_right (by omega) h)
  · intro h
    by_cases h0 : u = 0
    · subst h0; rw [Go.Lib.nDigits_small (by omega)]; exact hk
    · obtain ⟨c, l, e, h1, h2⟩ := decDigits_head u h0
      have h3 := le_val c l h1 h2
      rw [← e, val_decDigits] at h3
      have h4 : (decDigits u).length = l.length + 1 := by rw [e]; rfl
      rw [decDigits_length] at h4
      rw [h4]
      have := (Nat.pow_lt_pow_iff_right (a := 10) (by omega)).1 (Nat.lt_of_le_of_lt h3 h)
      omega

/-! ### integers -/
theorem itoa_nonneg {n : Int} (h : 0 ≤ n) : itoa n = decDigits n.toNat := by rw [itoa, if_neg (by omega)]
theorem itoa_neg {n : Int} (h : n < 0) : itoa n = 45 :: decDigits n.natAbs := by rw [itoa, if_pos h]
theorem itoa_nat (n : Nat) : itoa (n : Int) = decDigits n := by rw [itoa_nonneg (by omega)]; rfl

theorem head_decDigits (u : Nat) : ∃ c l, decDigits u = c :: l ∧ dig c = true := by
  have hne := decDigits_ne_nil u
  obtain ⟨c, l, h⟩ := List.exists_cons_of_ne_nil hne
  have := dig_decDigits u
  rw [h] at this
  simp only [List.all_cons, Bool.and_eq_true] at this
  exact ⟨c, l, h, this.1⟩

theorem dig_ne45 {c : UInt8} (h : dig c = true) : c ≠ 45 := by
  intro e; subst e; simp [dig] at h

theorem itoa_inj {n m : Int} (h : itoa n = itoa m) : n = m := by
  by_cases hn : n < 0 <;> by_cases hm : m < 0
  · rw [itoa_neg hn, itoa_neg hm] at h
    have := decDigits_inj (List.cons.inj h).2
    omega
  · rw [itoa_neg hn, itoa_nonneg (by omega)] at h
    obtain ⟨c, l, e, hd⟩ := head_decDigits m.toNat
    rw [e] at h
    exact absurd (List.cons.inj h).1.symm (dig_ne45 hd)
  · rw [itoa_neg hm, itoa_nonneg (by omega)] at h
    obtain ⟨c, l, e, hd⟩ := head_decDigits n.toNat
    rw [e] at h
    exact absurd (List.cons.inj h).1 (dig_ne45 hd)
  · rw [itoa_nonneg (by omega), itoa_nonneg (by omega)] at h
    have := decDigits_inj h
    omega

end Go.Proofs.YtgmegfcjbnfnaaaGreatDoor.Dec

/- Words of 10^9: plain arithmetic, no program. -/
namespace Go.Proofs.YtgmegfcjbnfnaaaGreatDoor.Wide

/-- the base of the words -/
def B : Nat := 1000000000
theorem B_eq : B = 1000000000 := rfl
theorem B_pos : 0 < B := by decide
theorem Bp_pos (k : Nat) : 0 < B ^ k := Nat.pow_pos B_pos
/-- word i of a magnitude -/
def wd (v i : Nat) : Nat := v / B ^ i % B
/-- how many words a magnitude has -/
def nw (v : Nat) : Nat := if h : v = 0 then 0 else nw (v / B) + 1
termination_by v
decreasing_by exact Nat.div_lt_self (by omega) (by decide)

theorem nw_zero : nw 0 = 0 := by rw [nw, dif_pos rfl]
theorem nw_pos {v : Nat} (h : v ≠ 0) : nw v = nw (v / B) + 1 := by rw [nw, dif_neg h]
theorem wd_lt (v i : Nat) : wd v i < B := Nat.mod_lt _ B_pos

theorem nw_le_iff (v : Nat) : ∀ n, nw v ≤ n ↔ v < B ^ n := by
  induction v using Nat.strongRecOn with
  | _ v ih =>
    intro n
    by_cases h : v = 0
    · subst h; rw [nw_zero]; exact ⟨fun _ => Bp_pos n, fun _ => Nat.zero_le _⟩
    · rw [nw_pos h]
      cases n with
      | zero => simp; omega
      | succ n =>
        rw [Nat.add_le_add_iff_right, ih (v / B) (Nat.div_lt_self (by omega) (by decide)) n, Nat.pow_succ, Nat.div_lt_iff_lt_mul B_pos]

theorem lt_nw (v : Nat) : v < B ^ nw v := (nw_le_iff v _).1 (Nat.le_refl _)

theorem wd_zero {v i : Nat} (h : v < B ^ i) : wd v i = 0 := by
  unfold wd; rw [Nat.div_eq_of_lt h]; rfl
theorem wd_nw {v i : Nat} (h : nw v ≤ i) : wd v i = 0 := wd_zero ((nw_le_iff v i).1 h)

theorem wd_top {v n : Nat} (h : nw v = n + 1) : wd v n ≠ 0 := by
  have h1 : v < B ^ (n + 1) := (nw_le_iff v _).1 (by omega)
  have h2 : ¬ v < B ^ n := fun h2 => by have := (nw_le_iff v n).2 h2; omega
  unfold wd
  have h3 : v / B ^ n < B := by rw [Nat.div_lt_iff_lt_mul (Bp_pos n), Nat.mul_comm, ← Nat.pow_succ]; exact h1
  rw [Nat.mod_eq_of_lt h3]
  intro h4
  rcases (Nat.div_eq_zero_iff).1 h4 with h5 | h5
  · have := Bp_pos n; omega
  · exact h2 h5

theorem nw_le_of_wd {v m : Nat} (h : nw v ≤ m + 1) (h0 : wd v m = 0) : nw v ≤ m := by
  by_cases e : nw v = m + 1
  · exact absurd h0 (wd_top e)
  · omega
theorem nw_eq_of_wd {v m : Nat} (h : nw v ≤ m + 1) (h0 : wd v m ≠ 0) : nw v = m + 1 := by
  by_cases e : nw v ≤ m
  · exact absurd (wd_nw e) h0
  · omega

/-- a magnitude is its words: low words, a word, high words -/
theorem wd_low {v m j : Nat} (h : j < m) : wd (v % B ^ m) j = wd v j := by
  unfold wd
  obtain ⟨k, rfl⟩ : ∃ k, m = j + (k + 1) := ⟨m - j - 1, by omega⟩
  rw [Nat.pow_add, Nat.mod_mul_right_div_self, Nat.pow_succ, Nat.mul_comm (B ^ k), Nat.mod_mul_right_mod]
theorem wd_high (v m k : Nat) : wd (v / B ^ m) k = wd v (m + k) := by
  unfold wd; rw [Nat.div_div_eq_div_mul, ← Nat.pow_add]

/-- high words of one, low words of another -/
def mix (X S m : Nat) : Nat := X / B ^ m * B ^ m + S % B ^ m
theorem mix_div (X S m : Nat) : mix X S m / B ^ m = X / B ^ m := by
  unfold mix
  rw [Nat.add_comm, Nat.add_mul_div_right _ _ (Bp_pos m), Nat.div_eq_of_lt (Nat.mod_lt _ (Bp_pos m))]; omega
theorem mix_mod (X S m : Nat) : mix X S m % B ^ m = S % B ^ m := by
  unfold mix
  rw [Nat.add_comm, Nat.add_mul_mod_self_right, Nat.mod_mod]
theorem wd_mix_low {X S m j : Nat} (h : j < m) : wd (mix X S m) j = wd S j := by
  rw [← wd_low h, mix_mod, wd_low h]
theorem wd_mix_high {X S m j : Nat} (h : m ≤ j) : wd (mix X S m) j = wd X j := by
  obtain ⟨k, rfl⟩ : ∃ k, j = m + k := ⟨j - m, by omega⟩
  rw [← wd_high, mix_div, wd_high]
theorem mix_self (X m : Nat) : mix X X m = X := by
  unfold mix; rw [Nat.mul_comm]; exact Nat.div_add_mod _ _
theorem mix_all {X S m : Nat} (h : S / B ^ m = X / B ^ m) : mix X S m = S := by
  unfold mix; rw [← h, Nat.mul_comm]; exact Nat.div_add_mod _ _
theorem mix_lt {X S m n : Nat} (hm : m ≤ n) (h : X < B ^ n) : mix X S m < B ^ n := by
  obtain ⟨k, rfl⟩ : ∃ k, n = m + k := ⟨n - m, by omega⟩
  have h1 : X / B ^ m < B ^ k := by rw [Nat.div_lt_iff_lt_mul (Bp_pos m), Nat.mul_comm, ← Nat.pow_add]; exact h
  have h2 : S % B ^ m < B ^ m := Nat.mod_lt _ (Bp_pos m)
  unfold mix
  rw [Nat.pow_add, Nat.mul_comm (B ^ m)]
  have : (X / B ^ m + 1) * B ^ m ≤ B ^ k * B ^ m := Nat.mul_le_mul_right _ h1
  rw [Nat.add_mul] at this
  omega
theorem mix_congr {X S T m : Nat} (h : S % B ^ m = T % B ^ m) : mix X S m = mix X T m := by unfold mix; rw [h]

/-- magnitudes with the same words are the same -/
theorem eq_of_wd {u v : Nat} (h : ∀ j, wd u j = wd v j) : u = v := by
  have : ∀ n u v, u < B ^ n → v < B ^ n → (∀ j, wd u j = wd v j) → u = v := by
    intro n
    induction n with
    | zero => intro u v hu hv _; simp at hu hv; omega
    | succ n ih =>
      intro u v hu hv hw
      have e := ih (u / B) (v / B) (by rw [Nat.div_lt_iff_lt_mul B_pos, ← Nat.pow_succ]; exact hu)
        (by rw [Nat.div_lt_iff_lt_mul B_pos, ← Nat.pow_succ]; exact hv) (fun j => by
          have h1 := hw (1 + j)
          rw [← wd_high, ← wd_high, Nat.pow_one] at h1
          exact h1)
      have h0 := hw 0
      unfold wd at h0
      rw [Nat.pow_zero, Nat.div_one, Nat.div_one] at h0
      rw [← Nat.div_add_mod u B, ← Nat.div_add_mod v B, e, h0]
  refine this (max (nw u) (nw v)) u v ?_ ?_ h
  · exact (nw_le_iff u _).1 (Nat.le_max_left _ _)
  · exact (nw_le_iff v _).1 (Nat.le_max_right _ _)

/-! ### one magnitude, times a factor, added to another one -/
/-- what stands after i words: f times the first i words of U, by up words higher, added to X -/
def part (X U : Nat) (f : Int) (up i : Nat) : Int := X + f * ((U % B ^ i : Nat) : Int) * ((B ^ up : Nat) : Int)

theorem part_zero (X U : Nat) (f : Int) (up : Nat) : part X U f up 0 = X := by
  unfold part; simp [Nat.mod_one]

theorem mod_succ (U i : Nat) : U % B ^ (i + 1) = U % B ^ i + wd U i * B ^ i := by
  unfold wd
  rw [Nat.pow_succ, Nat.mod_mul, Nat.mul_comm (B ^ i)]

theorem part_succ (X U : Nat) (f : Int) (up i : Nat) : part X U f up (i + 1) = part X U f up i + f * (wd U i : Int) * ((B ^ (up + i) : Nat) : Int) := by
  unfold part
  rw [mod_succ, Nat.pow_add]
  push_cast
  grind

theorem part_all {X U : Nat} {f : Int} {up i : Nat} (h : nw U ≤ i) : part X U f up i = X + f * (U : Int) * ((B ^ up : Nat) : Int) := by
  unfold part; rw [Nat.mod_eq_of_lt ((nw_le_iff U i).1 h)]

theorem part_nonneg {X U : Nat} {f : Int} {up : Nat} (h : 0 ≤ (X : Int) + f * (U : Int) * ((B ^ up : Nat) : Int)) (i : Nat) : 0 ≤ part X U f up i := by
  unfold part
  have h1 : ((U % B ^ i : Nat) : Int) ≤ (U : Int) := by exact_mod_cast Nat.mod_le _ _
  have h2 : (0 : Int) ≤ ((U % B ^ i : Nat) : Int) := Int.natCast_nonneg _
  have h3 : (0 : Int) ≤ ((B ^ up : Nat) : Int) := Int.natCast_nonneg _
  by_cases hf : 0 ≤ f
  · have := Int.mul_nonneg (Int.mul_nonneg hf h2) h3
    omega
  · have h4 : f * (U : Int) ≤ f * ((U % B ^ i : Nat) : Int) := Int.mul_le_mul_of_nonpos_left (by omega) h1
    have h5 := Int.mul_le_mul_of_nonneg_right h4 h3
    omega

/-- what stands after i rounds -/
def st (X U : Nat) (f : Int) (up i : Nat) : Nat := (part X U f up i).toNat
/-- the rest that is carried into round i -/
def rs (X U : Nat) (f : Int) (up i : Nat) : Int := ((st X U f up i / B ^ (up + i) : Nat) : Int) - ((X / B ^ (up + i) : Nat) : Int)

section
variable {X U : Nat} {f : Int} {up : Nat} (h : 0 ≤ (X : Int) + f * (U : Int) * ((B ^ up : Nat) : Int))
include h

theorem st_cast (i : Nat) : (st X U f up i : Int) = part X U f up i := Int.toNat_of_nonneg (part_nonneg h i)
omit h in
theorem st_zero : st X U f up 0 = X := by unfold st; rw [part_zero]; rfl
omit h in
theorem rs_zero : rs X U f up 0 = 0 := by unfold rs; rw [st_zero]; omega

theorem st_succ (i : Nat) : (st X U f up (i + 1) : Int) = (st X U f up i : Int) + f * (wd U i : Int) * ((B ^ (up + i) : Nat) : Int) := by
  rw [st_cast h, st_cast h, part_succ]

theorem st_div (i : Nat) : ((st X U f up (i + 1) / B ^ (up + i) : Nat) : Int) = ((st X U f up i / B ^ (up + i) : Nat) : Int) + f * (wd U i : Int) := by
  rw [Int.natCast_ediv, Int.natCast_ediv, st_succ h, Int.add_mul_ediv_right]
  have := Bp_pos (up + i)
  omega

omit h in
theorem wd_div (X m : Nat) : X / B ^ m = wd X m + B * (X / B ^ (m + 1)) := by
  unfold wd
  rw [Nat.pow_succ, ← Nat.div_div_eq_div_mul]
  have := Nat.div_add_mod (X / B ^ m) B
  omega

/-- the sum of a round -/
theorem sum_eq (i : Nat) : (wd X (up + i) : Int) + rs X U f up i + f * (wd U i : Int) = ((st X U f up (i + 1) / B ^ (up + i) : Nat) : Int) - (B : Int) * ((X / B ^ (up + i + 1) : Nat) : Int) := by
  have h1 := st_div h i
  have h2 := wd_div X (up + i)
  unfold rs
  have h3 : ((X / B ^ (up + i) : Nat) : Int) = (wd X (up + i) : Int) + (B : Int) * ((X / B ^ (up + i + 1) : Nat) : Int) := by
    rw [h2]; push_cast; rfl
  omega

theorem rs_succ (i : Nat) : rs X U f up (i + 1) = ((wd X (up + i) : Int) + rs X U f up i + f * (wd U i : Int)) / (B : Int) := by
  rw [sum_eq h]
  unfold rs
  rw [show up + (i + 1) = up + i + 1 from rfl, Nat.pow_succ, ← Nat.div_div_eq_div_mul, ← Nat.div_div_eq_div_mul]
  have hB : (B : Int) ≠ 0 := by decide
  have key : ∀ a c : Int, (a - (B : Int) * c) / (B : Int) = a / (B : Int) - c := by
    intro a c
    rw [show a - (B : Int) * c = a + (B : Int) * (-c) by rw [Int.mul_neg]; omega, Int.add_mul_ediv_left _ _ hB]
    omega
  rw [key]
  push_cast
  omega

theorem wd_succ (i : Nat) : (wd (st X U f up (i + 1)) (up + i) : Int) = ((wd X (up + i) : Int) + rs X U f up i + f * (wd U i : Int)) % (B : Int) := by
  rw [sum_eq h]
  unfold wd
  have key : ∀ a c : Int, (a - (B : Int) * c) % (B : Int) = a % (B : Int) := by
    intro a c
    rw [show a - (B : Int) * c = a + (B : Int) * (-c) by rw [Int.mul_neg]; omega, Int.add_mul_emod_self_left]
  rw [key]
  push_cast; rfl

theorem st_mod (i : Nat) : st X U f up (i + 1) % B ^ (up + i) = st X U f up i % B ^ (up + i) := by
  have h1 := st_succ h i
  have : ((st X U f up (i + 1) : Nat) : Int) % ((B ^ (up + i) : Nat) : Int) = ((st X U f up i : Nat) : Int) % ((B ^ (up + i) : Nat) : Int) := by
    rw [h1, Int.add_mul_emod_self_right]
  exact_mod_cast this

/-- the words after a round: one has turned -/
theorem mix_succ (i j : Nat) : wd (mix X (st X U f up (i + 1)) (up + (i + 1))) j = if j = up + i then wd (st X U f up (i + 1)) (up + i) else wd (mix X (st X U f up i) (up + i)) j := by
  by_cases hj : j = up + i
  · rw [if_pos hj, hj, wd_mix_low (by omega)]
  · rw [if_neg hj]
    by_cases hlt : j < up + i
    · rw [wd_mix_low (by omega), wd_mix_low hlt, ← wd_low hlt, st_mod h, wd_low hlt]
    · rw [wd_mix_high (by omega), wd_mix_high (by omega)]

theorem st_all {i : Nat} (hi : nw U ≤ i) : (st X U f up i : Int) = X + f * (U : Int) * ((B ^ up : Nat) : Int) := by rw [st_cast h, part_all hi]

theorem rs_bd (hf1 : -(B : Int) < f) (hf2 : f < (B : Int)) (i : Nat) : -(B : Int) ≤ rs X U f up i ∧ rs X U f up i ≤ (B : Int) := by
  have h1 := st_cast h i
  unfold part at h1
  have h2 : ((U % B ^ i : Nat) : Int) < ((B ^ i : Nat) : Int) := by exact_mod_cast Nat.mod_lt _ (Bp_pos i)
  have h3 : (0 : Int) ≤ ((U % B ^ i : Nat) : Int) := Int.natCast_nonneg _
  have hp : (0 : Int) < ((B ^ up : Nat) : Int) := by exact_mod_cast Bp_pos up
  have hpi : (0 : Int) < ((B ^ i : Nat) : Int) := by exact_mod_cast Bp_pos i
  have hup : f * ((U % B ^ i : Nat) : Int) ≤ (B : Int) * ((B ^ i : Nat) : Int) := by
    have a := Int.mul_le_mul_of_nonneg_right (show f ≤ (B : Int) by omega) h3
    have b := Int.mul_le_mul_of_nonneg_left (show ((U % B ^ i : Nat) : Int) ≤ ((B ^ i : Nat) : Int) by omega) (show (0 : Int) ≤ (B : Int) by decide)
    omega
  have hlo : -((B : Int) * ((B ^ i : Nat) : Int)) ≤ f * ((U % B ^ i : Nat) : Int) := by
    have a := Int.mul_le_mul_of_nonneg_right (show -(B : Int) ≤ f by omega) h3
    have b := Int.mul_le_mul_of_nonneg_left (show ((U % B ^ i : Nat) : Int) ≤ ((B ^ i : Nat) : Int) by omega) (show (0 : Int) ≤ (B : Int) by decide)
    have c : -(B : Int) * ((U % B ^ i : Nat) : Int) = -((B : Int) * ((U % B ^ i : Nat) : Int)) := by rw [Int.neg_mul]
    omega
  have hup' := Int.mul_le_mul_of_nonneg_right hup (Int.le_of_lt hp)
  have hlo' := Int.mul_le_mul_of_nonneg_right hlo (Int.le_of_lt hp)
  have e : (B : Int) * ((B ^ i : Nat) : Int) * ((B ^ up : Nat) : Int) = (B : Int) * ((B ^ (up + i) : Nat) : Int) := by
    rw [Nat.pow_add]; push_cast; grind
  have e2 : -((B : Int) * ((B ^ i : Nat) : Int)) * ((B ^ up : Nat) : Int) = -((B : Int) * ((B ^ (up + i) : Nat) : Int)) := by rw [Int.neg_mul, e]
  have k1 : st X U f up i ≤ X + B * B ^ (up + i) := by
    have : (st X U f up i : Int) ≤ (X : Int) + (B : Int) * ((B ^ (up + i) : Nat) : Int) := by omega
    exact_mod_cast this
  have k2 : X ≤ st X U f up i + B * B ^ (up + i) := by
    have : (X : Int) ≤ (st X U f up i : Int) + (B : Int) * ((B ^ (up + i) : Nat) : Int) := by omega
    exact_mod_cast this
  have l1 := Nat.div_le_div_right (c := B ^ (up + i)) k1
  have l2 := Nat.div_le_div_right (c := B ^ (up + i)) k2
  rw [Nat.add_mul_div_right _ _ (Bp_pos _)] at l1 l2
  unfold rs
  omega

/-- no rest beyond the greatest word -/
theorem rs_far {n i : Nat} (hX : X < B ^ n) (hS : (X : Int) + f * (U : Int) * ((B ^ up : Nat) : Int) < ((B ^ n : Nat) : Int)) (hi : nw U ≤ i) (hn : n ≤ up + i) : rs X U f up i = 0 := by
  have h1 := st_all h hi
  have h2 : st X U f up i < B ^ n := by
    have : (st X U f up i : Int) < ((B ^ n : Nat) : Int) := by omega
    exact_mod_cast this
  have h3 : B ^ n ≤ B ^ (up + i) := Nat.pow_le_pow_right B_pos hn
  unfold rs
  rw [Nat.div_eq_of_lt (by omega), Nat.div_eq_of_lt (by omega)]
  omega

/-- the end: nothing is left to be carried -/
theorem mix_end {i : Nat} (hi : nw U ≤ i) (hr : rs X U f up i = 0) : (mix X (st X U f up i) (up + i) : Int) = X + f * (U : Int) * ((B ^ up : Nat) : Int) := by
  rw [← st_all h hi, mix_all]
  unfold rs at hr
  omega
end

/-! ### order -/
theorem lt_of_nw {u v : Nat} (h : nw u < nw v) : u < v := by
  have h1 := lt_nw u
  have h2 : ¬ v < B ^ nw u := fun h2 => by have := (nw_le_iff v _).2 h2; omega
  omega
theorem lt_of_wd {u v i : Nat} (h : u / B ^ (i + 1) = v / B ^ (i + 1)) (h1 : wd u i < wd v i) : u < v := by
  have a := wd_div u i
  have b := wd_div v i
  rw [h] at a
  have c : u / B ^ i < v / B ^ i := by omega
  exact Nat.lt_of_not_le fun hle => by have := Nat.div_le_div_right (c := B ^ i) hle; omega
theorem div_step {u v i : Nat} (h : u / B ^ (i + 1) = v / B ^ (i + 1)) (h1 : wd u i = wd v i) : u / B ^ i = v / B ^ i := by
  rw [wd_div u i, wd_div v i, h, h1]
theorem div_nw (v : Nat) : v / B ^ nw v = 0 := Nat.div_eq_of_lt (lt_nw v)

theorem wd_lo (v i : Nat) : -(B : Int) < (wd v i : Int) := by
  have h1 : (0 : Int) ≤ (wd v i : Int) := Int.natCast_nonneg _
  have h2 : (0 : Int) < (B : Int) := by decide
  omega
theorem wd_hi (v i : Nat) : (wd v i : Int) < (B : Int) := by exact_mod_cast wd_lt v i

/-! ### products, word by word -/
/-- X times the first i words of U -/
def prt (X U i : Nat) : Nat := X * (U % B ^ i)
theorem prt_zero (X U : Nat) : prt X U 0 = 0 := by simp [prt, Nat.mod_one]
theorem prt_all {X U i : Nat} (h : nw U ≤ i) : prt X U i = X * U := by unfold prt; rw [Nat.mod_eq_of_lt ((nw_le_iff U i).1 h)]
theorem prt_succ (X U i : Nat) : (prt X U (i + 1) : Int) = (prt X U i : Int) + (wd U i : Int) * (X : Int) * ((B ^ i : Nat) : Int) := by
  unfold prt
  rw [mod_succ]
  push_cast
  grind
theorem prt_le (X U i : Nat) : prt X U i ≤ X * U := Nat.mul_le_mul_left _ (Nat.mod_le _ _)
theorem nw_mono {u v : Nat} (h : u ≤ v) : nw u ≤ nw v := by
  rw [nw_le_iff]; exact Nat.lt_of_le_of_lt h (lt_nw v)

/-! ### division -/
theorem nw_ne {v : Nat} (h : v ≠ 0) : ∃ n, nw v = n + 1 := by rw [nw_pos h]; exact ⟨_, rfl⟩
/-- the two top words -/
theorem two_top {X n : Nat} (h : X < B ^ (n + 2)) : X / B ^ n = wd X (n + 1) * B + wd X n := by
  have h1 := wd_div X n
  have h2 := wd_div X (n + 1)
  have h3 : X / B ^ (n + 1 + 1) = 0 := Nat.div_eq_of_lt h
  rw [h3, Nat.mul_zero, Nat.add_zero] at h2
  rw [h1, h2, Nat.mul_comm, Nat.add_comm, Nat.add_zero]
theorem est_le {X U b k n : Nat} (hU : U ≤ b * B ^ n) (hk : k ≤ X / B ^ n / b) : k * U ≤ X := by
  have h1 : k * U ≤ k * (b * B ^ n) := Nat.mul_le_mul_left _ hU
  have h2 : k * (b * B ^ n) ≤ X / B ^ n / b * (b * B ^ n) := Nat.mul_le_mul_right _ hk
  have h3 : X / B ^ n / b * (b * B ^ n) = X / B ^ n / b * b * B ^ n := by rw [Nat.mul_assoc]
  have h4 : X / B ^ n / b * b * B ^ n ≤ X / B ^ n * B ^ n := Nat.mul_le_mul_right _ (Nat.div_mul_le_self _ _)
  have h5 := Nat.div_mul_le_self X (B ^ n)
  omega
theorem top_le {U n : Nat} (h : nw U = n + 1) : U < (wd U n + 1) * B ^ n := by
  have h1 := wd_div U n
  have h2 : U / B ^ (n + 1) = 0 := Nat.div_eq_of_lt (by rw [← h]; exact lt_nw U)
  rw [h2] at h1
  have h3 : U / B ^ n < wd U n + 1 := by omega
  exact (Nat.div_lt_iff_lt_mul (Bp_pos n)).1 h3
theorem one_word {U : Nat} (h : nw U = 1) : wd U 0 = U := by
  have h1 : U < B ^ 1 := (nw_le_iff U 1).1 (by omega)
  unfold wd
  simp at h1 ⊢
  exact Nat.mod_eq_of_lt h1
/-- of X less than B times U -/
theorem lt_top {X U n : Nat} (h : nw U = n + 1) (hX : X < B * U) : X < B ^ (n + 2) := by
  have h1 : U < B ^ (n + 1) := by rw [← h]; exact lt_nw U
  have h2 : B * U < B * B ^ (n + 1) := (Nat.mul_lt_mul_left B_pos).2 h1
  rw [Nat.pow_succ B (n + 1), Nat.mul_comm (B ^ (n + 1))]
  omega

end Go.Proofs.YtgmegfcjbnfnaaaGreatDoor.Wide

/- Integers of whole in memory: a block of 234 cells. -/
namespace Go.Proofs.YtgmegfcjbnfnaaaGreatDoor
open Go.RowKit Wide

/-- the cells of an integer in memory: its sign, how many words, the words -/
def cellsOf (less : Bool) (n v : Nat) : Array Value := #[.bool less, .int .i64 n] ++ ((List.range 232).map fun i => Value.int .i64 (wd v i : Nat)).toArray

theorem cellsOf_size (less : Bool) (n v : Nat) : (cellsOf less n v).size = 234 := by simp [cellsOf]
theorem cellsOf_0 (less : Bool) (n v : Nat) : (cellsOf less n v)[0]? = some (.bool less) := by simp [cellsOf]
theorem cellsOf_1 (less : Bool) (n v : Nat) : (cellsOf less n v)[1]? = some (.int .i64 n) := by simp [cellsOf]
theorem cellsOf_w (less : Bool) (n v i : Nat) (h : i < 232) : (cellsOf less n v)[2 + i]? = some (.int .i64 (wd v i : Nat)) := by
  unfold cellsOf
  rw [Array.getElem?_append_right (by simp)]
  simp [h]

/-- block b of the world is an integer -/
def IsWide (w : World) (b : Nat) (less : Bool) (n v : Nat) : Prop := w.heap[b]? = some (.cells (cellsOf less n v) 168)

theorem IsWide.cell {w : World} {b : Nat} {less : Bool} {n v : Nat} (h : IsWide w b less n v) (i : Nat) : w.cell? ⟨b, i, none⟩ = (cellsOf less n v)[i]? := by
  unfold IsWide at h
  simp [World.cell?, h]
theorem IsWide.c0 {w : World} {b : Nat} {less : Bool} {n v : Nat} (h : IsWide w b less n v) : w.cell? ⟨b, 0, none⟩ = some (.bool less) := by rw [h.cell, cellsOf_0]
theorem IsWide.c1 {w : World} {b : Nat} {less : Bool} {n v : Nat} (h : IsWide w b less n v) : w.cell? ⟨b, 1, none⟩ = some (.int .i64 n) := by rw [h.cell, cellsOf_1]
theorem IsWide.cw {w : World} {b : Nat} {less : Bool} {n v : Nat} (h : IsWide w b less n v) (i : Nat) (hi : i < 232) : w.cell? ⟨b, 2 + i, none⟩ = some (.int .i64 (wd v i : Nat)) := by rw [h.cell, cellsOf_w _ _ _ _ hi]
theorem IsWide.fz {w : World} {b : Nat} {less : Bool} {n v : Nat} (h : IsWide w b less n v) (i : Nat) : w.frozen? ⟨b, i, none⟩ = false := by
  unfold IsWide at h
  simp [World.frozen?, h]
theorem IsWide.set1 {w : World} {b : Nat} {less : Bool} {n v : Nat} (h : IsWide w b less n v) (m : Nat) : IsWide (w.setCell ⟨b, 1, none⟩ (.int .i64 m)) b less m v := by
  unfold IsWide at *
  simp [World.setCell, Array.getElem?_modify, h, cellsOf]

/-! ### what a step does to the world -/
theorem grown_refl (w : World) (r : Option Nat) : w.grownBy w r := World.grownBy.refl w r
theorem grown_trans {w w1 w2 : World} {r : Option Nat} (h : w.grownBy w1 r) (k : w1.grownBy w2 r) : w.grownBy w2 r :=
  ⟨k.os.trans h.os, k.tape.trans h.tape, k.output.trans h.output, Nat.le_trans h.size k.size,
    fun j hj hr => (k.block j (Nat.lt_of_lt_of_le hj h.size) hr).trans (h.block j hj hr)⟩
theorem grown_drewN {w w1 : World} {r : Option Nat} (h : w.grownBy w1 r) (n : Nat) : w.grownBy (w1.drewN n) r :=
  ⟨h.os, h.tape, h.output, h.size, h.block⟩
theorem grown_drew {w w1 : World} {r : Option Nat} (h : w.grownBy w1 r) : w.grownBy w1.drew r :=
  ⟨h.os, h.tape, h.output, h.size, h.block⟩
theorem grown_setCell {w w1 : World} {b : Nat} (h : w.grownBy w1 (some b)) (o : Nat) (u : Value) : w.grownBy (w1.setCell ⟨b, o, none⟩ u) (some b) :=
  ⟨h.os, h.tape, h.output, by simpa using h.size, fun j hj hr => (Below.heap_setCell w1 ⟨b, o, none⟩ u j (fun e => hr (by rw [e]))).trans (h.block j hj hr)⟩
theorem grown_alloc {w w1 : World} {r : Option Nat} (h : w.grownBy w1 r) (o : Obj) : w.grownBy (w1.alloc o) r :=
  grown_trans h (World.grownBy_alloc w1 o r)
theorem grown_below {w w1 : World} (h : w.grownBy w1 none) : Below w.heap.size w w1 :=
  ⟨h.os, h.tape, h.output, h.size, fun j hj => h.block j hj (by simp)⟩

theorem IsWide.drewN {w : World} {b : Nat} {less : Bool} {n v : Nat} (h : IsWide w b less n v) (k : Nat) : IsWide (w.drewN k) b less n v := h
theorem IsWide.kept {w w1 : World} {b : Nat} {less : Bool} {n v : Nat} {r : Option Nat} (h : IsWide w b less n v) (g : w.grownBy w1 r) (hr : some b ≠ r) : IsWide w1 b less n v := by
  unfold IsWide at *
  have hb : b < w.heap.size := (Array.getElem?_eq_some_iff.1 h).1
  rw [g.block b hb hr]; exact h
theorem IsWide.lt {w : World} {b : Nat} {less : Bool} {n v : Nat} (h : IsWide w b less n v) : b < w.heap.size := (Array.getElem?_eq_some_iff.1 h).1

/-- all that was there is as it was -/
def Kept (w w' : World) : Prop := w.grownBy w' none
theorem Kept.refl (w : World) : Kept w w := grown_refl w none
theorem Kept.trans {w w1 w2 : World} (h : Kept w w1) (k : Kept w1 w2) : Kept w w2 := grown_trans h k
theorem Kept.drewN {w w1 : World} (h : Kept w w1) (n : Nat) : Kept w (w1.drewN n) := grown_drewN h n
theorem Kept.drew {w w1 : World} (h : Kept w w1) : Kept w w1.drew := grown_drew h
theorem Kept.alloc {w w1 : World} (h : Kept w w1) (o : Obj) : Kept w (w1.alloc o) := grown_alloc h o
theorem Kept.some {w w1 : World} (h : Kept w w1) (r : Option Nat) : w.grownBy w1 r := ⟨h.os, h.tape, h.output, h.size, fun j hj _ => h.block j hj (by simp)⟩
theorem Kept.heap {w w1 : World} (h : Kept w w1) {b : Nat} {o : Obj} (hb : w.heap[b]? = Option.some o) : w1.heap[b]? = Option.some o := by
  rw [h.block b (Array.getElem?_eq_some_iff.1 hb).1 (by simp)]; exact hb
theorem Kept.cell {w w1 : World} (h : Kept w w1) {p : Addr} {v : Value} (hc : w.cell? p = Option.some v) : w1.cell? p = Option.some v :=
  World.grownBy.cell h hc (by simp)
theorem Kept.below {w w1 : World} (h : Kept w w1) : Below w.heap.size w w1 := grown_below h
theorem Kept.of_below {w w1 : World} (h : Below w.heap.size w w1) : Kept w w1 := ⟨h.os, h.tape, h.output, h.size, fun j hj _ => h.block j hj⟩
theorem Kept.size {w w1 : World} (h : Kept w w1) : w.heap.size ≤ w1.heap.size := World.grownBy.size h
/-- a block of the call's own has turned -/
theorem Kept.own {w w1 w2 : World} {b : Nat} (h : Kept w w1) (k : w1.grownBy w2 (Option.some b)) (hb : w.heap.size ≤ b) : Kept w w2 :=
  ⟨k.os.trans h.os, k.tape.trans h.tape, k.output.trans h.output, Nat.le_trans h.size k.size, fun j hj _ => by
    rw [k.block j (Nat.lt_of_lt_of_le hj h.size) (by simp; omega)]; exact h.block j hj (by simp)⟩
theorem IsWide.keep {w w1 : World} {b : Nat} {less : Bool} {n v : Nat} (h : IsWide w b less n v) (g : Kept w w1) : IsWide w1 b less n v := h.kept g (by simp)

/-- nothing but draws -/
def Quiet (w w' : World) : Prop := ∃ k, w' = w.drewN k
theorem Quiet.refl (w : World) : Quiet w w := ⟨0, rfl⟩
theorem Quiet.drewN {w w1 : World} (h : Quiet w w1) (n : Nat) : Quiet w (w1.drewN n) := by
  obtain ⟨k, rfl⟩ := h
  exact ⟨k + n, World.drewN_drewN ..⟩
theorem Quiet.drew {w w1 : World} (h : Quiet w w1) : Quiet w w1.drew := h.drewN 1
theorem Quiet.kept {w w1 : World} (h : Quiet w w1) : Kept w w1 := by
  obtain ⟨k, rfl⟩ := h
  exact (Kept.refl w).drewN k
theorem Quiet.trans {w w1 w2 : World} (h : Quiet w w1) (k : Quiet w1 w2) : Quiet w w2 := by
  obtain ⟨n, rfl⟩ := k
  exact h.drewN n

/-! ### a new integer -/
theorem wide_size : (Tryz.prog.info? 168).map (·.size) = some 234 := by kernel_rfl
theorem wide_zero : (Tryz.prog.info? 168).map (·.zero) = some (some (.agg (cellsOf false 0 0))) := by kernel_rfl
theorem wide_built (l : Bool) : Tryz.prog.built 168 [(0, .bool l)] = some (cellsOf l 0 0) := by cases l <;> kernel_rfl
theorem wide_built0 : Tryz.prog.built 168 [] = some (cellsOf false 0 0) := by kernel_rfl
theorem oneCell_cellsOf (less : Bool) (n v : Nat) : (cellsOf less n v).all (·.oneCell') = true := by
  rw [Array.all_eq_true_iff_forall_mem]
  intro x hx
  simp only [cellsOf, Array.mem_append, List.mem_toArray, List.mem_map] at hx
  rcases hx with hx | ⟨i, _, rfl⟩
  · simp at hx; rcases hx with rfl | rfl <;> rfl
  · rfl

theorem run_zeroWide (w : World) : (zeroValue 168).run Tryz.prog w = .ok (.agg (cellsOf false 0 0)) w := by
  have h := wide_zero
  cases hq : Tryz.prog.info? 168 with
  | none => simp [hq] at h
  | some i =>
    have hz : i.zero = some (.agg (cellsOf false 0 0)) := by simpa [hq] using h
    simp [zeroValue, typeInfo, hq, Sem.run_bind, hz]

section
variable {ops : Array Oper} {rest : List Oper} {o : Oper} {a : Act} {w : World} {Q : Exit → Act → World → Prop}
theorem wpList_allocWide (hg : o.guard = none) (ho : o.op = .alloc 168)
    (h : wpList Tryz.prog ops Q rest (a.put o.dst (.pointer (some ⟨w.heap.size, 0, none⟩))) (w.alloc (.cells (cellsOf false 0 0) 168))) : wpList Tryz.prog ops Q (o :: rest) a w :=
  wpList_plain hg fun _ hK => by
    unfold Oper.wp execOp
    simp only [ho, Instr.alloc, Sem.run_bind, run_zeroWide, Result.andThen_ok, newVar, newRow, Value.cells, run_newObj_alloc, Sem.run_pure]
    exact hK _ _ h
theorem wpList_boxWide (hg : o.guard = none) (x : Operand) (ho : o.op = .box 168 x) (cs : Array Value) (hx : a.eval x = .agg cs)
    (h : wpList Tryz.prog ops Q rest (a.put o.dst (.pointer (some ⟨w.heap.size, 0, none⟩))) (w.alloc (.cells cs 168))) : wpList Tryz.prog ops Q (o :: rest) a w :=
  wpList_plain hg fun _ hK => by
    unfold Oper.wp execOp
    simp only [ho, hx, Instr.box, Sem.run_bind, Result.andThen_ok, newVar, newRow, Value.cells, run_newObj_alloc, Sem.run_pure]
    exact hK _ _ h
theorem wpList_buildWide (hg : o.guard = none) (x : Operand) (ho : o.op = .build 168 #[(0, x)]) (l : Bool) (hx : a.eval x = .bool l)
    (h : wpList Tryz.prog ops Q rest (a.put o.dst (.agg (cellsOf l 0 0))) w) : wpList Tryz.prog ops Q (o :: rest) a w :=
  wpList_build hg _ _ ho (by simp [hx, wide_built]) (by simpa [hx, wide_built] using h)
theorem wpList_buildWide0 (hg : o.guard = none) (ho : o.op = .build 168 #[])
    (h : wpList Tryz.prog ops Q rest (a.put o.dst (.agg (cellsOf false 0 0))) w) : wpList Tryz.prog ops Q (o :: rest) a w :=
  wpList_build hg _ _ ho (by simp [wide_built0]) (by simpa [wide_built0] using h)
theorem wpList_loadWide (hg : o.guard = none) (x : Operand) (ho : o.op = .load 168 x) (b : Nat) (l : Bool) (n v : Nat) (hx : a.eval x = .pointer (some ⟨b, 0, none⟩)) (hb : IsWide w b l n v)
    (h : wpList Tryz.prog ops Q rest (a.put o.dst (.agg (cellsOf l n v))) w) : wpList Tryz.prog ops Q (o :: rest) a w :=
  wpList_load_row hg _ x ho b hx _ _ _ _ hb Tryz.underlying168 rfl (by rw [cellsOf_size]; exact wide_size) h
theorem wpList_storeWide (hg : o.guard = none) (x y : Operand) (ho : o.op = .store 168 x y) (b : Nat) (l l' : Bool) (n v n' v' : Nat) (hx : a.eval x = .pointer (some ⟨b, 0, none⟩)) (hy : a.eval y = .agg (cellsOf l' n' v'))
    (hb : IsWide w b l n v) (h : wpList Tryz.prog ops Q rest (a.put o.dst undef) (w.setRow b (cellsOf l' n' v'))) : wpList Tryz.prog ops Q (o :: rest) a w :=
  wpList_store_row hg _ x y ho b _ hx hy _ _ hb (by rw [cellsOf_size]; exact wide_size) (by rw [cellsOf_size, cellsOf_size]) (oneCell_cellsOf _ _ _) h
end

theorem IsWide.new (w : World) (l : Bool) (n v : Nat) : IsWide (w.alloc (.cells (cellsOf l n v) 168)) w.heap.size l n v := by
  unfold IsWide World.alloc; simp
theorem IsWide.alloc {w : World} {b : Nat} {l : Bool} {n v : Nat} (h : IsWide w b l n v) (o : Obj) : IsWide (w.alloc o) b l n v :=
  h.kept (World.grownBy_alloc w o none) (by simp)
theorem IsWide.setRow {w : World} {b : Nat} {l l' : Bool} {n v n' v' : Nat} (h : IsWide w b l n v) : IsWide (w.setRow b (cellsOf l' n' v')) b l' n' v' := by
  exact setRow_heap w b _ _ _ _ h
theorem grown_setRow {w w1 : World} {b : Nat} (h : w.grownBy w1 (some b)) (cs : Array Value) : w.grownBy (w1.setRow b cs) (some b) := by
  refine ⟨h.os, h.tape, h.output, ?_, ?_⟩
  · simpa [World.setRow] using h.size
  · intro j hj hr
    rw [← h.block j hj hr]
    simp only [World.setRow, Array.getElem?_modify]
    rw [if_neg (by intro e; exact hr (by rw [e]))]

end Go.Proofs.YtgmegfcjbnfnaaaGreatDoor

/- Walks over the integers of whole: trimmed. -/
namespace Go.Proofs.YtgmegfcjbnfnaaaGreatDoor
open Go.RowKit Wide

set_option maxHeartbeats 400000 in
theorem trimmed_any (b n v : Nat) (less : Bool) (w : World) (hn : n ≤ 232) (hv : nw v ≤ n) (hb : IsWide w b less n v) :
    Calls Tryz.prog 168 #[.pointer (some ⟨b, 0, none⟩)] w fun e w' =>
      e = .returned (.pointer (some ⟨b, 0, none⟩)) ∧ IsWide w' b less (nw v) v ∧ w.grownBy w' (some b) := by
  go_enter Tryz.func168, Tryz.ntmps168
  go_wp2
  go_loopg [] n (fun k wr => nw v ≤ k ∧ k ≤ n ∧ IsWide wr b less k v ∧ w.grownBy wr (some b))
  case atStart => exact ⟨hv, Nat.le_refl _, hb, World.grownBy.refl _ _⟩
  case round =>
    obtain ⟨h1, h2, h3, h4⟩ := hrel
    have c1 := h3.c1
    have f1 := h3.fz 1
    have cw := h3.cw
    by_cases hk : gk = 0
    · subst hk
      clear cw
      go_wp2_with fail
      go_quiet (fail)
      go_wp2
      go_ret
      have hv0 : nw v = 0 := by omega
      rw [hv0]
      exact ⟨rfl, h3, grown_drewN h4 nq⟩
    · obtain ⟨m, rfl⟩ : ∃ m, gk = m + 1 := ⟨gk - 1, by omega⟩
      have cm := cw m (by omega)
      clear cw
      by_cases hz : wd v m = 0
      · rw [hz] at cm
        have Hz := Lib.hid hz
        clear hz
        go_wp2_with fail
        go_quiet (fail)
        go_wp2
        go_roundg m
        case measure => omega
        case rel => exact ⟨nw_le_of_wd h1 Hz.out, by omega, (h3.drewN nq).set1 m, grown_setCell (grown_drewN h4 nq) 1 _⟩
      · have hz' : ((wd v m : Int) == 0) = false := by rw [beq_eq_false_iff_ne]; omega
        have Hz := Lib.hid hz
        clear hz
        go_wp2_with fail
        go_quiet (fail)
        go_wp2
        go_ret
        rw [nw_eq_of_wd h1 Hz.out]
        exact ⟨rfl, h3, grown_drewN h4 nq⟩

end Go.Proofs.YtgmegfcjbnfnaaaGreatDoor

/- Walks over the integers of whole: carry. -/
namespace Go.Proofs.YtgmegfcjbnfnaaaGreatDoor
open Go.RowKit Wide

theorem IsWide.setW {w : World} {b : Nat} {less : Bool} {n v v' k : Nat} {d : Int} (h : IsWide w b less n v) (hd : d = (wd v' k : Nat))
    (hv : ∀ j, wd v' j = if j = k then wd v' k else wd v j) (hk : k < 232) : IsWide (w.setCell ⟨b, 2 + k, none⟩ (.int .i64 d)) b less n v' := by
  subst hd
  unfold IsWide at *
  have e : (cellsOf less n v).setIfInBounds (2 + k) (.int .i64 (wd v' k : Nat)) = cellsOf less n v' := ?_
  · simp only [World.setCell, Array.getElem?_modify, h, if_true, Option.map_some, Option.isSome_none, Bool.false_eq_true, if_false]
    rw [e]
  apply Array.ext_getElem?
  intro j
  rw [Array.getElem?_setIfInBounds]
  by_cases hj : 2 + k = j
  · subst hj
    rw [if_pos rfl, cellsOf_w _ _ _ _ hk, if_pos (by rw [cellsOf_size]; omega)]
  · rw [if_neg hj]
    rcases j with _ | _ | j
    · rw [cellsOf_0, cellsOf_0]
    · rw [cellsOf_1, cellsOf_1]
    · rw [show j + 1 + 1 = 2 + j by omega]
      by_cases hj2 : j < 232
      · rw [cellsOf_w _ _ _ _ hj2, cellsOf_w _ _ _ _ hj2, hv j, if_neg (by omega)]
      · rw [Array.getElem?_eq_none (by rw [cellsOf_size]; omega), Array.getElem?_eq_none (by rw [cellsOf_size]; omega)]

theorem mul_bd {f : Int} {y : Nat} (h1 : -1000000000 < f) (h2 : f < 1000000000) (hy : y < 1000000000) : f * (y : Int) ≤ 1000000000000000000 ∧ -1000000000000000000 ≤ f * (y : Int) := by
  have hy0 : (0 : Int) ≤ (y : Int) := Int.natCast_nonneg _
  have a := Int.mul_le_mul_of_nonneg_right (show f ≤ 1000000000 by omega) hy0
  have b := Int.mul_le_mul_of_nonneg_right (show -1000000000 ≤ f by omega) hy0
  omega

theorem tdiv_bd (s q : Int) (h : s.tdiv 1000000000 = q) : -1000000000 < s - q * 1000000000 ∧ s - q * 1000000000 < 1000000000 ∧ (0 ≤ s ∧ 0 ≤ s - q * 1000000000 ∨ s < 0 ∧ s - q * 1000000000 ≤ 0) := by
  have e := Int.mul_tdiv_add_tmod s 1000000000
  rw [h] at e
  have l1 := Int.tmod_lt_of_pos s (show (0 : Int) < 1000000000 by decide)
  have l2 := Int.lt_tmod_of_pos s (show (0 : Int) < 1000000000 by decide)
  by_cases hs : 0 ≤ s
  · have := Int.tmod_nonneg 1000000000 hs
    omega
  · have h5 := Int.tmod_nonneg 1000000000 (show 0 ≤ -s by omega)
    rw [Int.neg_tmod] at h5
    omega

theorem carry_step {w wr : World} {bx : Nat} {lx : Bool} {X U : Nat} {f : Int} {up j n n' k : Nat} {s d r m : Int} (H0 : 0 ≤ (X : Int) + f * (U : Int) * ((B ^ up : Nat) : Int)) (hj : j + up < 232)
    (h1 : nw X ≤ n) (h4 : IsWide wr bx lx n (mix X (st X U f up j) (up + j))) (h5 : w.grownBy wr (some bx)) (Hs : rs X U f up (j + 1) = s / 1000000000) (Hw : (wd (st X U f up (j + 1)) (j + up) : Int) = s % 1000000000)
    (hd : d = s % 1000000000) (hr : r = s / 1000000000) (hm : m = (n' : Int)) (hn1 : n ≤ n') (hn2 : j + up + 1 ≤ n') (hn3 : n' ≤ 232) (hk : k + (j + 1) = 233) :
    ∃ j' n'' : Nat, k + j' = 233 ∧ Value.int .i64 r = .int .i64 (rs X U f up j') ∧ Value.int .i64 ((j : Int) + 1) = .int .i64 j' ∧ nw X ≤ n'' ∧ n'' ≤ 232 ∧ nw (mix X (st X U f up j') (up + j')) ≤ n'' ∧
      IsWide ((wr.setCell ⟨bx, 2 + (j + up), none⟩ (.int .i64 d)).setCell ⟨bx, 1, none⟩ (.int .i64 m)) bx lx n'' (mix X (st X U f up j') (up + j')) ∧
      w.grownBy ((wr.setCell ⟨bx, 2 + (j + up), none⟩ (.int .i64 d)).setCell ⟨bx, 1, none⟩ (.int .i64 m)) (some bx) := by
  subst hm
  refine ⟨j + 1, n', hk, by rw [Hs, hr], rfl, by omega, hn3, ?_, ?_, grown_setCell (grown_setCell h5 _ _) _ _⟩
  · rw [nw_le_iff]
    exact mix_lt (by omega) ((nw_le_iff X n').1 (by omega))
  · refine IsWide.set1 (h4.setW (by rw [hd, ← Hw, wd_mix_low (by omega)]) ?_ hj) n'
    intro i
    rw [mix_succ H0, wd_mix_low (show j + up < up + (j + 1) by omega), Nat.add_comm up j]

set_option maxHeartbeats 1000000 in
set_option maxRecDepth 100000 in
theorem carry_any (bx b_y : Nat) (nx X U : Nat) (lx ly : Bool) (f : Int) (up : Nat) (w : World) (hne : bx ≠ b_y) (hx : IsWide w bx lx nx X) (hy : IsWide w b_y ly (nw U) U)
    (hnx : nw X ≤ nx) (hnx2 : nx ≤ 232) (hup : up + nw U ≤ 232) (hf1 : -(B : Int) < f) (hf2 : f < (B : Int)) (S : Nat) (hS : (S : Int) = X + f * (U : Int) * ((B ^ up : Nat) : Int)) (hS2 : S < B ^ 232) :
    Calls Tryz.prog 169 #[.pointer (some ⟨bx, 0, none⟩), .pointer (some ⟨b_y, 0, none⟩), .int .i64 f, .int .i64 up] w fun e w' =>
      e = .returned (.tuple #[]) ∧ IsWide w' bx lx (nw S) S ∧ w.grownBy w' (some bx) := by
  have h0 : 0 ≤ (X : Int) + f * (U : Int) * ((B ^ up : Nat) : Int) := by omega
  have H0 := Lib.hid h0
  have HS := Lib.hid hS
  have hX2 : X < B ^ 232 := (nw_le_iff X 232).1 (by omega)
  have HX2 := Lib.hid hX2
  have HS2 := Lib.hid hS2
  have hB : (B : Int) = 1000000000 := rfl
  have HB := Lib.hid hB
  rw [hB] at hf1 hf2
  clear h0 hS hX2 hS2 hB
  go_enter Tryz.func169, Tryz.ntmps169
  go_wp2
  go_loopg [8, 9] 233 (fun k r i wr => ∃ j n : Nat, k + j = 233 ∧ r = .int .i64 (rs X U f up j) ∧ i = .int .i64 j ∧ nw X ≤ n ∧ n ≤ 232 ∧ nw (mix X (st X U f up j) (up + j)) ≤ n ∧
    IsWide wr bx lx n (mix X (st X U f up j) (up + j)) ∧ w.grownBy wr (some bx))
  case atStart => 
    refine ⟨0, nx, rfl, by rw [rs_zero], rfl, hnx, hnx2, ?_, ?_, grown_refl _ _⟩
    · rw [st_zero, mix_self]; exact hnx
    · rw [st_zero, mix_self]; exact hx
  case round =>
    obtain ⟨j, n, hkj, rfl, rfl, h1, h2, h3, h4, h5⟩ := hrel
    have hyr : IsWide wr b_y ly (nw U) U := hy.kept h5 (by simpa using Ne.symm hne)
    have y1 := hyr.c1
    have rb := rs_bd H0.out (by rw [HB.out]; exact hf1) (by rw [HB.out]; exact hf2) j
    rw [HB.out] at rb
    obtain ⟨rb1, rb2⟩ := rb
    have x1 := h4.c1
    have fx := h4.fz
    by_cases hju : j < nw U
    · have hm : up + j < 232 := by omega
      have xw := h4.cw (up + j) hm
      rw [wd_mix_high (Nat.le_refl _), Nat.add_comm up j] at xw
      have yw := hyr.cw j (by omega)
      have fw := fx (2 + (j + up))
      have f1 := fx 1
      clear fx
      have a1 := wd_lt X (j + up)
      have a2 := wd_lt U j
      rw [B_eq] at a1 a2
      have p := mul_bd (f := f) (y := wd U j) hf1 hf2 a2
      obtain ⟨p1, p2⟩ := p
      have Hs := Lib.hid (rs_succ H0.out j)
      have Hw := Lib.hid (wd_succ H0.out j)
      rw [Nat.add_comm up j, HB.out] at Hs Hw
      obtain ⟨s, hs⟩ : ∃ s, (wd X (j + up) : Int) + rs X U f up j + f * (wd U j : Int) = s := ⟨_, rfl⟩
      rw [hs] at Hs Hw
      have s1 : s ≤ 1000000003000000000 := by omega
      have s2 : -1000000003000000000 ≤ s := by omega
      obtain ⟨q, hq⟩ : ∃ q, s.tdiv 1000000000 = q := ⟨_, rfl⟩
      have tq := tdiv_bd s q hq
      obtain ⟨q1, q2, q3⟩ := tq
      go_wp2
      all_goals
        go_roundg (gk - 1)
        case measure => omega
        case rel =>
          refine carry_step (n := n) (s := s) H0.out (by omega) h1 h4 h5 Hs.out Hw.out (by omega) (by omega) (n' := max n (j + up + 1)) (by omega) (by omega) (by omega) (by omega) (by omega)
    · have hw0 : wd U j = 0 := wd_nw (by omega)
      have Hs := Lib.hid (rs_succ H0.out j)
      have Hw := Lib.hid (wd_succ H0.out j)
      rw [hw0, Nat.add_comm up j, HB.out] at Hs Hw
      by_cases hr : rs X U f up j = 0
      · have hr' : (rs X U f up j != 0) = false := by simp [hr]
        have hend := Lib.hid (mix_end H0.out (by omega) hr)
        clear hr
        go_wp2_with fail
        refine (trimmed_any bx n _ lx wr h2 h3 h4).mono ?_
        rintro e w1 ⟨rfl, hw1, hg1⟩
        go_wp2
        go_end0
        have hm : mix X (st X U f up j) (up + j) = S := by
          have := hend.out
          have := HS.out
          omega
        rw [hm] at hw1
        exact ⟨rfl, hw1, grown_trans h5 hg1⟩
      · have hr' : (rs X U f up j != 0) = true := by simp [hr]
        have hm : up + j < 232 := by
          rcases Nat.lt_or_ge (up + j) 232 with h | h
          · exact h
          · exact absurd (rs_far H0.out HX2.out (by have := HS.out; have := HS2.out; omega) (by omega) h) hr
        have xw := h4.cw (up + j) hm
        rw [wd_mix_high (Nat.le_refl _), Nat.add_comm up j] at xw
        have fw := fx (2 + (j + up))
        have f1 := fx 1
        clear fx hr
        have a1 := wd_lt X (j + up)
        rw [B_eq] at a1
        obtain ⟨s, hs⟩ : ∃ s, (wd X (j + up) : Int) + rs X U f up j = s := ⟨_, rfl⟩
        rw [Int.natCast_zero, Int.mul_zero, Int.add_zero, hs] at Hs Hw
        have s1 : s ≤ 3000000000 := by omega
        have s2 : -1000000000 ≤ s := by omega
        obtain ⟨q, hq⟩ : ∃ q, s.tdiv 1000000000 = q := ⟨_, rfl⟩
        have tq := tdiv_bd s q hq
        obtain ⟨q1, q2, q3⟩ := tq
        go_wp2
        all_goals
          go_roundg (gk - 1)
          case measure => omega
          case rel =>
            refine carry_step (n := n) (s := s) H0.out (by omega) h1 h4 h5 Hs.out Hw.out (by omega) (by omega) (n' := max n (j + up + 1)) (by omega) (by omega) (by omega) (by omega) (by omega)

end Go.Proofs.YtgmegfcjbnfnaaaGreatDoor

/- Walks over the integers of whole: beyond. -/
namespace Go.Proofs.YtgmegfcjbnfnaaaGreatDoor
open Go.RowKit Wide

set_option maxHeartbeats 1000000 in
set_option maxRecDepth 100000 in
theorem beyond_any (bx b_y : Nat) (X U : Nat) (lx ly : Bool) (w : World) (hx : IsWide w bx lx (nw X) X) (hy : IsWide w b_y ly (nw U) U) (hX : nw X ≤ 232) (hU : nw U ≤ 232) :
    Calls Tryz.prog 186 #[.pointer (some ⟨bx, 0, none⟩), .pointer (some ⟨b_y, 0, none⟩)] w fun e w' =>
      ∃ r : Int, e = .returned (.int .i64 r) ∧ (0 ≤ r ↔ U ≤ X) ∧ Quiet w w' := by
  have x1 := hx.c1
  have y1 := hy.c1
  by_cases hn : nw X = nw U
  · have hnb : ((nw X : Int) != (nw U : Int)) = false := by simp [hn]
    have Hn := Lib.hid hn
    have HX := Lib.hid hX
    have HU := Lib.hid hU
    clear hn
    go_enter Tryz.func186, Tryz.ntmps186
    go_wp2_with fail
    go_quiet (fail)
    go_wp2
    go_loopg [5] (nw X + 1) (fun k i wr => ∃ m q : Nat, k = m + 1 ∧ m ≤ nw X ∧ i = .int .i64 ((m : Int) - 1) ∧ X / B ^ m = U / B ^ m ∧ wr = w.drewN q)
    case atStart =>
      exact ⟨nw X, nq, rfl, Nat.le_refl _, rfl, by rw [div_nw]; have := Hn.out; rw [this, div_nw], rfl⟩
    case round =>
      obtain ⟨m, q, rfl, hm, rfl, hd, rfl⟩ := hrel
      rcases m with _ | m
      · go_wp2
        go_ret
        refine ⟨0, rfl, ?_, (Quiet.refl w).drewN q⟩
        simp at hd
        omega
      · have xw := hx.cw m (by omega)
        have yw := hy.cw m (by have := Hn.out; omega)
        by_cases he : wd X m = wd U m
        · have hb : ((wd X m : Int) != (wd U m : Int)) = false := by simp [he]
          have He := Lib.hid (div_step hd he)
          clear he hd
          go_wp2_with fail
          go_quiet (fail)
          go_wp2
          go_roundg (m + 1)
          case measure => omega
          case rel => exact ⟨m, _, rfl, by omega, rfl, He.out, rfl⟩
        · have hb : ((wd X m : Int) != (wd U m : Int)) = true := by simp; omega
          have He : Hid (0 ≤ (wd X m : Int) - (wd U m : Int) ↔ U ≤ X) := by
            constructor
            · intro h
              have := lt_of_wd hd.symm (show wd U m < wd X m by omega)
              omega
            · intro h
              have : ¬ wd X m < wd U m := fun h2 => by have := lt_of_wd hd h2; omega
              omega
          have a1 := wd_lt X m
          have a2 := wd_lt U m
          rw [B_eq] at a1 a2
          clear hd he
          go_wp2_with fail
          go_quiet (fail)
          go_wp2_with fail
          go_quiet (fail)
          go_wp2
          go_ret
          exact ⟨_, rfl, He.out, (((Quiet.refl w).drewN _).drewN _).drewN _⟩
  · have hnb : ((nw X : Int) != (nw U : Int)) = true := by simp; omega
    have He : Hid (0 ≤ (nw X : Int) - (nw U : Int) ↔ U ≤ X) := by
      rcases Nat.lt_or_ge (nw X) (nw U) with h | h
      · have := lt_of_nw h
        constructor <;> intro _ <;> omega
      · have := lt_of_nw (show nw U < nw X by omega)
        constructor <;> intro _ <;> omega
    clear hn
    go_enter Tryz.func186, Tryz.ntmps186
    go_wp2_with fail
    go_quiet (fail)
    go_wp2_with fail
    go_quiet (fail)
    go_wp2
    go_ret
    exact ⟨_, rfl, He.out, ((Quiet.refl w).drewN _).drewN _⟩

end Go.Proofs.YtgmegfcjbnfnaaaGreatDoor

/- Walks over the integers of whole: plus. -/
namespace Go.Proofs.YtgmegfcjbnfnaaaGreatDoor
open Go.RowKit Wide

/-- the integer that a sign and a magnitude mean -/
def sv (less : Bool) (v : Nat) : Int := if less then -(v : Int) else (v : Int)

/-- block b is the integer S, of magnitude m at most; nothing else that was there has turned -/
def WideSum (b : Nat) (S : Int) (m : Nat) (w w' : World) : Prop := ∃ (l : Bool) (V : Nat), IsWide w' b l (nw V) V ∧ sv l V = S ∧ V ≤ m ∧ w.grownBy w' (some b)

set_option maxHeartbeats 1000000 in
set_option maxRecDepth 100000 in
theorem plus_any (bx b_y : Nat) (X U : Nat) (lx ly : Bool) (w : World) (hne : bx ≠ b_y) (hx : IsWide w bx lx (nw X) X) (hy : IsWide w b_y ly (nw U) U) (hs : X + U < B ^ 232) :
    Calls Tryz.prog 173 #[.pointer (some ⟨bx, 0, none⟩), .pointer (some ⟨b_y, 0, none⟩)] w fun e w' =>
      e = .returned (.tuple #[]) ∧ WideSum bx (sv lx X + sv ly U) (X + U) w w' := by
  have hX : X < B ^ 232 := by omega
  have hU : U < B ^ 232 := by omega
  have hX2 : nw X ≤ 232 := (nw_le_iff X 232).2 hX
  have hU2 : nw U ≤ 232 := (nw_le_iff U 232).2 hU
  have HX := Lib.hid hX
  have HU := Lib.hid hU
  have HS := Lib.hid hs
  clear hX hU hs
  have x0 := hx.c0
  have y0 := hy.c0
  have b1 : -(B : Int) < 1 := by decide
  have b2 : (1 : Int) < (B : Int) := by decide
  have b3 : -(B : Int) < -1 := by decide
  have b4 : (-1 : Int) < (B : Int) := by decide
  by_cases hl : lx = ly
  · subst hl
    go_enter Tryz.func173, Tryz.ntmps173
    go_wp2_with fail
    go_quiet (fail)
    go_wp2_with fail
    refine (carry_any bx b_y (nw X) X U lx lx 1 0 _ hne (by exact hx) (by exact hy) (Nat.le_refl _) hX2 (by simpa using hU2) b1 b2 (X + U) (by simp) HS.out).mono ?_
    rintro e w1 ⟨rfl, h1, h2⟩
    go_wp2
    go_returns
    exact ⟨rfl, lx, X + U, h1, by unfold sv; split <;> omega, Nat.le_refl _, grown_trans (grown_drewN (grown_refl _ _) _) h2⟩
  · have hlb : (lx == ly) = false := by simpa using hl
    clear hl
    by_cases hge : U ≤ X
    · go_enter Tryz.func173, Tryz.ntmps173
      go_wp2_with fail
      go_quiet (fail)
      go_wp2_with fail
      refine (beyond_any bx b_y X U lx ly _ (by exact hx) (by exact hy) hX2 hU2).mono ?_
      rintro e w1 ⟨r, rfl, hr, ⟨k, rfl⟩⟩
      have hr0 : 0 ≤ r := hr.2 hge
      clear hr
      go_wp2_with fail
      refine (carry_any bx b_y (nw X) X U lx ly (-1) 0 _ hne (by exact hx) (by exact hy) (Nat.le_refl _) hX2 (by simpa using hU2) b3 b4 (X - U) (by simp; omega) (by have := HX.out; omega)).mono ?_
      rintro e w1 ⟨rfl, h1, h2⟩
      go_wp2
      go_returns
      refine ⟨rfl, lx, X - U, h1, ?_, by omega, grown_trans (grown_drewN (grown_refl _ _) _) h2⟩
      cases lx <;> cases ly <;> simp [sv] at hlb ⊢ <;> omega
    · go_enter Tryz.func173, Tryz.ntmps173
      go_wp2_with fail
      go_quiet (fail)
      go_wp2_with fail
      refine (beyond_any bx b_y X U lx ly _ (by exact hx) (by exact hy) hX2 hU2).mono ?_
      rintro e w1 ⟨r, rfl, hr, ⟨k, rfl⟩⟩
      have hr0 : r < 0 := by
        rcases Int.lt_or_le r 0 with h | h
        · exact h
        · exact absurd (hr.1 h) hge
      clear hr
      go_wp2_with (first
        | (refine wpList_loadWide rfl _ rfl b_y ly (nw U) U rfl (by exact hy) ?_)
        | (refine wpList_allocWide rfl rfl ?_)
        | (refine wpList_storeWide rfl _ _ rfl _ false ly 0 0 (nw U) U rfl rfl (IsWide.new _ _ _ _) ?_))
      have hlt := hx.lt
      refine (carry_any w.heap.size bx (nw U) U X ly lx (-1) 0 _ (by omega) (by exact IsWide.setRow (IsWide.new _ _ _ _)) (by exact (IsWide.alloc (by exact hx) _).kept (grown_setRow (grown_refl _ _) _) (by simp; omega)) (Nat.le_refl _) hU2 (by simpa using hX2) b3 b4 (U - X) (by simp; omega) (by have := HU.out; omega)).mono ?_
      rintro e w1 ⟨rfl, h1, h2⟩
      have g1 : w.grownBy w1 none := by
        refine ⟨h2.os, h2.tape, h2.output, ?_, ?_⟩
        · have := h2.size
          simp [World.setRow, World.alloc] at this
          omega
        · intro j hj _
          rw [h2.block j (by simp [World.setRow, World.alloc]; omega) (by simp; omega)]
          have hg := (grown_setRow (w := (w.drewN (nq + k)).alloc (.cells (cellsOf false 0 0) 168)) (b := w.heap.size) (grown_refl _ _) (cellsOf ly (nw U) U)).block j (by simp [World.alloc]; omega) (by simp; omega)
          rw [hg]
          exact Below.heap_alloc _ _ _ hj
      have hx1 : IsWide w1 bx lx (nw X) X := hx.kept g1 (by simp)
      clear h2
      go_wp2_with (first
        | (refine wpList_loadWide rfl _ rfl w.heap.size ly (nw (U - X)) (U - X) rfl h1 ?_)
        | (refine wpList_storeWide rfl _ _ rfl bx lx ly (nw X) X (nw (U - X)) (U - X) rfl rfl hx1 ?_))
      go_returns
      refine ⟨rfl, ly, U - X, hx1.setRow, ?_, by omega, grown_setRow ⟨g1.os, g1.tape, g1.output, g1.size, fun j hj _ => g1.block j hj (by simp)⟩ _⟩
      cases lx <;> cases ly <;> simp [sv] at hlb ⊢ <;> omega

end Go.Proofs.YtgmegfcjbnfnaaaGreatDoor

/- Walks over the integers of whole: times. -/
namespace Go.Proofs.YtgmegfcjbnfnaaaGreatDoor
open Go.RowKit Wide

/-- a new integer at p: S, of magnitude V -/
def WideAt (b : Nat) (l : Bool) (V : Nat) (w w' : World) : Prop := w.heap.size ≤ b ∧ IsWide w' b l (nw V) V ∧ Kept w w'

set_option maxHeartbeats 1000000 in
set_option maxRecDepth 100000 in
theorem times_any (bx b_y : Nat) (X U : Nat) (lx ly : Bool) (w : World) (hx : IsWide w bx lx (nw X) X) (hy : IsWide w b_y ly (nw U) U) (hn : nw X + nw U ≤ 232) (hs : X * U < B ^ 232) :
    Calls Tryz.prog 143 #[.pointer (some ⟨bx, 0, none⟩), .pointer (some ⟨b_y, 0, none⟩)] w fun e w' =>
      ∃ b, e = .returned (.pointer (some ⟨b, 0, none⟩)) ∧ WideAt b (lx != ly) (X * U) w w' := by
  have hxl := hx.lt
  have hyl := hy.lt
  have x0 := hx.c0
  have y0 := hy.c0
  have HS := Lib.hid hs
  clear hs
  go_enter Tryz.func143, Tryz.ntmps143
  go_wp2_with fail
  go_still_tail 9, (by kernel_rfl)
  change wpList _ _ _ _ _ w.drew
  have g0 : Kept w w.drew := (Kept.refl w).drew
  have hx1 : IsWide w.drew bx lx (nw X) X := hx
  have hy1 : IsWide w.drew b_y ly (nw U) U := hy
  have hz : w.heap.size = w.drew.heap.size := rfl
  generalize w.drew = w2 at *
  have y1 : ∀ o, (w2.alloc o).cell? ⟨b_y, 1, none⟩ = some (.int .i64 (nw U)) := fun o => (hy1.alloc o).c1
  go_wp2_with (first
    | (refine wpList_buildWide rfl _ rfl (lx != ly) (by first | rfl | simp) ?_)
    | (refine wpList_boxWide rfl _ rfl _ rfl ?_))
  have hb := IsWide.new w2 (lx != ly) 0 0
  have hx2 := hx1.alloc (.cells (cellsOf (lx != ly) 0 0) 168)
  have hy2 := hy1.alloc (.cells (cellsOf (lx != ly) 0 0) 168)
  have g1 : Kept w (w2.alloc (.cells (cellsOf (lx != ly) 0 0) 168)) := g0.alloc _
  clear y1 x0 y0 hx1 hy1 hx hy
  generalize w2.alloc (.cells (cellsOf (lx != ly) 0 0) 168) = w3 at *
  have hlb := hb.lt
  generalize w2.heap.size = b at hb hz hlb ⊢
  have hbx : bx ≠ b := by omega
  have hby : b_y ≠ b := by omega
  go_loopg [22] (nw U + 1) (fun k i wr => ∃ j : Nat, k + j = nw U + 1 ∧ j ≤ nw U ∧ i = .int .i64 j ∧ IsWide wr b (lx != ly) (nw (prt X U j)) (prt X U j) ∧ w3.grownBy wr (some b))
  case atStart => exact ⟨0, rfl, Nat.zero_le _, rfl, by rw [prt_zero, nw_zero]; exact hb, grown_refl _ _⟩
  case round =>
    obtain ⟨j, hkj, hj, rfl, h1, h2⟩ := hrel
    have hxr := hx2.kept h2 (by simpa using hbx)
    have hyr := hy2.kept h2 (by simpa using hby)
    by_cases hju : j < nw U
    · have yw := hyr.cw j (by omega)
      have a2 := wd_lt U j
      have hle := prt_le X U j
      have hle2 := prt_le X U (j + 1)
      have hS := HS.out
      have n1 : nw (prt X U j) ≤ 232 := (nw_le_iff _ 232).2 (by omega)
      have s2 : prt X U (j + 1) < B ^ 232 := by omega
      have N1 := Lib.hid n1
      have S2 := Lib.hid s2
      have S1 := Lib.hid (prt_succ X U j)
      clear hle hle2 hS n1 s2
      go_wp2_with fail
      refine (carry_any b bx (nw (prt X U j)) (prt X U j) X (lx != ly) lx (wd U j : Int) j wr (Ne.symm hbx) h1 hxr (Nat.le_refl _) N1.out (by omega) (wd_lo U j) (wd_hi U j) (prt X U (j + 1)) S1.out S2.out).mono ?_
      rintro e w1 ⟨rfl, k1, k2⟩
      go_wp2
      go_roundg (gk - 1)
      case measure => omega
      case rel => exact ⟨j + 1, by omega, by omega, by go_num, k1, grown_trans h2 k2⟩
    · have hj' : j = nw U := by omega
      subst hj'
      rw [prt_all (Nat.le_refl _)] at h1
      go_wp2
      go_returns
      exact ⟨b, rfl, by omega, h1, g1.own h2 (by omega)⟩

end Go.Proofs.YtgmegfcjbnfnaaaGreatDoor

/- Walks over the integers of whole: estimate. -/
namespace Go.Proofs.YtgmegfcjbnfnaaaGreatDoor
open Go.RowKit Wide

set_option maxHeartbeats 1000000 in
set_option maxRecDepth 100000 in
theorem top_any (b X i : Nat) (l : Bool) (w : World) (hx : IsWide w b l (nw X) X) (hi : i < 232) :
    Calls Tryz.prog 207 #[.pointer (some ⟨b, 0, none⟩), .int .i64 i] w fun e w' => e = .returned (.int .i64 (wd X i)) ∧ w' = w := by
  have x1 := hx.c1
  have xw := hx.cw i hi
  by_cases h : i < nw X
  · go_enter Tryz.func207, Tryz.ntmps207
    go_wp2
    go_returns
    exact ⟨rfl, rfl⟩
  · have hw : wd X i = 0 := wd_nw (by omega)
    have Hw := Lib.hid hw
    clear hw xw
    go_enter Tryz.func207, Tryz.ntmps207
    go_wp2
    go_returns
    exact ⟨by rw [Hw.out]; rfl, rfl⟩

theorem est_cast (a b c : Nat) : (((a * 1000000000 + b) / (c + 1) : Nat) : Int) = ((a : Int) * 1000000000 + (b : Int)) / ((c : Int) + 1) := by
  rw [Int.natCast_ediv, Int.natCast_add, Int.natCast_mul, Int.natCast_add]; rfl
theorem est_cast0 (a b c : Nat) : (((a * 1000000000 + b) / c : Nat) : Int) = ((a : Int) * 1000000000 + (b : Int)) / (c : Int) := by
  rw [Int.natCast_ediv, Int.natCast_add, Int.natCast_mul]; rfl
theorem est_min (q : Int) (hq : 0 < q) : 1 ≤ min q 999999999 ∧ min q 999999999 ≤ 999999999 ∧ min q 999999999 ≤ q := by omega

/-- how often U may be taken from X -/
def EstOk (X U : Nat) (k : Int) : Prop := ∃ n : Nat, k = n ∧ 1 ≤ n ∧ n ≤ 999999999 ∧ n * U ≤ X

set_option maxHeartbeats 1000000 in
set_option maxRecDepth 100000 in
theorem estimate_any (bx b_y X U : Nat) (lx ly : Bool) (w : World) (hx : IsWide w bx lx (nw X) X) (hy : IsWide w b_y ly (nw U) U) (hU0 : U ≠ 0) (hUX : U ≤ X) (hXU : X < B * U) (hu : nw U ≤ 231) :
    Calls Tryz.prog 187 #[.pointer (some ⟨bx, 0, none⟩), .pointer (some ⟨b_y, 0, none⟩)] w fun e w' =>
      ∃ k : Int, e = .returned (.int .i64 k) ∧ EstOk X U k ∧ Quiet w w' := by
  obtain ⟨n, hnw⟩ := nw_ne hU0
  have y1 := hy.c1
  have a1 := wd_lt X (n + 1)
  have a2 := wd_lt X n
  have a3 := wd_lt U n
  rw [B_eq] at a1 a2 a3
  have t1 : ∀ k, Calls Tryz.prog 207 #[.pointer (some ⟨bx, 0, none⟩), .int .i64 ((n : Int) + 1)] (w.drewN k) fun e w' => e = .returned (.int .i64 (wd X (n + 1))) ∧ w' = w.drewN k :=
    fun k => top_any bx X (n + 1) lx _ (by exact hx) (by omega)
  have T1 := Lib.hid t1
  clear t1
  rw [hnw] at y1
  have e1 : IntKind.i64.wrap ((wd X (n + 1) : Int) * 1000000000) = (wd X (n + 1) : Int) * 1000000000 := by rw [IntKind.wrap_i64]; omega
  have e2 : IntKind.i64.wrap ((wd X (n + 1) : Int) * 1000000000 + (wd X n : Int)) = (wd X (n + 1) : Int) * 1000000000 + (wd X n : Int) := by rw [IntKind.wrap_i64]; omega
  have e3 : IntKind.i64.wrap (((n + 1 : Nat) : Int) - 1) = (n : Int) := by rw [IntKind.wrap_i64]; omega
  go_enter Tryz.func187, Tryz.ntmps187
  go_wp2_with fail
  go_quiet ((first
    | (go_at_call_of 207 (Value.pointer (some ⟨b_y, 0, none⟩)); exact Calls.quiet_of_same (top_any b_y U n ly _ (by exact hy) (by omega)))
    | (go_at_call_of 207 (Value.int .i64 (n : Int)); exact Calls.quiet_of_same (top_any bx X n lx _ (by exact hx) (by omega)))
    | (go_at_call 207; exact Calls.quiet_of_same (T1.out _))))
  have hX2 := lt_top hnw hXU
  have ht := two_top hX2
  have hD : Hid (X / B ^ n = wd X (n + 1) * 1000000000 + wd X n) := by rw [ht]; rfl
  clear ht hX2 e1 e2 e3 T1
  by_cases h1 : n = 0
  · subst h1
    have a1' : wd X 1 < 1000000000 := a1
    clear a1
    have hone := one_word hnw
    have hq : Hid (∀ q : Nat, q ≤ (wd X 1 * 1000000000 + wd X 0) / wd U 0 → q * U ≤ X) := by
      intro q hq
      have hD' : X / B ^ 0 = wd X 1 * 1000000000 + wd X 0 := hD.out
      rw [← hD'] at hq
      exact est_le (by rw [hone]; simp) hq
    have hu1 : 1 ≤ wd U 0 := by omega
    clear hone
    obtain ⟨q, hqe⟩ : ∃ q : Nat, (wd X 1 * 1000000000 + wd X 0) / wd U 0 = q := ⟨_, rfl⟩
    have hqi : ((wd X 1 : Int) * 1000000000 + (wd X 0 : Int)) / (wd U 0 : Int) = (q : Int) := by rw [← hqe]; exact (est_cast0 _ _ _).symm
    rw [hqe] at hq
    clear hqe
    go_wp2
    all_goals go_returns
    · exact ⟨_, rfl, ⟨999999999, rfl, by omega, by omega, hq.out _ (by omega)⟩, (Quiet.refl w).drewN _⟩
    · exact ⟨_, rfl, ⟨q, rfl, by omega, by omega, hq.out _ (Nat.le_refl _)⟩, (Quiet.refl w).drewN _⟩
    · exact ⟨_, rfl, ⟨1, rfl, by omega, by omega, by omega⟩, (Quiet.refl w).drewN _⟩
  · have htop := top_le hnw
    have hq : Hid (∀ q : Nat, q ≤ (wd X (n + 1) * 1000000000 + wd X n) / (wd U n + 1) → q * U ≤ X) := by
      intro q hq
      rw [← hD.out] at hq
      exact est_le (by omega) hq
    clear htop
    obtain ⟨q, hqe⟩ : ∃ q : Nat, (wd X (n + 1) * 1000000000 + wd X n) / (wd U n + 1) = q := ⟨_, rfl⟩
    have hqi : ((wd X (n + 1) : Int) * 1000000000 + (wd X n : Int)) / ((wd U n : Int) + 1) = (q : Int) := by rw [← hqe]; exact (est_cast _ _ _).symm
    rw [hqe] at hq
    clear hqe
    go_wp2
    all_goals go_returns
    · exact ⟨_, rfl, ⟨999999999, rfl, by omega, by omega, hq.out _ (by omega)⟩, (Quiet.refl w).drewN _⟩
    · exact ⟨_, rfl, ⟨q, rfl, by omega, by omega, hq.out _ (Nat.le_refl _)⟩, (Quiet.refl w).drewN _⟩
    · exact ⟨_, rfl, ⟨1, rfl, by omega, by omega, by omega⟩, (Quiet.refl w).drewN _⟩

end Go.Proofs.YtgmegfcjbnfnaaaGreatDoor

/- Words of 10^9: shifts and long division; plain arithmetic, no program. -/
namespace Go.Proofs.YtgmegfcjbnfnaaaGreatDoor.Wide

theorem wd_shift0 {v d : Nat} (hd : d < B) : wd (v * B + d) 0 = d := by
  unfold wd
  rw [Nat.pow_zero, Nat.div_one, Nat.add_comm, Nat.add_mul_mod_self_right, Nat.mod_eq_of_lt hd]
theorem wd_shift {v d : Nat} (hd : d < B) (k : Nat) : wd (v * B + d) (k + 1) = wd v k := by
  have h : (v * B + d) / B = v := by rw [Nat.add_comm, Nat.add_mul_div_right _ _ B_pos, Nat.div_eq_of_lt hd]; omega
  unfold wd
  rw [Nat.pow_succ, Nat.mul_comm (B ^ k), ← Nat.div_div_eq_div_mul, h]
theorem shift_lt {v d n : Nat} (h : v < B ^ n) (hd : d < B) : v * B + d < B ^ (n + 1) := by
  rw [Nat.pow_succ]
  have : (v + 1) * B ≤ B ^ n * B := Nat.mul_le_mul_right _ h
  rw [Nat.add_mul] at this
  omega
theorem nw_shift {v d : Nat} (hd : d < B) : nw (v * B + d) ≤ nw v + 1 := by
  rw [nw_le_iff]; exact shift_lt (lt_nw v) hd

/-- what is left of the first words -/
def rem (X Y m : Nat) : Nat := X / B ^ m % Y
/-- the quotient's words, in their places -/
def quo (X Y m : Nat) : Nat := X / B ^ m / Y * B ^ m

theorem rem_top {X Y m : Nat} (h : nw X ≤ m) : rem X Y m = 0 := by
  unfold rem; rw [Nat.div_eq_of_lt ((nw_le_iff X m).1 h)]; simp
theorem quo_top {X Y m : Nat} (h : nw X ≤ m) : quo X Y m = 0 := by
  unfold quo; rw [Nat.div_eq_of_lt ((nw_le_iff X m).1 h)]; simp
theorem rem_zero (X Y : Nat) : rem X Y 0 = X % Y := by unfold rem; simp
theorem quo_zero (X Y : Nat) : quo X Y 0 = X / Y := by unfold quo; simp

theorem step_div {X Y i : Nat} (hY : 0 < Y) : X / B ^ i / Y = X / B ^ (i + 1) / Y * B + (rem X Y (i + 1) * B + wd X i) / Y := by
  have h1 := wd_div X i
  have h2 := Nat.div_add_mod (X / B ^ (i + 1)) Y
  unfold rem
  have h3 : X / B ^ i = (X / B ^ (i + 1) % Y * B + wd X i) + (X / B ^ (i + 1) / Y * B) * Y := by
    rw [h1]
    conv => lhs; rw [← h2]
    rw [Nat.mul_add, Nat.mul_comm B (X / B ^ (i + 1) % Y)]
    have e : B * (Y * (X / B ^ (i + 1) / Y)) = X / B ^ (i + 1) / Y * B * Y := by
      rw [Nat.mul_comm Y, ← Nat.mul_assoc, Nat.mul_comm B]
    omega
  rw [h3, Nat.add_mul_div_right _ _ hY]
  omega
theorem step_mod {X Y i : Nat} : rem X Y i = (rem X Y (i + 1) * B + wd X i) % Y := by
  have h1 := wd_div X i
  unfold rem
  rw [h1, Nat.add_mod, Nat.mul_mod B, Nat.mul_comm (B % Y), ← Nat.mul_mod_mod, ← Nat.add_mod]
  rw [Nat.add_comm]
  conv => rhs; rw [Nat.add_mod, Nat.mul_mod]
  conv => lhs; rw [Nat.add_mod]
  simp

theorem rem_lt {X Y m : Nat} (hY : 0 < Y) : rem X Y m < Y := Nat.mod_lt _ hY
theorem shift_lt_mul {R Y d : Nat} (h : R < Y) (hd : d < B) : R * B + d < B * Y := by
  have : (R + 1) * B ≤ Y * B := Nat.mul_le_mul_right _ h
  rw [Nat.add_mul] at this
  rw [Nat.mul_comm B]; omega

theorem wd_mul_low {a m j : Nat} (h : j < m) : wd (a * B ^ m) j = 0 := by
  rw [← wd_low h, Nat.mul_mod_left]
  exact wd_zero (Bp_pos j)
theorem wd_mul_high (a m k : Nat) : wd (a * B ^ m) (m + k) = wd a k := by
  rw [← wd_high, Nat.mul_div_cancel _ (Bp_pos m)]

/-- one word of the quotient is laid -/
theorem wd_quo {X Y i : Nat} (hY : 0 < Y) (hd : (rem X Y (i + 1) * B + wd X i) / Y < B) (j : Nat) :
    wd (quo X Y i) j = if j = i then (rem X Y (i + 1) * B + wd X i) / Y else wd (quo X Y (i + 1)) j := by
  unfold quo
  rw [step_div hY]
  generalize (rem X Y (i + 1) * B + wd X i) / Y = d at hd
  generalize X / B ^ (i + 1) / Y = q
  by_cases hj : j < i
  · rw [if_neg (by omega), wd_mul_low hj, wd_mul_low (by omega)]
  · obtain ⟨k, rfl⟩ : ∃ k, j = i + k := ⟨j - i, by omega⟩
    rw [wd_mul_high]
    cases k with
    | zero => rw [if_pos (by omega), wd_shift0 hd]
    | succ k => rw [if_neg (by omega), wd_shift hd, show i + (k + 1) = (i + 1) + k by omega, wd_mul_high]

theorem nw_le_of_words {v n : Nat} (h : ∀ j, n ≤ j → wd v j = 0) : nw v ≤ n := by
  rcases Nat.lt_or_ge n (nw v) with h1 | h1
  · obtain ⟨k, hk⟩ : ∃ k, nw v = k + 1 := ⟨nw v - 1, by omega⟩
    exact absurd (h k (by omega)) (wd_top hk)
  · exact h1
theorem quo_nw {X Y m nq : Nat} (hY : 0 < Y) (hd : (rem X Y (m + 1) * B + wd X m) / Y < B) (h : nw (quo X Y (m + 1)) ≤ nq) : nw (quo X Y m) ≤ max nq (m + 1) := by
  refine nw_le_of_words fun j hj => ?_
  rw [wd_quo hY hd, if_neg (by omega)]
  exact wd_nw (by omega)
theorem div_of_le {V Y D : Nat} (h1 : D * Y ≤ V) (h2 : V - D * Y < Y) : D = V / Y ∧ V - D * Y = V % Y := by
  have e : V = (V - D * Y) + D * Y := by omega
  have h3 : V / Y = D := by
    rw [e, Nat.add_mul_div_right _ _ (by omega), Nat.div_eq_of_lt h2]; omega
  refine ⟨h3.symm, ?_⟩
  conv => rhs; rw [e]
  rw [Nat.add_mul_mod_self_right, Nat.mod_eq_of_lt h2]

end Go.Proofs.YtgmegfcjbnfnaaaGreatDoor.Wide

/- Integers of whole in memory: the words moved up by one place. -/
namespace Go.Proofs.YtgmegfcjbnfnaaaGreatDoor
open Go.RowKit Wide

theorem cellsOf_ext {l : Bool} {n v : Nat} {c : Array Value} (hs : c.size = 234) (h0 : c[0]? = some (.bool l)) (h1 : c[1]? = some (.int .i64 n))
    (hw : ∀ i, i < 232 → c[2 + i]? = some (.int .i64 (wd v i : Nat))) : c = cellsOf l n v := by
  apply Array.ext_getElem?
  intro j
  rcases j with _ | _ | j
  · rw [cellsOf_0]; exact h0
  · rw [cellsOf_1]; exact h1
  · rw [show j + 1 + 1 = 2 + j by omega]
    by_cases hj : j < 232
    · rw [cellsOf_w _ _ _ _ hj, hw j hj]
    · rw [Array.getElem?_eq_none (by omega), Array.getElem?_eq_none (by rw [cellsOf_size]; omega)]

/-- the first n words, one place higher -/
def up1 (n v : Nat) : List Value := (List.range n).map fun i => Value.int .i64 (wd v i : Nat)
theorem up1_length (n v : Nat) : (up1 n v).length = n := by simp [up1]
theorem up1_get (n v i : Nat) (h : i < n) : (up1 n v)[i]? = some (.int .i64 (wd v i : Nat)) := by simp [up1, h]

theorem shift_cells {l : Bool} {n v : Nat} (hn : n ≤ 231) (hv : nw v ≤ n) :
    ((cellsOf l n v).toList.take 3 ++ (up1 n v ++ (cellsOf l n v).toList.drop (3 + (up1 n v).length))).toArray = cellsOf l n (v * B + wd v 0) := by
  have hd := wd_lt v 0
  have hl : (cellsOf l n v).toList.length = 234 := by rw [Array.length_toList, cellsOf_size]
  have ht : ((cellsOf l n v).toList.take 3).length = 3 := by rw [List.length_take, hl]; rfl
  have hold : ∀ i, (cellsOf l n v).toList[i]? = (cellsOf l n v)[i]? := fun i => by rw [Array.getElem?_toList]
  have hlow : ∀ i, i < 3 → ((cellsOf l n v).toList.take 3 ++ (up1 n v ++ (cellsOf l n v).toList.drop (3 + (up1 n v).length))).toArray[i]? = (cellsOf l n v)[i]? := by
    intro i hi
    rw [List.getElem?_toArray, List.getElem?_append_left (by omega), List.getElem?_take_of_lt hi, hold]
  have hhigh : ∀ i, ((cellsOf l n v).toList.take 3 ++ (up1 n v ++ (cellsOf l n v).toList.drop (3 + (up1 n v).length))).toArray[3 + i]? = if i < n then (up1 n v)[i]? else (cellsOf l n v)[3 + i]? := by
    intro i
    rw [List.getElem?_toArray, List.getElem?_append_right (by omega), ht, show 3 + i - 3 = i by omega]
    by_cases hi : i < n
    · rw [if_pos hi, List.getElem?_append_left (by rw [up1_length]; exact hi)]
    · rw [if_neg hi, List.getElem?_append_right (by rw [up1_length]; omega), up1_length, List.getElem?_drop, hold, show 3 + n + (i - n) = 3 + i by omega]
  refine cellsOf_ext ?_ ?_ ?_ ?_
  · simp only [List.size_toArray, List.length_append, List.length_drop, ht, hl, up1_length]; omega
  · rw [hlow 0 (by omega), cellsOf_0]
  · rw [hlow 1 (by omega), cellsOf_1]
  · intro i hi
    rcases i with _ | i
    · rw [hlow (2 + 0) (by omega), cellsOf_w _ _ _ _ hi, wd_shift0 hd]
    · rw [wd_shift hd, show 2 + (i + 1) = 3 + i by omega, hhigh]
      by_cases hin : i < n
      · rw [if_pos hin, up1_get _ _ _ hin]
      · rw [if_neg hin, show 3 + i = 2 + (i + 1) by omega, cellsOf_w _ _ _ _ hi, wd_nw (show nw v ≤ i + 1 by omega), wd_nw (show nw v ≤ i by omega)]

theorem int_size : (Tryz.prog.info? 3).map (·.size) = some 1 := by kernel_rfl

section
variable {ops : Array Oper} {rest : List Oper} {o : Oper} {a : Act} {w : World} {Q : Exit → Act → World → Prop}
theorem wpList_shiftWide (hg : o.guard = none) (d s : Operand) (ho : o.op = .call { callee := .builtin .copy, args := #[d, s], argTypes := #[22, 22] }) (b : Nat) (l : Bool) (n v dCap sCap : Nat)
    (hd : a.eval d = .slice (some ⟨b, 3, none⟩) 231 dCap) (hs : a.eval s = .slice (some ⟨b, 2, none⟩) n sCap) (hb : IsWide w b l n v) (hn : n ≤ 231) (hv : nw v ≤ n)
    (h : wpList Tryz.prog ops Q rest (a.put o.dst (goInt n)) (w.setRow b (cellsOf l n (v * B + wd v 0)))) : wpList Tryz.prog ops Q (o :: rest) a w := by
  refine wpList_copy_own hg d s _ _ ho 3 Tryz.underlying22 int_size b 3 231 dCap ⟨b, 2, none⟩ n sCap hd hs (cellsOf l n v) 168 hb (up1 n v) ?_ ?_ ?_ ?_ ?_
  · rw [up1_length]; exact (Nat.min_eq_left hn).symm
  · intro j u hj
    have hjn : j < n := by
      rcases Nat.lt_or_ge j n with h | h
      · exact h
      · rw [List.getElem?_eq_none (by rw [up1_length]; exact h)] at hj; cases hj
    have hadd : (⟨b, 2, none⟩ : Addr).add j = ⟨b, 2 + j, none⟩ := by unfold Addr.add; split <;> simp_all
    rw [hadd, hb.cw j (by omega), ← hj, up1_get _ _ _ hjn]
  · rw [up1_length, cellsOf_size]; omega
  · intro u hu
    simp only [up1, List.mem_map] at hu
    obtain ⟨i, _, rfl⟩ := hu
    rfl
  · rw [shift_cells hn hv, up1_length]; exact h
end

end Go.Proofs.YtgmegfcjbnfnaaaGreatDoor

/- Walks over the integers of whole: divided. -/
namespace Go.Proofs.YtgmegfcjbnfnaaaGreatDoor
open Go.RowKit Wide

/-- two new integers: the quotient and the rest -/
def DivAt (bq br : Nat) (Q R : Nat) (w w' : World) : Prop := w.heap.size ≤ bq ∧ w.heap.size ≤ br ∧ bq ≠ br ∧ IsWide w' bq false (nw Q) Q ∧ IsWide w' br false (nw R) R ∧ Kept w w'

theorem div_cell {w : World} {b n v v' k m : Nat} {d x : Int} (h : IsWide w b false n v) (hk : k < 232) (hd : d = (wd v' k : Nat)) (hv : ∀ j, wd v' j = if j = k then wd v' k else wd v j) (hx : x = (m : Int)) :
    IsWide ((w.setCell ⟨b, 2 + k, none⟩ (.int .i64 d)).setCell ⟨b, 1, none⟩ (.int .i64 x)) b false m v' := by
  subst hx
  exact (h.setW hd hv hk).set1 m

set_option maxHeartbeats 2000000 in
set_option maxRecDepth 100000 in
theorem divided_any (bx b_y X Y : Nat) (lx ly : Bool) (w : World) (hx : IsWide w bx lx (nw X) X) (hy : IsWide w b_y ly (nw Y) Y) (hY0 : Y ≠ 0) (hX : nw X ≤ 230) (hY : nw Y ≤ 230) :
    Calls Tryz.prog 164 #[.pointer (some ⟨bx, 0, none⟩), .pointer (some ⟨b_y, 0, none⟩)] w fun e w' =>
      ∃ bq br, e = .returned (.tuple #[.pointer (some ⟨bq, 0, none⟩), .pointer (some ⟨br, 0, none⟩)]) ∧ DivAt bq br (X / Y) (X % Y) w w' := by
  have hxl := hx.lt
  have hyl := hy.lt
  have x1 : ∀ o1 o2, ((w.alloc o1).alloc o2).cell? ⟨bx, 1, none⟩ = some (.int .i64 (nw X)) := fun o1 o2 => ((hx.alloc o1).alloc o2).c1
  have hYp : 0 < Y := by omega
  go_enter Tryz.func164, Tryz.ntmps164
  go_wp2_with (first
    | (refine wpList_buildWide0 rfl rfl ?_)
    | (refine wpList_boxWide rfl _ rfl _ rfl ?_))
  have hq := (IsWide.new w false 0 0).alloc (.cells (cellsOf false 0 0) 168)
  have hr := IsWide.new (w.alloc (.cells (cellsOf false 0 0) 168)) false 0 0
  have g0 : Kept w ((w.alloc (.cells (cellsOf false 0 0) 168)).alloc (.cells (cellsOf false 0 0) 168)) := ((Kept.refl w).alloc _).alloc _
  clear x1
  simp only [World.size_alloc] at hr
  generalize (w.alloc (.cells (cellsOf false 0 0) 168)).alloc (.cells (cellsOf false 0 0) 168) = w3 at *
  have hbne : w.heap.size ≠ w.heap.size + 1 := by omega
  have hbl : w.heap.size ≤ w.heap.size + 1 := by omega
  obtain ⟨br, hbr⟩ : ∃ br, br = w.heap.size + 1 := ⟨_, rfl⟩
  rw [← hbr] at hr hbne hbl ⊢
  clear hbr
  obtain ⟨bq, hbq⟩ : ∃ bq, bq = w.heap.size := ⟨_, rfl⟩
  have hql : w.heap.size ≤ bq := by omega
  have hrl : w.heap.size ≤ br := by omega
  rw [← hbq] at hq hbne ⊢
  clear hbq hbl
  go_loopg [8] (nw X + 1) (fun k i wr => ∃ m nq : Nat, k = m + 1 ∧ m ≤ nw X ∧ i = .int .i64 ((m : Int) - 1) ∧ nw (quo X Y m) ≤ nq ∧ nq ≤ 232 ∧ IsWide wr bq false nq (quo X Y m) ∧ IsWide wr br false (nw (rem X Y m)) (rem X Y m) ∧ Kept w wr)
  case atStart => exact ⟨nw X, 0, rfl, Nat.le_refl _, rfl, by rw [quo_top (Nat.le_refl _), nw_zero]; omega, by omega, by rw [quo_top (Nat.le_refl _)]; exact hq, by rw [rem_top (Nat.le_refl _), nw_zero]; exact hr, g0⟩
  case round =>
    obtain ⟨m, nq, rfl, hm, rfl, hq1, hq2, hq3, hr3, hk⟩ := hrel
    rcases m with _ | m
    · go_wp2_with fail
      refine (trimmed_any bq nq (quo X Y 0) false wr hq2 hq1 hq3).mono ?_
      rintro e w1 ⟨rfl, h1, h2⟩
      go_wp2
      go_returns
      rw [quo_zero] at h1
      rw [rem_zero] at hr3
      exact ⟨bq, br, rfl, hql, hrl, hbne, h1, hr3.kept h2 (by simp; omega), hk.own h2 hql⟩
    · have hxr := hx.keep hk
      have hyr := hy.keep hk
      have xw := hxr.cw m (by omega)
      have r1 := hr3.c1
      have hrn : nw (rem X Y (m + 1)) ≤ 230 := Nat.le_trans (nw_mono (Nat.le_of_lt (rem_lt hYp))) hY
      obtain ⟨R, hR⟩ : ∃ R, R = rem X Y (m + 1) := ⟨_, rfl⟩
      rw [← hR] at hr3 r1 hrn
      have HR := Lib.hid hR
      clear hR
      have i1 : (0 : Int) ≤ (nw R : Int) := by omega
      have i2 : (nw R : Int) ≤ 232 := by omega
      go_wp2_with fail
      go_still_tail 12, (by kernel_rfl)
      change wpList _ _ _ _ _ wr.drew
      go_wp2_with (refine wpList_shiftWide rfl _ _ rfl br false (nw R) R 231 232 rfl rfl (by exact hr3) (by omega) (Nat.le_refl _) ?_)
      have h5 : IsWide (wr.drew.setRow br (cellsOf false (nw R) (R * B + wd R 0))) br false (nw R) (R * B + wd R 0) := IsWide.setRow (by exact hr3)
      have g5 : wr.grownBy (wr.drew.setRow br (cellsOf false (nw R) (R * B + wd R 0))) (some br) := grown_setRow (grown_drew (grown_refl _ _)) _
      have k5 : Kept w (wr.drew.setRow br (cellsOf false (nw R) (R * B + wd R 0))) := hk.own g5 hrl
      generalize wr.drew.setRow br (cellsOf false (nw R) (R * B + wd R 0)) = w5 at *
      have hq5 := hq3.kept g5 (by simp; exact hbne)
      have xw5 := (hx.keep k5).cw m (by omega)
      have r5 := h5.c1
      have f5 := h5.fz 2
      have f51 := h5.fz 1
      have c52 := h5.cw 0 (by omega)
      clear xw r1 hr3 hq3 hxr hyr i2
      have m1 : (0 : Int) ≤ (m : Int) := by omega
      have m2 : (m : Int) < 232 := by omega
      go_still_tail 10, (by kernel_rfl)
      change wpList _ _ _ _ _ w5.drew
      obtain ⟨V, hV⟩ : ∃ V, V = R * B + wd X m := ⟨_, rfl⟩
      have hdm := wd_lt X m
      have h6 : IsWide (((w5.setCell ⟨br, 2, none⟩ (.int .i64 (wd X m))).setCell ⟨br, 1, none⟩ (.int .i64 ((nw R : Int) + 1))).drew) br false (nw R + 1) V := by
        rw [hV]
        exact ((h5.setW (k := 0) (v' := R * B + wd X m) (by rw [wd_shift0 hdm]) (fun j => by
          rcases j with _ | j
          · rw [if_pos rfl]
          · rw [if_neg (by omega), wd_shift hdm, wd_shift (wd_lt R 0)]) (by omega)).set1 (nw R + 1)).drewN 1
      have g6 : w5.grownBy (((w5.setCell ⟨br, 2, none⟩ (.int .i64 (wd X m))).setCell ⟨br, 1, none⟩ (.int .i64 ((nw R : Int) + 1))).drew) (some br) :=
        grown_drew (grown_setCell (grown_setCell (grown_refl _ _) _ _) _ _)
      have hVn : nw V ≤ nw R + 1 := by rw [hV]; exact nw_shift hdm
      have hVlt : V < B * Y := by rw [hV]; exact shift_lt_mul (by rw [HR.out]; exact rem_lt hYp) hdm
      have HV := Lib.hid hV
      have HVlt := Lib.hid hVlt
      have HVn := Lib.hid hVn
      clear hV hVlt hVn hdm
      go_wp2_with fail
      refine (trimmed_any br (nw R + 1) V false _ (by omega) HVn.out h6).mono ?_
      rintro e w6 ⟨rfl, h7, g7⟩
      have hq7 := hq5.kept (grown_trans g6 g7) (by simp; exact hbne)
      have k7 := k5.own (grown_trans g6 g7) hrl
      clear h6 g6 h5 g5 r5 f5 f51 c52 hq5 k5 g7 xw5
      go_wp2_with fail
      go_loopg [9] (V + 1) (fun k d wr2 => ∃ D : Nat, d = .int .i64 D ∧ D * Y ≤ V ∧ k + D * Y = V + 1 ∧ IsWide wr2 br false (nw (V - D * Y)) (V - D * Y) ∧ IsWide wr2 bq false nq (quo X Y (m + 1)) ∧ Kept w wr2)
      case atStart => exact ⟨0, rfl, by simp, by simp, by simpa using h7, hq7, k7⟩
      case round =>
        obtain ⟨D, rfl, hD, hkD, hr8, hq8, hk8⟩ := hrel
        have hDB : D < B := by
          have := HVlt.out
          exact Nat.lt_of_mul_lt_mul_right (a := Y) (by omega)
        have hDb : D ≤ 1000000000 := by rw [B_eq] at hDB; omega
        have hy8 := hy.keep hk8
        obtain ⟨W, hW⟩ : ∃ W, W = V - D * Y := ⟨_, rfl⟩
        rw [← hW] at hr8
        have hWn : nw W ≤ 231 := by
          have h1 := HVn.out
          have h2 : nw W ≤ nw V := nw_mono (by omega)
          omega
        have HDB := Lib.hid hDB
        have HW := Lib.hid hW
        have HkD := Lib.hid hkD
        have HD := Lib.hid hD
        clear hDB hW hkD hD
        by_cases hge : Y ≤ W
        · go_wp2_with fail
          refine (beyond_any br b_y W Y false ly _ hr8 hy8 (by omega) (by omega)).mono ?_
          rintro e w9 ⟨r, rfl, hr, q9⟩
          have hr0 : 0 ≤ r := hr.2 hge
          clear hr
          have kq9 := q9.kept
          have hr9 := hr8.keep kq9
          have hy9 := hy8.keep kq9
          have hq9 := hq8.keep kq9
          have k9 := hk8.trans kq9
          have hWlt : Hid (W < B * Y) := by have := HVlt.out; have := HW.out; show W < B * Y; omega
          clear q9 kq9 hr8 hy8 hq8 hk8
          go_wp2_with fail
          refine (estimate_any br b_y W Y false ly w9 hr9 hy9 hY0 hge hWlt.out (by omega)).mono ?_
          rintro e w10 ⟨_, rfl, ⟨n, rfl, hn1, hn2, hn3⟩, q10⟩
          have kq10 := q10.kept
          have hr10 := hr9.keep kq10
          have hy10 := hy9.keep kq10
          have hq10 := hq9.keep kq10
          have k10 := k9.trans kq10
          have Hn3 := Lib.hid hn3
          clear q10 kq10 hr9 hy9 hq9 k9 hn3
          have c1 : -(B : Int) < -(n : Int) := by have : (B : Int) = 1000000000 := rfl; omega
          have c2 : -(n : Int) < (B : Int) := by have : (B : Int) = 1000000000 := rfl; omega
          have C1 := Lib.hid c1
          have C2 := Lib.hid c2
          have CS : Hid (((W - n * Y : Nat) : Int) = (W : Int) + (-(n : Int)) * (Y : Int) * ((B ^ 0 : Nat) : Int)) := by
            have h1 := Hn3.out
            show ((W - n * Y : Nat) : Int) = _
            rw [Int.ofNat_sub h1]
            simp only [Nat.pow_zero, Int.natCast_one, Int.mul_one, Int.neg_mul, Int.natCast_mul]
            omega
          have CS2 : Hid (W - n * Y < B ^ 232) := by
            have h1 : W < B ^ 232 := (nw_le_iff W 232).1 (by omega)
            show W - n * Y < B ^ 232
            omega
          clear c1 c2
          go_wp2_with fail
          refine (carry_any br b_y (nw W) W Y false ly (-(n : Int)) 0 _ (by omega) hr10 hy10 (Nat.le_refl _) (by omega) (by omega) C1.out C2.out (W - n * Y) CS.out CS2.out).mono ?_
          rintro e w11 ⟨rfl, h11, g11⟩
          have hq11 := hq10.kept g11 (by simp; exact hbne)
          have k11 := k10.own g11 hrl
          go_wp2
          go_roundg (V - (D + n) * Y + 1)
          case measure =>
            have h1 := Hn3.out
            have h2 := HW.out
            have h3 := HkD.out
            have h4 := HD.out
            have h5 : 1 * Y ≤ n * Y := Nat.mul_le_mul_right _ hn1
            rw [Nat.add_mul]
            omega
          case rel =>
            have h1 := Hn3.out
            have h2 := HW.out
            have h4 := HD.out
            have e1 : V - (D + n) * Y = W - n * Y := by rw [Nat.add_mul]; omega
            have e2 : (D + n) * Y ≤ V := by rw [Nat.add_mul]; omega
            exact ⟨D + n, by go_num, e2, by omega, by rw [e1]; exact h11, hq11, k11⟩
        · go_wp2_with fail
          refine (beyond_any br b_y W Y false ly _ hr8 hy8 (by omega) (by omega)).mono ?_
          rintro e w9 ⟨r, rfl, hr, q9⟩
          have hr0 : r < 0 := by
            rcases Int.lt_or_le r 0 with h | h
            · exact h
            · exact absurd (hr.1 h) hge
          clear hr
          have kq9 := q9.kept
          have hr9 := hr8.keep kq9
          have hq9 := hq8.keep kq9
          have k9 := hk8.trans kq9
          have cq1 := hq9.c1
          have cqm := hq9.cw m (by omega)
          have fqm := hq9.fz (2 + m)
          have fq1 := hq9.fz 1
          have hdv : Hid (D = (rem X Y (m + 1) * B + wd X m) / Y ∧ W = rem X Y m) := by
            have h1 := HD.out
            have h2 := HW.out
            have h3 := div_of_le h1 (by omega)
            have h4 : rem X Y m = (rem X Y (m + 1) * B + wd X m) % Y := step_mod
            show D = _ ∧ W = _
            rw [h4, ← HR.out, ← HV.out]
            exact ⟨h3.1, by rw [h2]; exact h3.2⟩
          clear hr8 hq8 hk8 hy8 q9 kq9
          go_wp2
          all_goals
            go_roundg (m + 1)
            case measure => omega
            case rel =>
              obtain ⟨e1, e2⟩ := hdv.out
              have hdB := HDB.out
              rw [e1] at hdB
              refine ⟨m, max nq (m + 1), rfl, by omega, rfl, quo_nw hYp hdB hq1, by omega, ?_, ?_, ?_⟩
              · refine div_cell hq9 (by omega) ?_ ?_ (by omega)
                · rw [wd_quo hYp hdB, if_pos rfl, ← e1]
                · intro j
                  rw [wd_quo hYp hdB, wd_quo hYp hdB, if_pos rfl]
              · rw [← e2]
                exact hr9.kept (grown_setCell (grown_setCell (grown_refl _ _) _ _) _ _) (by simp; omega)
              · exact k9.own (grown_setCell (grown_setCell (grown_refl _ _) _ _) _ _) hql

end Go.Proofs.YtgmegfcjbnfnaaaGreatDoor

/- Numerals and the words of 10^9: plain lists of digits, no program. -/
namespace Go.Proofs.YtgmegfcjbnfnaaaGreatDoor.Numer
open Go.Lib (decDigits itoa nDigits decDigits_length)
open Dec Wide

theorem B_pow (k : Nat) : B ^ k = 10 ^ (9 * k) := by
  rw [Nat.pow_mul]; rfl

theorem decFrom_digits : ∀ (l : List UInt8) (acc : Nat), l.all dig = true → Lib.decFrom acc l = some (acc * 10 ^ l.length + val l)
  | [], acc, _ => by simp [Lib.decFrom, val]
  | c :: r, acc, h => by
    simp only [List.all_cons, Bool.and_eq_true] at h
    have hc := (dig_iff c).1 h.1
    have hd : Lib.digitVal c = some (c.toNat - 48) := by
      unfold Lib.digitVal
      simp [hc.1, hc.2]
    rw [Lib.decFrom, hd]
    simp only []
    rw [decFrom_digits r _ h.2, val_cons, List.length_cons, Nat.pow_succ]
    congr 1
    rw [Nat.add_mul, Nat.mul_assoc, Nat.mul_comm 10 (10 ^ r.length)]
    omega

theorem atoi_digits {l : List UInt8} (hne : l ≠ []) (h : l.all dig = true) : Lib.atoi l = some (val l : Int) := by
  obtain ⟨c, r, rfl⟩ := List.exists_cons_of_ne_nil hne
  have h' := h
  simp only [List.all_cons, Bool.and_eq_true] at h'
  have hc := (dig_iff c).1 h'.1
  have h45 : (c == 45) = false := by rw [beq_eq_false_iff_ne]; intro e; subst e; simp at hc
  have h43 : (c == 43) = false := by rw [beq_eq_false_iff_ne]; intro e; subst e; simp at hc
  unfold Lib.atoi
  simp only [h45, h43, Bool.false_eq_true, if_false]
  unfold Lib.decNat
  simp only [List.isEmpty_cons, Bool.false_eq_true, if_false]
  rw [decFrom_digits _ _ h]
  simp

/-! ### a numeral cut into words -/
/-- the first digits, without the last k -/
theorem take_digits (N k : Nat) : ((decDigits N).take (nDigits N - k)).all dig = true ∧ ((decDigits N).drop (nDigits N - k)).all dig = true := by
  have h := dig_decDigits N
  constructor
  · exact List.all_eq_true.2 fun x hx => List.all_eq_true.1 h x (List.mem_of_mem_take hx)
  · exact List.all_eq_true.2 fun x hx => List.all_eq_true.1 h x (List.mem_of_mem_drop hx)

theorem all_take {l : List UInt8} (h : l.all dig = true) (k : Nat) : (l.take k).all dig = true :=
  List.all_eq_true.2 fun x hx => List.all_eq_true.1 h x (List.mem_of_mem_take hx)
theorem all_drop {l : List UInt8} (h : l.all dig = true) (k : Nat) : (l.drop k).all dig = true :=
  List.all_eq_true.2 fun x hx => List.all_eq_true.1 h x (List.mem_of_mem_drop hx)

/-- cut k digits off the end -/
theorem val_take {l : List UInt8} (h : l.all dig = true) {k : Nat} (hk : k ≤ l.length) : val (l.take (l.length - k)) = val l / 10 ^ k ∧ val (l.drop (l.length - k)) = val l % 10 ^ k := by
  have e : val l = val (l.take (l.length - k)) * 10 ^ k + val (l.drop (l.length - k)) := by
    conv => lhs; rw [← List.take_append_drop (l.length - k) l]
    rw [val_append]
    congr 2
    rw [List.length_drop]; congr 1; omega
  have hlt : val (l.drop (l.length - k)) < 10 ^ k := by
    have := val_lt _ (all_drop h (l.length - k))
    rw [List.length_drop] at this
    rwa [show l.length - (l.length - k) = k by omega] at this
  have hp : 0 < 10 ^ k := Nat.pos_of_ne_zero (by simp)
  constructor
  · rw [e, Nat.add_comm, Nat.add_mul_div_right _ _ hp, Nat.div_eq_of_lt hlt]; omega
  · rw [e, Nat.add_comm, Nat.add_mul_mod_self_right, Nat.mod_eq_of_lt hlt]

/-- the text behind j words -/
def cut (N j : Nat) : List UInt8 := (decDigits N).take (nDigits N - 9 * j)
theorem cut_zero (N : Nat) : cut N 0 = decDigits N := by unfold cut; rw [Nat.mul_zero, Nat.sub_zero, ← decDigits_length, List.take_length]
theorem cut_length (N j : Nat) : (cut N j).length = nDigits N - 9 * j := by unfold cut; rw [List.length_take, decDigits_length]; omega
theorem cut_succ (N j : Nat) : (cut N j).take (nDigits N - 9 * j - 9) = cut N (j + 1) := by
  unfold cut; rw [List.take_take]; congr 1; omega
/-- the last word of it -/
theorem cut_word (N j : Nat) (hj : 9 * j < nDigits N) : Lib.atoi ((cut N j).drop (nDigits N - 9 * j - 9)) = some (wd N j : Int) ∧ ((cut N j).drop (nDigits N - 9 * j - 9)).length ≤ 9 := by
  have hd := dig_decDigits N
  have hl := decDigits_length N
  have hcd : (cut N j).all dig = true := all_take hd _
  have hlen := cut_length N j
  have hv : val (cut N j) = N / B ^ j := by
    have := (val_take hd (k := 9 * j) (by omega)).1
    rw [val_decDigits, hl] at this
    rw [B_pow]; exact this
  have hlast : ((cut N j).drop (nDigits N - 9 * j - 9)).length ≤ 9 := by rw [List.length_drop, hlen]; omega
  refine ⟨?_, hlast⟩
  rw [atoi_digits (by intro e; have := congrArg List.length e; rw [List.length_drop, hlen] at this; simp at this; omega) (all_drop hcd _)]
  congr 2
  unfold wd
  rw [← hv]
  by_cases h9 : 9 ≤ nDigits N - 9 * j
  · have := (val_take hcd (k := 9) (by omega)).2
    rw [hlen] at this
    rw [this]; rfl
  · rw [show nDigits N - 9 * j - 9 = 0 by omega, List.drop_zero, Nat.mod_eq_of_lt]
    have h1 := val_lt _ hcd
    rw [hlen] at h1
    exact Nat.lt_of_lt_of_le h1 (show 10 ^ (nDigits N - 9 * j) ≤ 10 ^ 9 from Nat.pow_le_pow_right (by omega) (by omega))

/-! ### words put together -/
/-- a word with nine digits -/
def pad9 (u : Nat) : List UInt8 := List.replicate (9 - nDigits u) 48 ++ decDigits u
theorem val_zeros (k : Nat) : val (List.replicate k 48) = 0 := by
  induction k with
  | zero => rfl
  | succ k ih => rw [List.replicate_succ, val_cons, ih]; simp
theorem pad9_length {u : Nat} (h : u < B) : (pad9 u).length = 9 := by
  have : nDigits u ≤ 9 := (nDigits_le_iff u 9 (by omega)).2 h
  unfold pad9; rw [List.length_append, List.length_replicate, decDigits_length]; omega
theorem val_pad9 (u : Nat) : val (pad9 u) = u := by unfold pad9; rw [val_append, val_zeros, val_decDigits]; omega
theorem dig_pad9 (u : Nat) : (pad9 u).all dig = true := by
  unfold pad9
  rw [List.all_append, dig_decDigits, Bool.and_true]
  refine List.all_eq_true.2 fun x hx => ?_
  rw [List.eq_of_mem_replicate hx]; rfl

theorem decDigits_word {v : Nat} (h : v / B ≠ 0) : decDigits v = decDigits (v / B) ++ pad9 (v % B) := by
  obtain ⟨c, l, e, h1, h2⟩ := decDigits_head (v / B) h
  have hne : decDigits (v / B) ++ pad9 (v % B) ≠ [] := by rw [e]; simp
  have hall : (decDigits (v / B) ++ pad9 (v % B)).all dig = true := by rw [List.all_append, dig_decDigits, dig_pad9]; rfl
  have hval : val (decDigits (v / B) ++ pad9 (v % B)) = v := by
    rw [val_append, val_decDigits, val_pad9, pad9_length (Nat.mod_lt _ B_pos)]
    have := Nat.div_add_mod v B
    rw [show (10 : Nat) ^ 9 = B from rfl, Nat.mul_comm]; exact this
  have := decDigits_val hne hall (Or.inr fun m hm => by
    rw [e] at hm
    simp only [List.cons_append, List.cons.injEq] at hm
    exact h2 hm.1)
  rw [hval] at this
  exact this

/-- the text from word i on -/
theorem digits_words (V i : Nat) (h : V / B ^ (i + 1) ≠ 0) : decDigits (V / B ^ i) = decDigits (V / B ^ (i + 1)) ++ pad9 (wd V i) := by
  have e : V / B ^ (i + 1) = V / B ^ i / B := by rw [Nat.pow_succ, Nat.div_div_eq_div_mul]
  rw [e] at h ⊢
  exact decDigits_word h
theorem digits_top {V n : Nat} (h : nw V = n + 1) : decDigits (V / B ^ n) = decDigits (wd V n) ∧ V / B ^ n ≠ 0 := by
  have h1 := wd_div V n
  have h2 : V / B ^ (n + 1) = 0 := Nat.div_eq_of_lt (by rw [← h]; exact lt_nw V)
  have h3 := wd_top h
  rw [h2, Nat.mul_zero, Nat.add_zero] at h1
  exact ⟨by rw [h1], by rw [h1]; exact h3⟩

/-! ### signs -/
/-- a text without its sign -/
def un : List UInt8 → List UInt8
  | [] => []
  | c :: r => if c = 45 then r else c :: r
theorem trim_un (l : List UInt8) : Lib.trimPrefix l [45] = un l := by
  cases l with
  | nil => rfl
  | cons c r =>
    unfold Lib.trimPrefix Lib.hasPrefix un
    by_cases h : c = 45
    · subst h; simp
    · have : ((45 : UInt8) == c) = false := by rw [beq_eq_false_iff_ne]; exact fun e => h e.symm
      simp [h, List.isPrefixOf, this]
theorem un_itoa (n : Int) : un (itoa n) = decDigits n.natAbs := by
  by_cases h : n < 0
  · rw [itoa_neg h]; rfl
  · rw [itoa_nonneg (by omega)]
    obtain ⟨c, r, e, hc⟩ := head_decDigits n.toNat
    rw [show n.natAbs = n.toNat by omega, e]
    show (if c = 45 then r else c :: r) = c :: r
    rw [if_neg (dig_ne45 hc)]
theorem itoa_cons (n : Int) : ∃ c r, itoa n = c :: r ∧ (c = 45 ↔ n < 0) := by
  by_cases h : n < 0
  · exact ⟨_, _, itoa_neg h, by simp [h]⟩
  · rw [itoa_nonneg (by omega)]
    obtain ⟨c, r, e, hc⟩ := head_decDigits n.toNat
    exact ⟨c, r, e, ⟨fun h2 => absurd h2 (dig_ne45 hc), fun h2 => absurd h2 h⟩⟩
theorem itoa_length_le (n : Int) : (itoa n).length ≤ nDigits n.natAbs + 1 := by
  by_cases h : n < 0
  · rw [itoa_neg h, List.length_cons, decDigits_length]; omega
  · rw [itoa_nonneg (by omega), decDigits_length, show n.toNat = n.natAbs by omega]; omega
theorem itoa_length_pos (n : Int) : 1 ≤ (itoa n).length := by
  obtain ⟨c, r, e, _⟩ := itoa_cons n
  rw [e]; simp

end Go.Proofs.YtgmegfcjbnfnaaaGreatDoor.Numer
