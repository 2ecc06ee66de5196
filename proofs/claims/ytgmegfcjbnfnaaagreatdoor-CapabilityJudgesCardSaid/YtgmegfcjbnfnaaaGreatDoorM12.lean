/- The reference 01 at any length: digits on paper. -/
import Derived.Test.YtgmegfcjbnfnaaaGreatDoorM10
import Derived.OwnWalk
import Derived.Lib.BufferWrite
import Derived.Laws.IdiomStrings
import Derived.Laws.CopyOwn
import Derived.Deep.RegionWith
import Derived.Test.YtgmegfcjbnfnaaaGreatDoorM4
import Derived.BigRegion

/- Walks over the reference's integers: column. -/
namespace Go.Proofs.YtgmegfcjbnfnaaaGreatDoor
open Go.RowKit Wide Numer
open Go.Lib (decDigits itoa nDigits)

set_option maxHeartbeats 1000000 in
set_option maxRecDepth 100000 in
theorem column_add (a b c : Nat) (ha : a ≤ 9) (hb : b ≤ 9) (hc : c ≤ 1) (w : World) :
    Calls Tryz.prog 184 #[.int .u8 (48 + a : Int), .int .u8 (48 + b : Int), .int .i64 c, .bool true] w fun r w' =>
      r = .returned (.tuple #[.int .u8 ((48 + (a + b + c) % 10 : Nat) : Int), .int .i64 (((a + b + c) / 10 : Nat) : Int)]) ∧ w' = w := by
  by_cases h : 9 < a + b + c
  · have i1 : (9 : Int) < (a : Int) + b + c := by omega
    have e : Hid ((((48 + (a + b + c) % 10 : Nat) : Int) = 48 + (48 + (a : Int) - 48 + (48 + (b : Int) - 48) + c) - 10) ∧ (((a + b + c) / 10 : Nat) : Int) = 1) := ⟨by omega, by omega⟩
    clear h
    go_enter Tryz.func184, Tryz.ntmps184
    go_wp2
    go_returns
    exact ⟨by rw [e.out.1, e.out.2]; rfl, rfl⟩
  · have i1 : (a : Int) + b + c ≤ 9 := by omega
    have e : Hid ((((48 + (a + b + c) % 10 : Nat) : Int) = 48 + (48 + (a : Int) - 48 + (48 + (b : Int) - 48) + c)) ∧ (((a + b + c) / 10 : Nat) : Int) = 0) := ⟨by omega, by omega⟩
    clear h
    go_enter Tryz.func184, Tryz.ntmps184
    go_wp2
    go_returns
    exact ⟨by rw [e.out.1, e.out.2]; rfl, rfl⟩

set_option maxHeartbeats 1000000 in
set_option maxRecDepth 100000 in
theorem column_sub (a b c : Nat) (ha : a ≤ 9) (hb : b ≤ 9) (hc : c ≤ 1) (w : World) :
    Calls Tryz.prog 184 #[.int .u8 (48 + a : Int), .int .u8 (48 + b : Int), .int .i64 c, .bool false] w fun r w' =>
      r = .returned (.tuple #[.int .u8 ((48 + (a + 10 - b - c) % 10 : Nat) : Int), .int .i64 ((if a < b + c then 1 else 0 : Nat) : Int)]) ∧ w' = w := by
  by_cases h : a < b + c
  · have i1 : (a : Int) - b - c < 0 := by omega
    have e : Hid ((((48 + (a + 10 - b - c) % 10 : Nat) : Int) = 48 + (48 + (a : Int) - 48 - (48 + (b : Int) - 48) - c) + 10) ∧ ((if a < b + c then 1 else 0 : Nat) : Int) = 1) := ⟨by omega, by rw [if_pos h]; rfl⟩
    generalize ((48 + (a + 10 - b - c) % 10 : Nat) : Int) = x at *
    generalize ((if a < b + c then 1 else 0 : Nat) : Int) = y at *
    clear h
    go_enter Tryz.func184, Tryz.ntmps184
    go_wp2
    go_returns
    exact ⟨by rw [e.out.1, e.out.2]; rfl, rfl⟩
  · have i1 : 0 ≤ (a : Int) - b - c := by omega
    have e : Hid ((((48 + (a + 10 - b - c) % 10 : Nat) : Int) = 48 + (48 + (a : Int) - 48 - (48 + (b : Int) - 48) - c)) ∧ ((if a < b + c then 1 else 0 : Nat) : Int) = 0) := ⟨by omega, by rw [if_neg h]; rfl⟩
    generalize ((48 + (a + 10 - b - c) % 10 : Nat) : Int) = x at *
    generalize ((if a < b + c then 1 else 0 : Nat) : Int) = y at *
    clear h
    go_enter Tryz.func184, Tryz.ntmps184
    go_wp2
    go_returns
    exact ⟨by rw [e.out.1, e.out.2]; rfl, rfl⟩

end Go.Proofs.YtgmegfcjbnfnaaaGreatDoor

/- Rows of bytes. -/
namespace Go.Proofs.YtgmegfcjbnfnaaaGreatDoor
open Go.RowKit Wide Numer
open Go.Lib (decDigits itoa nDigits)

/-- the block b holds the bytes l -/
def Bytes (w : World) (b : Nat) (l : List UInt8) : Prop := w.heap[b]? = some (.cells (l.map fun c => Value.int .u8 (c.toNat : Int)).toArray 5)
theorem Bytes.cell {w : World} {b : Nat} {l : List UInt8} (h : Bytes w b l) (j : Nat) (hj : j < l.length) : w.cell? ⟨b, j, none⟩ = some (.int .u8 (l[j].toNat : Int)) := by
  unfold Bytes at h
  simp [World.cell?, h, hj]
theorem Bytes.fz {w : World} {b : Nat} {l : List UInt8} (h : Bytes w b l) (j : Nat) : w.frozen? ⟨b, j, none⟩ = false := by
  unfold Bytes at h
  simp [World.frozen?, h]
theorem Bytes.keep {w w1 : World} {b : Nat} {l : List UInt8} (h : Bytes w b l) (k : Kept w w1) : Bytes w1 b l := k.heap h
theorem Bytes.set {w : World} {b : Nat} {l : List UInt8} (h : Bytes w b l) (j : Nat) (c : UInt8) : Bytes (w.setCell ⟨b, j, none⟩ (.int .u8 (c.toNat : Int))) b (l.set j c) := by
  unfold Bytes at *
  simp [World.setCell, Array.getElem?_modify, h, List.map_set]

theorem make_bytes (n : Nat) (hn : n ≤ 1000000) (w : World) : (Instr.makeSlice 113 (.int .i64 (n : Int)) (.int .i64 (n : Int))).run Tryz.prog w =
    .ok (.slice (some ⟨w.heap.size, 0, none⟩) n n) (w.alloc (.cells ((List.replicate n (0 : UInt8)).map fun c => Value.int .u8 (c.toNat : Int)).toArray 5)) := by
  have h : (Tryz.prog.info? 5).map (fun i => (i.zero, i.size, i.bytes)) = some (some (Value.int .u8 0), 1, 1) := by kernel_rfl
  obtain ⟨i, h1, h5⟩ := Option.map_eq_some_iff.1 h
  simp only [Prod.mk.injEq] at h5
  obtain ⟨h2, h3, h4⟩ := h5
  have := run_makeSlice (P := Tryz.prog) (w := w) 113 5 i _ (by kernel_rfl) h1 h2 .i64 .i64 (n : Int) (n : Int) (by omega) (by omega) (by rw [h3]; omega) (by rw [h4]; omega) (by omega)
  rw [this]
  simp [madeCells, Value.cells, h3]
  have e : Array.map (fun x => [Value.int IntKind.u8 0][x % 1]?.getD default) (Array.range n) = Array.replicate n (Value.int IntKind.u8 0) := by
    apply Array.ext
    · simp
    · intro j _ _
      simp [Nat.mod_one]
  rw [e]

end Go.Proofs.YtgmegfcjbnfnaaaGreatDoor

/- Walks over the reference's integers: wide (zeros in front). -/
namespace Go.Proofs.YtgmegfcjbnfnaaaGreatDoor
open Go.RowKit Wide Numer
open Go.Lib (decDigits itoa nDigits)

/-- string(row) -/
theorem str_bytes {w : World} {b : Nat} {l : List UInt8} (h : Bytes w b l) (c : Nat) :
    (convert 113 9 (.slice (some ⟨b, 0, none⟩) l.length c)).run Tryz.prog w = .ok (.string (bs l)) w :=
  run_convert_bytes_back (P := Tryz.prog) _ _ _ 5 ⟨b, 0, none⟩ c l (by kernel_rfl) (by kernel_rfl) (by kernel_rfl) fun j hj => by
    have := h.cell j hj
    by_cases h0 : j = 0
    · subst h0; simpa [Addr.add] using this
    · simpa [Addr.add, h0] using this

theorem Bytes.new (w : World) (l : List UInt8) : Bytes (w.alloc (.cells (l.map fun c => Value.int .u8 (c.toNat : Int)).toArray 5)) w.heap.size l := by
  unfold Bytes World.alloc; simp
theorem Bytes.setRow {w : World} {b : Nat} {l m : List UInt8} (h : Bytes w b l) : Bytes (w.setRow b (m.map fun c => Value.int .u8 (c.toNat : Int)).toArray) b m := setRow_heap w b _ _ _ _ h

/-- copy(row[o:], s), s just as long as what is left -/
theorem copy_bytes {w : World} {b : Nat} {l : List UInt8} (h : Bytes w b l) (o c : Nat) (s : List UInt8) (ho : o + s.length = l.length) (ty : TypeId) :
    (Builtin.copy_ #[113, 9] ty #[.slice (some ⟨b, o, none⟩) s.length c, .string (bs s)]).run Tryz.prog w =
      .ok (goInt s.length) (w.setRow b ((l.take o ++ s).map fun c => Value.int .u8 (c.toNat : Int)).toArray) := by
  have hs : (bs s).size = s.length := bs_size s
  have := Lib.run_copy_row_string (P := Tryz.prog) w 113 9 ty 5 b o s.length c (bs s) _ _ (by kernel_rfl) (by kernel_rfl) h (by omega) (by simp; omega)
  rw [hs] at this
  rw [this]
  have e : (l.map fun c => Value.int .u8 (c.toNat : Int)).drop (o + s.length) = [] := by
    apply List.drop_eq_nil_of_le; simp; omega
  have e2 : (List.take o (l.map fun c => Value.int .u8 (c.toNat : Int)).toArray.toList ++ Lib.byteCells (bs s).data.toList ++ List.drop (o + s.length) (l.map fun c => Value.int .u8 (c.toNat : Int)).toArray.toList) = ((l.take o ++ s).map fun c => Value.int .u8 (c.toNat : Int)) := by
    rw [e, List.append_nil, List.map_append, List.map_take]
    rfl
  rw [e2]

end Go.Proofs.YtgmegfcjbnfnaaaGreatDoor

/- Walks over the reference's integers: wide. -/
namespace Go.Proofs.YtgmegfcjbnfnaaaGreatDoor
open Go.RowKit Wide Numer
open Go.Lib (decDigits itoa nDigits)

theorem kept_setb {w w1 : World} (k : Kept w w1) {g j : Nat} {v : Value} (hg : w.heap.size ≤ g) : Kept w (w1.setCell ⟨g, j, none⟩ v) :=
  Kept.of_below (k.below.setCell (show w.heap.size ≤ (⟨g, j, none⟩ : Addr).block from hg) v)
theorem kept_setRow {w w1 : World} (k : Kept w w1) {g : Nat} (cs : Array Value) (hg : w.heap.size ≤ g) : Kept w (w1.setRow g cs) :=
  Kept.of_below (below_setRow k.below hg cs)
theorem fill_step (c d : UInt8) (n j : Nat) (h : j < n) : (List.replicate j c ++ List.replicate (n - j) d).set j c = List.replicate (j + 1) c ++ List.replicate (n - (j + 1)) d := by
  obtain ⟨k, hk⟩ : ∃ k, n - j = k + 1 := ⟨n - j - 1, by omega⟩
  rw [hk, show n - (j + 1) = k by omega, List.set_append, if_neg (by simp), List.length_replicate, Nat.sub_self, List.replicate_succ, List.set_cons_zero, List.replicate_succ' (n := j), List.append_assoc]
  rfl

set_option maxHeartbeats 2000000 in
set_option maxRecDepth 100000 in
theorem wide_any (l : List UInt8) (n : Nat) (h0 : 0 < l.length) (hl : l.length ≤ n) (hn : n ≤ 1000000) (w : World) :
    Calls Tryz.prog 183 #[.string (bs l), .int .i64 n] w fun r w' => r = .returned (.string (bs (List.replicate (n - l.length) 48 ++ l))) ∧ Kept w w' := by
  have M := make_bytes n hn w
  have hb := Bytes.new w (List.replicate n 0)
  have hk := (Kept.refl w).alloc (.cells ((List.replicate n (0 : UInt8)).map fun c => Value.int .u8 (c.toNat : Int)).toArray 5)
  generalize w.alloc (.cells ((List.replicate n (0 : UInt8)).map fun c => Value.int .u8 (c.toNat : Int)).toArray 5) = w1 at *
  obtain ⟨b, hbb⟩ : ∃ b, w.heap.size = b := ⟨_, rfl⟩
  have hwb : w.heap.size ≤ b := by omega
  rw [hbb] at M hb
  have HB := Lib.hid hb
  have hsz := bs_size l
  obtain ⟨o, ho⟩ : ∃ o, n = o + l.length := ⟨n - l.length, by omega⟩
  have ho1 : (n : Int) - (l.length : Int) = (o : Int) := by omega
  have ho2 : n - l.length = o := by omega
  have ho3 : n - o = l.length := by omega
  have HO := Lib.hid ho
  have HL : Hid (∀ w b, Bytes w b (List.replicate n 48) → ∀ c ty, (Builtin.copy_ #[113, 9] ty #[.slice (some ⟨b, o, none⟩) l.length c, .string (bs l)]).run Tryz.prog w =
      .ok (goInt l.length) (w.setRow b (((List.replicate n (48 : UInt8)).take o ++ l).map fun c : UInt8 => Value.int .u8 (c.toNat : Int)).toArray)) := Lib.hid fun w b h c ty => copy_bytes h o c l (by rw [List.length_replicate]; omega) ty
  rw [ho2]
  have hon : o < n := by omega
  have hrow : Hid ((List.replicate n (48 : UInt8)).take o ++ l = List.replicate o 48 ++ l) := Lib.hid (by rw [List.take_replicate, Nat.min_eq_left (by omega)])
  have hrl : Hid ((List.replicate o (48 : UInt8) ++ l).length = n) := Lib.hid (by simp; omega)
  rw [hrow.out] at HL
  obtain ⟨m, hm⟩ : ∃ m, l.length = m := ⟨_, rfl⟩
  rw [hm] at h0 hl hsz ho1 ho2 ho3 HL
  have hm2 : m ≤ 1000000 := by omega
  have STR := Lib.hid (fun w (h : Bytes w b (List.replicate o 48 ++ l)) c => str_bytes h c)
  rw [hrl.out] at STR
  generalize List.replicate o 48 ++ l = R at *
  generalize bs l = t at *
  clear hbb hb ho hm hrow hrl
  go_enter Tryz.func183, Tryz.ntmps183
  go_wp2_with fail
  go_loopg [6] n (fun k i wr => ∃ j : Nat, k + j = n ∧ i = .int .i64 j ∧ Bytes wr b (List.replicate j 48 ++ List.replicate (n - j) 0) ∧ Kept w wr)
  case atStart => exact ⟨0, by omega, rfl, by simpa using HB.out, hk⟩
  case round =>
    obtain ⟨j, hkj, rfl, hB, hK⟩ := hrel
    by_cases hj : j < n
    · have c1 := hB.cell j (by simp; omega)
      have f1 := hB.fz j
      have hB2 := Lib.hid (hB.set j 48)
      rw [fill_step 48 0 n j hj] at hB2
      have hK2 := Lib.hid (kept_setb (j := j) (v := .int .u8 48) hK hwb)
      clear hB
      generalize ((List.replicate j (48 : UInt8) ++ List.replicate (n - j) 0)[j]'_).toNat = x0 at *
      go_wp2
      go_roundg (gk - 1)
      case measure => omega
      case rel => exact ⟨j + 1, by omega, by go_num, hB2.out, hK2.out⟩
    · obtain rfl : j = n := by omega
      rw [Nat.sub_self, List.replicate_zero, List.append_nil] at hB
      have C := HL.out _ _ hB
      have hB3 := hB.setRow (m := R)
      have S := STR.out _ hB3
      have hK3 : Kept w (wr.setRow b (R.map fun c : UInt8 => Value.int .u8 (c.toNat : Int)).toArray) := kept_setRow hK _ hwb
      clear hB HL STR
      go_wp2_with fail
      go_returns
      exact ⟨rfl, hK3⟩

end Go.Proofs.YtgmegfcjbnfnaaaGreatDoor

/- Walks over the reference's integers: paper. -/
namespace Go.Proofs.YtgmegfcjbnfnaaaGreatDoor
open Go.RowKit Wide Numer
open Go.Lib (decDigits itoa nDigits)

/-- a column's digit and carry -/
def cdg (add : Bool) (a b c : Nat) : Nat := if add then (a + b + c) % 10 else (a + 10 - b - c) % 10
def ccr (add : Bool) (a b c : Nat) : Nat := if add then (a + b + c) / 10 else if a < b + c then 1 else 0
theorem cdg_lt (add : Bool) (a b c : Nat) : cdg add a b c < 10 := by unfold cdg; split <;> omega
theorem ccr_le (add : Bool) {a b c : Nat} (ha : a ≤ 9) (hb : b ≤ 9) (hc : c ≤ 1) : ccr add a b c ≤ 1 := by
  unfold ccr
  cases add
  · simp only [Bool.false_eq_true, if_false]
    split <;> omega
  · simp only [if_true]; omega
theorem column_any (add : Bool) (a b : UInt8) (c : Nat) (ha : Dec.dig a = true) (hb : Dec.dig b = true) (hc : c ≤ 1) (w : World) :
    Calls Tryz.prog 184 #[.int .u8 (a.toNat : Int), .int .u8 (b.toNat : Int), .int .i64 (c : Int), .bool add] w fun r w' =>
      r = .returned (.tuple #[.int .u8 ((UInt8.ofNat (48 + cdg add (a.toNat - 48) (b.toNat - 48) c)).toNat : Int), .int .i64 ((ccr add (a.toNat - 48) (b.toNat - 48) c : Nat) : Int)]) ∧ w' = w := by
  obtain ⟨a1, a2⟩ := (Dec.dig_iff a).1 ha
  obtain ⟨b1, b2⟩ := (Dec.dig_iff b).1 hb
  rw [Dec.toNat_digit (cdg_lt _ _ _ _)]
  have ea : (a.toNat : Int) = 48 + ((a.toNat - 48 : Nat) : Int) := by omega
  have eb : (b.toNat : Int) = 48 + ((b.toNat - 48 : Nat) : Int) := by omega
  rw [ea, eb]
  cases add
  · have := column_sub (a.toNat - 48) (b.toNat - 48) c (by omega) (by omega) hc w
    exact this
  · exact column_add (a.toNat - 48) (b.toNat - 48) c (by omega) (by omega) hc w

/-- the sum or the difference on paper: the digits, and what is carried -/
def pap (add : Bool) : List UInt8 → List UInt8 → List UInt8 × Nat
  | a :: A, b :: B => (UInt8.ofNat (48 + cdg add (a.toNat - 48) (b.toNat - 48) (pap add A B).2) :: (pap add A B).1, ccr add (a.toNat - 48) (b.toNat - 48) (pap add A B).2)
  | _, _ => ([], 0)
theorem pap_ok (add : Bool) : ∀ {A B : List UInt8}, A.length = B.length → A.all Dec.dig = true → B.all Dec.dig = true → (pap add A B).1.length = A.length ∧ (pap add A B).1.all Dec.dig = true ∧ (pap add A B).2 ≤ 1
  | [], [], _, _, _ => ⟨rfl, rfl, by show (0 : Nat) ≤ 1; omega⟩
  | a :: A, b :: B, hl, hA, hB => by
    rw [List.all_cons, Bool.and_eq_true] at hA hB
    obtain ⟨h1, h2, h3⟩ := pap_ok add (A := A) (B := B) (by simpa using hl) hA.2 hB.2
    obtain ⟨a1, a2⟩ := (Dec.dig_iff a).1 hA.1
    obtain ⟨b1, b2⟩ := (Dec.dig_iff b).1 hB.1
    rw [pap]
    refine ⟨by simp [h1], ?_, ccr_le add (by omega) (by omega) h3⟩
    rw [List.all_cons, Bool.and_eq_true]
    exact ⟨Dec.dig_digit (cdg_lt _ _ _ _), h2⟩
theorem pap_add : ∀ {A B : List UInt8}, A.length = B.length → A.all Dec.dig = true → B.all Dec.dig = true → Dec.val (pap true A B).1 + (pap true A B).2 * 10 ^ A.length = Dec.val A + Dec.val B
  | [], [], _, _, _ => rfl
  | a :: A, b :: B, hl, hA, hB => by
    rw [List.all_cons, Bool.and_eq_true] at hA hB
    have hl' : A.length = B.length := by simpa using hl
    have ih := pap_add hl' hA.2 hB.2
    obtain ⟨h1, _, _⟩ := pap_ok true hl' hA.2 hB.2
    rw [pap, Dec.val_cons, Dec.val_cons, Dec.val_cons, Dec.toNat_digit (cdg_lt _ _ _ _), h1, List.length_cons, ← hl', Nat.pow_succ]
    generalize (pap true A B).2 = c at *
    generalize a.toNat - 48 = x at *
    generalize b.toNat - 48 = y at *
    generalize 10 ^ A.length = P at *
    have e : cdg true x y c + 10 * ccr true x y c = x + y + c := by
      show (x + y + c) % 10 + 10 * ((x + y + c) / 10) = _
      omega
    rw [Nat.add_sub_cancel_left]
    generalize cdg true x y c = d at *
    generalize ccr true x y c = f at *
    dsimp only
    have e2 : d * P + f * (P * 10) = x * P + y * P + c * P := by
      rw [← Nat.add_mul, ← Nat.add_mul, ← e]; grind
    omega
theorem pap_sub : ∀ {A B : List UInt8}, A.length = B.length → A.all Dec.dig = true → B.all Dec.dig = true → Dec.val (pap false A B).1 + Dec.val B = Dec.val A + (pap false A B).2 * 10 ^ A.length
  | [], [], _, _, _ => rfl
  | a :: A, b :: B, hl, hA, hB => by
    rw [List.all_cons, Bool.and_eq_true] at hA hB
    have hl' : A.length = B.length := by simpa using hl
    have ih := pap_sub hl' hA.2 hB.2
    obtain ⟨h1, _, h3⟩ := pap_ok false hl' hA.2 hB.2
    obtain ⟨a1, a2⟩ := (Dec.dig_iff a).1 hA.1
    obtain ⟨b1, b2⟩ := (Dec.dig_iff b).1 hB.1
    rw [pap, Dec.val_cons, Dec.val_cons, Dec.val_cons, Dec.toNat_digit (cdg_lt _ _ _ _), h1, List.length_cons, ← hl', Nat.pow_succ]
    generalize (pap false A B).2 = c at *
    have x9 : a.toNat - 48 ≤ 9 := by omega
    have y9 : b.toNat - 48 ≤ 9 := by omega
    generalize a.toNat - 48 = x at *
    generalize b.toNat - 48 = y at *
    generalize 10 ^ A.length = P at *
    have e : cdg false x y c + y + c = x + 10 * ccr false x y c := by
      show (x + 10 - y - c) % 10 + y + c = x + 10 * (if x < y + c then 1 else 0)
      split <;> omega
    rw [Nat.add_sub_cancel_left]
    generalize cdg false x y c = d at *
    generalize ccr false x y c = f at *
    dsimp only
    have e2 : d * P + y * P + c * P = x * P + f * (P * 10) := by
      rw [← Nat.add_mul, ← Nat.add_mul, e]; grind
    omega
theorem pap_drop (add : Bool) {A B : List UInt8} {p : Nat} (hA : p < A.length) (hB : p < B.length) :
    pap add (A.drop p) (B.drop p) = (UInt8.ofNat (48 + cdg add (A[p].toNat - 48) (B[p].toNat - 48) (pap add (A.drop (p + 1)) (B.drop (p + 1))).2) :: (pap add (A.drop (p + 1)) (B.drop (p + 1))).1, ccr add (A[p].toNat - 48) (B[p].toNat - 48) (pap add (A.drop (p + 1)) (B.drop (p + 1))).2) := by
  rw [List.drop_eq_getElem_cons hA, List.drop_eq_getElem_cons hB, pap]
theorem back_step (p : Nat) (c d : UInt8) (R : List UInt8) : (List.replicate (p + 1) c ++ R).set p d = List.replicate p c ++ d :: R := by
  rw [List.replicate_succ', List.append_assoc, List.set_append, if_neg (by simp), List.length_replicate, Nat.sub_self]
  rfl
theorem all_drop {l : List UInt8} (h : l.all Dec.dig = true) (k : Nat) : (l.drop k).all Dec.dig = true := by
  rw [List.all_eq_true] at *
  intro x hx
  exact h x (List.mem_of_mem_drop hx)
theorem val_zeros (k : Nat) (l : List UInt8) : Dec.val (List.replicate k 48 ++ l) = Dec.val l := by
  induction k with
  | zero => rfl
  | succ k ih => rw [List.replicate_succ, List.cons_append, Dec.val_cons, ih]; simp
theorem all_zeros (k : Nat) {l : List UInt8} (h : l.all Dec.dig = true) : (List.replicate k 48 ++ l).all Dec.dig = true := by
  rw [List.all_append, h, Bool.and_true, List.all_replicate]
  split
  · rfl
  · decide

set_option maxHeartbeats 4000000 in
set_option maxRecDepth 100000 in
theorem paper_list (add : Bool) (l m : List UInt8) (hl0 : 0 < l.length) (hm0 : 0 < m.length) (hl : l.all Dec.dig = true) (hm : m.all Dec.dig = true) (hll : l.length ≤ 100000) (hml : m.length ≤ 100000) (n : Nat) (hn : n = max l.length m.length + 1)
    (A B : List UInt8) (hA : A = List.replicate (n - l.length) 48 ++ l) (hB : B = List.replicate (n - m.length) 48 ++ m) (w : World) :
    Calls Tryz.prog 154 #[.string (bs l), .string (bs m), .bool add] w fun r w' => r = .returned (.string (dg (Dec.val (pap add A B).1))) ∧ Kept w w' := by
  have W1 := fun w => wide_any l n hl0 (by omega) (by omega) w
  have W2 := fun w => wide_any m n hm0 (by omega) (by omega) w
  rw [← hA] at W1
  rw [← hB] at W2
  have zA : A.length = n := by rw [hA]; simp; omega
  have zB : B.length = n := by rw [hB]; simp; omega
  have dA : A.all Dec.dig = true := by rw [hA]; exact all_zeros _ hl
  have dB : B.all Dec.dig = true := by rw [hB]; exact all_zeros _ hm
  obtain ⟨zR, dR, _⟩ := pap_ok add (zA.trans zB.symm) dA dB
  have Br := fun w => bare_any (pap add A B).1 (by intro e; rw [e] at zR; simp at zR; omega) dR (by omega) w
  have s1 := bs_size l
  have s2 := bs_size m
  have sA := bs_size A
  have sB := bs_size B
  have hmx : max (l.length : Int) (m.length : Int) + 1 = (n : Int) := by omega
  obtain ⟨u, hu⟩ : ∃ u, l.length = u := ⟨_, rfl⟩
  obtain ⟨v, hv⟩ : ∃ v, m.length = v := ⟨_, rfl⟩
  rw [hu] at s1 hmx
  rw [hv] at s2 hmx
  have hn1 : 1 ≤ n := by omega
  have hn2 : n ≤ 100001 := by omega
  have ZA := Lib.hid zA
  have ZB := Lib.hid zB
  have DA := Lib.hid dA
  have DB := Lib.hid dB
  have ZR := Lib.hid (zR.trans zA)
  rw [zA] at sA
  rw [zB] at sB
  clear hA hB zA zB dA dB zR dR hl hm hl0 hm0 hll hml hn hu hv
  generalize bs l = tl at *
  generalize bs m = tm at *
  go_enter Tryz.func154, Tryz.ntmps154
  go_wp2_with fail
  refine (W1 _).mono ?_
  rintro r w1 ⟨rfl, k1⟩
  go_wp2_with fail
  refine (W2 _).mono ?_
  rintro r w2 ⟨rfl, k2⟩
  have M := make_bytes n (by omega) w2
  have hb := Bytes.new w2 (List.replicate n 0)
  have hk := (Kept.refl w2).alloc (.cells ((List.replicate n (0 : UInt8)).map fun c => Value.int .u8 (c.toNat : Int)).toArray 5)
  generalize w2.alloc (.cells ((List.replicate n (0 : UInt8)).map fun c => Value.int .u8 (c.toNat : Int)).toArray 5) = w3 at *
  obtain ⟨b, hbb⟩ : ∃ b, w2.heap.size = b := ⟨_, rfl⟩
  have hwb : w2.heap.size ≤ b := by omega
  rw [hbb] at M hb
  have HB := Lib.hid hb
  obtain ⟨tA, htA⟩ : ∃ t, bs A = t := ⟨_, rfl⟩
  obtain ⟨tB, htB⟩ : ∃ t, bs B = t := ⟨_, rfl⟩
  have HTA := Lib.hid htA
  have HTB := Lib.hid htB
  rw [htA] at sA ⊢
  rw [htB] at sB ⊢
  have BR := Lib.hid Br
  clear hbb hb W1 W2 htA htB Br hmx s1 s2
  go_wp2_with fail
  go_loopg [9, 10] n (fun k c i wr => ∃ I : Int, i = .int .i64 I ∧ I = (k : Int) - 1 ∧ c = .int .i64 (((pap add (A.drop k) (B.drop k)).2 : Nat) : Int) ∧ Bytes wr b (List.replicate k 0 ++ (pap add (A.drop k) (B.drop k)).1) ∧ k ≤ n ∧ Kept w2 wr)
  case atStart =>
    refine ⟨(n : Int) - 1, rfl, rfl, ?_, ?_, Nat.le_refl _, hk⟩
    · rw [List.drop_of_length_le (by rw [ZA.out]; exact Nat.le_refl _)]; rfl
    · rw [List.drop_of_length_le (by rw [ZA.out]; exact Nat.le_refl _)]
      have := HB.out
      simpa [pap] using this
  case round =>
    obtain ⟨I, rfl, hI, rfl, hB, hkn, hK⟩ := hrel
    have HB2 := Lib.hid hB
    clear hB
    rcases Nat.eq_zero_or_pos gk with hz | hz
    · subst hz
      obtain rfl : I = -1 := by omega
      rw [List.drop_zero, List.drop_zero, List.replicate_zero, List.nil_append] at HB2
      have S := str_bytes HB2.out
      rw [ZR.out] at S
      clear hI
      go_wp2_with fail
      refine (BR.out _).mono ?_
      rintro r w4 ⟨rfl, k4⟩
      go_wp2
      go_returns
      exact ⟨rfl, ((k1.trans k2).trans hK).trans k4⟩
    · obtain ⟨p, rfl⟩ : ∃ p, gk = p + 1 := ⟨gk - 1, by omega⟩
      obtain rfl : I = (p : Int) := by omega
      have hpA : p < A.length := by rw [ZA.out]; omega
      have hpB : p < B.length := by rw [ZB.out]; omega
      have hdr := Lib.hid (pap_drop add hpA hpB)
      have dA := List.all_eq_true.1 DA.out _ (List.getElem_mem hpA)
      have dB := List.all_eq_true.1 DB.out _ (List.getElem_mem hpB)
      have hc1 := (pap_ok add (A := A.drop (p + 1)) (B := B.drop (p + 1)) (by rw [List.length_drop, List.length_drop, ZA.out, ZB.out]) (all_drop DA.out _) (all_drop DB.out _)).2.2
      have hbk := Lib.hid (fun d => back_step p 0 d (pap add (A.drop (p + 1)) (B.drop (p + 1))).1)
      have qA : p < tA.size := by omega
      have qB : p < tB.size := by omega
      have eA : tA[p]'qA = A[p] := by
        have := HTA.out
        subst this
        exact bs_get A p _
      have eB : tB[p]'qB = B[p] := by
        have := HTB.out
        subst this
        exact bs_get B p _
      obtain ⟨x0, c1⟩ : ∃ x0, wr.cell? ⟨b, p, none⟩ = some x0 := ⟨_, HB2.out.cell p (by simp; omega)⟩
      have f1 := HB2.out.fz p
      generalize A[p] = xa at *
      generalize B[p] = xb at *
      generalize (pap add (A.drop (p + 1)) (B.drop (p + 1))).2 = cc at *
      generalize (pap add (A.drop (p + 1)) (B.drop (p + 1))).1 = RR at *
      have C := fun w => column_any add xa xb cc dA dB hc1 w
      have hset := Lib.hid (fun w1 (h : Kept wr w1) d => hbk.out d ▸ (HB2.out.keep h).set p d)
      generalize UInt8.ofNat (48 + cdg add (xa.toNat - 48) (xb.toNat - 48) cc) = d at *
      generalize ccr add (xa.toNat - 48) (xb.toNat - 48) cc = c2 at *
      clear hz hI dA dB hc1 hbk
      have HK := Lib.hid (fun w1 (h : Kept wr w1) v => kept_setb (j := p) (v := v) (hK.trans h) hwb)
      go_wp2_with fail
      go_region_with (go_at_call 184; refine (C _).mono ?_; rintro r w5 ⟨rfl, rfl⟩)
      all_goals
        go_wp2
        go_roundg p
        case measure => omega
        case rel => exact ⟨(p : Int) - 1, rfl, rfl, by rw [hdr.out], by rw [hdr.out]; exact hset.out _ ((Kept.refl wr).drewN 1) d, by omega, HK.out _ ((Kept.refl wr).drewN 1) _⟩
end Go.Proofs.YtgmegfcjbnfnaaaGreatDoor

/- Walks over the reference's integers: sums, differences, order, of any length. -/
namespace Go.Proofs.YtgmegfcjbnfnaaaGreatDoor
open Go.RowKit Wide Numer
open Go.Lib (decDigits itoa nDigits)

/-- at most k digits -/
def Dk (k : Nat) (n : Int) : Prop := nDigits n.natAbs ≤ k
theorem lt_of_Dk {k : Nat} {n : Int} (hk : 1 ≤ k) (h : Dk k n) : n.natAbs < 10 ^ k := (Dec.nDigits_le_iff _ _ hk).1 h
theorem Dk_of_lt {k : Nat} {n : Int} (hk : 1 ≤ k) (h : n.natAbs < 10 ^ k) : Dk k n := (Dec.nDigits_le_iff _ _ hk).2 h
theorem Dk.mono {j k : Nat} {n : Int} (h : Dk j n) (hjk : j ≤ k) : Dk k n := Nat.le_trans h hjk
theorem Dk.pos {k : Nat} {n : Int} (h : Dk k n) : 1 ≤ k := Nat.le_trans (Lib.nDigits_pos _) h
theorem Dk.add {k : Nat} {n m : Int} (h : Dk k n) (g : Dk k m) : Dk (k + 1) (n + m) := by
  have h1 := lt_of_Dk h.pos h
  have h2 := lt_of_Dk h.pos g
  refine Dk_of_lt (by omega) ?_
  rw [Nat.pow_succ]; omega
theorem Dk.neg {k : Nat} {n : Int} (h : Dk k n) : Dk k (-n) := by unfold Dk at *; rw [Int.natAbs_neg]; exact h
theorem Dk.sub {k : Nat} {n m : Int} (h : Dk k n) (g : Dk k m) : Dk (k + 1) (n - m) := by rw [Int.sub_eq_add_neg]; exact h.add g.neg
theorem Dk.mul {j k : Nat} {n m : Int} (h : Dk j n) (g : Dk k m) : Dk (j + k) (n * m) := by
  have h1 := lt_of_Dk h.pos h
  have h2 := lt_of_Dk g.pos g
  refine Dk_of_lt (by have := h.pos; omega) ?_
  rw [Int.natAbs_mul, Nat.pow_add]
  exact Nat.mul_lt_mul'' h1 h2

theorem dd_len (u : Nat) : (decDigits u).length = nDigits u := Lib.decDigits_length u
theorem dd_pos (u : Nat) : 0 < (decDigits u).length := by rw [dd_len]; exact Lib.nDigits_pos u
theorem u_lt (u : Nat) : u < 10 ^ (decDigits u).length := by
  rw [dd_len]; exact (Dec.nDigits_le_iff u _ (Lib.nDigits_pos u)).1 (Nat.le_refl _)

theorem paper_any (add : Bool) (u v : Nat) (hu : nDigits u ≤ 100000) (hv : nDigits v ≤ 100000) (huv : add = false → v ≤ u) (w : World) :
    Calls Tryz.prog 154 #[.string (dg u), .string (dg v), .bool add] w fun r w' => r = .returned (.string (dg (if add then u + v else u - v))) ∧ Kept w w' := by
  have P := paper_list add (decDigits u) (decDigits v) (dd_pos u) (dd_pos v) (Dec.dig_decDigits u) (Dec.dig_decDigits v) (by rw [dd_len]; exact hu) (by rw [dd_len]; exact hv) _ rfl _ _ rfl rfl w
  have lu := u_lt u
  have lv := u_lt v
  obtain ⟨n, hn⟩ : ∃ n, n = max (decDigits u).length (decDigits v).length + 1 := ⟨_, rfl⟩
  rw [← hn] at P
  have zA : (List.replicate (n - (decDigits u).length) (48 : UInt8) ++ decDigits u).length = n := by simp; omega
  have zB : (List.replicate (n - (decDigits v).length) (48 : UInt8) ++ decDigits v).length = n := by simp; omega
  have dA := all_zeros (n - (decDigits u).length) (Dec.dig_decDigits u)
  have dB := all_zeros (n - (decDigits v).length) (Dec.dig_decDigits v)
  have vA : Dec.val (List.replicate (n - (decDigits u).length) 48 ++ decDigits u) = u := by rw [val_zeros, Dec.val_decDigits]
  have vB : Dec.val (List.replicate (n - (decDigits v).length) 48 ++ decDigits v) = v := by rw [val_zeros, Dec.val_decDigits]
  generalize List.replicate (n - (decDigits u).length) 48 ++ decDigits u = A at *
  generalize List.replicate (n - (decDigits v).length) 48 ++ decDigits v = B at *
  have hp1 : 10 ^ (decDigits u).length ≤ 10 ^ (n - 1) := Nat.pow_le_pow_right (by omega) (by omega)
  have hp2 : 10 ^ (decDigits v).length ≤ 10 ^ (n - 1) := Nat.pow_le_pow_right (by omega) (by omega)
  have hp3 : 10 ^ n = 10 ^ (n - 1) * 10 := by rw [← Nat.pow_succ]; congr 1; omega
  obtain ⟨zR, dR, cR⟩ := pap_ok add (zA.trans zB.symm) dA dB
  have vR := Dec.val_lt _ dR
  rw [zR, zA] at vR
  have key : Dec.val (pap add A B).1 = if add then u + v else u - v := by
    cases add
    · have h := pap_sub (zA.trans zB.symm) dA dB
      rw [vA, vB, zA] at h
      have h0 := huv rfl
      simp only [Bool.false_eq_true, if_false]
      rcases Nat.eq_zero_or_pos (pap false A B).2 with h1 | h1
      · rw [h1, Nat.zero_mul] at h; omega
      · have := Nat.mul_le_mul_right (10 ^ n) h1
        omega
    · have h := pap_add (zA.trans zB.symm) dA dB
      rw [vA, vB, zA] at h
      simp only [if_true]
      rcases Nat.eq_zero_or_pos (pap true A B).2 with h1 | h1
      · rw [h1, Nat.zero_mul] at h; omega
      · have := Nat.mul_le_mul_right (10 ^ n) h1
        omega
  rw [key] at P
  exact P

set_option maxHeartbeats 2000000 in
set_option maxRecDepth 100000 in
theorem plus1_any (n m : Int) (hn : Dk 90000 n) (hm : Dk 90000 m) (w : World) :
    Calls Tryz.prog 117 #[.string (tx n), .string (tx m)] w fun r w' => r = .returned (.string (tx (n + m))) ∧ Kept w w' := by
  by_cases hb : nDigits n.natAbs ≤ 18 ∧ nDigits m.natAbs ≤ 18
  · have B := brief_yes n m hb.1 hb.2 w
    have h1 : n.natAbs < 1000000000000000000 := (Dec.nDigits_le_iff _ 18 (by omega)).1 hb.1
    have h2 : m.natAbs < 1000000000000000000 := (Dec.nDigits_le_iff _ 18 (by omega)).1 hb.2
    have O := fun w => of1_any (n + m) (by omega) (by omega) w
    generalize tx (n + m) = s at *
    generalize tx n = t1 at *
    generalize tx m = t2 at *
    have i1 : -1000000000000000000 < n ∧ n < 1000000000000000000 := by omega
    have i2 : -1000000000000000000 < m ∧ m < 1000000000000000000 := by omega
    obtain ⟨i11, i12⟩ := i1
    obtain ⟨i21, i22⟩ := i2
    clear hn hm hb h1 h2
    go_enter Tryz.func117, Tryz.ntmps117
    go_wp2_with fail
    refine B.mono ?_
    rintro r w1 ⟨rfl, k1⟩
    go_wp2_with fail
    refine (O _).mono ?_
    rintro r w2 ⟨rfl, k2⟩
    go_wp2
    go_returns
    exact ⟨rfl, k1.trans k2⟩
  · have B := brief_no n m hb w
    have S1 := fun w => size_any n w
    have S2 := fun w => size_any m w
    have L1 := fun w => below_any n w
    have L2 := fun w => below_any m w
    have LS := fun w => less_any n.natAbs m.natAbs w
    unfold Dk at hn hm
    have PP := fun w => paper_any true n.natAbs m.natAbs (by omega) (by omega) (by simp) w
    rw [if_pos rfl] at PP
    have big : nDigits (n.natAbs + m.natAbs) ≤ 1000000 := by
      have := (Dk.add (k := 90000) (n := (n.natAbs : Int)) (m := (m.natAbs : Int)) (by unfold Dk; simpa using hn) (by unfold Dk; simpa using hm))
      unfold Dk at this
      have e : ((n.natAbs : Int) + (m.natAbs : Int)).natAbs = n.natAbs + m.natAbs := by omega
      rw [e] at this; omega
    have SG := fun b w => signed_any (n.natAbs + m.natAbs) big b w
    by_cases hs : decide (n < 0) = decide (m < 0)
    · have hv : sv (decide (n < 0)) (n.natAbs + m.natAbs) = n + m := by
        unfold sv
        by_cases h : n < 0
        · have : m < 0 := by
            rw [show decide (n < 0) = true by simp [h]] at hs
            exact of_decide_eq_true hs.symm
          simp [h]; omega
        · have : ¬ m < 0 := by
            rw [show decide (n < 0) = false by simp [h]] at hs
            exact of_decide_eq_false hs.symm
          simp [h]; omega
      have SGv := SG (decide (n < 0))
      rw [hv] at SGv
      rw [← hs] at L2
      generalize decide (n < 0) = d at *
      clear hs hv hb hn hm SG big LS
      generalize tx (n + m) = s at *
      generalize dg (n.natAbs + m.natAbs) = s0 at *
      generalize tx n = t1 at *
      generalize tx m = t2 at *
      generalize dg n.natAbs = d1 at *
      generalize dg m.natAbs = d2 at *
      go_enter Tryz.func117, Tryz.ntmps117
      go_wp2_with fail
      refine B.mono ?_
      rintro r w1 ⟨rfl, rfl⟩
      go_wp2_with fail
      refine (S1 _).mono ?_
      rintro r w1 ⟨rfl, rfl⟩
      go_wp2_with fail
      refine (S2 _).mono ?_
      rintro r w1 ⟨rfl, rfl⟩
      go_wp2_with fail
      refine (L1 _).mono ?_
      rintro r w1 ⟨rfl, rfl⟩
      go_wp2_with fail
      refine (L2 _).mono ?_
      rintro r w1 ⟨rfl, rfl⟩
      go_wp2_with fail
      refine (PP _).mono ?_
      rintro r w2 ⟨rfl, k2⟩
      go_wp2_with fail
      refine (L1 _).mono ?_
      rintro r w2 ⟨rfl, rfl⟩
      go_wp2_with fail
      refine (SGv _).mono ?_
      rintro r w2 ⟨rfl, rfl⟩
      go_wp2
      go_returns
      exact ⟨rfl, k2⟩
    · have hbq : (decide (n < 0) == decide (m < 0)) = false := by rw [beq_eq_false_iff_ne]; exact hs
      by_cases hlt : n.natAbs < m.natAbs
      · have PM := fun w => paper_any false m.natAbs n.natAbs (by omega) (by omega) (fun _ => by omega) w
        rw [if_neg (by simp)] at PM
        have SGv := fun w => signed_any (m.natAbs - n.natAbs) (by have := nDigits_mono (show m.natAbs - n.natAbs ≤ m.natAbs by omega); omega) (decide (m < 0)) w
        have hv : sv (decide (m < 0)) (m.natAbs - n.natAbs) = n + m := by
          unfold sv
          by_cases h : n < 0
          · have : ¬ m < 0 := fun h2 => hs (by simp [h, h2])
            simp [this]; omega
          · have : m < 0 := by
              rcases Int.lt_or_le m 0 with h2 | h2
              · exact h2
              · exact absurd (show decide (n < 0) = decide (m < 0) by simp [h]; omega) hs
            simp [this]; omega
        rw [hv] at SGv
        rw [show decide (n.natAbs < m.natAbs) = true by simp [hlt]] at LS
        generalize decide (n < 0) = da at *
        generalize decide (m < 0) = db at *
        clear hs hv hb hn hm SG big PP hlt
        generalize tx (n + m) = s at *
        generalize dg (m.natAbs - n.natAbs) = s0 at *
        generalize tx n = t1 at *
        generalize tx m = t2 at *
        generalize dg n.natAbs = d1 at *
        generalize dg m.natAbs = d2 at *
        go_enter Tryz.func117, Tryz.ntmps117
        go_wp2_with fail
        refine B.mono ?_
        rintro r w1 ⟨rfl, rfl⟩
        go_wp2_with fail
        refine (S1 _).mono ?_
        rintro r w1 ⟨rfl, rfl⟩
        go_wp2_with fail
        refine (S2 _).mono ?_
        rintro r w1 ⟨rfl, rfl⟩
        go_wp2_with fail
        refine (L1 _).mono ?_
        rintro r w1 ⟨rfl, rfl⟩
        go_wp2_with fail
        refine (L2 _).mono ?_
        rintro r w1 ⟨rfl, rfl⟩
        go_wp2_with fail
        refine (LS _).mono ?_
        rintro r w1 ⟨rfl, rfl⟩
        go_wp2_with fail
        refine (PM _).mono ?_
        rintro r w2 ⟨rfl, k2⟩
        go_wp2_with fail
        refine (L2 _).mono ?_
        rintro r w2 ⟨rfl, rfl⟩
        go_wp2_with fail
        refine (SGv _).mono ?_
        rintro r w2 ⟨rfl, rfl⟩
        go_wp2
        go_returns
        exact ⟨rfl, k2⟩
      · have PM := fun w => paper_any false n.natAbs m.natAbs (by omega) (by omega) (fun _ => by omega) w
        rw [if_neg (by simp)] at PM
        have SGv := fun w => signed_any (n.natAbs - m.natAbs) (by have := nDigits_mono (show n.natAbs - m.natAbs ≤ n.natAbs by omega); omega) (decide (n < 0)) w
        have hv : sv (decide (n < 0)) (n.natAbs - m.natAbs) = n + m := by
          unfold sv
          by_cases h : n < 0
          · have : ¬ m < 0 := fun h2 => hs (by simp [h, h2])
            simp [h]; omega
          · have : m < 0 := by
              rcases Int.lt_or_le m 0 with h2 | h2
              · exact h2
              · exact absurd (show decide (n < 0) = decide (m < 0) by simp [h]; omega) hs
            simp [h]; omega
        rw [hv] at SGv
        rw [show decide (n.natAbs < m.natAbs) = false by simp; omega] at LS
        generalize decide (n < 0) = da at *
        generalize decide (m < 0) = db at *
        clear hs hv hb hn hm SG big PP hlt
        generalize tx (n + m) = s at *
        generalize dg (n.natAbs - m.natAbs) = s0 at *
        generalize tx n = t1 at *
        generalize tx m = t2 at *
        generalize dg n.natAbs = d1 at *
        generalize dg m.natAbs = d2 at *
        go_enter Tryz.func117, Tryz.ntmps117
        go_wp2_with fail
        refine B.mono ?_
        rintro r w1 ⟨rfl, rfl⟩
        go_wp2_with fail
        refine (S1 _).mono ?_
        rintro r w1 ⟨rfl, rfl⟩
        go_wp2_with fail
        refine (S2 _).mono ?_
        rintro r w1 ⟨rfl, rfl⟩
        go_wp2_with fail
        refine (L1 _).mono ?_
        rintro r w1 ⟨rfl, rfl⟩
        go_wp2_with fail
        refine (L2 _).mono ?_
        rintro r w1 ⟨rfl, rfl⟩
        go_wp2_with fail
        refine (LS _).mono ?_
        rintro r w1 ⟨rfl, rfl⟩
        go_wp2_with fail
        refine (PM _).mono ?_
        rintro r w2 ⟨rfl, k2⟩
        go_wp2_with fail
        refine (L1 _).mono ?_
        rintro r w2 ⟨rfl, rfl⟩
        go_wp2_with fail
        refine (SGv _).mono ?_
        rintro r w2 ⟨rfl, rfl⟩
        go_wp2
        go_returns
        exact ⟨rfl, k2⟩

set_option maxHeartbeats 1000000 in
set_option maxRecDepth 100000 in
theorem minus1_any (n m : Int) (hn : Dk 90000 n) (hm : Dk 90000 m) (w : World) :
    Calls Tryz.prog 116 #[.string (tx n), .string (tx m)] w fun r w' => r = .returned (.string (tx (n - m))) ∧ Kept w w' := by
  have T := fun w => turned_any m (Nat.le_trans hm (by omega)) w
  have P := fun w => plus1_any n (-m) hn hm.neg w
  rw [← Int.sub_eq_add_neg] at P
  generalize tx (n - m) = s at *
  generalize tx (-m) = s2 at *
  generalize tx n = t1 at *
  generalize tx m = t2 at *
  clear hn hm
  go_enter Tryz.func116, Tryz.ntmps116
  go_wp2_with fail
  refine (T _).mono ?_
  rintro r w1 ⟨rfl, rfl⟩
  go_wp2_with fail
  refine (P _).mono ?_
  rintro r w2 ⟨rfl, k2⟩
  go_wp2
  go_returns
  exact ⟨rfl, k2⟩

set_option maxHeartbeats 1000000 in
set_option maxRecDepth 100000 in
theorem order1_any (n m : Int) (hn : Dk 90000 n) (hm : Dk 90000 m) (w : World) :
    Calls Tryz.prog 94 #[.string (tx n), .string (tx m)] w fun r w' => r = .returned (.int .i64 (zsgn (n - m))) ∧ Kept w w' := by
  have M := fun w => minus1_any n m hn hm w
  have B := fun w => below_any (n - m) w
  have hz := tx_is0 (n - m)
  generalize tx n = t1 at *
  generalize tx m = t2 at *
  generalize n - m = d at *
  clear hn hm
  rcases Int.lt_trichotomy d 0 with h | h | h
  · rw [zsgn_neg h]
    rw [show decide (d = 0) = false by simp; omega] at hz
    rw [show decide (d < 0) = true by simp [h]] at B
    generalize tx d = s at *
    go_enter Tryz.func94, Tryz.ntmps94
    go_wp2_with fail
    refine (M _).mono ?_
    rintro r w1 ⟨rfl, k1⟩
    go_wp2_with fail
    refine (B _).mono ?_
    rintro r w1 ⟨rfl, rfl⟩
    go_wp2
    go_returns
    exact ⟨rfl, k1⟩
  · rw [h, zsgn_zero]
    rw [show decide (d = 0) = true by simp [h]] at hz
    rw [h] at M hz
    clear B h
    generalize tx 0 = s at *
    go_enter Tryz.func94, Tryz.ntmps94
    go_wp2_with fail
    refine (M _).mono ?_
    rintro r w1 ⟨rfl, k1⟩
    go_wp2
    go_returns
    exact ⟨rfl, k1⟩
  · rw [zsgn_pos h]
    rw [show decide (d = 0) = false by simp; omega] at hz
    rw [show decide (d < 0) = false by simp; omega] at B
    generalize tx d = s at *
    go_enter Tryz.func94, Tryz.ntmps94
    go_wp2_with fail
    refine (M _).mono ?_
    rintro r w1 ⟨rfl, k1⟩
    go_wp2_with fail
    refine (B _).mono ?_
    rintro r w1 ⟨rfl, rfl⟩
    go_wp2
    go_returns
    exact ⟨rfl, k1⟩
end Go.Proofs.YtgmegfcjbnfnaaaGreatDoor

/- Walks over the reference's integers: product. -/
namespace Go.Proofs.YtgmegfcjbnfnaaaGreatDoor
open Go.RowKit Wide Numer
open Go.Lib (decDigits itoa nDigits)

/-- the block b holds the ints C -/
def Cols (w : World) (b : Nat) (C : List Nat) : Prop := w.heap[b]? = some (.cells (C.map fun c : Nat => Value.int .i64 (c : Int)).toArray 3)
theorem Cols.cell {w : World} {b : Nat} {l : List Nat} (h : Cols w b l) (j : Nat) (hj : j < l.length) : w.cell? ⟨b, j, none⟩ = some (.int .i64 ((l[j]?.getD 0 : Nat) : Int)) := by
  unfold Cols at h
  simp [World.cell?, h, hj]
theorem Cols.fz {w : World} {b : Nat} {l : List Nat} (h : Cols w b l) (j : Nat) : w.frozen? ⟨b, j, none⟩ = false := by
  unfold Cols at h
  simp [World.frozen?, h]
theorem Cols.keep {w w1 : World} {b : Nat} {l : List Nat} (h : Cols w b l) (k : Kept w w1) : Cols w1 b l := k.heap h
theorem Cols.other {w : World} {b g j : Nat} {l : List Nat} {v : Value} (h : Cols w b l) (hg : b ≠ g) : Cols (w.setCell ⟨g, j, none⟩ v) b l := by
  unfold Cols at *
  simp only [World.setCell]
  rw [Array.getElem?_modify, if_neg (fun e => hg e.symm)]
  exact h
theorem Bytes.other {w : World} {b g j : Nat} {l : List UInt8} {v : Value} (h : Bytes w b l) (hg : b ≠ g) : Bytes (w.setCell ⟨g, j, none⟩ v) b l := by
  unfold Bytes at *
  simp only [World.setCell]
  rw [Array.getElem?_modify, if_neg (fun e => hg e.symm)]
  exact h
theorem Cols.set {w : World} {b : Nat} {l : List Nat} (h : Cols w b l) (j : Nat) (c : Nat) : Cols (w.setCell ⟨b, j, none⟩ (.int .i64 (c : Int))) b (l.set j c) := by
  unfold Cols at *
  simp [World.setCell, Array.getElem?_modify, h, List.map_set]
theorem Cols.new (w : World) (l : List Nat) : Cols (w.alloc (.cells (l.map fun c : Nat => Value.int .i64 (c : Int)).toArray 3)) w.heap.size l := by
  unfold Cols World.alloc; simp

theorem make_cols (n : Nat) (hn : n ≤ 1000000) (w : World) : (Instr.makeSlice 22 (.int .i64 (n : Int)) (.int .i64 (n : Int))).run Tryz.prog w =
    .ok (.slice (some ⟨w.heap.size, 0, none⟩) n n) (w.alloc (.cells ((List.replicate n (0 : Nat)).map fun c : Nat => Value.int .i64 (c : Int)).toArray 3)) := by
  have h : (Tryz.prog.info? 3).map (fun i => (i.zero, i.size, i.bytes)) = some (some (Value.int .i64 0), 1, 8) := by kernel_rfl
  obtain ⟨i, h1, h5⟩ := Option.map_eq_some_iff.1 h
  simp only [Prod.mk.injEq] at h5
  obtain ⟨h2, h3, h4⟩ := h5
  have := run_makeSlice (P := Tryz.prog) (w := w) 22 3 i _ (by kernel_rfl) h1 h2 .i64 .i64 (n : Int) (n : Int) (by omega) (by omega) (by rw [h3]; omega) (by rw [h4]; omega) (by omega)
  rw [this]
  simp [madeCells, Value.cells, h3]
  have e : Array.map (fun x => [Value.int IntKind.i64 0][x % 1]?.getD default) (Array.range n) = Array.replicate n (Value.int IntKind.i64 0) := by
    apply Array.ext
    · simp
    · intro j _ _
      simp [Nat.mod_one]
  rw [e]

/-! ### what columns are worth -/
def cval (C : List Nat) : Nat := C.foldl (fun a c => 10 * a + c) 0
theorem cval_fold (C : List Nat) : ∀ a, C.foldl (fun a c => 10 * a + c) a = a * 10 ^ C.length + cval C := by
  induction C with
  | nil => intro a; simp [cval]
  | cons c C ih =>
    intro a
    rw [cval, List.foldl_cons, List.foldl_cons, ih, ih (10 * 0 + c), List.length_cons, Nat.pow_succ]
    grind
theorem cval_append (C D : List Nat) : cval (C ++ D) = cval C * 10 ^ D.length + cval D := by
  rw [cval, List.foldl_append, cval_fold]; rfl
theorem cval_cons (c : Nat) (C : List Nat) : cval (c :: C) = c * 10 ^ C.length + cval C := by
  rw [cval, List.foldl_cons, cval_fold]; simp
theorem cval_set (C : List Nat) (j x : Nat) (h : j < C.length) : cval (C.set j (C[j]?.getD 0 + x)) = cval C + x * 10 ^ (C.length - 1 - j) := by
  have e1 : C = C.take j ++ C[j] :: C.drop (j + 1) := by rw [← List.drop_eq_getElem_cons h, List.take_append_drop]
  have e0 : C[j]?.getD 0 = C[j] := by simp [h]
  have e2 : C.set j (C[j] + x) = C.take j ++ (C[j] + x) :: C.drop (j + 1) := by rw [List.set_eq_take_append_cons_drop, if_pos h]
  have e3 : (C.drop (j + 1)).length = C.length - 1 - j := by rw [List.length_drop]; omega
  rw [e0, e2]
  conv => rhs; rw [e1]
  rw [cval_append, cval_append, cval_cons, cval_cons, List.length_cons, List.length_cons, e3]
  have : (C.take j ++ C[j] :: C.drop (j + 1)).length = C.length := by rw [← e1]
  rw [this]
  grind
theorem cval_zero (n : Nat) : cval (List.replicate n 0) = 0 := by
  induction n with
  | zero => rfl
  | succ n ih => rw [List.replicate_succ, cval_cons, ih]; simp
theorem getD_le {C : List Nat} {M : Nat} (h : ∀ c ∈ C, c ≤ M) (j : Nat) : C[j]?.getD 0 ≤ M := by
  by_cases hj : j < C.length
  · have : C[j]?.getD 0 = C[j] := by simp [hj]
    rw [this]; exact h _ (List.getElem_mem hj)
  · rw [List.getElem?_eq_none (by omega)]; simp
/-- the columns carried -/
def car : List Nat → List UInt8 × Nat
  | [] => ([], 0)
  | c :: C => (UInt8.ofNat (48 + ((car C).2 + c) % 10) :: (car C).1, ((car C).2 + c) / 10)
theorem car_ok (M : Nat) : ∀ {C : List Nat}, (∀ c ∈ C, c ≤ M) → (car C).1.length = C.length ∧ (car C).1.all Dec.dig = true ∧ (car C).2 ≤ M ∧ Dec.val (car C).1 + (car C).2 * 10 ^ C.length = cval C
  | [], _ => ⟨rfl, rfl, Nat.zero_le _, rfl⟩
  | c :: C, h => by
    obtain ⟨h1, h2, h3, h4⟩ := car_ok M (C := C) fun x hx => h x (List.mem_cons_of_mem _ hx)
    have h5 := h c (List.mem_cons_self ..)
    have hm : ((car C).2 + c) % 10 < 10 := Nat.mod_lt _ (by omega)
    rw [car]
    refine ⟨by simp [h1], ?_, by dsimp only; omega, ?_⟩
    · rw [List.all_cons, Bool.and_eq_true]
      exact ⟨Dec.dig_digit hm, h2⟩
    · rw [Dec.val_cons, Dec.toNat_digit hm, h1, cval_cons, List.length_cons, Nat.pow_succ, Nat.add_sub_cancel_left]
      dsimp only
      have e : ((car C).2 + c) % 10 + 10 * (((car C).2 + c) / 10) = (car C).2 + c := by omega
      generalize ((car C).2 + c) % 10 = d at *
      generalize ((car C).2 + c) / 10 = f at *
      generalize 10 ^ C.length = P at *
      have e2 : d * P + f * (P * 10) = (car C).2 * P + c * P := by rw [← Nat.add_mul, ← e]; grind
      omega
theorem car_drop {C : List Nat} {p : Nat} (h : p < C.length) : car (C.drop p) = (UInt8.ofNat (48 + ((car (C.drop (p + 1))).2 + C[p]?.getD 0) % 10) :: (car (C.drop (p + 1))).1, ((car (C.drop (p + 1))).2 + C[p]?.getD 0) / 10) := by
  have e0 : C[p]?.getD 0 = C[p] := by simp [h]
  rw [e0, List.drop_eq_getElem_cons h, car]
theorem val_take_succ (l : List UInt8) (j : Nat) (h : j < l.length) : Dec.val (l.take (j + 1)) = 10 * Dec.val (l.take j) + (l[j].toNat - 48) := by
  rw [List.take_add_one, List.getElem?_eq_getElem h, Option.toList_some, Dec.val_append, Dec.val_one]
  simp [Nat.mul_comm]

/-- what the columns are worth when some pairs of digits are in -/
def PV (l m : List UInt8) (i k : Nat) : Nat :=
  Dec.val (l.take i) * Dec.val m * 10 ^ (l.length - i) + (Dec.val (l.take (i + 1)) - 10 * Dec.val (l.take i)) * Dec.val (m.take k) * 10 ^ (m.length - k) * 10 ^ (l.length - 1 - i)
theorem PV_step (l m : List UInt8) (i k : Nat) (hi : i < l.length) (hk : k < m.length) :
    PV l m i (k + 1) = PV l m i k + (l[i].toNat - 48) * (m[k].toNat - 48) * 10 ^ (l.length + m.length - 1 - (i + k + 1)) := by
  unfold PV
  rw [val_take_succ l i hi, val_take_succ m k hk, Nat.add_sub_cancel_left]
  have e1 : 10 ^ (m.length - k) = 10 ^ (m.length - (k + 1)) * 10 := by rw [← Nat.pow_succ]; congr 1; omega
  have e2 : 10 ^ (l.length + m.length - 1 - (i + k + 1)) = 10 ^ (m.length - (k + 1)) * 10 ^ (l.length - 1 - i) := by rw [← Nat.pow_add]; congr 1; omega
  rw [e1, e2]
  generalize 10 ^ (m.length - (k + 1)) = P
  generalize 10 ^ (l.length - 1 - i) = Q
  generalize 10 ^ (l.length - i) = S
  generalize l[i].toNat - 48 = x
  generalize m[k].toNat - 48 = y
  generalize Dec.val (l.take i) = z
  generalize Dec.val (m.take k) = z2
  generalize Dec.val m = z3
  grind
theorem PV_next (l m : List UInt8) (i : Nat) (hi : i < l.length) : PV l m i m.length = PV l m (i + 1) 0 := by
  unfold PV
  rw [val_take_succ l i hi, Nat.add_sub_cancel_left, List.take_length, Nat.sub_self, List.take_zero]
  have e1 : 10 ^ (l.length - i) = 10 ^ (l.length - (i + 1)) * 10 := by rw [← Nat.pow_succ]; congr 1; omega
  have e2 : l.length - 1 - i = l.length - (i + 1) := by omega
  rw [e1, e2, Dec.val_nil, Nat.mul_zero]
  generalize 10 ^ (l.length - (i + 1)) = S
  generalize l[i].toNat - 48 = x
  generalize Dec.val (l.take i) = z
  generalize Dec.val m = z3
  generalize Dec.val (l.take (i + 1 + 1)) = z4
  generalize 10 * (10 * z + x) = z5
  simp
  grind
theorem PV_end (l m : List UInt8) : PV l m l.length 0 = Dec.val l * Dec.val m := by
  unfold PV
  rw [List.take_length, List.take_zero, Nat.sub_self, Dec.val_nil]
  simp
end Go.Proofs.YtgmegfcjbnfnaaaGreatDoor

/- Walks over the reference's integers: product. -/
namespace Go.Proofs.YtgmegfcjbnfnaaaGreatDoor
open Go.RowKit Wide Numer
open Go.Lib (decDigits itoa nDigits)

theorem set_le {C : List Nat} {M N x j : Nat} (h : ∀ c ∈ C, c ≤ M) (hx : x ≤ N) (hMN : M ≤ N) : ∀ c ∈ C.set j x, c ≤ N := by
  intro c hc
  rcases List.mem_or_eq_of_mem_set hc with h1 | h1
  · exact Nat.le_trans (h c h1) hMN
  · rw [h1]; exact hx

set_option maxHeartbeats 8000000 in
set_option maxRecDepth 100000 in
theorem product_list (l m : List UInt8) (hl0 : 0 < l.length) (hm0 : 0 < m.length) (hl : l.all Dec.dig = true) (hm : m.all Dec.dig = true) (hll : l.length ≤ 100000) (hml : m.length ≤ 100000) (w : World) :
    Calls Tryz.prog 156 #[.string (bs l), .string (bs m)] w fun r w' => r = .returned (.string (dg (Dec.val l * Dec.val m))) ∧ Kept w w' := by
  have s1 := bs_size l
  have s2 := bs_size m
  have vl := Dec.val_lt l hl
  have vm := Dec.val_lt m hm
  have hv : Dec.val l * Dec.val m < 10 ^ (l.length + m.length) := by rw [Nat.pow_add]; exact Nat.mul_lt_mul'' vl vm
  have DL := Lib.hid hl
  have DM := Lib.hid hm
  obtain ⟨la, hla⟩ : ∃ la, l.length = la := ⟨_, rfl⟩
  obtain ⟨lb, hlb⟩ : ∃ lb, m.length = lb := ⟨_, rfl⟩
  obtain ⟨L, hL⟩ : ∃ L, la + lb = L := ⟨_, rfl⟩
  have hL1 : (la : Int) + (lb : Int) = (L : Int) := by omega
  rw [hla] at s1 hl0 hll
  rw [hlb] at s2 hm0 hml
  rw [hla, hlb, hL] at hv
  have HLA := Lib.hid hla
  have HLB := Lib.hid hlb
  have HL := Lib.hid hL
  have HV := Lib.hid hv
  have hL2 : L ≤ 200000 := by omega
  have hL3 : 2 ≤ L := by omega
  have M := make_cols L (by omega) w
  have hb := Cols.new w (List.replicate L 0)
  have hk := (Kept.refl w).alloc (.cells ((List.replicate L (0 : Nat)).map fun c : Nat => Value.int .i64 (c : Int)).toArray 3)
  have hsz : w.heap.size < (w.alloc (.cells ((List.replicate L (0 : Nat)).map fun c : Nat => Value.int .i64 (c : Int)).toArray 3)).heap.size := by simp
  generalize w.alloc (.cells ((List.replicate L (0 : Nat)).map fun c : Nat => Value.int .i64 (c : Int)).toArray 3) = w1 at *
  obtain ⟨b, hbb⟩ : ∃ b, w.heap.size = b := ⟨_, rfl⟩
  have hwb : w.heap.size ≤ b := by omega
  rw [hbb] at M hb hsz
  have HB := Lib.hid hb
  obtain ⟨tA, htA⟩ : ∃ t, bs l = t := ⟨_, rfl⟩
  obtain ⟨tB, htB⟩ : ∃ t, bs m = t := ⟨_, rfl⟩
  have HTA := Lib.hid htA
  have HTB := Lib.hid htB
  rw [htA] at s1 ⊢
  rw [htB] at s2 ⊢
  have HK1 := Lib.hid hk
  clear hb hbb htA htB hl hm vl vm hla hlb hL hv hk
  go_enter Tryz.func156, Tryz.ntmps156
  go_wp2_with fail
  go_loopg [6] la (fun k i wr => ∃ (j : Nat) (C : List Nat), k + j = la ∧ i = .int .i64 j ∧ Cols wr b C ∧ C.length = L ∧ cval C = PV l m j 0 ∧ (∀ c ∈ C, c ≤ 81 * (j * lb)) ∧ Kept w wr ∧ b < wr.heap.size)
  case atStart =>
    refine ⟨0, List.replicate L 0, by omega, rfl, HB.out, by simp, ?_, ?_, HK1.out, hsz⟩
    · rw [cval_zero]; simp [PV, Dec.val_nil]
    · intro c hc; have := List.eq_of_mem_replicate hc; omega
  case round =>
    obtain ⟨j, C, hkj, rfl, hC, hCl, hCv, hCm, hK, hbs⟩ := hrel
    have HC := Lib.hid hC
    have HCv := Lib.hid hCv
    have HCm := Lib.hid hCm
    have HK := Lib.hid hK
    have HCl := Lib.hid hCl
    have Hbs := Lib.hid hbs
    clear hC hCv hCm hK hCl hbs
    by_cases hj : j < la
    · obtain ⟨qk, hqk⟩ : ∃ qk, qk + 1 = gk := ⟨gk - 1, by omega⟩
      have hjl : j < l.length := by rw [HLA.out]; exact hj
      have qA : j < tA.size := by omega
      have eA : tA[j]'qA = l[j] := by
        have := HTA.out
        subst this
        exact bs_get l j _
      have dA := (Dec.dig_iff _).1 (List.all_eq_true.1 DL.out _ (List.getElem_mem hjl))
      have hPs := Lib.hid (fun q (hq : q < m.length) => PV_step l m j q hjl hq)
      have hPn := Lib.hid (PV_next l m j hjl)
      have hjb : j * lb ≤ 10000000000 := by
        have := Nat.mul_le_mul (show j ≤ 100000 by omega) hml
        omega
      generalize l[j] = xa at *
      obtain ⟨u, hu⟩ : ∃ u, xa.toNat = 48 + u := ⟨xa.toNat - 48, by omega⟩
      rw [hu] at hPs dA
      rw [show 48 + u - 48 = u by omega] at hPs
      have u9 : u ≤ 9 := by omega
      have hu1 : ((xa.toNat : Nat) : Int) - 48 = (u : Int) := by omega
      have wu1 : IntKind.u8.wrap (u : Int) = (u : Int) := by
        show (u : Int) % 256 = u
        omega
      have wu2 : IntKind.i64.wrap (u : Int) = (u : Int) := by rw [IntKind.wrap_i64]; omega
      clear dA hu
      go_wp2_with fail
      go_loopg [7] lb (fun k kv w9 => ∃ (q : Nat) (C : List Nat), k + q = lb ∧ kv = .int .i64 q ∧ Cols w9 b C ∧ C.length = L ∧ cval C = PV l m j q ∧ (∀ c ∈ C, c ≤ 81 * (j * lb + q)) ∧ Kept w w9 ∧ b < w9.heap.size)
      case atStart => exact ⟨0, C, by omega, rfl, HC.out, HCl.out, HCv.out, HCm.out, HK.out, Hbs.out⟩
      case round =>
        clear HC HCv HCm HK HCl Hbs C
        obtain ⟨q, C, hkq, rfl, hC, hCl, hCv, hCm, hK, hbs⟩ := hrel
        have HC := Lib.hid hC
        have HCv := Lib.hid hCv
        have HCm := Lib.hid hCm
        have HK := Lib.hid hK
        have HCl := Lib.hid hCl
        have Hbs := Lib.hid hbs
        clear hC hCv hCm hK hCl hbs
        by_cases hq : q < lb
        · have hqm : q < m.length := by rw [HLB.out]; exact hq
          have qB : q < tB.size := by omega
          have eB : tB[q]'qB = m[q] := by
            have := HTB.out
            subst this
            exact bs_get m q _
          have dB := (Dec.dig_iff _).1 (List.all_eq_true.1 DM.out _ (List.getElem_mem hqm))
          have hP1 := hPs.out q hqm
          generalize m[q] = xb at *
          obtain ⟨v, hv⟩ : ∃ v, xb.toNat = 48 + v := ⟨xb.toNat - 48, by omega⟩
          rw [hv] at hP1 dB
          rw [show 48 + v - 48 = v by omega] at hP1
          have v9 : v ≤ 9 := by omega
          have hv1 : ((xb.toNat : Nat) : Int) - 48 = (v : Int) := by omega
          have wv1 : IntKind.u8.wrap (v : Int) = (v : Int) := by
            show (v : Int) % 256 = v
            omega
          have wv2 : IntKind.i64.wrap (v : Int) = (v : Int) := by rw [IntKind.wrap_i64]; omega
          have hP81 : u * v ≤ 81 := Nat.mul_le_mul u9 v9
          obtain ⟨P, hP⟩ : ∃ P, u * v = P := ⟨_, rfl⟩
          have hP2 : (u : Int) * (v : Int) = (P : Int) := by rw [← hP]; rfl
          rw [hP] at hP1 hP81
          have wP : IntKind.i64.wrap (P : Int) = (P : Int) := by rw [IntKind.wrap_i64]; omega
          obtain ⟨s, hs⟩ : ∃ s, j + q = s := ⟨_, rfl⟩
          obtain ⟨t, ht⟩ : ∃ t, s + 1 = t := ⟨_, rfl⟩
          have hs1 : (j : Int) + (q : Int) = (s : Int) := by omega
          have ht1 : (s : Int) + 1 = (t : Int) := by omega
          have ws : IntKind.i64.wrap (s : Int) = (s : Int) := by rw [IntKind.wrap_i64]; omega
          have wt : IntKind.i64.wrap (t : Int) = (t : Int) := by rw [IntKind.wrap_i64]; omega
          have htL : t < L := by have := HL.out; omega
          have c1 := HC.out.cell t (by rw [HCl.out]; exact htL)
          have f1 := HC.out.fz t
          have c0b := getD_le HCm.out t
          have hset := Lib.hid (cval_set C t P (by rw [HCl.out]; exact htL))
          have hcol := Lib.hid (fun w1 (h : Kept wr w1) => (HC.out.keep h).set t (C[t]?.getD 0 + P))
          have hmx := Lib.hid (set_le (j := t) (x := C[t]?.getD 0 + P) (N := 81 * (j * lb + (q + 1))) HCm.out (by omega) (by omega))
          have hval : cval (C.set t (C[t]?.getD 0 + P)) = PV l m j (q + 1) := by
            rw [hset.out, HCv.out, HCl.out, hP1, HLA.out, HLB.out, HL.out, hs, ht]
          have hlen : (C.set t (C[t]?.getD 0 + P)).length = L := by rw [List.length_set]; exact HCl.out
          generalize C[t]?.getD 0 = c0 at *
          obtain ⟨c2, hc2⟩ : ∃ c2, c0 + P = c2 := ⟨_, rfl⟩
          have hc3 : (c0 : Int) + (P : Int) = (c2 : Int) := by omega
          have wc : IntKind.i64.wrap (c2 : Int) = (c2 : Int) := by rw [IntKind.wrap_i64]; omega
          rw [hc2] at hcol hval hlen hmx
          have Hval := Lib.hid hval
          have Hlen := Lib.hid hlen
          have HK2 := Lib.hid (fun w1 (h : Kept wr w1) x => kept_setb (j := t) (v := x) (HK.out.trans h) hwb)
          clear dB hv hP hs ht hP1 hset hc2 hval hlen hP81
          go_wp2_with fail
          go_region
          go_wp2
          go_roundg (gk - 1)
          case measure => omega
          case rel => exact ⟨q + 1, C.set t c2, by omega, by go_num, (hcol.out _ (Kept.refl wr)).keep (Kept.refl _).drew, Hlen.out, Hval.out, hmx.out, (HK2.out _ (Kept.refl wr) _).drew, by show b < (wr.setCell _ _).heap.size; rw [World.size_setCell]; exact Hbs.out⟩
        · obtain rfl : q = lb := by omega
          rw [HLB.out] at hPn
          have hPn2 := Lib.hid (HCv.out.trans hPn.out)
          have hbn : Hid (81 * (j * q + q) = 81 * ((j + 1) * q)) := Lib.hid (by rw [Nat.add_mul, Nat.one_mul])
          go_wp2
          go_roundg qk
          case measure => omega
          case rel => exact ⟨j + 1, C, by omega, by go_num, HC.out, HCl.out, hPn2.out, by rw [← hbn.out]; exact HCm.out, HK.out, Hbs.out⟩
    · obtain rfl : j = la := by omega
      have hend := PV_end l m
      rw [HLA.out] at hend
      have HE := Lib.hid (HCv.out.trans hend)
      have hjb : j * lb ≤ 10000000000 := Nat.mul_le_mul hll hml
      obtain ⟨MM, hMM⟩ : ∃ MM, MM = 81 * (j * lb) := ⟨_, rfl⟩
      rw [← hMM] at HCm
      have hM2 : MM ≤ 810000000000 := by omega
      obtain ⟨zR, dR, cR, vR⟩ := car_ok MM HCm.out
      have hlt := Dec.val_lt _ dR
      rw [HE.out, HCl.out] at vR
      rw [zR, HCl.out] at hlt
      have hz : (car C).2 = 0 := by
        have := HV.out
        rcases Nat.eq_zero_or_pos (car C).2 with h1 | h1
        · exact h1
        · have := Nat.mul_le_mul_right (10 ^ L) h1
          omega
      rw [hz, Nat.zero_mul, Nat.add_zero] at vR
      have hne : (car C).1 ≠ [] := by intro e; rw [e] at zR; rw [HCl.out] at zR; simp at zR; omega
      have Br := fun w => bare_any (car C).1 hne dR (by rw [zR, HCl.out]; omega) w
      rw [vR] at Br
      have ZR := Lib.hid (zR.trans HCl.out)
      have BR := Lib.hid Br
      have hC3 := Lib.hid HC.out
      have M2 := make_bytes L (by omega) wr
      have hb2 := Bytes.new wr (List.replicate L 0)
      have hk2 := (Kept.refl wr).alloc (.cells ((List.replicate L (0 : UInt8)).map fun c => Value.int .u8 (c.toNat : Int)).toArray 5)
      generalize wr.alloc (.cells ((List.replicate L (0 : UInt8)).map fun c => Value.int .u8 (c.toNat : Int)).toArray 5) = w3 at *
      obtain ⟨b2, hbb2⟩ : ∃ b2, wr.heap.size = b2 := ⟨_, rfl⟩
      have hwb2 : wr.heap.size ≤ b2 := by omega
      rw [hbb2] at M2 hb2
      have HB2 := Lib.hid hb2
      have HK2 := Lib.hid hk2
      clear hbb2 hb2 hend zR dR cR vR hlt hz hne Br hMM hjb HE hk2 HCv
      go_wp2_with fail
      go_loopg [9, 10] L (fun k c i w9 => ∃ I : Int, i = .int .i64 I ∧ I = (k : Int) - 1 ∧ c = .int .i64 (((car (C.drop k)).2 : Nat) : Int) ∧ Bytes w9 b2 (List.replicate k 0 ++ (car (C.drop k)).1) ∧ k ≤ L ∧ Kept wr w9)
      case atStart =>
        refine ⟨(L : Int) - 1, rfl, rfl, ?_, ?_, Nat.le_refl _, HK2.out⟩
        · rw [List.drop_of_length_le (by rw [HCl.out]; exact Nat.le_refl _)]; rfl
        · rw [List.drop_of_length_le (by rw [HCl.out]; exact Nat.le_refl _)]
          have := HB2.out
          simpa [car] using this
      case round =>
        obtain ⟨I, rfl, hI, rfl, hB, hkn, hK9⟩ := hrel
        have HB9 := Lib.hid hB
        clear hB
        rcases Nat.eq_zero_or_pos gk with hz | hz
        · subst hz
          obtain rfl : I = -1 := by omega
          rw [List.drop_zero, List.replicate_zero, List.nil_append] at HB9
          have S := str_bytes HB9.out
          rw [ZR.out] at S
          clear hI
          go_wp2_with fail
          refine (BR.out _).mono ?_
          rintro r w4 ⟨rfl, k4⟩
          go_wp2
          go_returns
          exact ⟨rfl, (HK.out.trans hK9).trans k4⟩
        · obtain ⟨p, rfl⟩ : ∃ p, gk = p + 1 := ⟨gk - 1, by omega⟩
          obtain rfl : I = (p : Int) := by omega
          have hpL : p < C.length := by rw [HCl.out]; omega
          have hdr := Lib.hid (car_drop hpL)
          have c1 := (hC3.out.keep hK9).cell p hpL
          have c0b := getD_le HCm.out p
          have ccb := (car_ok MM (C := C.drop (p + 1)) (fun x hx => HCm.out x (List.mem_of_mem_drop hx))).2.2.1
          have hbk := Lib.hid (fun d => back_step p 0 d (car (C.drop (p + 1))).1)
          obtain ⟨x0, c2⟩ : ∃ x0, wr.cell? ⟨b2, p, none⟩ = some x0 := ⟨_, HB9.out.cell p (by simp; omega)⟩
          have f2 := HB9.out.fz p
          have hset := Lib.hid (fun d => hbk.out d ▸ HB9.out.set p d)
          have HK3 := Lib.hid (fun v => kept_setb (j := p) (v := v) hK9 hwb2)
          generalize C[p]?.getD 0 = c0 at *
          generalize (car (C.drop (p + 1))).2 = cc at *
          obtain ⟨t, ht⟩ : ∃ t, cc + c0 = t := ⟨_, rfl⟩
          have ht1 : (cc : Int) + (c0 : Int) = (t : Int) := by omega
          have htb : t ≤ 1620000000000 := by omega
          rw [ht] at hdr
          have hm10 : t % 10 < 10 := Nat.mod_lt _ (by omega)
          have hdn := Dec.toNat_digit hm10
          have q1 : (t : Int).tmod 10 = ((t % 10 : Nat) : Int) := by rw [Int.tmod_eq_emod_of_nonneg (by omega)]; rfl
          have q2 : (t : Int).tdiv 10 = ((t / 10 : Nat) : Int) := by rw [Int.tdiv_eq_ediv_of_nonneg (by omega)]; rfl
          have hb10 : t / 10 ≤ 1620000000000 := by omega
          generalize t / 10 = t2 at *
          generalize UInt8.ofNat (48 + t % 10) = d at *
          generalize t % 10 = r at *
          have hd1 : (48 : Int) + (r : Int) = ((d.toNat : Nat) : Int) := by omega
          have hd2 : d.toNat ≤ 57 := by omega
          have hpL2 : p < L := by omega
          clear hz hI c0b ccb hbk ht hm10 hdn hpL
          go_wp2
          go_roundg p
          case measure => omega
          case rel => exact ⟨(p : Int) - 1, rfl, rfl, by rw [hdr.out], by rw [hdr.out]; exact hset.out d, by omega, HK3.out _⟩
end Go.Proofs.YtgmegfcjbnfnaaaGreatDoor
