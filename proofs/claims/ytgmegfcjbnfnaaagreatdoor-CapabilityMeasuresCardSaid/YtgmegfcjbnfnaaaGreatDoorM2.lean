/- Integers of whole as texts: reading, writing, Check, limited. -/
import Derived.Shelf.Strings.Builder1
import Derived.Shelf.Strings.BuilderK
import Derived.Shelf.Strings.BuilderF
import Derived.Test.YtgmegfcjbnfnaaaGreatDoorProg
import Derived.Test.YtgmegfcjbnfnaaaGreatDoorM1
import Derived.Test.YtgmegfcjbnfnaaaGreatDoorSh
import Derived.Lib.SmallJoins
import Derived.Deep.RegionHeld3
import Derived.Lib.AppendIntMem
import Derived.Lib.SlTrimSet
import Derived.Shelf.Strings.SlTrimAscii

/- The library's contracts for strings.Builder at this program, in plain words. -/
namespace Go.Proofs
open Go.Shelf
def Tryz.lays240_ren : Go.Shelf.Ren := ⟨fun | 240 => 208 | 276 => 223 | n => n, fun | 0 => 0 | 4 => 4 | 9 => 9 | 20 => 20 | 37 => 113 | 70 => 197 | 72 => 199 | 164 => 226 | n => n, fun | n => n⟩
theorem Tryz.lays240 : Go.Proofs.Lays.n240 Tryz.prog Tryz.lays240_ren := {
  mixed := by kernel_rfl
  f240 := Tryz.func208.trans (congrArg some (by kernel_rfl))
  f276 := Tryz.func223.trans (congrArg some (by kernel_rfl))
  t0 := Tryz.underlying0
  a0 := Tryz.isAgg0
  z0 := Tryz.sizeOf0
  v0 := Tryz.zeroValue0
  t4 := Tryz.underlying4
  a4 := Tryz.isAgg4
  z4 := Tryz.sizeOf4
  v4 := Tryz.zeroValue4
  t9 := Tryz.underlying9
  a9 := Tryz.isAgg9
  z9 := Tryz.sizeOf9
  v9 := Tryz.zeroValue9
  t20 := Tryz.underlying20
  a20 := Tryz.isAgg20
  z20 := Tryz.sizeOf20
  v20 := Tryz.zeroValue20
  t70 := Tryz.underlying197
  a70 := Tryz.isAgg197
  z70 := Tryz.sizeOf197
  v70 := Tryz.zeroValue197
  t72 := Tryz.underlying199
  a72 := Tryz.isAgg199
  z72 := Tryz.sizeOf199
  v72 := Tryz.zeroValue199
  t164 := Tryz.underlying226
  a164 := Tryz.isAgg226
  z164 := Tryz.sizeOf226
  v164 := Tryz.zeroValue226 }
theorem Tryz.Builder_X72_240 : Builder.X72 Tryz.prog Tryz.lays240_ren := {
  sizeBuilder := by kernel_rfl
  liesBuilder := by kernel_rfl }
def Tryz.lays167_ren : Go.Shelf.Ren := ⟨fun | 167 => 188 | 240 => 208 | 276 => 223 | n => n, fun | 0 => 0 | 4 => 4 | 5 => 5 | 9 => 9 | 20 => 20 | 37 => 113 | 70 => 197 | 72 => 199 | 75 => 173 | 80 => 201 | 164 => 226 | n => n, fun | n => n⟩
theorem Tryz.lays167 : Go.Proofs.Lays.n167 Tryz.prog Tryz.lays167_ren := {
  mixed := by kernel_rfl
  f167 := Tryz.func188.trans (congrArg some (by kernel_rfl))
  f240 := Tryz.func208.trans (congrArg some (by kernel_rfl))
  f276 := Tryz.func223.trans (congrArg some (by kernel_rfl))
  t0 := Tryz.underlying0
  a0 := Tryz.isAgg0
  z0 := Tryz.sizeOf0
  v0 := Tryz.zeroValue0
  t4 := Tryz.underlying4
  a4 := Tryz.isAgg4
  z4 := Tryz.sizeOf4
  v4 := Tryz.zeroValue4
  t5 := Tryz.underlying5
  a5 := Tryz.isAgg5
  z5 := Tryz.sizeOf5
  v5 := Tryz.zeroValue5
  t9 := Tryz.underlying9
  a9 := Tryz.isAgg9
  z9 := Tryz.sizeOf9
  v9 := Tryz.zeroValue9
  t20 := Tryz.underlying20
  a20 := Tryz.isAgg20
  z20 := Tryz.sizeOf20
  v20 := Tryz.zeroValue20
  t37 := Tryz.underlying113
  a37 := Tryz.isAgg113
  z37 := Tryz.sizeOf113
  v37 := Tryz.zeroValue113
  t70 := Tryz.underlying197
  a70 := Tryz.isAgg197
  z70 := Tryz.sizeOf197
  v70 := Tryz.zeroValue197
  t72 := Tryz.underlying199
  a72 := Tryz.isAgg199
  z72 := Tryz.sizeOf199
  v72 := Tryz.zeroValue199
  t75 := Tryz.underlying173
  a75 := Tryz.isAgg173
  z75 := Tryz.sizeOf173
  v75 := Tryz.zeroValue173
  t164 := Tryz.underlying226
  a164 := Tryz.isAgg226
  z164 := Tryz.sizeOf226
  v164 := Tryz.zeroValue226 }
theorem Tryz.Builder_Extra_167 : Builder.Extra Tryz.prog Tryz.lays167_ren := {
  sizeBuilder := by kernel_rfl
  liesBuilder := by kernel_rfl
  t5 := Tryz.underlying5
  a5 := Tryz.isAgg5
  z5 := Tryz.sizeOf5
  v5 := Tryz.zeroValue5
  infoByte := by kernel_rfl
  cellsByte := by kernel_rfl
  sizeByte := by kernel_rfl
  neB5 := by decide }
def Tryz.lays166_ren : Go.Shelf.Ren := ⟨fun | 166 => 189 | 240 => 208 | 276 => 223 | n => n, fun | 0 => 0 | 3 => 3 | 4 => 4 | 5 => 5 | 9 => 9 | 20 => 20 | 37 => 113 | 70 => 197 | 72 => 199 | 75 => 173 | 80 => 201 | 164 => 226 | n => n, fun | n => n⟩
theorem Tryz.lays166 : Go.Proofs.Lays.n166 Tryz.prog Tryz.lays166_ren := {
  mixed := by kernel_rfl
  f166 := Tryz.func189.trans (congrArg some (by kernel_rfl))
  f240 := Tryz.func208.trans (congrArg some (by kernel_rfl))
  f276 := Tryz.func223.trans (congrArg some (by kernel_rfl))
  t0 := Tryz.underlying0
  a0 := Tryz.isAgg0
  z0 := Tryz.sizeOf0
  v0 := Tryz.zeroValue0
  t3 := Tryz.underlying3
  a3 := Tryz.isAgg3
  z3 := Tryz.sizeOf3
  v3 := Tryz.zeroValue3
  t4 := Tryz.underlying4
  a4 := Tryz.isAgg4
  z4 := Tryz.sizeOf4
  v4 := Tryz.zeroValue4
  t9 := Tryz.underlying9
  a9 := Tryz.isAgg9
  z9 := Tryz.sizeOf9
  v9 := Tryz.zeroValue9
  t20 := Tryz.underlying20
  a20 := Tryz.isAgg20
  z20 := Tryz.sizeOf20
  v20 := Tryz.zeroValue20
  t37 := Tryz.underlying113
  a37 := Tryz.isAgg113
  z37 := Tryz.sizeOf113
  v37 := Tryz.zeroValue113
  t70 := Tryz.underlying197
  a70 := Tryz.isAgg197
  z70 := Tryz.sizeOf197
  v70 := Tryz.zeroValue197
  t72 := Tryz.underlying199
  a72 := Tryz.isAgg199
  z72 := Tryz.sizeOf199
  v72 := Tryz.zeroValue199
  t75 := Tryz.underlying173
  a75 := Tryz.isAgg173
  z75 := Tryz.sizeOf173
  v75 := Tryz.zeroValue173
  t164 := Tryz.underlying226
  a164 := Tryz.isAgg226
  z164 := Tryz.sizeOf226
  v164 := Tryz.zeroValue226 }
theorem Tryz.Builder_Extra_166 : Builder.Extra Tryz.prog Tryz.lays166_ren := {
  sizeBuilder := by kernel_rfl
  liesBuilder := by kernel_rfl
  t5 := Tryz.underlying5
  a5 := Tryz.isAgg5
  z5 := Tryz.sizeOf5
  v5 := Tryz.zeroValue5
  infoByte := by kernel_rfl
  cellsByte := by kernel_rfl
  sizeByte := by kernel_rfl
  neB5 := by decide }
end Go.Proofs

/- Texts of integers as values of the program; the library's calls on them. -/
namespace Go.Proofs.YtgmegfcjbnfnaaaGreatDoor
open Go.RowKit Numer
open Go.Lib (decDigits itoa nDigits)

/-- a row of bytes as a string -/
def bs (l : List UInt8) : ByteArray := ⟨l.toArray⟩
theorem bs_list (l : List UInt8) : (bs l).data.toList = l := rfl
theorem bs_size (l : List UInt8) : (bs l).size = l.length := by show l.toArray.size = _; simp
theorem bs_of (s : ByteArray) : s = bs s.data.toList := by cases s; rfl
theorem bs_inj {l m : List UInt8} (h : bs l = bs m) : l = m := by have := congrArg (fun s : ByteArray => s.data.toList) h; exact this
/-- the text of an integer -/
def tx (n : Int) : ByteArray := bs (itoa n)
theorem tx_size (n : Int) : (tx n).size = (itoa n).length := bs_size _
theorem tx_zero : tx 0 = ⟨#[48]⟩ := by unfold tx; rw [Dec.itoa_nonneg (by omega)]; show bs (decDigits 0) = _; rw [Dec.decDigits_zero]; rfl
theorem tx_inj {n m : Int} (h : tx n = tx m) : n = m := Dec.itoa_inj (bs_inj h)
theorem tx_size_pos (n : Int) : 1 ≤ (tx n).size := by rw [tx_size]; exact itoa_length_pos n
theorem tx_minus (n : Int) (h : 0 < (tx n).size) : (((tx n)[0]'h).toNat == 45) = decide (n < 0) := by
  obtain ⟨c, r, e, hc⟩ := itoa_cons n
  have h1 : (tx n)[0]'h = c := by
    show ((itoa n).toArray)[0]'_ = c
    simp [e]
  rw [h1]
  by_cases hn : n < 0
  · rw [hc.2 hn]; simp [hn]
  · have : c ≠ 45 := fun h2 => hn (hc.1 h2)
    have h2 : c.toNat ≠ 45 := fun h3 => this (UInt8.toNat_inj.1 h3)
    simp [hn, h2]
theorem tx_minus_int (n : Int) (h : 0 < (tx n).size) : ((((tx n)[0]'h).toNat : Int) == 45) = decide (n < 0) := by
  rw [← tx_minus n h]
  rw [Bool.eq_iff_iff, beq_iff_eq, beq_iff_eq]
  omega

/-- strings.TrimPrefix(s, "-") -/
theorem trim_any (l : List UInt8) (w : World) : Calls Tryz.prog 111 #[.string (bs l), .string ⟨#[45]⟩] w fun e w' => e = .returned (.string (bs (un l))) ∧ w' = w :=
  (Tryz.strings_TrimPrefix (bs l) ⟨#[45]⟩ w).mono fun e w' ⟨he, hw⟩ => ⟨by rw [he]; show Ending.returned (.string (bs (Lib.trimPrefix l [45]))) = _; rw [trim_un], hw⟩

/-- strconv.Atoi of a short numeral -/
theorem atoi_any (s : ByteArray) (n : Int) (hl : s.size ≤ 18) (h : Lib.atoi s.data.toList = some n) (w : World) :
    Calls Tryz.prog 167 #[.string s] w fun e w' => e = .returned (.tuple #[.int .i64 n, .nilIface]) ∧ Kept w w' :=
  (Tryz.strconv_Atoi s n hl h w).mono fun _ _ ⟨he, _, hw⟩ => ⟨he, by rw [hw]; exact Kept.of_below (Joins.below_bytesWorld _ _ _ _ (Nat.le_refl _))⟩
theorem bs_extract (l : List UInt8) (i j : Nat) : (bs l).extract i j = bs ((l.take j).drop i) := by
  rw [bs_of ((bs l).extract i j)]
  congr 1
  rw [ByteArray.data_extract, Array.toList_extract, bs_list, List.extract_eq_take_drop]
  rw [List.drop_take]

end Go.Proofs.YtgmegfcjbnfnaaaGreatDoor

/- Walks over the integers of whole: read. -/
namespace Go.Proofs.YtgmegfcjbnfnaaaGreatDoor
open Go.RowKit Wide Numer
open Go.Lib (decDigits itoa nDigits)

theorem kept_drew {w w1 : World} (h : Kept w.drew w1) : Kept w w1 := ⟨h.os, h.tape, h.output, h.size, h.block⟩
theorem wide_at {w : World} {b n v i : Nat} {l : Bool} (h : IsWide w b l n v) (hi : i < 232) :
    w.cell? ⟨b, 1, none⟩ = some (.int .i64 (n : Int)) ∧ w.cell? ⟨b, 2 + i, none⟩ = some (.int .i64 (wd v i : Nat)) ∧ w.frozen? ⟨b, 2 + i, none⟩ = false := ⟨h.c1, h.cw i hi, h.fz _⟩

set_option maxHeartbeats 1000000 in
set_option maxRecDepth 100000 in
theorem read_any (n : Int) (hn : nDigits n.natAbs ≤ 2070) (w : World) :
    Calls Tryz.prog 142 #[.string (tx n)] w fun e w' => ∃ b, e = .returned (.pointer (some ⟨b, 0, none⟩)) ∧ WideAt b (decide (n < 0)) n.natAbs w w' := by
  have hp := tx_size_pos n
  go_enter Tryz.func142, Tryz.ntmps142
  go_wp2_with (first
    | (refine wpList_buildWide rfl _ rfl (decide (n < 0)) (congrArg Value.bool (tx_minus_int n _)) ?_)
    | (refine wpList_boxWide rfl _ rfl _ rfl ?_))
  refine (trim_any (itoa n) _).mono ?_
  rintro e w1 ⟨rfl, rfl⟩
  rw [un_itoa, ← cut_zero]
  obtain ⟨N, hN⟩ : ∃ N, N = n.natAbs := ⟨_, rfl⟩
  rw [← hN] at hn ⊢
  have HN := Lib.hid hN
  clear hN
  have hb := IsWide.new w (decide (n < 0)) 0 0
  have g1 : Kept w (w.alloc (.cells (cellsOf (decide (n < 0)) 0 0) 168)) := (Kept.refl w).alloc _
  generalize w.alloc (.cells (cellsOf (decide (n < 0)) 0 0) 168) = w3 at *
  obtain ⟨b, hbz⟩ : ∃ b, b = w.heap.size := ⟨_, rfl⟩
  have hbl : w.heap.size ≤ b := by omega
  rw [← hbz] at hb ⊢
  clear hbz
  go_wp2
  go_loopg [3] (nDigits N + 1) (fun k s wr => ∃ j : Nat, k + j = nDigits N + 1 ∧ j ≤ 231 ∧ s = .string (bs (cut N j)) ∧ IsWide wr b (decide (n < 0)) j (N % B ^ j) ∧ w3.grownBy wr (some b))
  case atStart => exact ⟨0, rfl, by omega, rfl, by simpa [Nat.mod_one] using hb, grown_refl _ _⟩
  case round =>
    obtain ⟨j, hkj, hj231, rfl, hw1, hg1⟩ := hrel
    have hcl := cut_length N j
    by_cases hend : nDigits N ≤ 9 * j
    · have hlt : N < B ^ j := by
        rw [B_pow]
        exact Nat.lt_of_lt_of_le (Lib.lt_pow_nDigits N) (Nat.pow_le_pow_right (by omega) hend)
      rw [Nat.mod_eq_of_lt hlt] at hw1
      have hs0 : (bs (cut N j)).size = 0 := by rw [bs_size, hcl]; omega
      have hj232 : j ≤ 232 := by omega
      have hnw := (nw_le_iff N j).2 hlt
      clear hcl hlt
      go_wp2_with fail
      refine (trimmed_any b j N _ wr hj232 hnw hw1).mono ?_
      rintro e w1 ⟨rfl, h1, h2⟩
      go_wp2
      go_returns
      exact ⟨b, rfl, hbl, by rw [← HN.out]; exact h1, g1.own (grown_trans hg1 h2) hbl⟩
    · have hcw := cut_word N j (by omega)
      obtain ⟨t, ht⟩ : ∃ t, t = bs (cut N j) := ⟨_, rfl⟩
      obtain ⟨L, hL⟩ : ∃ L, L = nDigits N - 9 * j := ⟨_, rfl⟩
      have hts : t.size = L := by rw [ht, bs_size, hcl, hL]
      rw [← ht]
      have c1 := hw1.c1
      have f1 := hw1.fz 1
      have fj := hw1.fz (2 + j)
      have cj := hw1.cw j (by omega)
      have hLb : L ≤ 2070 := by omega
      have hLp : 0 < L := by omega
      have hj1 : (0 : Int) ≤ (j : Int) := by omega
      have hj2 : (j : Int) < 232 := by omega
      have HT := Lib.hid ht
      have HL := Lib.hid hL
      obtain ⟨F, hF⟩ : ∃ F, F = L - 9 := ⟨_, rfl⟩
      have hmx : max (0 : Int) ((L : Int) - 9) = (F : Int) := by omega
      have hFL : F ≤ L := by omega
      have i1 : (0 : Int) ≤ (F : Int) := by omega
      have i2 : (F : Int) ≤ (L : Int) := by omega
      have ha1 : (t.extract F L).size ≤ 18 := by
        rw [ht, bs_extract, bs_size, List.length_drop, List.length_take, cut_length]; omega
      have ha2 : Lib.atoi (t.extract F L).data.toList = some (wd N j : Int) := by
        rw [ht, bs_extract, bs_list, hF, hL, ← hcl, List.take_length, hcl]
        exact hcw.1
      have HA1 := Lib.hid ha1
      have HA2 := Lib.hid ha2
      have HF := Lib.hid hF
      clear ha1 ha2 ht hL hcw hcl hF
      go_wp2_with fail
      go_region_held3 (fun w' => w'.cell? ⟨b, 1, none⟩ = some (.int .i64 (j : Int)))
        (first | exact (World.cell?_setCell_other _ _ _ _ (by simp)).trans (hw1.keep (kept_drew hk1)).c1 | exact (hw1.keep (kept_drew hk1)).c1 | exact c1)
        (first | (go_at_call 167; refine (atoi_any _ _ HA1.out HA2.out _).mono ?_; rintro e w1 ⟨rfl, hk1⟩; have hcj := (hw1.keep (kept_drew hk1)).cw j (by omega); have hfj := (hw1.keep (kept_drew hk1)).fz (2 + j)))
      have hk0 := kept_drew hk1
      have hw2 := hw1.keep hk0
      have c1' := hw2.c1
      have f1' := hw2.fz 1
      clear hcj hfj c1 f1 fj cj
      go_wp2
      go_roundg (gk - 1)
      case measure => omega
      case rel =>
        refine ⟨j + 1, by omega, by omega, ?_, ?_, grown_trans hg1 (grown_setCell (grown_setCell (hk0.some _) _ _) _ _)⟩
        · rw [HT.out, bs_extract, List.drop_zero, HF.out, HL.out, cut_succ]
        · refine (hw2.setW (k := j) (v' := N % B ^ (j + 1)) ?_ ?_ (by omega)).set1 (j + 1)
          · rw [wd_low (by omega)]
          · intro i
            by_cases hi : i = j
            · rw [if_pos hi, hi]
            · rw [if_neg hi]
              by_cases hlt : i < j
              · rw [wd_low (by omega), wd_low hlt]
              · rw [wd_zero (Nat.lt_of_lt_of_le (Nat.mod_lt _ (Bp_pos _)) (Nat.pow_le_pow_right B_pos (by omega))), wd_zero (Nat.lt_of_lt_of_le (Nat.mod_lt _ (Bp_pos _)) (Nat.pow_le_pow_right B_pos (by omega)))]

end Go.Proofs.YtgmegfcjbnfnaaaGreatDoor

/- Itoa and strings.Builder as they are used here. -/
namespace Go.Proofs.YtgmegfcjbnfnaaaGreatDoor
open Go.RowKit Numer
open Go.Lib (decDigits itoa nDigits)

/-- the library's table of powers lies where it should -/
def Tab (w : World) : Prop := Lib.TabIs Tryz.prog w "internal/strconv.uint64pow10" .u64 Lib.pow10Tab
theorem Tab.keep {w w1 : World} (h : Tab w) (k : Kept w w1) : Tab w1 := Lib.tabBelow_of_tabIs h w1 k.below
theorem Tab.keepB {w w1 : World} {B : Nat} (h : Tab w) (k : Below B w w1) (hB : w.heap.size ≤ B) : Tab w1 := Lib.tabBelow_of_tabIs h w1 (k.mono hB)

theorem Kept.trans_below {w w1 w2 : World} {B : Nat} (h : Kept w w1) (k : Below B w1 w2) (hB : w.heap.size ≤ B) : Kept w w2 :=
  ⟨k.os.trans h.os, k.tape.trans h.tape, k.output.trans h.output, Nat.le_trans h.size k.size, fun j hj _ => (k.block j (by omega)).trans (h.block j hj (by simp))⟩
theorem kept_grow (w : World) (k : Nat) (os : Array Obj) : Kept w (Sort.grow (w.drewN k) os) :=
  ⟨rfl, rfl, rfl, by simp [Sort.grow], fun j hj _ => by
    show ((w.drewN k).heap ++ os)[j]? = _
    rw [Array.getElem?_append_left (by exact hj)]; rfl⟩

theorem itoa_any (n : Int) (h0 : -9223372036854775808 ≤ n) (h1 : n ≤ 9223372036854775807) (w : World) (hT : Tab w) :
    Calls Tryz.prog 112 #[.int .i64 n] w fun e w' => e = .returned (.string (tx n)) ∧ Kept w w' :=
  (Tryz.strconv_Itoa n h0 h1 w hT).mono fun _ _ ⟨he, k, os, hw⟩ => ⟨he, by rw [hw]; exact kept_grow w k os⟩

/-- block b is a builder of the call's own that holds l -/
def Bld (b : Nat) (l : List UInt8) (w : World) : Prop := Lib.IsBuilderF 199 5 b b (Lib.byteCells l) w
theorem Bld.fresh (w : World) : Bld w.heap.size [] (w.alloc (.cells #[.pointer none, .slice none 0 0] 199)) :=
  Lib.IsBuilderF.of (Lib.fresh_isBuilder _ _ w)
theorem Bld.lt {b : Nat} {l : List UInt8} {w : World} (h : Bld b l w) : b < w.heap.size := by
  rcases h with h | h <;> exact h.lt
theorem BuilderAtF_keep {T e : TypeId} {B b : Nat} {p : Value} {cs : List Value} {w w1 : World} (h : Lib.BuilderAtF T e B b p cs w) (k : Kept w w1) : Lib.BuilderAtF T e B b p cs w1 := by
  obtain ⟨hB, v, hb, hown, hne⟩ := h
  exact ⟨hB, v, k.heap hb, hown.kept k (by cases hv : v.ownBlock <;> simp), hne⟩
theorem Bld.keep {b : Nat} {l : List UInt8} {w w1 : World} (h : Bld b l w) (k : Kept w w1) : Bld b l w1 := by
  rcases h with h | h
  · exact .inl (BuilderAtF_keep h k)
  · exact .inr (BuilderAtF_keep h k)

theorem wstr_any (b : Nat) (l s : List UInt8) (w : World) (h : Bld b l w) (hl : l.length + s.length ≤ 140737488355328) :
    Calls Tryz.prog 189 #[.pointer (some ⟨b, 0, none⟩), .string (bs s)] w fun e w' => e = .returned (.tuple #[.int .i64 (bs s).size, .nilIface]) ∧ Bld b (l ++ s) w' ∧ Below b w w' := by
  refine (Any.Builder_WriteString_k Tryz.lays166 Tryz.Builder_Extra_166 b b (Lib.byteCells l) (bs s) w h (by rw [bs_size]; simpa [Lib.byteCells] using hl) (Nat.le_of_lt h.lt)).mono fun e w' ⟨he, h1, h2, _⟩ => ⟨he, ?_, h2⟩
  have e1 : Lib.byteCells l ++ Lib.strCells (bs s) = Lib.byteCells (l ++ s) := by simp [Lib.byteCells, Lib.strCells, bs_list]
  exact .inr (by rw [← e1]; exact h1)
theorem wbyte_any (b : Nat) (l : List UInt8) (w : World) (h : Bld b l w) (hl : l.length + 1 ≤ 140737488355328) :
    Calls Tryz.prog 188 #[.pointer (some ⟨b, 0, none⟩), .int .u8 45] w fun e w' => e = .returned .nilIface ∧ Bld b (l ++ [45]) w' ∧ Below b w w' := by
  refine (Any.Builder_WriteByte_k Tryz.lays167 Tryz.Builder_Extra_167 b b (Lib.byteCells l) 45 w h (by simpa [Lib.byteCells] using hl) (Nat.le_of_lt h.lt)).mono fun e w' ⟨he, h1, h2, _⟩ => ⟨he, ?_, h2⟩
  have e1 : Lib.byteCells l ++ [.int .u8 45] = Lib.byteCells (l ++ [45]) := by simp [Lib.byteCells]
  exact .inr (by rw [← e1]; exact h1)
theorem bstr_any (b : Nat) (l : List UInt8) (w : World) (h : Bld b l w) :
    Calls Tryz.prog 190 #[.pointer (some ⟨b, 0, none⟩)] w fun e w' => e = .returned (.string (bs l)) ∧ Below b w w' :=
  (Any.Builder_String_any_k Tryz.lays169 Tryz.Builder_Extra_169 b b l w h (Nat.le_of_lt h.lt)).mono fun _ _ ⟨he, _, h2, _⟩ => ⟨he, h2⟩

end Go.Proofs.YtgmegfcjbnfnaaaGreatDoor

/- Walks over the integers of whole: text. -/
namespace Go.Proofs.YtgmegfcjbnfnaaaGreatDoor
open Go.RowKit Wide Numer
open Go.Lib (decDigits itoa nDigits)

/-- what is written ahead of the words -/
def sgn (l : Bool) : List UInt8 := if l then [45] else []
theorem sgn_digits (l : Bool) (V : Nat) (h : V ≠ 0) : sgn l ++ decDigits V = itoa (sv l V) := by
  cases l
  · show decDigits V = itoa (V : Int)
    rw [Dec.itoa_nat]
  · show 45 :: decDigits V = itoa (-(V : Int))
    rw [Dec.itoa_neg (by omega)]
    congr 2
    omega

theorem wlen_ok {pre : List UInt8} {V n : Nat} (h : pre.length ≤ 1) : pre.length + (itoa (wd V n : Nat)).length ≤ 140737488355328 := by
  have h1 := itoa_length_le ((wd V n : Nat) : Int)
  have h2 : nDigits (wd V n) ≤ 9 := (Dec.nDigits_le_iff (wd V n) 9 (by omega)).2 (wd_lt V n)
  simp at h1 ⊢
  omega

theorem nDigits_mono {u v : Nat} (h : u ≤ v) : nDigits u ≤ nDigits v := by
  rw [Dec.nDigits_le_iff _ _ (Lib.nDigits_pos v)]
  exact Nat.lt_of_le_of_lt h (Lib.lt_pow_nDigits v)
theorem dlen_ok {pre : List UInt8} {V n m : Nat} (h : nw V = n + 1) (hn : n + 1 ≤ 231) (hp : pre.length ≤ 1) : (pre ++ decDigits (V / B ^ m)).length + 9 ≤ 140737488355328 := by
  have h1 : nDigits (V / B ^ m) ≤ nDigits V := nDigits_mono (Nat.div_le_self _ _)
  have h2 : V < B ^ (n + 1) := by rw [← h]; exact lt_nw V
  rw [B_pow] at h2
  have h3 : nDigits V ≤ 9 * (n + 1) := (Dec.nDigits_le_iff V _ (by omega)).2 h2
  rw [List.length_append, Lib.decDigits_length]
  omega
theorem cat_pad {u : Nat} (h : u < B) : (⟨#[48, 48, 48, 48, 48, 48, 48, 48, 48]⟩ : ByteArray).extract (nDigits u) 9 ++ tx (u : Int) = bs (pad9 u) := by
  have h9 : nDigits u ≤ 9 := (Dec.nDigits_le_iff u 9 (by omega)).2 h
  have e1 : (⟨#[48, 48, 48, 48, 48, 48, 48, 48, 48]⟩ : ByteArray) = bs (List.replicate 9 48) := rfl
  rw [e1, bs_extract, List.take_of_length_le (by simp), List.drop_replicate]
  rw [bs_of (bs (List.replicate (9 - nDigits u) 48) ++ tx (u : Int))]
  have e2 : (bs (List.replicate (9 - nDigits u) 48) ++ tx (u : Int)).data.toList = pad9 u := by
    rw [ByteArray.data_append, Array.toList_append]
    show List.replicate (9 - nDigits u) 48 ++ itoa (u : Int) = pad9 u
    rw [Dec.itoa_nat]
    rfl
  rw [e2]

set_option maxHeartbeats 1000000 in
set_option maxRecDepth 100000 in
theorem text_any (b V : Nat) (l : Bool) (w : World) (hx : IsWide w b l (nw V) V) (hn : nw V ≤ 231) (hT : Tab w) :
    Calls Tryz.prog 165 #[.pointer (some ⟨b, 0, none⟩)] w fun e w' => e = .returned (.string (tx (sv l V))) ∧ Kept w w' := by
  have x1 := hx.c1
  by_cases hV : V = 0
  · subst hV
    rw [nw_zero] at x1
    go_enter Tryz.func165, Tryz.ntmps165
    go_wp2
    go_returns
    refine ⟨?_, Kept.refl _⟩
    have e0 : sv l 0 = 0 := by cases l <;> rfl
    rw [e0, tx_zero]
    rfl
  · obtain ⟨n, hnw⟩ : ∃ n, nw V = n + 1 := ⟨nw V - 1, by have : nw V ≠ 0 := fun h => hV (by have := lt_nw V; rw [h] at this; simpa using this); omega⟩
    rw [hnw] at x1 hn
    have hxl := hx.lt
    have x1' : ∀ o, (w.alloc o).cell? ⟨b, 1, none⟩ = some (.int .i64 ((n + 1 : Nat) : Int)) := fun o => by rw [← hnw]; exact (hx.alloc o).c1
    have x0' : ∀ o, (w.alloc o).cell? ⟨b, 0, none⟩ = some (.bool l) := fun o => (hx.alloc o).c0
    have hB0 := Bld.fresh w
    have g0 : Kept w (w.alloc (.cells #[.pointer none, .slice none 0 0] 199)) := (Kept.refl w).alloc _
    obtain ⟨bb, hbb⟩ : ∃ bb, bb = w.heap.size := ⟨_, rfl⟩
    have hbl : w.heap.size ≤ bb := by omega
    rw [← hbb] at hB0
    have HV := Lib.hid hV
    have Hnw := Lib.hid hnw
    have Hbb := Lib.hid hbb
    clear hV hnw hbb
    obtain ⟨pre, hpre⟩ : ∃ pre, pre = sgn l := ⟨_, rfl⟩
    have hend : Hid (pre ++ decDigits V = itoa (sv l V)) := by rw [hpre]; exact sgn_digits l V HV.out
    have hpl : pre.length ≤ 1 := by rw [hpre]; cases l <;> simp [sgn]
    have Hpre := Lib.hid hpre
    clear hpre
    cases l
    case' false =>
      go_enter Tryz.func165, Tryz.ntmps165
      go_wp2_with fail
      rw [← Hbb.out]
      clear x0' x1' x1
      generalize w.alloc (.cells #[.pointer none, .slice none 0 0] 199) = w3 at *
      replace hB0 : Bld bb pre w3 := by rw [Hpre.out]; exact hB0
    case' true =>
      go_enter Tryz.func165, Tryz.ntmps165
      go_wp2_with fail
      rw [← Hbb.out]
      clear x0' x1' x1
      generalize w.alloc (.cells #[.pointer none, .slice none 0 0] 199) = w3 at *
      refine (wbyte_any bb [] w3 hB0 (by simp)).mono ?_
      rintro e w4 ⟨rfl, hB4, hk4⟩
      replace hB0 : Bld bb pre w4 := by rw [Hpre.out]; exact hB4
      replace g0 : Kept w w4 := g0.trans_below hk4 hbl
      clear hB4 hk4 w3
      rename World => w3
      go_wp2_with fail
    all_goals
      have hx3 := hx.keep g0
      have x1 := hx3.c1
      rw [Hnw.out] at x1
      have xw := hx3.cw n (by omega)
      have hT3 := hT.keep g0
      have hlt1 : (⟨b, 1, none⟩ : Addr).block < bb := by show b < bb; omega
      have hlt2 : (⟨b, 2 + n, none⟩ : Addr).block < bb := by show b < bb; omega
      have e1 : IntKind.i64.wrap (((n + 1 : Nat) : Int) - 1) = (n : Int) := by rw [IntKind.wrap_i64]; omega
      have e2 : IntKind.i64.wrap ((n : Int) + 1 - 1) = (n : Int) := by rw [IntKind.wrap_i64]; omega
      have e3 : IntKind.i64.wrap (n : Int) = (n : Int) := by rw [IntKind.wrap_i64]; omega
      have i1 : (0 : Int) ≤ (n : Int) := by omega
      have i2 : (n : Int) < 232 := by omega
      have a1 := wd_lt V n
      rw [B_eq] at a1
      go_region_held3 (fun w' => w'.cell? ⟨b, 1, none⟩ = some (.int .i64 ((n + 1 : Nat) : Int)) ∧ w'.cell? ⟨b, 2 + n, none⟩ = some (.int .i64 (wd V n : Nat)))
        (first | exact ⟨(hk2.cell hlt1).trans (hk1.cell x1), (hk2.cell hlt2).trans (hk1.cell xw)⟩ | exact ⟨hk1.cell x1, hk1.cell xw⟩ | exact ⟨x1, xw⟩)
        (first | (go_at_call 112; refine (itoa_any _ ?_ ?_ _ ?_).mono ?_; omega; omega; exact hT3; rintro e w1 ⟨rfl, hk1⟩)
               | (go_at_call 189; refine (wstr_any bb pre (itoa (wd V n : Nat)) _ (hB0.keep (kept_drew hk1)) (wlen_ok hpl)).mono ?_; rintro e w2 ⟨rfl, hB2, hk2⟩))
      have k2 : Kept w w2 := (g0.trans (kept_drew hk1)).trans_below hk2 hbl
      have hdt := digits_top Hnw.out
      replace hB2 : Bld bb (pre ++ decDigits (V / B ^ n)) w2 := by rw [hdt.1, ← Dec.itoa_nat]; exact hB2
      have hx2 := hx.keep k2
      replace x1 := hx2.c1
      rw [Hnw.out] at x1
      have Hd := Lib.hid hdt.2
      clear hdt e1 e2 e3 i1 i2 xw hT3 hlt1 hlt2 hx3 hB0 g0 hk1 hk2 a1
      go_wp2
      go_loopg [4] (n + 1) (fun k i wr => ∃ m : Nat, k = m + 1 ∧ m ≤ n ∧ i = .int .i64 ((m : Int) - 1) ∧ Bld bb (pre ++ decDigits (V / B ^ m)) wr ∧ Kept w wr)
      case atStart => exact ⟨n, rfl, Nat.le_refl _, by go_num, hB2, k2⟩
      case round =>
        obtain ⟨m, rfl, hm, rfl, hBr, hkr⟩ := hrel
        rcases m with _ | m
        · rw [Nat.pow_zero, Nat.div_one, hend.out] at hBr
          go_wp2_with fail
          refine (bstr_any bb _ wr hBr).mono ?_
          rintro e w5 ⟨rfl, hk5⟩
          go_wp2
          go_returns
          exact ⟨rfl, hkr.trans_below hk5 hbl⟩
        · have hxr := hx.keep hkr
          have xw := hxr.cw m (by omega)
          have a1 := wd_lt V m
          rw [B_eq] at a1
          have hTr := hT.keep hkr
          go_wp2_with fail
          refine (itoa_any (wd V m : Nat) (by omega) (by omega) wr hTr).mono ?_
          rintro e w5 ⟨rfl, hk5⟩
          have hB5 := hBr.keep hk5
          have hkr5 := hkr.trans hk5
          obtain ⟨t, ht⟩ : ∃ t, t = tx (wd V m : Nat) := ⟨_, rfl⟩
          rw [← ht]
          obtain ⟨K, hK⟩ : ∃ K, K = nDigits (wd V m) := ⟨_, rfl⟩
          have hts : t.size = K := by rw [ht, tx_size, Dec.itoa_nat, Lib.decDigits_length, hK]
          have hK9 : K ≤ 9 := by rw [hK]; exact (Dec.nDigits_le_iff (wd V m) 9 (by omega)).2 (wd_lt V m)
          have Ht := Lib.hid ht
          have HK := Lib.hid hK
          clear ht hK xw hxr hTr
          go_wp2_with fail
          have hcat : (⟨#[48, 48, 48, 48, 48, 48, 48, 48, 48]⟩ : ByteArray).extract K 9 ++ t = bs (pad9 (wd V m)) := by rw [Ht.out, HK.out]; exact cat_pad (wd_lt V m)
          rw [hcat]
          clear hcat
          refine (wstr_any bb _ (pad9 (wd V m)) w5 hB5 (by rw [pad9_length (wd_lt V m)]; exact dlen_ok Hnw.out (by omega) hpl)).mono ?_
          rintro e w6 ⟨rfl, hB6, hk6⟩
          have hne : Hid (V / B ^ (m + 1) ≠ 0) := by
            show V / B ^ (m + 1) ≠ 0
            intro h0
            have h1 : V / B ^ n ≤ V / B ^ (m + 1) := Nat.div_le_div_left (Nat.pow_le_pow_right B_pos (by omega)) (Bp_pos _)
            rw [h0] at h1
            exact Hd.out (Nat.le_zero.1 h1)
          go_wp2
          go_roundg (m + 1)
          case measure => omega
          case rel => exact ⟨m, rfl, by omega, by go_num, by rw [digits_words V m hne.out, ← List.append_assoc]; exact hB6, hkr5.trans_below hk6 hbl⟩

end Go.Proofs.YtgmegfcjbnfnaaaGreatDoor

/- When a text is a canonical integer: plain lists, no program. -/
namespace Go.Proofs.YtgmegfcjbnfnaaaGreatDoor.Numer
open Go.Lib (decDigits itoa nDigits decDigits_length)
open Dec Wide

/-- the ten digits -/
def ten : List UInt8 := [48, 49, 50, 51, 52, 53, 54, 55, 56, 57]
theorem ten_fin : ∀ i : Fin 256, ten.contains (UInt8.ofNat i.val) = dig (UInt8.ofNat i.val) := by decide +kernel
theorem ten_contains (c : UInt8) : ten.contains c = dig c := by
  have h := ten_fin ⟨c.toNat, c.toNat_lt⟩
  rwa [UInt8.ofNat_toNat] at h
theorem dropWhile_all : ∀ (l : List UInt8), l.all dig = true → l.dropWhile dig = []
  | [], _ => rfl
  | c :: r, h => by
    rw [List.all_cons, Bool.and_eq_true] at h
    rw [List.dropWhile_cons, if_pos h.1]
    exact dropWhile_all r h.2

theorem trimS_nil (l : List UInt8) : Lib.trimS l ten = [] ↔ l.all dig = true := by
  have hf : (fun c => ten.contains c) = dig := funext ten_contains
  unfold Lib.trimS Lib.trimLeftS Lib.trimRightS
  simp only [hf]
  constructor
  · intro h
    have h1 : ∀ m : List UInt8, m.dropWhile dig = [] → m.all dig = true := by
      intro m hm
      induction m with
      | nil => rfl
      | cons c m ih =>
        rw [List.dropWhile_cons] at hm
        by_cases hc : dig c = true
        · rw [if_pos hc] at hm
          rw [List.all_cons, hc, ih hm]; rfl
        · rw [if_neg hc] at hm; cases hm
    have h2 := h1 _ h
    -- the last one that is left is no digit
    rcases hr : l.reverse.dropWhile dig with _ | ⟨c, m⟩
    · have := h1 _ hr
      rw [List.all_reverse] at this
      exact this
    · rw [hr] at h2
      rw [List.all_reverse] at h2
      have hc : dig c = false := by
        have := List.head?_dropWhile_not dig l.reverse
        rw [hr] at this
        simpa using this
      rw [List.all_cons, hc] at h2
      cases h2
  · intro h
    have : l.reverse.dropWhile dig = [] := by
      have h3 : l.reverse.all dig = true := by rw [List.all_reverse]; exact h
      exact dropWhile_all _ h3
    rw [this]; rfl

/-- whole.Check: 0, 3 (no canonical integer) or 11 (too long) -/
def chk (l : List UInt8) : Int :=
  if un l = [] ∨ (un l).all dig = false then 3 else if (un l).head? = some 48 ∧ l ≠ [48] then 3 else if 1024 < (un l).length then 11 else 0

theorem un_form {l : List UInt8} (h : l.head? = some 45) : l = 45 :: un l := by
  cases l with
  | nil => cases h
  | cons c r =>
    simp at h
    subst h; rfl
theorem un_plain {l : List UInt8} (h : l.head? ≠ some 45) : un l = l := by
  cases l with
  | nil => rfl
  | cons c r =>
    have : c ≠ 45 := by intro e; subst e; exact h rfl
    show (if c = 45 then r else c :: r) = c :: r
    rw [if_neg this]

/-- a text that is right but perhaps too long is an integer's -/
theorem chk_ne3 {l : List UInt8} (h : chk l ≠ 3) : ∃ n : Int, l = itoa n ∧ chk l = if 1024 < nDigits n.natAbs then 11 else 0 := by
  unfold chk at h
  by_cases h1 : un l = [] ∨ (un l).all dig = false
  · rw [if_pos h1] at h; exact absurd rfl h
  rw [if_neg h1] at h
  by_cases h2 : (un l).head? = some 48 ∧ l ≠ [48]
  · rw [if_pos h2] at h; exact absurd rfl h
  have hne : un l ≠ [] := fun e => h1 (.inl e)
  have hall : (un l).all dig = true := by
    cases hb : (un l).all dig
    · exact absurd (.inr hb) h1
    · rfl
  have hdig : decDigits (val (un l)) = un l := by
    by_cases h48 : l = [48]
    · rw [h48]; decide +kernel
    · exact decDigits_val hne hall (.inr fun m hm => h2 ⟨by rw [hm]; rfl, h48⟩)
  have hlen : (un l).length = nDigits (val (un l)) := by rw [← decDigits_length, hdig]
  have hchk : chk l = if 1024 < nDigits (val (un l)) then 11 else 0 := by
    unfold chk; rw [if_neg h1, if_neg h2, hlen]
  by_cases hm : l.head? = some 45
  · have hl := un_form hm
    have hv : val (un l) ≠ 0 := by
      intro h0
      rw [h0, decDigits_zero] at hdig
      refine h2 ⟨by rw [← hdig]; rfl, ?_⟩
      intro e; rw [e] at hm; simp at hm
    refine ⟨-(val (un l) : Int), ?_, ?_⟩
    · rw [itoa_neg (by omega), show (-(val (un l) : Int)).natAbs = val (un l) by omega, hdig]; exact hl
    · rw [hchk, show (-(val (un l) : Int)).natAbs = val (un l) by omega]
  · refine ⟨(val (un l) : Int), ?_, ?_⟩
    · rw [itoa_nat, hdig, un_plain hm]
    · rw [hchk, show ((val (un l) : Int)).natAbs = val (un l) by omega]

theorem chk_itoa (n : Int) : chk (itoa n) = if 1024 < nDigits n.natAbs then 11 else 0 := by
  unfold chk
  rw [un_itoa]
  have hne := decDigits_ne_nil n.natAbs
  have hall := dig_decDigits n.natAbs
  rw [if_neg (by rintro (h | h); exact hne h; rw [hall] at h; cases h), decDigits_length]
  rw [if_neg]
  rintro ⟨h1, h2⟩
  by_cases h0 : n.natAbs = 0
  · have : n = 0 := by omega
    subst this
    exact h2 (by rw [itoa_nonneg (by omega)]; exact decDigits_zero)
  · obtain ⟨c, r, e, _, hc⟩ := decDigits_head n.natAbs h0
    rw [e] at h1
    simp at h1
    exact hc h1

end Go.Proofs.YtgmegfcjbnfnaaaGreatDoor.Numer

/- Walks over whole: Check. -/
namespace Go.Proofs.YtgmegfcjbnfnaaaGreatDoor
open Go.RowKit Numer
open Go.Lib (decDigits itoa nDigits)

/-- strings.Trim(s, "0123456789") -/
theorem trimTen_any (l : List UInt8) (hl : l.length ≤ 9223372036854775807) (w : World) :
    Calls Tryz.prog 149 #[.string (bs l), .string ⟨#[48, 49, 50, 51, 52, 53, 54, 55, 56, 57]⟩] w fun e w' => e = .returned (.string (bs (Lib.trimS l ten))) ∧ Kept w w' :=
  (Any.strings_Trim_laid Tryz.lays160 (by kernel_rfl) (bs l) ⟨#[48, 49, 50, 51, 52, 53, 54, 55, 56, 57]⟩ w (by rw [bs_size]; exact hl) (by decide) (ascii_of_all (by decide))).mono fun _ _ ⟨he, hw⟩ => ⟨he, Kept.of_below hw⟩

theorem un_length (l : List UInt8) : (un l).length ≤ l.length := by
  cases l with
  | nil => exact Nat.le_refl _
  | cons c r =>
    show (if c = 45 then r else c :: r).length ≤ _
    split <;> simp

theorem bs_toList (l : List UInt8) : (bs l).toList = l := by rw [Lib.toList_data, bs_list]
theorem bs_head {d : List UInt8} (h : 0 < (bs d).size) : (((bs d)[0]'h).toNat : Int) = 48 ↔ d.head? = some 48 := by
  cases d with
  | nil => rw [bs_size] at h; simp at h
  | cons c r =>
    have h1 : (bs (c :: r))[0]'h = c := rfl
    rw [h1, List.head?_cons, Option.some.injEq, ← UInt8.toNat_inj]
    constructor
    · intro h2; show c.toNat = 48; omega
    · intro h2
      have h3 : c.toNat = 48 := h2
      omega
theorem bs_not48 (l : List UInt8) (b : Bool) : (!(bs l).toList == [48]) = b ↔ (l ≠ [48] ↔ b = true) := by
  rw [bs_toList]
  by_cases h : l = [48]
  · subst h; cases b <;> simp
  · have : (l == [48]) = false := by simpa using h
    rw [this]; cases b <;> simp [h]
theorem chk_right {l : List UInt8} (h1 : ¬ un l = []) (h2 : (un l).all Dec.dig = true) : chk l = if (un l).head? = some 48 ∧ l ≠ [48] then 3 else if 1024 < (un l).length then 11 else 0 := by
  unfold chk
  rw [if_neg]
  rintro (h | h)
  · exact h1 h
  · rw [h2] at h; cases h

set_option maxHeartbeats 1000000 in
set_option maxRecDepth 100000 in
theorem check_any (l : List UInt8) (hl : l.length ≤ 140737488355328) (w : World) :
    Calls Tryz.prog 114 #[.string (bs l)] w fun e w' => e = .returned (.int .i64 (chk l)) ∧ Kept w w' := by
  have hul := un_length l
  go_enter Tryz.func114, Tryz.ntmps114
  go_wp2_with fail
  refine (trim_any l w).mono ?_
  rintro e w1 ⟨rfl, rfl⟩
  by_cases h1 : un l = []
  · have e1 : bs (un l) = ⟨#[]⟩ := by rw [h1]; rfl
    rw [e1]
    go_wp2
    go_returns
    refine ⟨?_, Kept.refl _⟩
    rw [chk, if_pos (.inl h1)]; rfl
  · obtain ⟨d, hd⟩ : ∃ d, d = un l := ⟨_, rfl⟩
    rw [← hd]
    have h1' : ¬ (bs d).toList = [] := by rw [bs_toList, hd]; exact h1
    have h1e : (bs d).toList.isEmpty = false := by rw [bs_toList, hd]; simpa using h1
    have hdl : d.length ≤ 9223372036854775807 := by rw [hd]; omega
    have hd1 : 0 < (bs d).size := by rw [bs_size, hd]; exact List.length_pos_iff.2 h1
    have Hd := Lib.hid hd
    clear hd
    go_wp2_with fail
    refine (trimTen_any d hdl w1).mono ?_
    rintro e w2 ⟨rfl, hk⟩
    by_cases h2 : d.all Dec.dig = true
    · have e2 : bs (Lib.trimS d ten) = ⟨#[]⟩ := by rw [(trimS_nil d).2 h2]; rfl
      rw [e2]
      have hchk := chk_right h1 (by rw [← Hd.out]; exact h2)
      have Hchk := Lib.hid hchk
      clear hchk
      have hsz : Hid ((bs d).size = (un l).length) := by show (bs d).size = _; rw [bs_size, Hd.out]
      go_wp2
      all_goals go_returns
      all_goals refine ⟨?_, hk⟩
      all_goals rw [Hchk.out, ← Hd.out]
      · rw [if_pos ⟨(bs_head hd1).1 (by assumption), ((bs_not48 l true).1 (by assumption)).2 rfl⟩]; rfl
      · rw [if_neg (fun h => absurd (((bs_not48 l false).1 (by assumption)).1 h.2) (by decide)), if_pos (by have := hsz.out; rw [Hd.out]; omega)]; rfl
      · rw [if_neg (fun h => absurd (((bs_not48 l false).1 (by assumption)).1 h.2) (by decide)), if_neg (by have := hsz.out; rw [Hd.out]; omega)]; rfl
      · rw [if_neg (fun h => absurd ((bs_head hd1).2 h.1) (by assumption)), if_pos (by have := hsz.out; rw [Hd.out]; omega)]; rfl
      · rw [if_neg (fun h => absurd ((bs_head hd1).2 h.1) (by assumption)), if_neg (by have := hsz.out; rw [Hd.out]; omega)]; rfl
    · have h2' : ¬ (bs (Lib.trimS d ten)).toList = [] := by rw [bs_toList]; exact fun h => h2 ((trimS_nil d).1 h)
      have h2e : (bs (Lib.trimS d ten)).toList.isEmpty = false := by rw [bs_toList, List.isEmpty_eq_false_iff]; exact fun h => h2 ((trimS_nil d).1 h)
      go_wp2
      go_returns
      refine ⟨?_, hk⟩
      rw [chk, if_pos (.inr (by rw [← Hd.out]; simpa using h2))]; rfl

end Go.Proofs.YtgmegfcjbnfnaaaGreatDoor

/- Walks over whole: all, sign, order, Of, small, result, opposite. -/
namespace Go.Proofs.YtgmegfcjbnfnaaaGreatDoor
open Go.RowKit Numer
open Go.Lib (decDigits itoa nDigits)

/-- the first error of some texts -/
def chks : List (List UInt8) → Int
  | [] => 0
  | s :: r => if chk s = 0 then chks r else chk s

set_option maxHeartbeats 1000000 in
set_option maxRecDepth 100000 in
theorem all_any (g : Nat) (ss : List (List UInt8)) (c : Nat) (w : World) (hlen : ss.length ≤ 1000000) (hs : ∀ s ∈ ss, s.length ≤ 140737488355328)
    (hc : ∀ i s, ss[i]? = some s → w.cell? ⟨g, i, none⟩ = some (.string (bs s))) :
    Calls Tryz.prog 108 #[.slice (some ⟨g, 0, none⟩) ss.length c] w fun e w' => e = .returned (.int .i64 (chks ss)) ∧ Kept w w' := by
  have HC := Lib.hid hc
  have HS := Lib.hid hs
  clear hc hs
  go_enter Tryz.func108, Tryz.ntmps108
  go_wp2
  go_loopg [8] (ss.length + 1) (fun k i wr => ∃ j : Nat, k + j = ss.length + 1 ∧ j ≤ ss.length ∧ i = .int .i64 j ∧ chks (ss.drop j) = chks ss ∧ Kept w wr)
  case atStart => exact ⟨0, rfl, Nat.zero_le _, rfl, by simp, Kept.refl _⟩
  case round =>
    obtain ⟨j, hkj, hj, rfl, hch, hk⟩ := hrel
    by_cases hlt : j < ss.length
    · obtain ⟨s, hsj⟩ : ∃ s, s = ss[j] := ⟨_, rfl⟩
      have hcj : wr.cell? ⟨g, j, none⟩ = some (.string (bs s)) := hk.cell (HC.out j s (by rw [hsj]; simp))
      have hsl : s.length ≤ 140737488355328 := HS.out s (by rw [hsj]; exact List.getElem_mem _)
      have hd : ss.drop j = s :: ss.drop (j + 1) := by rw [hsj]; exact List.drop_eq_getElem_cons hlt
      rw [hd] at hch
      have Hch := Lib.hid hch
      clear hsj hd hch
      go_wp2_with fail
      refine (check_any s hsl wr).mono ?_
      rintro e w1 ⟨rfl, hk1⟩
      by_cases h0 : chk s = 0
      · rw [h0]
        go_wp2
        go_roundg (gk - 1)
        case measure => omega
        case rel =>
          have h1 := Hch.out
          rw [chks, if_pos h0] at h1
          exact ⟨j + 1, by omega, by omega, by go_num, h1, hk.trans hk1⟩
      · have hb : (chk s != 0) = true := by simpa using h0
        have Hb := Lib.hid h0
        clear h0
        go_wp2
        go_returns
        have h1 := Hch.out
        rw [chks, if_neg Hb.out] at h1
        exact ⟨by rw [← h1]; rfl, hk.trans hk1⟩
    · have hj' : j = ss.length := by omega
      rw [hj', List.drop_length] at hch
      have Hch := Lib.hid hch
      clear hch hj'
      go_wp2
      go_returns
      exact ⟨by rw [← Hch.out]; rfl, hk⟩

/-- the sign of an integer -/
def zsgn (n : Int) : Int := if n < 0 then -1 else if n = 0 then 0 else 1
theorem zsgn_neg {n : Int} (h : n < 0) : zsgn n = -1 := by rw [zsgn, if_pos h]
theorem zsgn_zero : zsgn 0 = 0 := by decide
theorem zsgn_pos {n : Int} (h : 0 < n) : zsgn n = 1 := by rw [zsgn, if_neg (by omega), if_neg (by omega)]
theorem tx_is0 (n : Int) : ((tx n).toList == [48]) = decide (n = 0) := by
  rw [show tx n = bs (itoa n) from rfl, bs_toList, Bool.eq_iff_iff, beq_iff_eq, decide_eq_true_iff]
  have h0 : itoa 0 = [48] := by rw [Dec.itoa_nonneg (by omega)]; exact Dec.decDigits_zero
  constructor
  · intro h; exact Dec.itoa_inj (h.trans h0.symm)
  · intro h; rw [h, h0]

set_option maxHeartbeats 1000000 in
set_option maxRecDepth 100000 in
theorem wsign_any (n : Int) (w : World) :
    Calls Tryz.prog 109 #[.string (tx n)] w fun e w' => e = .returned (.int .i64 (zsgn n)) ∧ w' = w := by
  have hp := tx_size_pos n
  have hp0 : 0 < (tx n).size := by omega
  have t0 := tx_is0 n
  have t1 := tx_minus_int n hp0
  rcases Int.lt_trichotomy n 0 with h | h | h
  · have HZ := Lib.hid (zsgn_neg h)
    rw [decide_eq_false (show ¬ n = 0 by omega)] at t0
    rw [decide_eq_true h] at t1
    go_enter Tryz.func109, Tryz.ntmps109
    go_wp2
    go_returns
    exact ⟨by rw [HZ.out]; rfl, rfl⟩
  · subst h
    rw [decide_eq_true rfl] at t0
    clear t1
    go_enter Tryz.func109, Tryz.ntmps109
    go_wp2
    go_returns
    exact ⟨by rw [zsgn_zero]; rfl, rfl⟩
  · have HZ := Lib.hid (zsgn_pos h)
    rw [decide_eq_false (show ¬ n = 0 by omega)] at t0
    rw [decide_eq_false (show ¬ n < 0 by omega)] at t1
    go_enter Tryz.func109, Tryz.ntmps109
    go_wp2
    go_returns
    exact ⟨by rw [HZ.out]; rfl, rfl⟩

/-! ### order of magnitudes -/
theorem compare_digits : ∀ (a b : List UInt8), a.length = b.length → a.all Dec.dig = true → b.all Dec.dig = true → Lib.compareBytes a b = zsgn ((Dec.val a : Int) - (Dec.val b : Int))
  | [], [], _, _, _ => by rfl
  | c :: a, d :: b, hl, ha, hb => by
    simp only [List.length_cons, Nat.add_right_cancel_iff] at hl
    simp only [List.all_cons, Bool.and_eq_true] at ha hb
    have hc := (Dec.dig_iff c).1 ha.1
    have hd := (Dec.dig_iff d).1 hb.1
    have va := Dec.val_lt a ha.2
    have vb := Dec.val_lt b hb.2
    rw [hl] at va
    rw [Dec.val_cons, Dec.val_cons, hl, Lib.compareBytes]
    by_cases h1 : c < d
    · rw [if_pos h1, zsgn_neg]
      have h2 : c.toNat < d.toNat := UInt8.lt_iff_toNat_lt.1 h1
      have h3 : (c.toNat - 48 + 1) * 10 ^ b.length ≤ (d.toNat - 48) * 10 ^ b.length := Nat.mul_le_mul_right _ (by omega)
      rw [Nat.add_mul] at h3
      omega
    · rw [if_neg h1]
      by_cases h2 : d < c
      · rw [if_pos h2, zsgn_pos]
        have h4 : d.toNat < c.toNat := UInt8.lt_iff_toNat_lt.1 h2
        have h3 : (d.toNat - 48 + 1) * 10 ^ b.length ≤ (c.toNat - 48) * 10 ^ b.length := Nat.mul_le_mul_right _ (by omega)
        rw [Nat.add_mul] at h3
        omega
      · rw [if_neg h2, compare_digits a b hl ha.2 hb.2]
        have h3 : c.toNat = d.toNat := by
          have h5 : ¬ c.toNat < d.toNat := fun h => h1 (UInt8.lt_iff_toNat_lt.2 h)
          have h6 : ¬ d.toNat < c.toNat := fun h => h2 (UInt8.lt_iff_toNat_lt.2 h)
          omega
        rw [h3]
        congr 1
        omega
  | [], d :: b, hl, _, _ => by simp at hl
  | c :: a, [], hl, _, _ => by simp at hl

theorem lt_of_digits {u v : Nat} (h : nDigits u < nDigits v) : u < v := by
  rcases Nat.lt_or_ge u v with h1 | h1
  · exact h1
  · have := nDigits_mono h1; omega

set_option maxHeartbeats 1000000 in
set_option maxRecDepth 100000 in
theorem order_any (u v : Nat) (w : World) :
    Calls Tryz.prog 110 #[.string (bs (decDigits u)), .string (bs (decDigits v))] w fun e w' => e = .returned (.int .i64 (zsgn ((u : Int) - (v : Int)))) ∧ w' = w := by
  have s1 : (bs (decDigits u)).size = nDigits u := by rw [bs_size, Lib.decDigits_length]
  have s2 : (bs (decDigits v)).size = nDigits v := by rw [bs_size, Lib.decDigits_length]
  rcases Nat.lt_trichotomy (nDigits u) (nDigits v) with h | h | h
  · have HZ := Lib.hid (zsgn_neg (show (u : Int) - (v : Int) < 0 by have := lt_of_digits h; omega))
    go_enter Tryz.func110, Tryz.ntmps110
    go_wp2
    go_returns
    exact ⟨by rw [HZ.out]; rfl, rfl⟩
  · have hc := compare_digits (decDigits u) (decDigits v) (by rw [Lib.decDigits_length, Lib.decDigits_length, h]) (Dec.dig_decDigits u) (Dec.dig_decDigits v)
    rw [Dec.val_decDigits, Dec.val_decDigits] at hc
    have HC := Lib.hid hc
    rw [h] at s1
    clear hc h
    go_enter Tryz.func110, Tryz.ntmps110
    go_wp2_with fail
    refine (Tryz.strings_Compare _ _ _).mono ?_
    rintro e w1 ⟨rfl, rfl⟩
    go_wp2
    go_returns
    exact ⟨by rw [← HC.out]; rfl, rfl⟩
  · have HZ := Lib.hid (zsgn_pos (show 0 < (u : Int) - (v : Int) by have := lt_of_digits h; omega))
    go_enter Tryz.func110, Tryz.ntmps110
    go_wp2
    go_returns
    exact ⟨by rw [HZ.out]; rfl, rfl⟩

set_option maxHeartbeats 1000000 in
theorem wof_any (n : Int) (h0 : -9223372036854775808 ≤ n) (h1 : n ≤ 9223372036854775807) (w : World) (hT : Tab w) :
    Calls Tryz.prog 79 #[.int .i64 n] w fun e w' => e = .returned (.string (tx n)) ∧ Kept w w' := by
  go_enter Tryz.func79, Tryz.ntmps79
  go_wp2_with fail
  refine (itoa_any n h0 h1 w hT).mono ?_
  rintro e w1 ⟨rfl, hk⟩
  go_wp2
  go_returns
  exact ⟨rfl, hk⟩

set_option maxHeartbeats 1000000 in
theorem wresult_any (n : Int) (h0 : -9223372036854775808 ≤ n) (h1 : n ≤ 9223372036854775807) (w : World) (hT : Tab w) :
    Calls Tryz.prog 141 #[.int .i64 n] w fun e w' => e = .returned (.tuple #[.string (tx n), .int .i64 0]) ∧ Kept w w' := by
  go_enter Tryz.func141, Tryz.ntmps141
  go_wp2_with fail
  refine (wof_any n h0 h1 w hT).mono ?_
  rintro e w1 ⟨rfl, hk⟩
  go_wp2
  go_returns
  exact ⟨rfl, hk⟩

end Go.Proofs.YtgmegfcjbnfnaaaGreatDoor

/- Walks over whole: small, opposite, limited, sum. -/
namespace Go.Proofs.YtgmegfcjbnfnaaaGreatDoor
open Go.RowKit Wide Numer
open Go.Lib (decDigits itoa nDigits)

theorem short_bd {n : Int} (h : (itoa n).length ≤ 9) : -1000000000 < n ∧ n < 1000000000 := by
  by_cases hn : n < 0
  · rw [Dec.itoa_neg hn, List.length_cons, Lib.decDigits_length] at h
    have := (Dec.nDigits_le_iff n.natAbs 9 (by omega)).1 (by omega)
    omega
  · rw [Dec.itoa_nonneg (by omega), Lib.decDigits_length] at h
    have := (Dec.nDigits_le_iff n.toNat 9 (by omega)).1 h
    omega
theorem atoi_itoa (n : Int) : Lib.atoi (itoa n) = some n := by
  by_cases hn : n < 0
  · rw [Dec.itoa_neg hn]
    have h1 : Lib.decNat (decDigits n.natAbs) = some n.natAbs := by
      unfold Lib.decNat
      rw [if_neg (by have := Dec.decDigits_ne_nil n.natAbs; simpa using this), decFrom_digits _ _ (Dec.dig_decDigits _), Dec.val_decDigits]; simp
    unfold Lib.atoi
    simp only [beq_self_eq_true, if_true, h1, Option.map_some]
    congr 1; omega
  · rw [Dec.itoa_nonneg (by omega), atoi_digits (Dec.decDigits_ne_nil _) (Dec.dig_decDigits _), Dec.val_decDigits]
    congr 1; omega

set_option maxHeartbeats 1000000 in
set_option maxRecDepth 100000 in
/-- both short -/
theorem small_yes (n m : Int) (hn : (tx n).size ≤ 9) (hm : (tx m).size ≤ 9) (w : World) :
    Calls Tryz.prog 140 #[.string (tx n), .string (tx m)] w fun e w' => e = .returned (.tuple #[.int .i64 n, .int .i64 m, .bool true]) ∧ Kept w w' := by
  go_enter Tryz.func140, Tryz.ntmps140
  go_wp2_with fail
  refine (atoi_any (tx n) n (by omega) (atoi_itoa n) w).mono ?_
  rintro e w1 ⟨rfl, h1⟩
  go_wp2_with fail
  refine (atoi_any (tx m) m (by omega) (atoi_itoa m) w1).mono ?_
  rintro e w2 ⟨rfl, h2⟩
  go_wp2
  go_returns
  exact ⟨rfl, h1.trans h2⟩

set_option maxHeartbeats 1000000 in
set_option maxRecDepth 100000 in
/-- one of them long -/
theorem small_no (n m : Int) (h : ¬ ((tx n).size ≤ 9 ∧ (tx m).size ≤ 9)) (w : World) :
    Calls Tryz.prog 140 #[.string (tx n), .string (tx m)] w fun e w' => e = .returned (.tuple #[.int .i64 0, .int .i64 0, .bool false]) ∧ w' = w := by
  by_cases hn : (tx n).size ≤ 9
  · have hm : 9 < (tx m).size := by omega
    clear h
    go_enter Tryz.func140, Tryz.ntmps140
    go_wp2
    go_returns
    exact ⟨rfl, rfl⟩
  · have hn' : 9 < (tx n).size := by omega
    clear h hn
    go_enter Tryz.func140, Tryz.ntmps140
    go_wp2
    go_returns
    exact ⟨rfl, rfl⟩

theorem tx_opp_pos {n : Int} (h : 0 < n) : (⟨#[45]⟩ : ByteArray) ++ tx n = tx (-n) := by
  rw [bs_of ((⟨#[45]⟩ : ByteArray) ++ tx n)]
  show bs _ = bs (itoa (-n))
  congr 1
  rw [ByteArray.data_append, Array.toList_append]
  show 45 :: itoa n = _
  rw [Dec.itoa_neg (show -n < 0 by omega), Dec.itoa_nonneg (by omega), show (-n).natAbs = n.toNat by omega]
theorem tx_opp_neg {n : Int} (h : n < 0) : (tx n).extract 1 (tx n).size = tx (-n) := by
  show (bs (itoa n)).extract 1 (bs (itoa n)).size = bs (itoa (-n))
  rw [bs_extract, bs_size, List.take_length, Dec.itoa_neg h, Dec.itoa_nonneg (show 0 ≤ -n by omega), show (-n).toNat = n.natAbs by omega]
  rfl

set_option maxHeartbeats 1000000 in
set_option maxRecDepth 100000 in
theorem opposite_any (n : Int) (hn : nDigits n.natAbs ≤ 1000000) (w : World) :
    Calls Tryz.prog 206 #[.string (tx n)] w fun e w' => e = .returned (.string (tx (-n))) ∧ w' = w := by
  have hp := tx_size_pos n
  have hs : (tx n).size ≤ 1000001 := by rw [tx_size]; have := itoa_length_le n; omega
  rcases Int.lt_trichotomy n 0 with h | h | h
  · have HZ := Lib.hid (zsgn_neg h)
    have HO := Lib.hid (tx_opp_neg h)
    clear h
    go_enter Tryz.func206, Tryz.ntmps206
    go_wp2_with fail
    refine (wsign_any n w).mono ?_
    rintro e w1 ⟨rfl, rfl⟩
    rw [HZ.out]
    go_wp2
    go_returns
    exact ⟨by rw [← HO.out]; rfl, rfl⟩
  · subst h
    go_enter Tryz.func206, Tryz.ntmps206
    go_wp2_with fail
    refine (wsign_any 0 w).mono ?_
    rintro e w1 ⟨rfl, rfl⟩
    rw [zsgn_zero]
    go_wp2
    go_returns
    exact ⟨rfl, rfl⟩
  · have HZ := Lib.hid (zsgn_pos h)
    have HO := Lib.hid (tx_opp_pos h)
    clear h
    go_enter Tryz.func206, Tryz.ntmps206
    go_wp2_with fail
    refine (wsign_any n w).mono ?_
    rintro e w1 ⟨rfl, rfl⟩
    rw [HZ.out]
    go_wp2
    go_returns
    exact ⟨by rw [← HO.out]; rfl, rfl⟩

/-- is an integer short enough -/
def fits (n : Int) : Prop := nDigits n.natAbs ≤ 1024
instance (n : Int) : Decidable (fits n) := inferInstanceAs (Decidable (_ ≤ _))
/-- a result, or the empty text -/
def limT (n : Int) : ByteArray := if fits n then tx n else ⟨#[]⟩
def limE (n : Int) : Int := if fits n then 0 else 11

set_option maxHeartbeats 1000000 in
set_option maxRecDepth 100000 in
theorem limited_any (b V : Nat) (l : Bool) (w : World) (hx : IsWide w b l (nw V) V) (hn : nw V ≤ 231) (hT : Tab w) (S : Int) (hS : sv l V = S) :
    Calls Tryz.prog 144 #[.pointer (some ⟨b, 0, none⟩)] w fun e w' => e = .returned (.tuple #[.string (limT S), .int .i64 (limE S)]) ∧ Kept w w' := by
  have hlen : (itoa S).length ≤ 140737488355328 := by
    have h1 := itoa_length_le S
    have h2 : S.natAbs = V := by rw [← hS]; unfold sv; split <;> omega
    have h3 : V < B ^ 231 := (nw_le_iff V 231).1 hn
    rw [B_pow] at h3
    have h4 := (Dec.nDigits_le_iff V (9 * 231) (by omega)).2 h3
    rw [h2] at h1
    omega
  have HC := Lib.hid (chk_itoa S)
  by_cases hf : fits S
  · have h1 : Hid (chk (itoa S) = 0) := by have := HC.out; unfold fits at hf; rw [if_neg (by omega)] at this; exact this
    have h2 : Hid (limT S = tx S ∧ limE S = 0) := ⟨by rw [limT, if_pos hf], by rw [limE, if_pos hf]⟩
    clear hf HC
    go_enter Tryz.func144, Tryz.ntmps144
    go_wp2_with fail
    refine (text_any b V l w hx hn hT).mono ?_
    rintro e w1 ⟨rfl, k1⟩
    rw [hS]
    go_wp2_with fail
    refine (check_any (itoa S) hlen w1).mono ?_
    rintro e w2 ⟨rfl, k2⟩
    rw [h1.out]
    go_wp2
    go_returns
    exact ⟨by rw [h2.out.1, h2.out.2]; rfl, k1.trans k2⟩
  · have h1 : Hid (chk (itoa S) = 11) := by have := HC.out; unfold fits at hf; rw [if_pos (by omega)] at this; exact this
    have h2 : Hid (limT S = ⟨#[]⟩ ∧ limE S = 11) := ⟨by rw [limT, if_neg hf], by rw [limE, if_neg hf]⟩
    clear hf HC
    go_enter Tryz.func144, Tryz.ntmps144
    go_wp2_with fail
    refine (text_any b V l w hx hn hT).mono ?_
    rintro e w1 ⟨rfl, k1⟩
    rw [hS]
    go_wp2_with fail
    refine (check_any (itoa S) hlen w1).mono ?_
    rintro e w2 ⟨rfl, k2⟩
    rw [h1.out]
    go_wp2
    go_returns
    exact ⟨by rw [h2.out.1, h2.out.2]; rfl, k1.trans k2⟩

end Go.Proofs.YtgmegfcjbnfnaaaGreatDoor

/- Walks over whole: sum, Add, Mul. -/
namespace Go.Proofs.YtgmegfcjbnfnaaaGreatDoor
open Go.RowKit Wide Numer
open Go.Lib (decDigits itoa nDigits)

theorem lt_B {u p : Nat} (hp : 1 ≤ p) (h : nDigits u ≤ 9 * p) : u < B ^ p := by
  rw [B_pow]
  exact (Dec.nDigits_le_iff u _ (by omega)).1 h
theorem fits_lt {n : Int} (h : fits n) : n.natAbs < B ^ 114 := lt_B (by omega) (by unfold fits at h; omega)
theorem fits_nw {n : Int} (h : fits n) : nw n.natAbs ≤ 114 := (nw_le_iff _ _).2 (fits_lt h)
theorem fits_len {n : Int} (h : fits n) : (itoa n).length ≤ 1025 := by have := itoa_length_le n; unfold fits at h; omega
theorem fits_chk {n : Int} (h : fits n) : chk (itoa n) = 0 := by rw [chk_itoa]; unfold fits at h; rw [if_neg (by omega)]
theorem fits_of_lt {n : Int} {k : Nat} (h1 : 1 ≤ k) (hk : k ≤ 1024) (h : n.natAbs < 10 ^ k) : fits n :=
  Nat.le_trans ((Dec.nDigits_le_iff n.natAbs k h1).2 h) hk
theorem sv_abs (n : Int) : sv (decide (n < 0)) n.natAbs = n := by
  unfold sv
  by_cases h : n < 0
  · simp [h]; omega
  · simp [h]; omega

/-- the sum of some integers -/
def isum : List Int → Int
  | [] => 0
  | n :: r => n + isum r

theorem sum_room {j V : Nat} (hj : j ≤ 1000) (hV : V ≤ j * B ^ 114) {u : Nat} (hu : u < B ^ 114) : V + u < B ^ 232 ∧ V + u ≤ (j + 1) * B ^ 114 := by
  have h1 : j * B ^ 114 ≤ 1000 * B ^ 114 := Nat.mul_le_mul_right _ hj
  have h2 : 1001 * B ^ 114 < B ^ 232 := by decide +kernel
  rw [Nat.add_mul]
  omega
theorem sum_nw {V : Nat} (hV : V ≤ 1000 * B ^ 114) : nw V ≤ 231 := by
  rw [nw_le_iff]
  have h2 : 1000 * B ^ 114 < B ^ 231 := by decide +kernel
  omega

/-- the first j are in the sum -/
def SumAt (b : Nat) (ns : List Int) (w : World) (k : Nat) (i : Value) (wr : World) : Prop :=
  ∃ j : Nat, k + j = ns.length + 1 ∧ j ≤ ns.length ∧ i = .int .i64 j ∧ (∃ (l : Bool) (V : Nat), IsWide wr b l (nw V) V ∧ sv l V + isum (ns.drop j) = isum ns ∧ V ≤ j * B ^ 114) ∧ Kept w wr

set_option maxHeartbeats 1000000 in
set_option maxRecDepth 100000 in
theorem sum_any (g c : Nat) (ns : List Int) (w : World) (hlen : ns.length ≤ 1000) (hs : ∀ n ∈ ns, fits n) (hc : ∀ i n, ns[i]? = some n → w.cell? ⟨g, i, none⟩ = some (.string (tx n))) (hT : Tab w) :
    Calls Tryz.prog 148 #[.slice (some ⟨g, 0, none⟩) ns.length c] w fun e w' => e = .returned (.tuple #[.string (limT (isum ns)), .int .i64 (limE (isum ns))]) ∧ Kept w w' := by
  have HC := Lib.hid hc
  have HS := Lib.hid hs
  clear hc hs
  go_enter Tryz.func148, Tryz.ntmps148
  go_wp2_with (first
    | (refine wpList_buildWide0 rfl rfl ?_)
    | (refine wpList_boxWide rfl _ rfl _ rfl ?_))
  have hb := IsWide.new w false 0 0
  have g0 : Kept w (w.alloc (.cells (cellsOf false 0 0) 168)) := (Kept.refl w).alloc _
  have hbz : w.heap.size ≤ w.heap.size := Nat.le_refl _
  generalize w.alloc (.cells (cellsOf false 0 0) 168) = w3 at *
  obtain ⟨b, hbb⟩ : ∃ b, b = w.heap.size := ⟨_, rfl⟩
  have hbl : w.heap.size ≤ b := by omega
  rw [← hbb] at hb ⊢
  clear hbb hbz
  go_loopg [11] (ns.length + 1) (fun k i wr => SumAt b ns w k i wr)
  case atStart => exact ⟨0, rfl, Nat.zero_le _, rfl, ⟨false, 0, by rw [nw_zero]; exact hb, by simp [sv], by omega⟩, g0⟩
  case round =>
    obtain ⟨j, hkj, hj, rfl, ⟨l, V, hx, hsv, hV⟩, hk⟩ := hrel
    by_cases hlt : j < ns.length
    · obtain ⟨n, hnj⟩ : ∃ n, n = ns[j] := ⟨_, rfl⟩
      have hcj : wr.cell? ⟨g, j, none⟩ = some (.string (tx n)) := hk.cell (HC.out j n (by rw [hnj]; simp))
      have hf : fits n := HS.out n (by rw [hnj]; exact List.getElem_mem _)
      have hd : ns.drop j = n :: ns.drop (j + 1) := by rw [hnj]; exact List.drop_eq_getElem_cons hlt
      rw [hd] at hsv
      have Hsv := Lib.hid hsv
      have hn1 := fits_lt hf
      have hroom := sum_room (by omega) hV hn1
      have hn2 : nDigits n.natAbs ≤ 2070 := by unfold fits at hf; omega
      have HR := Lib.hid hroom
      have hT2 := hT.keep hk
      clear hsv hnj hd hf hn1 hroom hV
      go_wp2_with fail
      refine (read_any n hn2 wr).mono ?_
      rintro e w1 ⟨b1, rfl, hb1, hw1, hk1⟩
      go_wp2_with fail
      have hxl := hx.lt
      refine (plus_any b b1 V n.natAbs l (decide (n < 0)) w1 (by omega) (hx.keep hk1) hw1 HR.out.1).mono ?_
      rintro e w2 ⟨rfl, l2, V2, hx2, hsv2, hV2, hg2⟩
      go_wp2
      go_roundg (gk - 1)
      case measure => omega
      case rel =>
        refine ⟨j + 1, by omega, by omega, by go_num, ⟨l2, V2, hx2, ?_, ?_⟩, (hk.trans hk1).own hg2 hbl⟩
        · have h1 := Hsv.out
          rw [isum] at h1
          rw [hsv2, sv_abs]
          omega
        · have := HR.out.2
          omega
    · have hj' : j = ns.length := by omega
      rw [hj', List.drop_length, isum, Int.add_zero] at hsv
      have hn3 : nw V ≤ 231 := sum_nw (Nat.le_trans hV (Nat.mul_le_mul_right _ (by omega)))
      have Hsv := Lib.hid hsv
      have hT2 := hT.keep hk
      clear hsv hj' hV
      go_wp2_with fail
      refine (limited_any b V l wr hx hn3 hT2 _ Hsv.out).mono ?_
      rintro e w1 ⟨rfl, hk1⟩
      go_wp2
      go_returns
      exact ⟨rfl, hk.trans hk1⟩

end Go.Proofs.YtgmegfcjbnfnaaaGreatDoor
