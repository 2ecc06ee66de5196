/- From a row's condition to a walk's. -/
import Derived.Test.YtgmegfcjbnfnaaaGreatDoorRows
import Derived.Test.YtgmegfcjbnfnaaaGreatDoorTie
import Derived.Test.YtgmegfcjbnfnaaaGreatDoorCards
import Derived.Test.YtgmegfcjbnfnaaaGreatDoorM5
import Derived.Test.YtgmegfcjbnfnaaaGreatDoorM2
import Derived.ChangeSame
import Derived.ChangeVars
import Derived.JoinedOf
import Derived.RowKit
import Derived.RowKitTokens
import Derived.LaidLaws
import Derived.LaidHandle
import Derived.LaidSub
import Derived.Lay
import Derived.MakeChecks
import Derived.Carry
import Derived.ProofKit
import Derived.SizedLaws
import Derived.OpenShut
import Derived.SevenTiedAt
import Derived.Lib.LaidTab
import Derived.Lib.SmallJoins
import Derived.Stop.Joined

/- From a row's condition to a walk's: the tables, the arguments. -/
namespace Go.Proofs.YtgmegfcjbnfnaaaGreatDoor
open Go.ChangeShapes Go.WideShapes Go.ChangeAt Go.RowKit Wide

theorem own0 : ownKnob Tryz.prog.godebug = none := by kernel_rfl
theorem laidOut0 : laidOutB Tryz.prog = true := by kernel_rfl
theorem cells_int : Tryz.prog.cellsOf 3 = 1 := by kernel_rfl
/-- what the rows list -/
def laidL : List (String × DataW Unit) := [("math/bits.deBruijn32tab", Rows.laid_math_bits_deBruijn32tab), ("math/bits.deBruijn64tab", Rows.laid_math_bits_deBruijn64tab), ("internal/strconv.uint64pow10", Rows.laid_internal_strconv_uint64pow10), ("unicode/utf8.acceptRanges", Rows.laid_unicode_utf8_acceptRanges), ("strconv.ErrRange", Rows.laid_strconv_ErrRange), ("strconv.ErrSyntax", Rows.laid_strconv_ErrSyntax), ("unicode/utf8.first", Rows.laid_unicode_utf8_first)]
theorem laidPlain : (laidL.all fun x => x.2.handleName?.isNone) = true := by kernel_rfl
theorem laidPow : (laidL.filter fun x => x.1 == "internal/strconv.uint64pow10") = [("internal/strconv.uint64pow10", Lib.tabData .u64 Lib.pow10Tab)] := by kernel_rfl

set_option maxRecDepth 100000 in
theorem tab_of_laid {W : World} (h : laidMetH Tryz.prog laidL W) : Tab W := by
  have h1 := (laidMetH_iff.1 h).1
  rw [show (laidL.filter fun x => x.2.handleName?.isNone) = laidL from by kernel_rfl] at h1
  have h2 := h1.filter (fun x => x.1 == "internal/strconv.uint64pow10")
  rw [laidPow] at h2
  exact Lib.tabIs_of_head (g := 1) (t := 223) (e := 143) (n := 20) (by kernel_rfl) (by kernel_rfl) Tryz.underlying223 Tryz.underlying143 (by kernel_rfl) (by kernel_rfl) h2

set_option maxRecDepth 100000 in
/-- a slice of ints among the arguments -/
theorem open_series {H : Type} {enc : TypeId × Value → H} {W : World} {base : Nat} {v : Value} {d : DataW H} {p : List MemPlace} (hv : Value.okWide Tryz.prog W .any base 22 v)
    (h : DataW.Trod enc Tryz.prog W 0 (fun _ => true) true 22 v d p) :
    ∃ (a : Option Addr) (c : Nat) (l : List Int), v = .slice a l.length c ∧ l.length ≤ c ∧ Ser W a l := by
  obtain ⟨a0, len, cap, rfl⟩ := okWide_slice Tryz.underlying22 hv
  obtain ⟨fuel, hf⟩ := h
  rcases open_ints Tryz.underlying22 Tryz.underlying3 cells_int hf with ⟨hcs, _⟩ | ⟨a, len', cap', zs, hcs, _, hl, hm, hz, hx, hcell, hwz⟩
  · simp [Value.cells] at hcs
    obtain ⟨rfl, rfl, rfl⟩ := hcs
    exact ⟨none, 0, [], rfl, Nat.le_refl _, fun h => by simp at h⟩
  · simp [Value.cells] at hcs
    obtain ⟨rfl, rfl, rfl⟩ := hcs
    simp only [if_true] at hz
    have hlen : (zs.take len).length = len := by simp; omega
    refine ⟨some a, cap, zs.take len, by rw [hlen], by omega, fun h0 => ?_⟩
    obtain ⟨b, off, spot⟩ := a
    have hspot : spot = none := by simpa [Addr.add] using World.cell?_spot (hcell 0 (by omega))
    subst hspot
    have hb : b < W.heap.size := by
      have := World.block_lt_of_cell? _ _ (hcell 0 (by omega))
      simpa [Addr.add] using this
    refine ⟨b, off, rfl, hb, fun j hj => ?_⟩
    have hj' : j < len := by omega
    have := hcell j (by omega)
    have e : (zs.take len)[j]?.getD 0 = zs.getD j 0 := by rw [List.getElem?_take_of_lt hj', List.getD_eq_getElem?_getD]
    rw [e]
    by_cases h0 : j = 0
    · subst h0; simpa [Addr.add] using this
    · simpa [Addr.add, h0] using this

set_option maxRecDepth 100000 in
/-- limits among the arguments -/
theorem open_limits {H : Type} {enc : TypeId × Value → H} {W : World} {base : Nat} {v : Value} {d : DataW H} {p : List MemPlace} (hv : Value.okWide Tryz.prog W .any base 34 v)
    (h : DataW.Trod enc Tryz.prog W 0 (fun _ => true) true 34 v d p) : ∃ lo hi : Int, v = .agg #[.int .i64 lo, .int .i64 hi] := by
  obtain ⟨v0, v1, y0, y1, n, rfl, _, _, h0, h1⟩ := Joins.open_agg2 (P := Tryz.prog) Tryz.underlying34 (by kernel_rfl) (by kernel_rfl) hv h
  obtain ⟨m0, e0, _, _⟩ := DataW.trod_int Tryz.underlying3 h0
  obtain ⟨m1, e1, _, _⟩ := DataW.trod_int Tryz.underlying3 h1
  obtain rfl : v0 = .int .i64 m0 := by simpa using e0
  obtain rfl : v1 = .int .i64 m1 := by simpa using e1
  exact ⟨m0, m1, rfl⟩

set_option maxRecDepth 100000 in
theorem laid_shape (os : Os) (args : Array Value) : ((World.laidAll Tryz.prog os laidL).forCall (fun _ _ => 0) ⟨#[], args, []⟩).Shaped Tryz.prog :=
  World.shaped_of_ZipB (by kernel_rfl) (by kernel_rfl)
set_option maxRecDepth 100000 in
theorem laid_met (os : Os) (args : Array Value) : laidMetH Tryz.prog laidL ((World.laidAll Tryz.prog os laidL).forCall (fun _ _ => 0) ⟨#[], args, []⟩).memory :=
  laidMetH_iff.2 ⟨by rw [show (laidL.filter fun x => x.2.handleName?.isNone) = laidL from by kernel_rfl]; exact laidMet_laidAll _ (by kernel_rfl) (by kernel_rfl), by
    rw [show (laidL.filter fun x => x.2.handleName?.isSome) = [] from by kernel_rfl]
    intro x hx; cases hx⟩
/-- a state that meets a row's condition -/
theorem witness_laid {H : Type} {enc : TypeId × Value → H} {os : Os} {f : FuncId} {fn : Func} {s : ChangeSpec} {args : Array Value}
    (hok : Input.okWideB Tryz.prog ((World.laidAll Tryz.prog os laidL).forCall (fun _ _ => 0) ⟨#[], args, []⟩) f ⟨#[], args, []⟩ = true)
    (hpre : s.preB enc Tryz.prog fn [] false ((World.laidAll Tryz.prog os laidL).forCall (fun _ _ => 0) ⟨#[], args, []⟩).memory args 8 = true)
    (hsz : s.sizedB enc Tryz.prog fn false ((World.laidAll Tryz.prog os laidL).forCall (fun _ _ => 0) ⟨#[], args, []⟩).memory args 8 = true) :
    ∃ (w : World) (tape : Tape) (i : Input), w.os = os ∧ (w.forCall tape i).Shaped Tryz.prog ∧ i.vars = [] ∧ Input.okWide Tryz.prog (w.forCall tape i) .any w.heap.size f i ∧
      ((s.pre enc Tryz.prog fn [] false (w.forCall tape i).memory i.args ∧ laidMetH Tryz.prog laidL (w.forCall tape i).memory) ∧ sizedMet enc Tryz.prog fn (OpenSpec.ofChange s) false (w.forCall tape i).memory i.args) ∧ ({ modest := false } : Assume).holds Tryz.prog (lone (Frame.enter Tryz.prog f i.args .normal) [] (w.forCall tape i)) :=
  ⟨World.laidAll Tryz.prog os laidL, fun _ _ => 0, ⟨#[], args, []⟩, World.laidAll_os _ _ _, laid_shape os args, rfl, (Input.okWide_of_okWideB hok).2, ⟨⟨ChangeSpec.pre_of_preB hpre, laid_met os args⟩, sizedMet_of_sizedB hsz⟩, by
    simp [Assume.holds]⟩

end Go.Proofs.YtgmegfcjbnfnaaaGreatDoor

/- The bounds of arguments. -/
namespace Go.Proofs.YtgmegfcjbnfnaaaGreatDoor
theorem u8_bd {n : Int} (h : (Lit.int .u8 n).wf = true) : 0 ≤ n ∧ n ≤ 255 := by
  simp only [Lit.wf, Bool.and_eq_true, decide_eq_true_eq] at h
  exact ⟨h.1, h.2⟩
theorem i64_bd {n : Int} (h : (Lit.int .i64 n).wf = true) : -9223372036854775808 ≤ n ∧ n ≤ 9223372036854775807 := by
  simp only [Lit.wf, Bool.and_eq_true, decide_eq_true_eq] at h
  exact ⟨h.1, h.2⟩
end Go.Proofs.YtgmegfcjbnfnaaaGreatDoor
