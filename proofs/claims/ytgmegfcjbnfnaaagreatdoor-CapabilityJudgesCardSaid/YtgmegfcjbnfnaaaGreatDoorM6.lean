/- Series: Centered, Median, Histogram, Runs; the library's iterators at ints. -/
import Derived.Test.YtgmegfcjbnfnaaaGreatDoorM5
import Derived.RangeFuncBox
import Derived.RangeFuncLeaves
import Derived.Shelf.Abstract
import Derived.Shelf.AbstractIn
import Derived.OwnWalkIn
import Derived.TacticsInMore
import Derived.LoopNIn
import Derived.LoopIn
import Derived.Maps.AppendAt
import Derived.Lib.SlKeysI
import Derived.Test.YtgmegfcjbnfnaaaGreatDoorSh
import Derived.OwnWalk
import Derived.RangeFuncCalls
import Derived.StillTailTactics

/- The library's iterators at ints: slices.Values, slices.AppendSeq, slices.Collect. -/
namespace Go.Proofs.YtgmegfcjbnfnaaaGreatDoor
open Go.RowKit Go.Shelf Wide

attribute [local go_sem] Oper.semAt_some

theorem infoInt : (Tryz.prog.info? 3).map (fun i => (i.zero, i.size, i.bytes)) = some (some (.int .i64 0), 1, 8) := by kernel_rfl

set_option maxRecDepth 100000 in
set_option maxHeartbeats 2000000 in
/-- slices.Values's closure: its values in their order, for every loop body that keeps what lay below n₀ -/
theorem values1_in (F : Fence) (n : Nat) (h7 : F.fn 68) (hro : F.round = none) (hn : 1 ≤ n) (l Bs n₀ b off cap : Nat) (zs : List Int) (hreach : zs.length ≤ 100000000000000) (hb : b < n₀) (J Jx : List Int → World → Prop)
    (hY : ∀ pre x W, J pre W → pre.length < zs.length → YieldAt F (n - 1) Tryz.prog l #[.int .i64 x] W fun e W' =>
      (e = .returned (.bool true) ∧ J (pre ++ [x]) W' ∧ Below n₀ W W') ∨ (e = .returned (.bool false) ∧ Jx (pre ++ [x]) W'))
    (W : World) (hBs : W.cell? ⟨Bs, 0, none⟩ = some (.slice (some ⟨b, off, none⟩) zs.length cap)) (hc : Row W b off zs) (h0 : J [] W) :
    CallsIn F n Tryz.prog 68 #[.func (.yield l) #[] #[], .pointer (some ⟨Bs, 0, none⟩)] W fun e W' => (∃ v, e = .returned v) ∧
      ((∃ ys, ys = zs ∧ J ys W') ∨ (∃ pre, (∃ k, k ≤ zs.length ∧ pre = zs.take k) ∧ Jx pre W')) := by
  have HC := Lib.hid hc
  clear hc
  refine callsIn_of_wp Tryz.func68 rfl h7 ?_ hro
  simp only [Tryz.ntmps68, List.size_toArray, List.length_cons, List.length_nil, Nat.reduceAdd, Nat.reduceSub, Array.replicate_succ, Array.replicate_zero, List.push_toArray, List.append_toArray, List.nil_append, List.cons_append]
  gi_wp2
  gi_loopw [7] (fun i wr => ∃ k : Nat, k ≤ zs.length ∧ i = .int .i64 k ∧ J (zs.take k) wr ∧ Below n₀ W wr)
    (fun i _ => zs.length - (intOf i).toNat)
  case atStart => exact ⟨0, Nat.zero_le _, rfl, by simpa using h0, Below.refl _ _⟩
  case round =>
    obtain ⟨k, hk, rfl, hJs, hnx⟩ := hrel
    by_cases hlt : k < zs.length
    · have hcx : wr.cell? ⟨b, off + k, none⟩ = some (.int .i64 (zs[k]?.getD 0)) := (hnx.cell (p := ⟨b, off + k, none⟩) hb).trans (HC.out k hlt)
      have htk : Hid (zs.take (k + 1) = zs.take k ++ [zs[k]?.getD 0]) := Lib.hid (by rw [List.take_add_one]; simp [hlt])
      obtain ⟨fn, tmps, assign, body, hy, hR⟩ := hY _ (zs[k]?.getD 0) wr hJs (by simp; omega)
      generalize zs[k]?.getD 0 = x at *
      gi_wp2
      refine hR.mono ?_
      rintro e W3 (⟨rfl, hJ3, hk3⟩ | ⟨rfl, hJx3⟩)
      · gi_wp2
        go_roundw
        case rel => exact ⟨k + 1, by omega, by simp, by rw [htk.out]; exact hJ3, hnx.trans hk3⟩
        case measure => simp [intOf]; omega
      · gi_wp2
        refine bodyPost_ret (results_none rfl _ _ _) rfl ?_
        exact ⟨⟨_, rfl⟩, .inr ⟨_, ⟨k + 1, by omega, htk.out.symm⟩, hJx3⟩⟩
    · obtain rfl : k = zs.length := by omega
      gi_wp2
      go_end0
      exact ⟨⟨_, rfl⟩, .inl ⟨_, List.take_length, hJs⟩⟩

/-- slices.Values -/
theorem values_in (a : Option Addr) (len cap : Nat) (w : World) :
    Calls Tryz.prog 34 #[.slice a len cap] w fun e w' => e = .returned (.func (.func 68) #[] #[.pointer (some ⟨w.heap.size, 0, none⟩)]) ∧ w' = w.alloc (.cells #[.slice a len cap] 22) := by
  go_enter Tryz.func34, Tryz.ntmps34
  go_wp2
  go_returns
  exact ⟨rfl, rfl⟩

theorem values_stops (F : Fence) (n : Nat) (h7 : F.fn 68) (hro : F.round = none) (hn : 1 ≤ n) (Bs n₀ b off cap : Nat) (zs : List Int) (hreach : zs.length ≤ 100000000000000) (hb : b < n₀) (w : World) (hBs : Bs < w.heap.size) (hn₀ : n₀ ≤ w.heap.size)
    (hc : w.cell? ⟨Bs, 0, none⟩ = some (.slice (some ⟨b, off, none⟩) zs.length cap)) (hI : Row w b off zs) :
    SeqStopsK F n Tryz.prog 68 #[.pointer (some ⟨Bs, 0, none⟩)] (fun x : Int => #[Value.int .i64 x]) (Below n₀) (fun ys => ys = zs) (fun _ => True) zs.length w := fun l J Jx W hW _ _ hY h0 => by
  have hc' := (hW.cell (p := ⟨Bs, 0, none⟩) hBs).trans hc
  have hI' : Row W b off zs := fun j hj => (hW.cell (p := ⟨b, off + j, none⟩) (show b < w.heap.size by omega)).trans (hI j hj)
  refine (values1_in F n h7 hro hn l Bs n₀ b off cap zs hreach hb J Jx hY W hc' hI' h0).mono ?_
  rintro e W' ⟨he, ⟨ys, rfl, hj⟩ | ⟨pre, _, hj⟩⟩
  · exact ⟨he, .inl ⟨_, rfl, hj⟩⟩
  · exact ⟨he, .inr ⟨_, trivial, hj⟩⟩

set_option maxRecDepth 100000 in
set_option maxHeartbeats 2000000 in
/-- slices.AppendSeq(nil, seq), whatever iterator seq is -/
theorem appendSeq_in (n : Nat) (hn : 2 ≤ n) (g : Nat) (lb : Array Value) (eg : ∀ args w, (callFunc g args).run Tryz.prog w = .ok (.enter g args) w)
    (S : List Int → Prop) (N : Nat) (hN : N ≤ 100000000000) (n₀ : Nat) (w : World) (hn₀ : n₀ ≤ w.heap.size)
    (hseq : SeqStopsK Fence.wide (n - 1) Tryz.prog g lb (fun x : Int => #[Value.int .i64 x]) (Below n₀) (fun ys => S ys ∧ ys.length ≤ N) (fun _ => True) N w) :
    CallsIn Fence.wide n Tryz.prog 95 #[.slice none 0 0, .func (.func g) #[] lb] w fun e W' => ∃ v ss, e = .returned v ∧ S ss ∧ W'.ownsRow w.heap.size 3 1 v ss.length (ss.map (Value.int .i64)) ∧ (v = .slice none 0 0 ↔ ss = []) ∧ Below w.heap.size w W' := by
  have h1 : 1 ≤ n := by omega
  have hro : Fence.wide.round = none := rfl
  have hFg : Fence.wide.fn g := trivial
  obtain ⟨i0, hi, hz0, hz1, hz2⟩ := info_parts infoInt
  refine callsIn_of_wp_marks Tryz.func95 rfl trivial ?_ hro
  simp only [Tryz.ntmps95, List.size_toArray, List.length_cons, List.length_nil, Nat.reduceAdd, Nat.reduceSub, Array.replicate_succ, Array.replicate_zero, List.push_toArray, List.append_toArray, List.nil_append, List.cons_append]
  gi_wp2
  have bO := Boxed.new w 22 (.slice none 0 0)
  have hB0 : Below w.heap.size w (w.alloc (.cells #[.slice none 0 0] 22)) := (Below.refl _ w).alloc (Nat.le_refl _) _
  refine wpIn_rangeFunc_ownG hro h1 (gf := g) (lb := lb) rfl hFg eg
    hseq belowK_t (belowK_b (by simp; omega)) hB0 (fun _ => rfl)
    (fun pre W => (∃ v, Boxed W w.heap.size 22 v ∧ W.ownsRow w.heap.size 3 1 v pre.length (pre.map (Value.int .i64)) ∧ (v = .slice none 0 0 ↔ pre = [])) ∧ Below w.heap.size w W)
    (fun _ _ _ => False)
    (OwnFrom.and (Own.from (holdsRow_own w.heap.size w.heap.size 22 3 1 (fun pre => pre.length) (fun pre => pre.map (Value.int .i64)) (fun pre v => v = .slice none 0 0 ↔ pre = [])) _) (ownFrom_below (Nat.le_refl _) (by simp)))
    (fun _ _ _ _ _ hs _ _ => hs)
    ⟨⟨_, bO, World.ownsRow_nil _ _ _ _, by simp⟩, hB0⟩
    (fun x => { tmps := #[.slice none 0 0, .func (.func g) #[] lb, .pointer (some ⟨w.heap.size, 0, none⟩), undef, .slice none 0 0, .int .i64 x, .func (.func g) #[] lb, .int .i64 x, undef, undef, undef, undef, undef], defers := [] }) ?assign ?body ?done ?stop
  case assign =>
    intro l x W K hK
    gi_wp2
    exact hK
  case body =>
    rintro l pre x W ⟨⟨v, hv, hrow, hnil⟩, hB⟩ hlt
    have hc := hv.cell
    gi_wp2_with (gi_at_builtin; refine wpListIn_append_own _ rfl _ _ 22 rfl w.heap.size 3 i0 (.int .i64 0) 1 8 Tryz.underlying22 hi hz0 hz1 hz2 rfl (by decide) _ _ _ rfl (hrow.alloc _) ⟨W.heap.size, 0, none⟩ 1 1 [.int .i64 x] rfl rfl (cell_one_new _ _ _) (by simp [Value.oneCell']) (by unfold maxLen; omega) (by omega) (by have := hB.size; simp; omega) ?_; intro v' w1 hown' hgrow _; obtain ⟨g', cap', rfl⟩ := ownsRow_succ hown'; obtain ⟨hv1, hv2, hr2, hk2, hb2⟩ := hv.appended (by decide) hrow hB.size (Nat.le_refl _) hown' hgrow; have hc1 := hv1.cell; have hf1 := hv1.frozen)
    exact ⟨hk2.from _, hb2.mono hn₀, ⟨_, hv2, by simpa using hr2, by simp⟩, hB.trans hb2⟩
  case done =>
    rintro D ys W hD ⟨hS, _⟩ ⟨⟨v, hv, hrow, hnil⟩, hB⟩ hK
    have hc := hv.cell
    gi_wp2
    refine ⟨by simp, .inl ⟨_, _, rfl, run_takeDeferred hK, ?_⟩⟩
    exact ⟨_, results_tmp rfl _ _ _, v, ys, rfl, hS, ownsRow_putObj hrow _ hK rfl, hnil, hB.trans (belowK_b (w := w) (Nat.le_refl _) W D _ _ (by simp at hD; omega) hK rfl rfl)⟩
  case stop =>
    rintro D c pre W _ _ h _
    exact h.elim

end Go.Proofs.YtgmegfcjbnfnaaaGreatDoor

/- slices.Collect and slices.Sorted at ints. -/
namespace Go.Proofs.YtgmegfcjbnfnaaaGreatDoor
open Go.RowKit Go.Shelf Wide Go.Sort

/-- a new slice of ints, nil just where there are none -/
def NewInts (w w' : World) (v : Value) (l : List Int) : Prop := w'.ownsRow w.heap.size 3 1 v l.length (l.map (Value.int .i64)) ∧ (v = .slice none 0 0 ↔ l = []) ∧ Kept w w'

theorem row_of_block {w : World} {g : Nat} {cur : Array Value} {e : TypeId} {l : List Int} (hg : w.heap[g]? = some (.cells cur e (0, 0))) (ht : cur.toList.take l.length = l.map (Value.int .i64)) : Row w g 0 l := by
  intro j hj
  have h1 : (cur.toList.take l.length)[j]? = (l.map (Value.int .i64))[j]? := by rw [ht]
  rw [List.getElem?_take_of_lt hj] at h1
  simp only [World.cell?, hg, Nat.zero_add]
  simp [hj] at h1 ⊢
  simpa using h1

theorem NewInts.row {w w' : World} {v : Value} {l : List Int} (h : NewInts w w' v l) (h0 : 0 < l.length) : ∃ g cap, v = .slice (some ⟨g, 0, none⟩) l.length cap ∧ w.heap.size ≤ g ∧ g < w'.heap.size ∧ l.length ≤ cap ∧ cap ≤ maxLen ∧ Row w' g 0 l := by
  obtain ⟨⟨_, ⟨_, hz⟩ | ⟨g, cap, cur, hv, hb, hg, h1, h2, h3, h4⟩⟩, _, _⟩ := h
  · omega
  · rw [Nat.mul_one] at h4
    exact ⟨g, cap, hv, hb, (Array.getElem?_eq_some_iff.1 hg).1, h1, h2, row_of_block hg h4⟩
theorem NewInts.nil {w w' : World} {v : Value} (h : NewInts w w' v []) : v = .slice none 0 0 := h.2.1.2 rfl
theorem NewInts.mono {w0 w w' : World} {v : Value} {l : List Int} (h : NewInts w w' v l) (k : Kept w0 w) : NewInts w0 w' v l := by
  obtain ⟨⟨h1, h2⟩, h3, h4⟩ := h
  refine ⟨⟨h1, ?_⟩, h3, k.trans h4⟩
  rcases h2 with h2 | ⟨g, cap, cur, hv, hb, r⟩
  · exact .inl h2
  · exact .inr ⟨g, cap, cur, hv, Nat.le_trans k.size hb, r⟩

set_option maxHeartbeats 1000000 in
set_option maxRecDepth 100000 in
/-- slices.Collect -/
theorem collect_any (g : Nat) (lb : Array Value) (eg : ∀ args w, (callFunc g args).run Tryz.prog w = .ok (.enter g args) w)
    (S : List Int → Prop) (N : Nat) (hN : N ≤ 100000000000) (n₀ : Nat) (w : World) (hn₀ : n₀ ≤ w.heap.size)
    (hseq : SeqStopsK Fence.wide 8 Tryz.prog g lb (fun x : Int => #[Value.int .i64 x]) (Below n₀) (fun ys => S ys ∧ ys.length ≤ N) (fun _ => True) N w) :
    Calls Tryz.prog 62 #[.func (.func g) #[] lb] w fun e w' => ∃ v ss, e = .returned v ∧ S ss ∧ NewInts w w' v ss := by
  have A := callsIn_wide.1 (appendSeq_in 9 (by omega) g lb eg S N hN n₀ w hn₀ hseq)
  clear hseq
  go_enter Tryz.func62, Tryz.ntmps62
  go_wp2_with fail
  refine A.mono ?_
  rintro e w1 ⟨v, ss, rfl, hS, hr, hn, hb⟩
  go_wp2
  go_returns
  exact ⟨v, ss, rfl, hS, hr, hn, Kept.of_below hb⟩

/-- the values in ascending order -/
def sortL (l : List Int) : List Int := l.mergeSort fun x y => decide (x ≤ y)
theorem sortL_length (l : List Int) : (sortL l).length = l.length := List.length_mergeSort _
theorem sortL_perm (l : List Int) : (sortL l).Perm l := List.mergeSort_perm _ _

set_option maxHeartbeats 1000000 in
set_option maxRecDepth 100000 in
/-- slices.Sorted of slices.Values -/
theorem sortedv_any (b off cap : Nat) (zs : List Int) (w0 : World) (hl : zs.length ≤ 100000000) (h0 : 0 < zs.length) (hb : b < w0.heap.size) (hr : Row w0 b off zs) :
    Calls Tryz.prog 33 #[.func (.func 68) #[] #[.pointer (some ⟨w0.heap.size, 0, none⟩)]] (w0.alloc (.cells #[.slice (some ⟨b, off, none⟩) zs.length cap] 22)) fun e w' =>
      ∃ v, e = .returned v ∧ NewInts w0 w' v (sortL zs) := by
  have k0 : Kept w0 (w0.alloc (.cells #[.slice (some ⟨b, off, none⟩) zs.length cap] 22)) := (Kept.refl w0).alloc _
  have hc : (w0.alloc (.cells #[.slice (some ⟨b, off, none⟩) zs.length cap] 22)).cell? ⟨w0.heap.size, 0, none⟩ = some (.slice (some ⟨b, off, none⟩) zs.length cap) := by simp
  have hsz : w0.heap.size < (w0.alloc (.cells #[.slice (some ⟨b, off, none⟩) zs.length cap] 22)).heap.size := by simp
  generalize w0.alloc (.cells #[.slice (some ⟨b, off, none⟩) zs.length cap] 22) = w at *
  have C := collect_any 68 #[.pointer (some ⟨w0.heap.size, 0, none⟩)] (enters_of Tryz.func68 (by kernel_rfl) rfl) (fun ys => ys = zs) zs.length (by omega) w0.heap.size w (by omega)
    (by
      have := values_stops Fence.wide 8 trivial rfl (by omega) w0.heap.size w0.heap.size b off cap zs (by omega) hb w hsz (by omega) hc (hr.keep k0)
      intro l J Jx W hW hJ hJx hY hJ0
      refine (this l J Jx W hW hJ hJx hY hJ0).mono ?_
      rintro e W' ⟨he, ⟨ys, hy, hj⟩ | h⟩
      · exact ⟨he, .inl ⟨ys, ⟨hy, by rw [hy]; exact Nat.le_refl _⟩, hj⟩⟩
      · exact ⟨he, .inr h⟩)
  clear hr hc
  go_enter Tryz.func33, Tryz.ntmps33
  go_wp2_with fail
  refine C.mono ?_
  rintro e w1 ⟨v, ss, rfl, hss, hrow, hnil, k1⟩
  subst hss
  rcases hrow.2 with ⟨_, hz⟩ | ⟨gb, cap1, cur, rfl, hbase, hgb, r1, r2, r3, r4⟩
  · omega
  · have hH : Holds encZ w1 gb 0 ss.toArray := holds_of_block_i hgb (by simpa using r4)
    have hgl : gb < w1.heap.size := (Array.getElem?_eq_some_iff.1 hgb).1
    have cS := Tryz.slices_Sort_int gb 0 cap1 ss w1 hH hgl (by omega)
    clear hrow hnil
    go_wp2_with fail
    refine cS.mono ?_
    rintro e w2 ⟨rfl, nn, os, rfl⟩
    go_wp2
    go_returns
    refine ⟨_, rfl, ?_, ?_, ?_⟩
    · rw [sortL_length]
      have := ownsRow_sorted_i (n := nn) (os := os) (ts := sortL ss) (ss := ss) (sortL_length ss) (Nat.le_trans k0.size hbase) hgb r1 r2 r3
      exact this
    · constructor
      · intro h; cases h
      · intro h
        have := congrArg List.length h
        rw [sortL_length] at this
        simp at this; rw [this] at h0; simp at h0
    · exact k0.trans (k1.own (grownBy_sorted_i _) hbase)

end Go.Proofs.YtgmegfcjbnfnaaaGreatDoor

/- Walks over series: Centered, Median. -/
namespace Go.Proofs.YtgmegfcjbnfnaaaGreatDoor
open Go.RowKit Wide Numer

/-- the distance to the limits, times the number of values -/
def dist (l : List Int) (lo hi : Int) : Int := min ((l.length : Int) * hi - l.sum) (l.sum - (l.length : Int) * lo)
theorem nx_bd {n x : Int} (h1 : 0 ≤ n) (h2 : n ≤ 4096) (h3 : -1048576 ≤ x ∧ x ≤ 1048576) : -4294967296 ≤ n * x ∧ n * x ≤ 4294967296 := by
  have h4 : (n * x).natAbs ≤ 4096 * 1048576 := by
    rw [Int.natAbs_mul]
    exact Nat.mul_le_mul (by omega) (by omega)
  omega
theorem ccmp_any (x y : Int) (w : World) : Calls Tryz.prog 58 #[.int .i64 x, .int .i64 y] w fun e w' => e = .returned (.int .i64 (zsgn (x - y))) ∧ w' = w := by
  have h : Lib.compareInt x y = zsgn (x - y) := by
    unfold Lib.compareInt zsgn
    split <;> split <;> (try split) <;> (try split) <;> omega
  rw [← h]
  exact Tryz.cmp_Compare_int x y w

set_option maxHeartbeats 2000000 in
set_option maxRecDepth 100000 in
theorem cCentered_any (a : Option Addr) (c : Nat) (l : List Int) (lo hi : Int) (w : World) (hT : Tab w) (hl : l.length ≤ 100000000000000) (hs : Ser w a l) :
    Calls Tryz.prog 22 #[.slice a l.length c, .agg #[.int .i64 lo, .int .i64 hi]] w fun e w' => e = .returned (.tuple #[.string (ifS (dE l lo hi) (rt (idxV (Rat.divInt (dist l lo hi) l.length) 9 (vr l)))), .int .i64 (if dE l lo hi = 0 then zsgn (dist l lo hi) else 0), .int .i64 (dE l lo hi)]) ∧ Kept w w' := by
  have K1 := (Kept.refl w).alloc (.cells #[.int .i64 lo, .int .i64 hi] 34)
  obtain ⟨cl, ch⟩ := two_cells (lim_head lo hi w)
  have V := cvaried_any a c l lo hi _ (hT.keep K1) hl (hs.keep K1)
  by_cases hb : dE l lo hi = 0
  · obtain ⟨h1, h2, h3⟩ := dE_zero hb
    obtain ⟨h4, h5, h6, h7⟩ := bE_zero h1
    obtain ⟨h8, h9, h10⟩ := chkS_zero.1 h4
    obtain ⟨b, o, rfl, _, hr⟩ := hs h8
    obtain ⟨a1, a2⟩ := sum_bd h10
    obtain ⟨q1, q2⟩ := nx_bd (n := (l.length : Int)) (by omega) (by omega) h5
    obtain ⟨q3, q4⟩ := nx_bd (n := (l.length : Int)) (by omega) (by omega) h6
    have dd : dist l lo hi = min ((l.length : Int) * hi - l.sum) (l.sum - (l.length : Int) * lo) := rfl
    have I := fun w hT => cindex_any (Rat.divInt (dist l lo hi) l.length) 9 (vr l) 12 20 (Sz.divInt (by omega) (by omega) (by omega)) (vr_sz h10 h2 h9) (by omega) (by omega) (by omega) (by omega) (by omega) (by omega) h3 w hT
    have O := fun w hT => rof_any (dist l lo hi) l.length (by omega) (by omega) (by omega) (by omega) (by omega) w hT
    have S := fun w hr => csum_any b o c l w (by omega) h9 (Vals.t h10) hr
    have CM := fun w => ccmp_any (dist l lo hi) 0 w
    rw [Int.sub_zero] at CM
    rw [hb, ifS, if_pos rfl] at V
    rw [hb, ifS, if_pos rfl, if_pos rfl]
    generalize rt (idxV (Rat.divInt (dist l lo hi) l.length) 9 (vr l)) = t at *
    generalize rt (Rat.divInt (dist l lo hi) l.length) = t1 at *
    generalize rt (vr l) = t2 at *
    generalize zsgn (dist l lo hi) = z at *
    generalize dist l lo hi = D at *
    have e1 : (l.length : Int) * lo = (l.length : Int) * lo := rfl
    generalize l.sum = s at *
    obtain ⟨X, hX⟩ : ∃ X, (l.length : Int) * lo = X := ⟨_, rfl⟩
    obtain ⟨Y, hY⟩ : ∃ Y, (l.length : Int) * hi = Y := ⟨_, rfl⟩
    rw [hX] at dd q1 q2
    rw [hY] at dd q3 q4
    have Hd := Lib.hid dd
    obtain ⟨U, hU⟩ : ∃ U, U = Y - s := ⟨_, rfl⟩
    obtain ⟨Z, hZ⟩ : ∃ Z, Z = s - X := ⟨_, rfl⟩
    have i1 : IntKind.i64.wrap Y = Y := by rw [IntKind.wrap_i64]; omega
    have i2 : IntKind.i64.wrap X = X := by rw [IntKind.wrap_i64]; omega
    have i3 : IntKind.i64.wrap (Y - s) = Y - s := by rw [IntKind.wrap_i64]; omega
    have i4 : IntKind.i64.wrap (s - X) = s - X := by rw [IntKind.wrap_i64]; omega
    clear e1 hb h1 h2 h3 h4 h5 h6 h7 h8 h10 hs dd hU hZ
    go_enter Tryz.func22, Tryz.ntmps22
    go_wp2_with fail
    refine V.mono ?_
    rintro e w1 ⟨rfl, k1⟩
    have hT1 := hT.keep (K1.trans k1)
    have cl1 := k1.cell cl
    have ch1 := k1.cell ch
    have hr1 := Lib.hid (hr.keep (K1.trans k1))
    clear hr cl ch
    go_wp2_with fail
    go_quiet ((first
      | (go_at_call 57; exact Calls.quiet_of_same (S _ (by exact hr1.out)))))
    have hD := Hd.out.symm
    have k2 : Kept w (w1.drewN nq) := (K1.trans k1).drewN _
    have hT2 := hT.keep k2
    generalize w1.drewN nq = w2 at *
    clear hr1 cl1 ch1 hT1 k1 i1 i2 i3 i4 Hd
    go_wp2_with fail
    refine (O _ hT2).mono ?_
    rintro e w3 ⟨rfl, k3⟩
    go_wp2_with fail
    refine (I _ (hT2.keep k3)).mono ?_
    rintro e w4 ⟨rfl, k4⟩
    go_wp2_with fail
    refine (CM _).mono ?_
    rintro e w5 ⟨rfl, rfl⟩
    go_wp2
    go_returns
    exact ⟨rfl, (k2.trans k3).trans k4⟩
  · rw [ifS, if_neg hb] at V
    rw [ifS, if_neg hb, if_neg hb]
    generalize dE l lo hi = v at *
    have hb2 : (v != 0) = true := by simp [hb]
    clear hs hb
    go_enter Tryz.func22, Tryz.ntmps22
    go_wp2_with fail
    refine V.mono ?_
    rintro e w1 ⟨rfl, k1⟩
    go_wp2
    go_returns
    exact ⟨rfl, K1.trans k1⟩

/-- the median -/
def medV (l : List Int) : Rat := Rat.divInt ((sortL l)[(l.length - 1) / 2]?.getD 0 + (sortL l)[l.length / 2]?.getD 0) 2
theorem sortL_vals {l : List Int} (h : Vals l) : Vals (sortL l) := fun x hx => h x ((sortL_perm l).mem_iff.1 hx)

set_option maxHeartbeats 2000000 in
set_option maxRecDepth 100000 in
theorem cMedian_any (a : Option Addr) (c : Nat) (l : List Int) (w : World) (hT : Tab w) (hl : l.length ≤ 100000000000000) (hs : Ser w a l) :
    Calls Tryz.prog 16 #[.slice a l.length c] w fun e w' => e = .returned (.tuple #[.string (ifS (chkS l) (rt (medV l))), .int .i64 (chkS l)]) ∧ Kept w w' := by
  have C := ccheck_ser a c l w hl hs
  by_cases hc : chkS l = 0
  · obtain ⟨h0, h2, h3⟩ := chkS_zero.1 hc
    obtain ⟨b, o, rfl, hb, hr⟩ := hs h0
    have S := sortedv_any b o c l w (by omega) h0 hb hr
    have V := values_in (some ⟨b, o, none⟩) l.length c w
    obtain ⟨b1, b2⟩ := (sortL_vals h3).get ((l.length - 1) / 2) (by rw [sortL_length]; omega)
    obtain ⟨b3, b4⟩ := (sortL_vals h3).get (l.length / 2) (by rw [sortL_length]; omega)
    have O := fun w hT => rof_any ((sortL l)[(l.length - 1) / 2]?.getD 0 + (sortL l)[l.length / 2]?.getD 0) 2 (by omega) (by omega) (by omega) (by omega) (by omega) w hT
    rw [show Rat.divInt ((sortL l)[(l.length - 1) / 2]?.getD 0 + (sortL l)[l.length / 2]?.getD 0) 2 = medV l from rfl] at O
    rw [hc] at C ⊢
    rw [ifS, if_pos rfl]
    generalize rt (medV l) = t at *
    have Hl := Lib.hid (show (sortL l).length = l.length from sortL_length l)
    clear hr h3 hc hs
    go_enter Tryz.func16, Tryz.ntmps16
    go_wp2_with fail
    refine C.mono ?_
    rintro e w1 ⟨rfl, rfl⟩
    go_wp2_with fail
    refine V.mono ?_
    rintro e w2 ⟨rfl, rfl⟩
    go_wp2_with fail
    refine S.mono ?_
    rintro e w2 ⟨v, rfl, hn⟩
    obtain ⟨g, cap, rfl, hg, _, _, _, hrow⟩ := hn.row (by rw [Hl.out]; exact h0)
    have hk := hn.2.2
    have c1 := hrow ((l.length - 1) / 2) (by rw [Hl.out]; omega)
    have c2 := hrow (l.length / 2) (by rw [Hl.out]; omega)
    have hT2 := hT.keep hk
    rw [Nat.zero_add] at c1 c2
    rw [Hl.out]
    generalize (sortL l)[(l.length - 1) / 2]?.getD 0 = x at *
    generalize (sortL l)[l.length / 2]?.getD 0 = y at *
    have q1 : ((l.length : Int) - 1).tdiv 2 = (((l.length - 1) / 2 : Nat) : Int) := by rw [Int.tdiv_eq_ediv_of_nonneg (by omega)]; omega
    have q2 : (l.length : Int).tdiv 2 = ((l.length / 2 : Nat) : Int) := by rw [Int.tdiv_eq_ediv_of_nonneg (by omega)]; omega
    have r1 : (l.length - 1) / 2 < l.length := by omega
    have r2 : l.length / 2 < l.length := by omega
    generalize (l.length - 1) / 2 = p at *
    generalize l.length / 2 = q at *
    have i1 : IntKind.i64.wrap ((l.length : Int) - 1) = (l.length : Int) - 1 := by rw [IntKind.wrap_i64]; omega
    have i2 : IntKind.i64.wrap (p : Int) = (p : Int) := by rw [IntKind.wrap_i64]; omega
    have i3 : IntKind.i64.wrap (q : Int) = (q : Int) := by rw [IntKind.wrap_i64]; omega
    have i4 : IntKind.i64.wrap (x + y) = x + y := by rw [IntKind.wrap_i64]; omega
    have hk2 := Lib.hid hk
    have O2 := Lib.hid O
    have hT3 := Lib.hid hT2
    clear hn hrow S V Hl hk O hT2
    go_wp2_with fail
    go_region_held3 (fun w' => w'.cell? ⟨g, p, none⟩ = some (.int .i64 x) ∧ w'.cell? ⟨g, q, none⟩ = some (.int .i64 y))
      (first | exact ⟨hk3.cell c1, hk3.cell c2⟩ | exact ⟨c1, c2⟩)
      (first | (go_at_call 45; refine (O2.out _ (by exact hT3.out)).mono ?_; rintro e w3 ⟨rfl, hk3⟩))
    go_wp2
    go_returns
    exact ⟨rfl, hk2.out.trans (kept_drew hk3)⟩
  · rw [ifS, if_neg hc]
    generalize chkS l = v at *
    have hb : (v != 0) = true := by simp [hc]
    clear hs hc
    go_enter Tryz.func16, Tryz.ntmps16
    go_wp2_with fail
    refine C.mono ?_
    rintro e w1 ⟨rfl, rfl⟩
    go_wp2
    go_returns
    exact ⟨rfl, Kept.refl _⟩

end Go.Proofs.YtgmegfcjbnfnaaaGreatDoor

/- Walks over series: rows of ints, Histogram. -/
namespace Go.Proofs.YtgmegfcjbnfnaaaGreatDoor
open Go.RowKit Wide Numer

/-- the block b holds the ints l -/
def IntsB (w : World) (b : Nat) (l : List Int) : Prop := w.heap[b]? = some (.cells (l.map fun c => Value.int .i64 c).toArray 3)
theorem IntsB.cell {w : World} {b : Nat} {l : List Int} (h : IntsB w b l) (j : Nat) (hj : j < l.length) : w.cell? ⟨b, j, none⟩ = some (.int .i64 (l[j]?.getD 0)) := by
  unfold IntsB at h
  simp [World.cell?, h, hj]
theorem IntsB.fz {w : World} {b : Nat} {l : List Int} (h : IntsB w b l) (j : Nat) : w.frozen? ⟨b, j, none⟩ = false := by
  unfold IntsB at h
  simp [World.frozen?, h]
theorem IntsB.keep {w w1 : World} {b : Nat} {l : List Int} (h : IntsB w b l) (k : Kept w w1) : IntsB w1 b l := k.heap h
theorem IntsB.set {w : World} {b : Nat} {l : List Int} (h : IntsB w b l) (j : Nat) (c : Int) : IntsB (w.setCell ⟨b, j, none⟩ (.int .i64 c)) b (l.set j c) := by
  unfold IntsB at *
  simp [World.setCell, Array.getElem?_modify, h, List.map_set]
theorem IntsB.row {w : World} {b : Nat} {l : List Int} (h : IntsB w b l) : Row w b 0 l := fun j hj => by rw [Nat.zero_add]; exact h.cell j hj
theorem IntsB.new (w : World) (l : List Int) : IntsB (w.alloc (.cells (l.map fun c => Value.int .i64 c).toArray 3)) w.heap.size l := by
  unfold IntsB World.alloc; simp

theorem make_ints (n : Nat) (hn : n ≤ 1000000) (w : World) : (Instr.makeSlice 22 (.int .i64 (n : Int)) (.int .i64 (n : Int))).run Tryz.prog w =
    .ok (.slice (some ⟨w.heap.size, 0, none⟩) n n) (w.alloc (.cells ((List.replicate n (0 : Int)).map fun c => Value.int .i64 c).toArray 3)) := by
  have h : (Tryz.prog.info? 3).map (fun i => (i.zero, i.size, i.bytes)) = some (some (Value.int .i64 0), 1, 8) := by kernel_rfl
  obtain ⟨i, h1, h5⟩ := Option.map_eq_some_iff.1 h
  simp only [Prod.mk.injEq] at h5
  obtain ⟨h2, h3, h4⟩ := h5
  have := run_makeSlice (P := Tryz.prog) (w := w) 22 3 i _ (by kernel_rfl) h1 h2 .i64 .i64 (n : Int) (n : Int) (by omega) (by omega) (by rw [h3]; omega) (by rw [h4]; omega) (by omega)
  rw [this]
  simp [madeCells, Value.cells, h3]
  have e : Array.map (fun x => [Value.int IntKind.i64 0][x % 1]?.getD default) (Array.range n) = Array.replicate n (Value.int IntKind.i64 0) := by
    apply Array.ext
    · simp
    · intro j _ _
      simp [Nat.mod_one]
  rw [e]

/-- the error of Histogram -/
def hE (l : List Int) (low width bins : Int) : Int := if chkS l ≠ 0 then chkS l else if okv low = true ∧ 1 ≤ width ∧ width ≤ 1048576 ∧ 1 ≤ bins ∧ bins ≤ 256 then 0 else 2
/-- what Histogram answers -/
def HistAt (C : List Int) (m : Nat) (w : World) (e : Ending) (w' : World) : Prop :=
  ∃ g cap, e = .returned (.tuple #[.slice (some ⟨g, 1, none⟩) m cap, .int .i64 (C[0]?.getD 0), .int .i64 (C[m + 1]?.getD 0), .int .i64 0]) ∧ w.heap.size ≤ g ∧ IntsB w' g C ∧ Kept w w'
def histC (l : List Int) (low width : Int) (m : Nat) : List Int := cnts (binOf low width m) (m + 2) l

set_option maxHeartbeats 2000000 in
set_option maxRecDepth 100000 in
theorem chist_yes (b o c : Nat) (l : List Int) (low width : Int) (m : Nat) (w : World) (hb : b < w.heap.size) (hr : Row w b o l) (h0 : 0 < l.length) (hl : l.length ≤ 4096) (hv : Vals l)
    (b1 : -1048576 ≤ low ∧ low ≤ 1048576) (b2 : 1 ≤ width ∧ width ≤ 1048576) (b3 : 1 ≤ m ∧ m ≤ 256) :
    Calls Tryz.prog 24 #[.slice (some ⟨b, o, none⟩) l.length c, .int .i64 low, .int .i64 width, .int .i64 m] w (HistAt (histC l low width m) m w) := by
  have C := ccheck_any b o c l w h0 (by omega) hr
  rw [chkS_zero.2 ⟨h0, hl, hv⟩] at C
  have I := in_any low w
  rw [(okv_iff low).2 b1] at I
  have M := make_ints (m + 2) (by omega) w
  have hB := IntsB.new w (List.replicate (m + 2) 0)
  have hk := (Kept.refl w).alloc (.cells ((List.replicate (m + 2) (0 : Int)).map fun c => Value.int .i64 c).toArray 3)
  generalize w.alloc (.cells ((List.replicate (m + 2) (0 : Int)).map fun c => Value.int .i64 c).toArray 3) = w1 at *
  rw [← cnts_nil (binOf low width m)] at hB
  have hm2 : ((m + 2 : Nat) : Int) = (m : Int) + 2 := by omega
  rw [hm2] at M
  have Hr := Lib.hid hr
  have Hv := Lib.hid hv
  have HB := Lib.hid hB
  obtain ⟨b11, b12⟩ := b1
  obtain ⟨b21, b22⟩ := b2
  obtain ⟨b31, b32⟩ := b3
  clear hr hv hB hm2
  go_enter Tryz.func24, Tryz.ntmps24
  go_wp2_with fail
  refine C.mono ?_
  rintro e w2 ⟨rfl, rfl⟩
  go_wp2_with fail
  refine I.mono ?_
  rintro e w2 ⟨rfl, rfl⟩
  go_wp2_with fail
  obtain ⟨g, hg⟩ : ∃ g, g = w2.heap.size := ⟨_, rfl⟩
  have hgl : w2.heap.size ≤ g := by omega
  rw [← hg] at HB ⊢
  clear hg M C I hb
  have Hk := Lib.hid hk
  clear hk
  go_loopg [46] l.length (fun k i wr => ∃ j : Nat, k + j = l.length ∧ i = .int .i64 j ∧ IntsB wr g (cnts (binOf low width m) (m + 2) (l.take j)) ∧ Kept w2 wr)
  case atStart => exact ⟨0, by omega, rfl, by rw [List.take_zero]; exact HB.out, Hk.out⟩
  case round =>
    obtain ⟨j, hkj, rfl, hB, hkr⟩ := hrel
    by_cases hj : j < l.length
    · have hcj : wr.cell? ⟨b, o + j, none⟩ = some (.int .i64 (l[j]?.getD 0)) := hkr.cell (Hr.out j hj)
      obtain ⟨bx1, bx2⟩ := Hv.out.get j hj
      have htk : l.take (j + 1) = l.take j ++ [l[j]?.getD 0] := by rw [List.take_add_one]; simp [hj]
      have hs := cnts_snoc (binOf low width m) (m + 2) (l.take j) (l[j]?.getD 0)
      rw [← htk] at hs
      obtain ⟨x, hx⟩ : ∃ x, x = l[j]?.getD 0 := ⟨_, rfl⟩
      rw [← hx] at hcj bx1 bx2 hs
      have hlt := binOf_lt low width m x
      have bd := cnts_bd (binOf low width m) (m + 2) (l.take j) (binOf low width m x)
      have tl : (l.take j).length ≤ 4096 := by simp; omega
      have hcc := hB.cell (binOf low width m x) (by rw [cnts_length]; exact hlt)
      have hff := hB.fz (binOf low width m x)
      obtain ⟨v, hvv⟩ : ∃ v, v = (cnts (binOf low width m) (m + 2) (l.take j))[binOf low width m x]?.getD 0 := ⟨_, rfl⟩
      rw [← hvv] at hcc bd hs
      obtain ⟨v1, v2⟩ := bd
      have v3 : v ≤ 4096 := by omega
      have HB2 := Lib.hid (hB.set (binOf low width m x) (v + 1))
      have Hs := Lib.hid hs
      have Hkr := Lib.hid hkr
      by_cases hlo : x < low
      · have hk0 : binOf low width m x = 0 := by rw [binOf, if_pos hlo]
        rw [hk0] at hcc hff HB2 Hs
        have i0 : ¬ low ≤ x := by omega
        clear hs hB hkr htk hx hvv hk0 hlt tl v2
        go_wp2
        go_roundg (gk - 1)
        case measure => omega
        case rel =>
          refine ⟨j + 1, by omega, by go_num, ?_, Hkr.out.own (grown_setCell (grown_refl _ _) _ _) hgl⟩
          rw [Hs.out]
          exact HB2.out
      · obtain ⟨k, hk⟩ : ∃ k, k = binOf low width m x := ⟨_, rfl⟩
        obtain ⟨Q, M, ht, hM, hkk, hq0, hq1⟩ := bin_hi (m := m) hlo b21 b11 bx2
        rw [← hk] at hcc hff HB2 Hs hlt hkk
        clear hk hs hB hkr htk hx hvv tl v2
        have i4 : ¬ width = 0 := by omega
        have i8 : (k : Int) < (m : Int) + 2 := by omega
        have i9 : (0 : Int) ≤ (k : Int) := Int.natCast_nonneg k
        have i6 : low ≤ x := by omega
        have i1 : 0 ≤ M := by omega
        have i2 : M ≤ 256 := by omega
        clear hlo
        go_wp2
        go_roundg (gk - 1)
        case measure => omega
        case rel =>
          refine ⟨j + 1, by omega, by go_num, ?_, Hkr.out.own (grown_setCell (grown_refl _ _) _ _) hgl⟩
          rw [Hs.out]
          exact HB2.out
    · have htk : l.take j = l := List.take_of_length_le (by omega)
      rw [htk] at hB
      have c0 := hB.cell 0 (by rw [cnts_length]; omega)
      have c1 := hB.cell (m + 1) (by rw [cnts_length]; omega)
      have Hres : Hid (cnts (binOf low width m) (m + 2) l = histC l low width m) := Lib.hid rfl
      have HB2 := Lib.hid hB
      generalize hy : (cnts (binOf low width m) (m + 2) l)[0]?.getD 0 = y at *
      generalize hz : (cnts (binOf low width m) (m + 2) l)[m + 1]?.getD 0 = z at *
      have Hy := Lib.hid hy
      have Hz := Lib.hid hz
      have Hkr := Lib.hid hkr
      clear hB htk hy hz hkr
      go_wp2_with fail
      go_quiet (fail)
      go_wp2
      go_returns
      refine ⟨g, m + 1, ?_, hgl, ?_, Hkr.out.drewN _⟩
      · rw [← Hres.out, Hy.out, Hz.out]
      · rw [← Hres.out]
        exact HB2.out

/-- what Histogram answers, at whatever arguments -/
def HistR (l : List Int) (low width bins : Int) (w : World) (e : Ending) (w' : World) : Prop :=
  (hE l low width bins = 0 ∧ ∃ m : Nat, bins = m ∧ 1 ≤ m ∧ HistAt (histC l low width m) m w e w') ∨
  (hE l low width bins ≠ 0 ∧ e = .returned (.tuple #[.slice none 0 0, .int .i64 0, .int .i64 0, .int .i64 (hE l low width bins)]) ∧ w' = w)

set_option maxHeartbeats 2000000 in
set_option maxRecDepth 100000 in
theorem chist_any (a : Option Addr) (c : Nat) (l : List Int) (low width bins : Int) (w : World) (hl : l.length ≤ 100000000000000) (hs : Ser w a l) :
    Calls Tryz.prog 24 #[.slice a l.length c, .int .i64 low, .int .i64 width, .int .i64 bins] w (HistR l low width bins w) := by
  have C := ccheck_ser a c l w hl hs
  by_cases hc : chkS l = 0
  · obtain ⟨h0, h2, h3⟩ := chkS_zero.1 hc
    obtain ⟨b, o, rfl, hb, hr⟩ := hs h0
    by_cases hx : okv low = true ∧ 1 ≤ width ∧ width ≤ 1048576 ∧ 1 ≤ bins ∧ bins ≤ 256
    · have e0 : hE l low width bins = 0 := by rw [hE, if_neg (by omega), if_pos hx]
      obtain ⟨x1, x2, x3, x4, x5⟩ := hx
      obtain ⟨m, rfl⟩ : ∃ m : Nat, bins = m := ⟨bins.toNat, by omega⟩
      exact (chist_yes b o c l low width m w hb hr h0 h2 h3 ((okv_iff low).1 x1) ⟨x2, x3⟩ ⟨by omega, by omega⟩).mono fun e w' h => .inl ⟨e0, m, rfl, by omega, h⟩
    · have e0 : hE l low width bins = 2 := by rw [hE, if_neg (by omega), if_neg hx]
      have R : Calls Tryz.prog 24 #[.slice (some ⟨b, o, none⟩) l.length c, .int .i64 low, .int .i64 width, .int .i64 bins] w fun e w' =>
          e = .returned (.tuple #[.slice none 0 0, .int .i64 0, .int .i64 0, .int .i64 2]) ∧ w' = w := by
        rw [hc] at C
        have I := in_any low w
        clear hr h3 hs hc e0
        cases hv : okv low
        · rw [hv] at I
          clear hv hx
          go_enter Tryz.func24, Tryz.ntmps24
          go_wp2_with fail
          refine C.mono ?_
          rintro e w2 ⟨rfl, rfl⟩
          go_wp2_with fail
          refine I.mono ?_
          rintro e w2 ⟨rfl, rfl⟩
          go_wp2
          go_returns
          exact ⟨rfl, rfl⟩
        · rw [hv] at I
          simp only [hv, true_and] at hx
          by_cases x1 : 1 ≤ width
          · by_cases x2 : width ≤ 1048576
            · by_cases x3 : 1 ≤ bins
              · have x4 : ¬ bins ≤ 256 := by omega
                clear hv hx
                go_enter Tryz.func24, Tryz.ntmps24
                go_wp2_with fail
                refine C.mono ?_
                rintro e w2 ⟨rfl, rfl⟩
                go_wp2_with fail
                refine I.mono ?_
                rintro e w2 ⟨rfl, rfl⟩
                go_wp2
                go_returns
                exact ⟨rfl, rfl⟩
              · clear hv hx
                go_enter Tryz.func24, Tryz.ntmps24
                go_wp2_with fail
                refine C.mono ?_
                rintro e w2 ⟨rfl, rfl⟩
                go_wp2_with fail
                refine I.mono ?_
                rintro e w2 ⟨rfl, rfl⟩
                go_wp2
                go_returns
                exact ⟨rfl, rfl⟩
            · clear hv hx
              go_enter Tryz.func24, Tryz.ntmps24
              go_wp2_with fail
              refine C.mono ?_
              rintro e w2 ⟨rfl, rfl⟩
              go_wp2_with fail
              refine I.mono ?_
              rintro e w2 ⟨rfl, rfl⟩
              go_wp2
              go_returns
              exact ⟨rfl, rfl⟩
          · clear hv hx
            go_enter Tryz.func24, Tryz.ntmps24
            go_wp2_with fail
            refine C.mono ?_
            rintro e w2 ⟨rfl, rfl⟩
            go_wp2_with fail
            refine I.mono ?_
            rintro e w2 ⟨rfl, rfl⟩
            go_wp2
            go_returns
            exact ⟨rfl, rfl⟩
      exact R.mono fun e w' ⟨he, hw⟩ => .inr ⟨by omega, by rw [e0]; exact he, hw⟩
  · have e0 : hE l low width bins = chkS l := by rw [hE, if_pos hc]
    have R : Calls Tryz.prog 24 #[.slice a l.length c, .int .i64 low, .int .i64 width, .int .i64 bins] w fun e w' =>
        e = .returned (.tuple #[.slice none 0 0, .int .i64 0, .int .i64 0, .int .i64 (chkS l)]) ∧ w' = w := by
      generalize chkS l = v at *
      have hb2 : (v != 0) = true := by simp [hc]
      clear hs hc e0
      go_enter Tryz.func24, Tryz.ntmps24
      go_wp2_with fail
      refine C.mono ?_
      rintro e w2 ⟨rfl, rfl⟩
      go_wp2
      go_returns
      exact ⟨rfl, rfl⟩
    exact R.mono fun e w' ⟨he, hw⟩ => .inr ⟨by rw [e0]; exact hc, by rw [e0]; exact he, hw⟩

end Go.Proofs.YtgmegfcjbnfnaaaGreatDoor

/- Walks over series: the iterator over the runs; Runs. -/
namespace Go.Proofs.YtgmegfcjbnfnaaaGreatDoor
open Go.RowKit Go.Shelf Wide Numer

attribute [local go_sem] Oper.semAt_some

theorem sd_mul_bd {s run k : Int} (hs : s = -1 ∨ s = 0 ∨ s = 1) (h : -k ≤ run ∧ run ≤ k) : -k ≤ s * run ∧ s * run ≤ k := by
  rcases hs with rfl | rfl | rfl <;> omega

set_option maxRecDepth 100000 in
set_option maxHeartbeats 2000000 in
theorem runs1_in (n : Nat) (hn : 1 ≤ n) (l Bs Bx n₀ b off cap : Nat) (zs : List Int) (lo hi : Int) (hlen : zs.length ≤ 4096) (hv : Vals zs) (hlo : -1048576 ≤ lo ∧ lo ≤ 1048576) (hhi : -1048576 ≤ hi ∧ hi ≤ 1048576)
    (hb : b < n₀) (hx : Bx < n₀) (J Jx : List Int → World → Prop)
    (hY : ∀ pre x W, J pre W → pre.length < zs.length → YieldAt Fence.wide (n - 1) Tryz.prog l #[.int .i64 x] W fun e W' =>
      (e = .returned (.bool true) ∧ J (pre ++ [x]) W' ∧ Below n₀ W W') ∨ (e = .returned (.bool false) ∧ Jx (pre ++ [x]) W'))
    (W : World) (hBs : W.cell? ⟨Bs, 0, none⟩ = some (.slice (some ⟨b, off, none⟩) zs.length cap)) (hc : Row W b off zs)
    (cl : W.cell? ⟨Bx, 0, none⟩ = some (.int .i64 lo)) (ch : W.cell? ⟨Bx, 1, none⟩ = some (.int .i64 hi)) (h0 : J [] W) :
    CallsIn Fence.wide n Tryz.prog 96 #[.func (.yield l) #[] #[], .pointer (some ⟨Bs, 0, none⟩), .pointer (some ⟨Bx, 0, none⟩)] W fun e W' => (∃ v, e = .returned v) ∧
      ((∃ ys, ys = runsC (lo + hi) 0 zs ∧ J ys W') ∨ (∃ pre, Jx pre W')) := by
  have HC := Lib.hid hc
  have HV := Lib.hid hv
  have hro : Fence.wide.round = none := rfl
  obtain ⟨l1, l2⟩ := hlo
  obtain ⟨l3, l4⟩ := hhi
  clear hc hv
  refine callsIn_of_wp Tryz.func96 rfl trivial ?_ hro
  simp only [Tryz.ntmps96, List.size_toArray, List.length_cons, List.length_nil, Nat.reduceAdd, Nat.reduceSub, Array.replicate_succ, Array.replicate_zero, List.push_toArray, List.append_toArray, List.nil_append, List.cons_append]
  gi_wp2
  gi_loopw [4, 10] (fun r i wr => ∃ (run : Int) (k : Nat) (pre : List Int), r = .int .i64 run ∧ k ≤ zs.length ∧ i = .int .i64 k ∧ pre ++ runsC (lo + hi) run (zs.drop k) = runsC (lo + hi) 0 zs ∧ (-(k : Int) ≤ run ∧ run ≤ k) ∧ J pre wr ∧ Below n₀ W wr)
    (fun _ i _ => zs.length - (intOf i).toNat)
  case atStart => exact ⟨0, 0, [], rfl, Nat.zero_le _, rfl, by simp, by simp, h0, Below.refl _ _⟩
  case round =>
    obtain ⟨run, k, pre, rfl, hk, rfl, hpre, hbd, hJs, hnx⟩ := hrel
    have hplen : run ≠ 0 → pre.length < zs.length := fun hr0 => by
      have h1 := runs_len (lo + hi) zs 0
      rw [← hpre, List.length_append] at h1
      have h2 := runs_tot (lo + hi) zs 0
      rw [← hpre] at h2
      have h3 := List.countP_le_length (p := fun n => decide (2 * n ≠ lo + hi)) (l := zs)
      have h4 : 1 ≤ (runsC (lo + hi) run (zs.drop k)).length := by
        have h5 := runs_tot (lo + hi) (zs.drop k) run
        rcases hq : runsC (lo + hi) run (zs.drop k) with _ | ⟨q, qs⟩
        · rw [hq] at h5; simp [tota] at h5; omega
        · simp
      rw [show (0 : Int).natAbs = 0 from rfl, Nat.zero_add] at h2
      omega
    have Hpre := Lib.hid hpre
    obtain ⟨r1, r2⟩ := hbd
    by_cases hlt : k < zs.length
    · have hcx : wr.cell? ⟨b, off + k, none⟩ = some (.int .i64 (zs[k]?.getD 0)) := (hnx.cell (p := ⟨b, off + k, none⟩) hb).trans (HC.out k hlt)
      have cl1 : wr.cell? ⟨Bx, 0, none⟩ = some (.int .i64 lo) := (hnx.cell (p := ⟨Bx, 0, none⟩) hx).trans cl
      have ch1 : wr.cell? ⟨Bx, 1, none⟩ = some (.int .i64 hi) := (hnx.cell (p := ⟨Bx, 1, none⟩) hx).trans ch
      obtain ⟨x1, x2⟩ := HV.out.get k hlt
      have hd : zs.drop k = zs[k]?.getD 0 :: zs.drop (k + 1) := by
        rw [List.drop_eq_getElem_cons hlt]; simp [hlt]
      rw [hd] at hpre
      generalize zs[k]?.getD 0 = x at *
      have C := ccmp_any (2 * x) (lo + hi)
      rw [show zsgn (2 * x - (lo + hi)) = sd (lo + hi) x from rfl] at C
      have hs := sd_vals (lo + hi) x
      have hp := sd_mul_bd hs ⟨r1, r2⟩
      rw [runsC] at hpre
      obtain ⟨s1, s2⟩ : -1 ≤ sd (lo + hi) x ∧ sd (lo + hi) x ≤ 1 := by omega
      have hpc := mul_pos_cases (run := run) hs
      generalize hsd : sd (lo + hi) x = s at *
      obtain ⟨p, hpp⟩ : ∃ p, s * run = p := ⟨_, rfl⟩
      rw [hpp] at hp hpc hpre
      obtain ⟨p1, p2⟩ := hp
      by_cases hp0 : 0 < p
      · rw [if_pos hp0] at hpre
        have Hp2 := Lib.hid hpre
        have hq := hpc.1 hp0
        have q1 : -((k : Int) + 1) ≤ run + s ∧ run + s ≤ (k : Int) + 1 := by omega
        have Hq1 := Lib.hid q1
        clear hpre hpc hs hq hd Hpre hplen q1 hsd
        gi_wp2_with (refine ⟨trivial, ?_⟩; gi_at_call 58; refine (callsIn_wide.2 (C _)).mono ?_; rintro e w1 ⟨rfl, rfl⟩)
        go_roundw
        case rel => exact ⟨run + s, k + 1, pre, rfl, by omega, by simp, Hp2.out, by have := Hq1.out; omega, hJs, hnx⟩
        case measure => simp [intOf]; omega
      · rw [if_neg hp0] at hpre
        have q1 : -((k : Int) + 1) ≤ s ∧ s ≤ (k : Int) + 1 := by omega
        have Hq1 := Lib.hid q1
        by_cases hr0 : run = 0
        · subst hr0
          rw [show rn 0 = [] from rfl, List.nil_append] at hpre
          have Hp2 := Lib.hid hpre
          clear hpre hpc hs hd Hpre hplen q1 hsd
          gi_wp2_with (refine ⟨trivial, ?_⟩; gi_at_call 58; refine (callsIn_wide.2 (C _)).mono ?_; rintro e w1 ⟨rfl, rfl⟩)
          refine ⟨fun _ h => (by cases h), ?_⟩
          gi_wp2
          go_roundw
          case rel => exact ⟨s, k + 1, pre, rfl, by omega, by simp, Hp2.out, by have := Hq1.out; omega, hJs, hnx⟩
          case measure => simp [intOf]; omega
        · rw [show rn run = [run] by rw [rn, if_neg hr0], ← List.append_assoc] at hpre
          have Hp2 := Lib.hid hpre
          obtain ⟨fn, tmps, assign, body, hy, hR⟩ := hY _ run wr hJs (hplen hr0)
          clear hpre hpc hs hd Hpre hplen q1 hsd
          gi_wp2_with (refine ⟨trivial, ?_⟩; gi_at_call 58; refine (callsIn_wide.2 (C _)).mono ?_; rintro e w1 ⟨rfl, rfl⟩)
          refine hR.mono ?_
          rintro e W3 (⟨rfl, hJ3, hk3⟩ | ⟨rfl, hJx3⟩)
          · gi_wp2
            go_roundw
            case rel => exact ⟨s, k + 1, pre ++ [run], rfl, by omega, by simp, Hp2.out, by have := Hq1.out; omega, hJ3, hnx.trans hk3⟩
            case measure => simp [intOf]; omega
          · gi_wp2
            refine bodyPost_ret (results_none rfl _ _ _) rfl ?_
            exact ⟨⟨_, rfl⟩, .inr ⟨_, hJx3⟩⟩
    · have hd : zs.drop k = [] := List.drop_eq_nil_of_le (by omega)
      rw [hd, runsC] at hpre
      by_cases hr0 : run = 0
      · subst hr0
        rw [show rn 0 = [] from rfl, List.append_nil] at hpre
        have Hp2 := Lib.hid hpre
        clear hpre hd Hpre hplen
        gi_wp2
        go_end0
        exact ⟨⟨_, rfl⟩, .inl ⟨_, Hp2.out, hJs⟩⟩
      · rw [show rn run = [run] by rw [rn, if_neg hr0]] at hpre
        have Hp2 := Lib.hid hpre
        obtain ⟨fn, tmps, assign, body, hy, hR⟩ := hY _ run wr hJs (hplen hr0)
        clear hpre hd Hpre hplen
        gi_wp2
        refine hR.mono ?_
        rintro e W3 (⟨rfl, hJ3, hk3⟩ | ⟨rfl, hJx3⟩)
        · gi_wp2
          go_end0
          exact ⟨⟨_, rfl⟩, .inl ⟨_, Hp2.out, hJ3⟩⟩
        · gi_wp2
          go_end0
          exact ⟨⟨_, rfl⟩, .inr ⟨_, hJx3⟩⟩

theorem runs_stops (n : Nat) (hn : 1 ≤ n) (Bs Bx n₀ b off cap : Nat) (zs : List Int) (lo hi : Int) (hlen : zs.length ≤ 4096) (hv : Vals zs) (hlo : -1048576 ≤ lo ∧ lo ≤ 1048576) (hhi : -1048576 ≤ hi ∧ hi ≤ 1048576)
    (hb : b < n₀) (hx : Bx < n₀) (w : World) (hBs : Bs < w.heap.size) (hn₀ : n₀ ≤ w.heap.size)
    (hc : w.cell? ⟨Bs, 0, none⟩ = some (.slice (some ⟨b, off, none⟩) zs.length cap)) (hI : Row w b off zs)
    (cl : w.cell? ⟨Bx, 0, none⟩ = some (.int .i64 lo)) (ch : w.cell? ⟨Bx, 1, none⟩ = some (.int .i64 hi)) :
    SeqStopsK Fence.wide n Tryz.prog 96 #[.pointer (some ⟨Bs, 0, none⟩), .pointer (some ⟨Bx, 0, none⟩)] (fun x : Int => #[Value.int .i64 x]) (Below n₀) (fun ys => ys = runsC (lo + hi) 0 zs ∧ ys.length ≤ zs.length) (fun _ => True) zs.length w := fun l J Jx W hW _ _ hY h0 => by
  have hc' := (hW.cell (p := ⟨Bs, 0, none⟩) hBs).trans hc
  have hI' : Row W b off zs := fun j hj => (hW.cell (p := ⟨b, off + j, none⟩) (show b < w.heap.size by omega)).trans (hI j hj)
  have cl' := (hW.cell (p := ⟨Bx, 0, none⟩) (show Bx < w.heap.size by omega)).trans cl
  have ch' := (hW.cell (p := ⟨Bx, 1, none⟩) (show Bx < w.heap.size by omega)).trans ch
  refine (runs1_in n hn l Bs Bx n₀ b off cap zs lo hi hlen hv hlo hhi hb hx J Jx hY W hc' hI' cl' ch' h0).mono ?_
  rintro e W' ⟨he, ⟨ys, rfl, hj⟩ | ⟨pre, hj⟩⟩
  · refine ⟨he, .inl ⟨_, ⟨rfl, ?_⟩, hj⟩⟩
    have h1 := runs_len (lo + hi) zs 0
    have h2 := runs_tot (lo + hi) zs 0
    have h3 := List.countP_le_length (p := fun n => decide (2 * n ≠ lo + hi)) (l := zs)
    rw [show (0 : Int).natAbs = 0 from rfl, Nat.zero_add] at h2
    omega
  · exact ⟨he, .inr ⟨_, trivial, hj⟩⟩

theorem cruns_any (a : Option Addr) (len cap : Nat) (lo hi : Int) (w : World) :
    Calls Tryz.prog 63 #[.slice a len cap, .agg #[.int .i64 lo, .int .i64 hi]] w fun e w' =>
      e = .returned (.func (.func 96) #[] #[.pointer (some ⟨w.heap.size, 0, none⟩), .pointer (some ⟨w.heap.size + 1, 0, none⟩)]) ∧
      w' = (w.alloc (.cells #[.slice a len cap] 22)).alloc (.cells #[.int .i64 lo, .int .i64 hi] 34) := by
  go_enter Tryz.func63, Tryz.ntmps63
  go_wp2
  go_returns
  exact ⟨rfl, rfl⟩

/-- what Runs answers -/
def RunsR (l : List Int) (lo hi : Int) (w : World) (e : Ending) (w' : World) : Prop :=
  ∃ v, e = .returned (.tuple #[v, .int .i64 (bE l lo hi)]) ∧ NewInts w w' v (if bE l lo hi = 0 then runsC (lo + hi) 0 l else [])
theorem newInts_nil (w w' : World) (k : Kept w w') : NewInts w w' (.slice none 0 0) [] := ⟨⟨rfl, .inl ⟨rfl, rfl⟩⟩, by simp, k⟩

set_option maxHeartbeats 2000000 in
set_option maxRecDepth 100000 in
theorem cRuns_any (a : Option Addr) (c : Nat) (l : List Int) (lo hi : Int) (w : World) (hl : l.length ≤ 100000000000000) (hs : Ser w a l) :
    Calls Tryz.prog 27 #[.slice a l.length c, .agg #[.int .i64 lo, .int .i64 hi]] w (RunsR l lo hi w) := by
  have K1 := (Kept.refl w).alloc (.cells #[.int .i64 lo, .int .i64 hi] 34)
  have B := cboth_any a c l lo hi _ hl (hs.keep K1)
  by_cases hb : bE l lo hi = 0
  · obtain ⟨h4, h5, h6, h7⟩ := bE_zero hb
    obtain ⟨h8, h9, h10⟩ := chkS_zero.1 h4
    obtain ⟨b, o, rfl, hbb, hr⟩ := hs h8
    unfold RunsR
    rw [hb] at B
    rw [hb, if_pos rfl]
    have R := fun w => cruns_any (some ⟨b, o, none⟩) l.length c lo hi w
    have Hr := Lib.hid hr
    have H5 := Lib.hid h5
    have H6 := Lib.hid h6
    have H10 := Lib.hid h10
    clear hr h4 h5 h6 h7 h10 hs hb
    go_enter Tryz.func27, Tryz.ntmps27
    go_wp2_with fail
    refine B.mono ?_
    rintro e w1 ⟨rfl, k1⟩
    have k2 := K1.trans k1
    have cl := k1.cell (two_cells (lim_head lo hi w)).1
    have ch := k1.cell (two_cells (lim_head lo hi w)).2
    go_wp2_with fail
    refine (R _).mono ?_
    rintro e w2 ⟨rfl, rfl⟩
    have k3 := ((Kept.refl w1).alloc (.cells #[.slice (some ⟨b, o, none⟩) l.length c] 22)).alloc (.cells #[.int .i64 lo, .int .i64 hi] 34)
    have q1 : ((w1.alloc (.cells #[.slice (some ⟨b, o, none⟩) l.length c] 22)).alloc (.cells #[.int .i64 lo, .int .i64 hi] 34)).cell? ⟨w1.heap.size, 0, none⟩ = some (.slice (some ⟨b, o, none⟩) l.length c) :=
      ((Kept.refl _).alloc _).cell (by simp)
    have q2 := two_cells (lim_head lo hi (w1.alloc (.cells #[.slice (some ⟨b, o, none⟩) l.length c] 22)))
    rw [World.size_alloc] at q2
    have q3 : ((w1.alloc (.cells #[.slice (some ⟨b, o, none⟩) l.length c] 22)).alloc (.cells #[.int .i64 lo, .int .i64 hi] 34)).heap.size = w1.heap.size + 2 := by simp
    have hbw : b < w1.heap.size := Nat.lt_of_lt_of_le hbb k2.size
    have C := collect_any 96 #[.pointer (some ⟨w1.heap.size, 0, none⟩), .pointer (some ⟨w1.heap.size + 1, 0, none⟩)] (enters_of Tryz.func96 (by kernel_rfl) rfl) (fun ys => ys = runsC (lo + hi) 0 l) l.length (by omega) (w1.heap.size + 2) _ (by rw [q3]; exact Nat.le_refl _)
      (runs_stops 8 (by omega) w1.heap.size (w1.heap.size + 1) (w1.heap.size + 2) b o c l lo hi (by omega) H10.out H5.out H6.out (by omega) (by omega) _ (by rw [q3]; omega) (by rw [q3]; exact Nat.le_refl _) q1 ((Hr.out.keep k2).keep k3) q2.1 q2.2)
    clear q1 q2 q3
    generalize ((w1.alloc (.cells #[.slice (some ⟨b, o, none⟩) l.length c] 22)).alloc (.cells #[.int .i64 lo, .int .i64 hi] 34)) = w2 at *
    go_wp2_with fail
    refine C.mono ?_
    rintro e w3 ⟨v, ss, rfl, rfl, hn⟩
    go_wp2
    go_returns
    exact ⟨v, rfl, hn.mono (k2.trans k3)⟩
  · unfold RunsR
    rw [if_neg hb]
    generalize bE l lo hi = v at *
    have hb2 : (v != 0) = true := by simp [hb]
    clear hs hb
    go_enter Tryz.func27, Tryz.ntmps27
    go_wp2_with fail
    refine B.mono ?_
    rintro e w1 ⟨rfl, k1⟩
    go_wp2
    go_returns
    exact ⟨_, rfl, newInts_nil _ _ (K1.trans k1)⟩

end Go.Proofs.YtgmegfcjbnfnaaaGreatDoor

/- slices.Chunk at ints. -/
namespace Go.Proofs.YtgmegfcjbnfnaaaGreatDoor
open Go.RowKit Go.Shelf Wide Numer

attribute [local go_sem] Oper.semAt_some

/-- two boxes are as they were -/
def CKeep (Bs Bn : Nat) (W W' : World) : Prop := W'.cell? ⟨Bs, 0, none⟩ = W.cell? ⟨Bs, 0, none⟩ ∧ W'.cell? ⟨Bn, 0, none⟩ = W.cell? ⟨Bn, 0, none⟩
theorem CKeep.t {Bs Bn : Nat} {A B C : World} (h : CKeep Bs Bn A B) (k : CKeep Bs Bn B C) : CKeep Bs Bn A C := ⟨k.1.trans h.1, k.2.trans h.2⟩
theorem CKeep.b {Bs Bn : Nat} {w : World} (h1 : Bs < w.heap.size) (h2 : Bn < w.heap.size) (W : World) (l : Nat) (o o' : Obj) (hl : w.heap.size ≤ l) (h : W.heap[l]? = some o) (_ : o.isCells = false) (_ : o.isWalk = false) : CKeep Bs Bn W (W.putObj l o') := by
  have hg := grownBy_putObj' W l o'
  have hlt := (Array.getElem?_eq_some_iff.1 h).1
  constructor
  · unfold World.cell?
    rw [hg.block Bs (by omega) (by simp; omega)]
  · unfold World.cell?
    rw [hg.block Bn (by omega) (by simp; omega)]

theorem fin_take {q k : Nat} (h : k < q) : (List.finRange q).take (k + 1) = (List.finRange q).take k ++ [⟨k, h⟩] := by
  rw [List.take_add_one]
  simp [h]

set_option maxRecDepth 100000 in
set_option maxHeartbeats 2000000 in
/-- slices.Chunk's closure, where the chunks go up without a rest -/
theorem chunk1_in (n : Nat) (hn : 1 ≤ n) (l Bs Bn b off cap g q T : Nat) (hT : T = q * g) (hg : 1 ≤ g) (hg2 : g ≤ 100000) (hlen : T ≤ 1000000) (hcap : T ≤ cap)
    (J Jx : List (Fin q) → World → Prop) (hJd : ∀ s W1 k, J s W1 → J s (World.drewN W1 k))
    (hY : ∀ pre x W, J pre W → pre.length < q → YieldAt Fence.wide (n - 1) Tryz.prog l #[.slice (some ⟨b, off + x.1 * g, none⟩) g g] W fun e W' =>
      (e = .returned (.bool true) ∧ J (pre ++ [x]) W' ∧ CKeep Bs Bn W W') ∨ (e = .returned (.bool false) ∧ Jx (pre ++ [x]) W'))
    (W : World) (hBs : W.cell? ⟨Bs, 0, none⟩ = some (.slice (some ⟨b, off, none⟩) T cap))
    (hBn : W.cell? ⟨Bn, 0, none⟩ = some (.int .i64 (g : Int))) (h0 : J [] W) :
    CallsIn Fence.wide n Tryz.prog 97 #[.func (.yield l) #[] #[], .pointer (some ⟨Bs, 0, none⟩), .pointer (some ⟨Bn, 0, none⟩)] W fun e W' => (∃ v, e = .returned v) ∧
      ((∃ ys, ys = List.finRange q ∧ J ys W') ∨ (∃ pre, Jx pre W')) := by
  have hro : Fence.wide.round = none := rfl
  have HT := Lib.hid hT
  clear hT
  refine callsIn_of_wp Tryz.func97 rfl trivial ?_ hro
  simp only [Tryz.ntmps97, List.size_toArray, List.length_cons, List.length_nil, Nat.reduceAdd, Nat.reduceSub, Array.replicate_succ, Array.replicate_zero, List.push_toArray, List.append_toArray, List.nil_append, List.cons_append]
  gi_wp2
  gi_loopw [4] (fun i wr => ∃ (k p : Nat), i = .int .i64 p ∧ p = k * g ∧ k ≤ q ∧ J ((List.finRange q).take k) wr ∧ wr.cell? ⟨Bs, 0, none⟩ = some (.slice (some ⟨b, off, none⟩) T cap) ∧ wr.cell? ⟨Bn, 0, none⟩ = some (.int .i64 (g : Int)))
    (fun i _ => T - (intOf i).toNat)
  case atStart => exact ⟨0, 0, rfl, by simp, by omega, by simpa using h0, hBs, hBn⟩
  case round =>
    obtain ⟨k, p, rfl, hp, hk, hJs, c1, c2⟩ := hrel
    by_cases hlt : k < q
    · have hpT : p + g ≤ T := by
        rw [HT.out, hp]
        have := Nat.mul_le_mul_right g (show k + 1 ≤ q by omega)
        rw [Nat.add_mul, Nat.one_mul] at this
        exact this
      have i1 : (p : Int) < (T : Int) := by omega
      have Hp := Lib.hid hp
      clear hp
      have i2 : (p : Int) + (g : Int) ≤ (T : Int) := by omega
      gi_wp2
      gi_region
      have hJ2 : J ((List.finRange q).take k) wr.drew := hJd _ _ 1 hJs
      have d1 : wr.drew.cell? ⟨Bs, 0, none⟩ = some (.slice (some ⟨b, off, none⟩) T cap) := c1
      have d2 : wr.drew.cell? ⟨Bn, 0, none⟩ = some (.int .i64 (g : Int)) := c2
      obtain ⟨fn, tmps, assign, body, hy, hR⟩ := hY _ ⟨k, hlt⟩ wr.drew hJ2 (by simp; omega)
      dsimp only at hy
      rw [← Hp.out] at hy
      have m1 : min (g : Int) ((T - p : Nat) : Int) = (g : Int) := by omega
      have m2 : p + g - p = g := by omega
      have Hp2 : Hid ((p : Int) + (g : Int) = (((k + 1) * g : Nat) : Int)) := Lib.hid (by rw [Nat.add_mul, Nat.one_mul, ← Hp.out]; omega)
      generalize wr.drew = w2 at *
      clear c1 c2 hJs
      gi_wp2
      refine hR.mono ?_
      rintro e W3 (⟨rfl, hJ3, hk3⟩ | ⟨rfl, hJx3⟩)
      · have e1 : W3.cell? ⟨Bs, 0, none⟩ = some (.slice (some ⟨b, off, none⟩) T cap) := hk3.1.trans d1
        have e2 : W3.cell? ⟨Bn, 0, none⟩ = some (.int .i64 (g : Int)) := hk3.2.trans d2
        gi_wp2
        go_roundw
        case rel =>
          refine ⟨k + 1, (k + 1) * g, congrArg (Value.int .i64) Hp2.out, rfl, by omega, by rw [fin_take hlt]; exact hJ3, e1, e2⟩
        case measure => simp [intOf]; omega
      · gi_wp2
        refine bodyPost_ret (results_none rfl _ _ _) rfl ?_
        exact ⟨⟨_, rfl⟩, .inr ⟨_, hJx3⟩⟩
    · have hpT : p = T := by rw [HT.out, hp, show k = q by omega]
      have hk2 : k = q := by omega
      have Hk := Lib.hid hk2
      subst hpT
      clear hp hk2
      gi_wp2
      go_end0
      exact ⟨⟨_, rfl⟩, .inl ⟨_, rfl, by rw [Hk.out, List.take_of_length_le (by simp)] at hJs; exact hJs⟩⟩

theorem chunk_any (a : Option Addr) (len cap g : Nat) (hg : 1 ≤ g) (w : World) :
    Calls Tryz.prog 65 #[.slice a len cap, .int .i64 (g : Int)] w fun e w' =>
      e = .returned (.func (.func 97) #[] #[.pointer (some ⟨w.heap.size, 0, none⟩), .pointer (some ⟨w.heap.size + 1, 0, none⟩)]) ∧
      w' = (w.alloc (.cells #[.slice a len cap] 22)).alloc (.cells #[.int .i64 (g : Int)] 3) := by
  have hg2 : (1 : Int) ≤ (g : Int) := by omega
  go_enter Tryz.func65, Tryz.ntmps65
  go_wp2
  go_returns
  exact ⟨rfl, rfl⟩

theorem chunk_stops (n : Nat) (hn : 1 ≤ n) (Bs Bn b off cap g q T : Nat) (hT : T = q * g) (hg : 1 ≤ g) (hg2 : g ≤ 100000) (hlen : T ≤ 1000000) (hcap : T ≤ cap)
    (w : World) (hs : Bs < w.heap.size) (hx : Bn < w.heap.size)
    (hBs : w.cell? ⟨Bs, 0, none⟩ = some (.slice (some ⟨b, off, none⟩) T cap))
    (hBn : w.cell? ⟨Bn, 0, none⟩ = some (.int .i64 (g : Int))) :
    SeqStopsK Fence.wide n Tryz.prog 97 #[.pointer (some ⟨Bs, 0, none⟩), .pointer (some ⟨Bn, 0, none⟩)] (fun x : Fin q => #[Value.slice (some ⟨b, off + x.1 * g, none⟩) g g]) (CKeep Bs Bn) (fun ys => ys = List.finRange q) (fun _ => True) q w := fun l J Jx W hW hJ _ hY h0 => by
  have c1 := (hW.cell (p := ⟨Bs, 0, none⟩) hs).trans hBs
  have c2 := (hW.cell (p := ⟨Bn, 0, none⟩) hx).trans hBn
  refine (chunk1_in n hn l Bs Bn b off cap g q T hT hg hg2 hlen hcap J Jx (fun s W1 k h => hJ s W1 _ none h (grown_drewN (grown_refl _ _) k) (fun _ h => by cases h)) hY W c1 c2 h0).mono ?_
  rintro e W' ⟨he, ⟨ys, rfl, hj⟩ | ⟨pre, hj⟩⟩
  · exact ⟨he, .inl ⟨_, rfl, hj⟩⟩
  · exact ⟨he, .inr ⟨_, trivial, hj⟩⟩

end Go.Proofs.YtgmegfcjbnfnaaaGreatDoor

/- A region in a round of a loop over an iterator: its reads and its quiet calls in whatever order, then a tail whose order is forced. -/
namespace Go.Proofs.YtgmegfcjbnfnaaaGreatDoor
open Go.RowKit

theorem oper_in {l m : Nat} {P : Program} {o : Oper} {a : Act} {w : World} {K : Act → World → Prop} {Q : Exit → Act → World → Prop} (hnd : ∀ c, o.op ≠ .defer c)
    (h : o.wp P a w K Q) : o.wpIn (Fence.wide.inRound l) m P a w K Q := by
  unfold Oper.wp at h
  unfold Oper.wpIn
  refine ⟨fun _ _ => trivial, ?_⟩
  rw [Oper.semAt_plain _ _ _ hnd]
  generalize (execOp a.eval o).run P w = r at *
  cases r with
  | ok n w' =>
    cases n with
    | value v => exact h
    | skip => exact h
    | defer d => exact h
    | enter f args => exact ⟨(fun hd => Bool.noConfusion hd), CallsIn.inRound l (callsIn_wide.2 h)⟩
    | row row args => exact ⟨(fun hd => Bool.noConfusion hd), (show RowsIn Fence.wide _ P row args w' _ from fun c cs _ => let ⟨v, w', r, s⟩ := h c cs; ⟨v, w', r, stepsIn_wide.2 s⟩)⟩
    | _ => exact h.elim
  | halt x w' => cases x <;> first | exact h | exact h.elim

theorem any_in {l m : Nat} {P : Program} {md : Region.Mode} {ops : Array Oper} {Q : Exit → Act → World → Prop} (hnd : ∀ (i : Nat) (o : Oper), ops[i]? = some o → ∀ c, o.op ≠ .defer c) (hL : ¬ LetsOut Q) :
    ∀ (f : Nat) (listed : Array Bool) (a : Act) (w : World), wpAny P md ops Q f listed a w → wpAnyIn (Fence.wide.inRound l) m P md ops Q f listed a w
  | 0, _, _, _, h => h
  | f + 1, listed, a, w, h => by
    refine ⟨h.1, fun i hi => ?_⟩
    have h1 := h.2 i hi
    unfold wpOp at h1
    unfold wpOpIn
    cases ho : ops[i]? with
    | none => rw [ho] at h1; exact any_in hnd hL f _ _ _ h1
    | some o =>
      rw [ho] at h1
      dsimp only at h1 ⊢
      split at h1
      · rename_i hw
        rw [if_pos hw]
        rcases h1 with h1 | ⟨_, h1⟩
        · exact oper_in (hnd i o ho) (Oper.wp_mono (fun a w h => any_in hnd hL f _ _ _ h) h1)
        · exact absurd h1 hL
      · rename_i hw
        rw [if_neg hw]
        exact ⟨fun _ _ => trivial, any_in hnd hL f _ _ _ h1⟩

theorem region_still_tail_in {d m : Nat} {P : Program} {id : Nat} {Q : Exit → Act → World → Prop} {a : Act} {w : World} {l : List Oper} (n : Nat) (hm : P.follows .mixedOrders = true) (hB : Region.lexTailB .any l.toArray n = true)
    (hnd : ∀ (i : Nat) (o : Oper), l.toArray[i]? = some o → ∀ c, o.op ≠ .defer c) (hL : ¬ LetsOut Q)
    (h : wpStill P l.toArray { w with drawn := w.drawn + 1 } (fun a' => wpList P l.toArray Q (l.drop n) a' { w with drawn := w.drawn + 1 }) (l.take n) a) : (Code.region id l.toArray true).wpIn (Fence.wide.inRound d) m P Q a w := by
  simp only [Region.lexTailB, Bool.and_eq_true, decide_eq_true_eq] at hB
  obtain ⟨⟨⟨⟨hsel, hn⟩, hs⟩, hc⟩, hlex⟩ := hB
  have hn' : n < l.length := by simpa using hn
  have htl : (l.take n).length = n := by simp; omega
  have hdl : (l.drop n).length = l.toArray.size - n := by simp
  have inv0 : HeadInv .any l.toArray n (Array.replicate l.toArray.size false) :=
    ⟨by simp, fun j oj _ hl => (by rw [getD_replicate_false] at hl; cases hl), fun t _ ht => getD_in (by simpa using ht) (getD_replicate_false _ _)⟩
  have H := wpAnyL_lex (md := .any) (g := l.toArray.size - n) hsel hs hc hn (l.take n) 0 _ a (fun j hj => by
    have hj' : j < n := by rw [htl] at hj; exact hj
    simp [hj']) (by simpa using htl) inv0 (by rw [htl]; exact hlex) h
  refine wpIn_region_any hm (any_in hnd hL _ _ _ _ ?_)
  have := wpAny_of_head (Q' := Q) (g := l.toArray.size - n) (fun listed a' hL => by
    have := wpAny_of_seq (md := .any) (Q' := Q) (l.drop n) n listed a' { w with drawn := w.drawn + 1 } (fun j => by simp [List.getElem?_drop]) (by rw [hdl]; exact hL.1) hL.2
    rwa [hdl] at this) _ _ _ H
  rw [htl, show n + (l.toArray.size - n) = l.toArray.size by omega] at this
  exact this

/-- no statement that defers -/
def noDef (o : Oper) : Bool := match o.op with
  | .defer _ => false
  | _ => true
theorem noDef_of {ops : Array Oper} (h : ops.all noDef = true) : ∀ (i : Nat) (o : Oper), ops[i]? = some o → ∀ c, o.op ≠ .defer c := by
  intro i o ho c hc
  obtain ⟨hi, he⟩ := Array.getElem?_eq_some_iff.1 ho
  have := Array.all_eq_true.1 h i hi
  rw [he] at this
  simp [noDef, hc] at this

end Go.Proofs.YtgmegfcjbnfnaaaGreatDoor
