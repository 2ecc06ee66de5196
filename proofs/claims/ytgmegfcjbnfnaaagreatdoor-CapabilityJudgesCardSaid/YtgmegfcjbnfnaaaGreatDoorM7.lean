/- Series: Spread. -/
import Derived.Test.YtgmegfcjbnfnaaaGreatDoorM6
import Derived.Test.YtgmegfcjbnfnaaaGreatDoorSh
import Derived.RegionIn
import Derived.RangeFuncCalls
import Derived.RangeFuncNested
import Derived.Shelf.RegionOpen

/- Walks over series: Spread. -/
namespace Go.Proofs.YtgmegfcjbnfnaaaGreatDoor
open Go.RowKit Go.Shelf Wide Numer

attribute [local go_sem] Oper.semAt_some

/-- a group of values -/
def grp (l : List Int) (g i : Nat) : List Int := (l.drop (i * g)).take g
/-- how far a group's values lie apart -/
def apart (m : List Int) : Int := Lib.maxOf m - Lib.minOf m
def spr (l : List Int) (g : Nat) : List Int := (List.finRange (l.length / g)).map fun i => apart (grp l g i.1)

theorem grp_le {l : List Int} {g i : Nat} (hi : i < l.length / g) : i * g + g ≤ l.length := by
  have h1 := Nat.mul_le_mul_right g (show i + 1 ≤ l.length / g by omega)
  rw [Nat.add_mul, Nat.one_mul] at h1
  have h2 := Nat.div_mul_le_self l.length g
  omega
theorem grp_length {l : List Int} {g i : Nat} (hi : i < l.length / g) : (grp l g i).length = g := by
  have := grp_le hi
  unfold grp
  simp; omega
theorem grp_row {w : World} {b o : Nat} {l : List Int} (h : Row w b o l) {g i : Nat} (hi : i < l.length / g) : Row w b (o + i * g) (grp l g i) := by
  intro j hj
  rw [grp_length hi] at hj
  have h1 := grp_le hi
  have h2 := h (i * g + j) (by omega)
  have e : (grp l g i)[j]?.getD 0 = l[i * g + j]?.getD 0 := by
    unfold grp
    rw [List.getElem?_take_of_lt hj, List.getElem?_drop]
  rw [e, Nat.add_assoc]
  exact h2

theorem row_relax {w : World} {base base' : Nat} {e : TypeId} {size : Nat} {v : Value} {n : Nat} {xs : List Value} (h : w.ownsRow base e size v n xs) (hb : base' ≤ base) : w.ownsRow base' e size v n xs := by
  obtain ⟨h1, h2⟩ := h
  refine ⟨h1, ?_⟩
  rcases h2 with h2 | ⟨g, cap, cur, hv, hg, r⟩
  · exact .inl h2
  · exact .inr ⟨g, cap, cur, hv, Nat.le_trans hb hg, r⟩
theorem row_base {w : World} {base base' : Nat} {e : TypeId} {size : Nat} {g cap m : Nat} {n : Nat} {xs : List Value} (h : w.ownsRow base e size (.slice (some ⟨g, 0, none⟩) m cap) n xs) (hb : base' ≤ g) : w.ownsRow base' e size (.slice (some ⟨g, 0, none⟩) m cap) n xs := by
  obtain ⟨h1, h2⟩ := h
  refine ⟨h1, ?_⟩
  rcases h2 with ⟨h2, _⟩ | ⟨g1, cap1, cur, hv, hg, r⟩
  · cases h2
  · cases hv; exact .inr ⟨g, cap, cur, rfl, hb, r⟩
theorem row_ge {w : World} {base : Nat} {e : TypeId} {size : Nat} {g cap m : Nat} {n : Nat} {xs : List Value} (h : w.ownsRow base e size (.slice (some ⟨g, 0, none⟩) m cap) n xs) : base ≤ g := by
  rcases h.2 with ⟨h2, _⟩ | ⟨g1, cap1, cur, hv, hg, r⟩
  · cases h2
  · cases hv; exact hg
theorem own_ge {w : World} {base : Nat} {e : TypeId} {size : Nat} {v : Value} {n : Nat} {xs : List Value} (h : w.ownsRow base e size v n xs) {B : Nat} (hB : B < base) : some B ≠ v.ownBlock := by
  rcases h.2 with ⟨rfl, _⟩ | ⟨g1, cap1, cur, rfl, hg, r⟩
  · simp [Value.ownBlock]
  · simp [Value.ownBlock]; omega

theorem NewInts.keep {w W W' : World} {v : Value} {l : List Int} (h : NewInts w W v l) (k : Kept W W') : NewInts w W' v l := by
  obtain ⟨⟨h1, h2⟩, h3, h4⟩ := h
  refine ⟨⟨h1, ?_⟩, h3, h4.trans k⟩
  rcases h2 with h2 | ⟨g, cap, cur, hv, hb, hg, r⟩
  · exact .inl h2
  · exact .inr ⟨g, cap, cur, hv, hb, k.heap hg, r⟩
theorem NewInts.put {w W : World} {v : Value} {l : List Int} (h : NewInts w W v l) {D : Nat} (hD : w.heap.size ≤ D) (hK : W.heap[D]? = some (.deferred (some []))) : NewInts w (W.putObj D (.deferred none)) v l :=
  ⟨ownsRow_putObj h.1 _ hK rfl, h.2.1, h.2.2.own (grownBy_putObj' W D _) hD⟩

theorem foldl_max_mem (l : List Int) : ∀ a, l.foldl max a = a ∨ l.foldl max a ∈ l := by
  induction l with
  | nil => intro a; exact .inl rfl
  | cons x l ih =>
    intro a
    rw [List.foldl_cons]
    rcases ih (max a x) with h | h
    · rw [h]
      rcases Int.le_total a x with h2 | h2
      · exact .inr (by rw [Int.max_eq_right h2]; exact List.mem_cons_self ..)
      · exact .inl (Int.max_eq_left h2)
    · exact .inr (List.mem_cons_of_mem _ h)
theorem foldl_min_mem (l : List Int) : ∀ a, l.foldl min a = a ∨ l.foldl min a ∈ l := by
  induction l with
  | nil => intro a; exact .inl rfl
  | cons x l ih =>
    intro a
    rw [List.foldl_cons]
    rcases ih (min a x) with h | h
    · rw [h]
      rcases Int.le_total a x with h2 | h2
      · exact .inl (Int.min_eq_left h2)
      · exact .inr (by rw [Int.min_eq_right h2]; exact List.mem_cons_self ..)
    · exact .inr (List.mem_cons_of_mem _ h)
theorem foldl_max_le (l : List Int) : ∀ a, a ≤ l.foldl max a ∧ ∀ x ∈ l, x ≤ l.foldl max a := by
  induction l with
  | nil => intro a; simp
  | cons x l ih =>
    intro a
    rw [List.foldl_cons]
    obtain ⟨h1, h2⟩ := ih (max a x)
    refine ⟨by omega, fun y hy => ?_⟩
    rcases List.mem_cons.1 hy with rfl | hy
    · omega
    · exact h2 y hy
theorem foldl_min_le (l : List Int) : ∀ a, l.foldl min a ≤ a ∧ ∀ x ∈ l, l.foldl min a ≤ x := by
  induction l with
  | nil => intro a; simp
  | cons x l ih =>
    intro a
    rw [List.foldl_cons]
    obtain ⟨h1, h2⟩ := ih (min a x)
    refine ⟨by omega, fun y hy => ?_⟩
    rcases List.mem_cons.1 hy with rfl | hy
    · omega
    · exact h2 y hy
theorem maxOf_mem {l : List Int} (h : 0 < l.length) : Lib.maxOf l ∈ l := by
  cases l with
  | nil => simp at h
  | cons x l =>
    unfold Lib.maxOf
    rcases foldl_max_mem (x :: l) ((x :: l).headD 0) with h | h
    · rw [h]; exact List.mem_cons_self ..
    · exact h
theorem minOf_mem {l : List Int} (h : 0 < l.length) : Lib.minOf l ∈ l := by
  cases l with
  | nil => simp at h
  | cons x l =>
    unfold Lib.minOf
    rcases foldl_min_mem (x :: l) ((x :: l).headD 0) with h | h
    · rw [h]; exact List.mem_cons_self ..
    · exact h
theorem le_maxOf {l : List Int} {x : Int} (h : x ∈ l) : x ≤ Lib.maxOf l := (foldl_max_le l _).2 x h
theorem minOf_le {l : List Int} {x : Int} (h : x ∈ l) : Lib.minOf l ≤ x := (foldl_min_le l _).2 x h
theorem grp_mem {l : List Int} {g i : Nat} {x : Int} (h : x ∈ grp l g i) : x ∈ l := List.mem_of_mem_drop (List.mem_of_mem_take h)

set_option maxRecDepth 100000 in
set_option maxHeartbeats 2000000 in
theorem cspread_yes (b o c : Nat) (l : List Int) (g : Nat) (w : World) (hT : Tab w) (hb : b < w.heap.size) (hr : Row w b o l) (h0 : 0 < l.length) (hl : l.length ≤ 4096) (hv : Vals l) (hc : l.length ≤ c)
    (hg : 2 ≤ g) (hg2 : g ≤ 256) (hgl : g ≤ l.length) :
    CallsIn Fence.wide 9 Tryz.prog 29 #[.slice (some ⟨b, o, none⟩) l.length c, .int .i64 (g : Int)] w fun e w' =>
      ∃ v, e = .returned (.tuple #[v, .string (rt (ctr (spr l g))), .int .i64 0]) ∧ NewInts w w' v (spr l g) := by
  have hro : Fence.wide.round = none := rfl
  have C := ccheck_any b o c l w h0 (by omega) hr
  rw [chkS_zero.2 ⟨h0, hl, hv⟩] at C
  have hq : 1 ≤ l.length / g := (Nat.one_le_div_iff (by omega)).2 hgl
  have q1 : (l.length : Int).tdiv (g : Int) = ((l.length / g : Nat) : Int) := by
    rw [Int.tdiv_eq_ediv_of_nonneg (by omega)]; rfl
  have q2 := Nat.div_mul_le_self l.length g
  have q3 := Nat.div_le_self l.length g
  obtain ⟨q, hqq⟩ : ∃ q, q = l.length / g := ⟨_, rfl⟩
  rw [← hqq] at q1 q2 q3 hq
  obtain ⟨T, hTT⟩ : ∃ T, T = q * g := ⟨_, rfl⟩
  have q4 : ((q : Int)) * (g : Int) = (T : Int) := by rw [hTT]; rfl
  rw [← hTT] at q2
  have i1 : (2 : Int) ≤ (g : Int) := by omega
  have i2 : (g : Int) ≤ 256 := by omega
  have i3 : (g : Int) ≤ (l.length : Int) := by omega
  have i4 : (T : Int) ≤ (l.length : Int) := by omega
  have i5 : ¬ (g : Int) = 0 := by omega
  have K := fun w => chunk_any (some ⟨b, o, none⟩) T c g (by omega) w
  have Hr := Lib.hid hr
  have Hv := Lib.hid hv
  have HT := Lib.hid hTT
  have Hq := Lib.hid hqq
  clear hr hv hTT hqq
  refine callsIn_of_wp_marks Tryz.func29 rfl trivial ?_ hro
  simp only [Tryz.ntmps29, List.size_toArray, List.length_cons, List.length_nil, Nat.reduceAdd, Nat.reduceSub, Array.replicate_succ, Array.replicate_zero, List.push_toArray, List.append_toArray, List.nil_append, List.cons_append]
  gi_wp2_with (refine ⟨trivial, ?_⟩; gi_at_call 18; refine (callsIn_wide.2 C).mono ?_; rintro e w1 ⟨rfl, rfl⟩)
  refine ⟨trivial, ?_⟩
  refine (callsIn_wide.2 (K _)).mono ?_
  rintro e w2 ⟨rfl, rfl⟩
  gi_wp2
  obtain ⟨i0, hi, hz0, hz1, hz2⟩ := info_parts infoInt
  have bO := Boxed.new w1 22 (.slice none 0 0)
  have bS := Boxed.new (w1.alloc (.cells #[.slice none 0 0] 22)) 22 (.slice (some ⟨b, o, none⟩) T c)
  have bN := Boxed.new ((w1.alloc (.cells #[.slice none 0 0] 22)).alloc (.cells #[.slice (some ⟨b, o, none⟩) T c] 22)) 3 (.int .i64 (g : Int))
  rw [World.size_alloc] at bS
  rw [World.size_alloc, World.size_alloc] at bN
  have hB0 : Below w1.heap.size w1 (((w1.alloc (.cells #[.slice none 0 0] 22)).alloc (.cells #[.slice (some ⟨b, o, none⟩) T c] 22)).alloc (.cells #[.int .i64 (g : Int)] 3)) :=
    (((Below.refl _ w1).alloc (Nat.le_refl _) _).alloc (by simp) _).alloc (by simp; omega) _
  have hz : (((w1.alloc (.cells #[.slice none 0 0] 22)).alloc (.cells #[.slice (some ⟨b, o, none⟩) T c] 22)).alloc (.cells #[.int .i64 (g : Int)] 3)).heap.size = w1.heap.size + 3 := by simp
  have cO : Boxed (((w1.alloc (.cells #[.slice none 0 0] 22)).alloc (.cells #[.slice (some ⟨b, o, none⟩) T c] 22)).alloc (.cells #[.int .i64 (g : Int)] 3)) w1.heap.size 22 (.slice none 0 0) := (bO.alloc _).alloc _
  have cS := bS.alloc (.cells #[.int .i64 (g : Int)] 3)
  generalize (((w1.alloc (.cells #[.slice none 0 0] 22)).alloc (.cells #[.slice (some ⟨b, o, none⟩) T c] 22)).alloc (.cells #[.int .i64 (g : Int)] 3)) = W0 at *
  clear bO bS
  have F : List (Fin q) → List Int := fun pre => pre.map fun i => apart (grp l g i.1)
  refine wpIn_rangeFunc_ownG hro (by omega) (gf := 97) (lb := #[.pointer (some ⟨w1.heap.size + 1, 0, none⟩), .pointer (some ⟨w1.heap.size + 1 + 1, 0, none⟩)]) rfl trivial (enters_of Tryz.func97 (by kernel_rfl) rfl)
    (chunk_stops 8 (by omega) (w1.heap.size + 1) (w1.heap.size + 1 + 1) b o c g q T HT.out (by omega) (by omega) (by omega) (by omega) W0 (by omega) (by omega) cS.cell bN.cell) CKeep.t (CKeep.b (by omega) (by omega)) (Below.refl _ _) (fun _ => rfl)
    (fun pre W => (∃ v, Boxed W w1.heap.size 22 v ∧ W.ownsRow W0.heap.size 3 1 v pre.length (pre.map fun i => Value.int .i64 (apart (grp l g i.1))) ∧ (v = .slice none 0 0 ↔ pre = [])) ∧ Below w1.heap.size w1 W ∧ W0.heap.size ≤ W.heap.size)
    (fun _ _ _ => False)
    (OwnFrom.and (Own.from (holdsRow_own W0.heap.size w1.heap.size 22 3 1 (fun pre : List (Fin q) => pre.length) (fun pre => pre.map fun i => Value.int .i64 (apart (grp l g i.1))) (fun pre v => v = .slice none 0 0 ↔ pre = [])) _) (OwnFrom.and (ownFrom_below (Nat.le_refl _) (by omega)) (Own.from (fun s A B row hs hg hr => Nat.le_trans hs hg.size) _)))
    (fun _ _ _ _ _ hs _ _ => hs)
    ⟨⟨_, cO, World.ownsRow_nil _ _ _ _, by simp⟩, hB0, Nat.le_refl _⟩
    ?a1 ?assign ?body ?done ?stop
  case assign =>
    intro l' x W K hK
    gi_wp2
    exact hK
  case body =>
    rintro l' pre x W ⟨⟨v, hv, hrow, hnil⟩, hB, hWz⟩ hlt
    have hz0' : w1.heap.size ≤ W0.heap.size := by omega
    have hxl : x.1 < l.length / g := by have := x.2; have := Hq.out; omega
    have hlen := grp_length hxl
    have hgr : Row W b (o + x.1 * g) (grp l g x.1) := (grp_row Hr.out hxl).keep (Kept.of_below hB)
    have a1 := Hv.out _ (grp_mem (maxOf_mem (l := grp l g x.1) (by omega)))
    have a2 := Hv.out _ (grp_mem (minOf_mem (l := grp l g x.1) (by omega)))
    have mx := fun w h => Tryz.slices_Max_int b (o + x.1 * g) g g (grp l g x.1) w (by omega) (by omega) (by omega) h
    have mn := fun w h => Tryz.slices_Min_int b (o + x.1 * g) g g (grp l g x.1) w (by omega) (by omega) (by omega) h
    rw [List.take_of_length_le (by omega)] at mx mn
    have hcell : ∀ j, j < (grp l g x.1).length → W.drew.cell? ⟨b, o + x.1 * g + j, none⟩ = some (.int .i64 ((grp l g x.1).getD j 0)) := fun j hj => by
      rw [List.getD_eq_getElem?_getD]; exact hgr j hj
    have MX := mx W.drew hcell
    have MN := mn W.drew hcell
    have hap : apart (grp l g x.1) = Lib.maxOf (grp l g x.1) - Lib.minOf (grp l g x.1) := rfl
    have Hap := Lib.hid hap
    obtain ⟨a11, a12⟩ := a1
    obtain ⟨a21, a22⟩ := a2
    clear mx mn hcell hgr hlen hap
    generalize Lib.maxOf (grp l g x.1) = M1 at *
    generalize Lib.minOf (grp l g x.1) = M2 at *
    obtain ⟨D, hD⟩ : ∃ D, M1 - M2 = D := ⟨_, rfl⟩
    have hwD : IntKind.i64.wrap (M1 - M2) = D := by rw [IntKind.wrap_i64]; omega
    have HD := Lib.hid hD
    clear hD a11 a12 a21 a22
    have hv2 : Boxed W.drew w1.heap.size 22 v := hv
    have hrow2 : W.drew.ownsRow W0.heap.size 3 1 v pre.length (pre.map fun i => Value.int .i64 (apart (grp l g i.1))) := hrow
    have hsz : W.drew.heap.size = W.heap.size := rfl
    obtain ⟨v', w2, hrun, r1, r2, r3⟩ := run_append_own (P := Tryz.prog) (w := W.drew.alloc (.cells #[.int .i64 D] 3)) W0.heap.size 22 22 3 i0 (.int .i64 0) 1 8 Tryz.underlying22 hi hz0 hz1 hz2 rfl (by decide)
      v pre.length (pre.map fun i => Value.int .i64 (apart (grp l g i.1))) (hrow2.alloc _) ⟨W.heap.size, 0, none⟩ 1 1 [.int .i64 D] rfl (cell_one_new W.drew _ _) (by simp [Value.oneCell']) (by unfold maxLen; omega) (by omega) (by simp; omega)
    obtain ⟨g', cap', rfl⟩ := ownsRow_succ r1
    obtain ⟨hv3, hv4, hr4, hk4, hb4⟩ := hv2.appended (by decide) (row_relax hrow2 hz0') hB.size (Nat.le_refl _) (row_relax r1 hz0') r2
    have hc0 := hv2.cell
    have hc2 : (W.alloc (.cells #[.int .i64 D] 3)).cell? ⟨w1.heap.size, 0, none⟩ = some v := (hv2.alloc _).cell
    have hc1 := hv3.cell
    have hf1 := hv3.frozen
    have hsz2 : W.heap.size ≤ w2.heap.size := by have := r2.size; simp at this; omega
    have FIN : ownPostG W0.heap.size (CKeep (w1.heap.size + 1) (w1.heap.size + 1 + 1)) (fun (pre : List (Fin q)) W => (∃ v, Boxed W w1.heap.size 22 v ∧ W.ownsRow W0.heap.size 3 1 v pre.length (pre.map fun i => Value.int .i64 (apart (grp l g i.1))) ∧ (v = .slice none 0 0 ↔ pre = [])) ∧ Below w1.heap.size w1 W ∧ W0.heap.size ≤ W.heap.size) (fun _ _ _ => False) (pre ++ [x]) W Exit.normal { tmps := #[], defers := [] } (w2.setCell ⟨w1.heap.size, 0, none⟩ (.slice (some ⟨g', 0, none⟩) (pre.length + 1) cap')) := by
      refine ⟨((KeepsOthers.drew W).trans hk4).from _, ?_, ⟨_, hv4, ?_, by simp⟩, hB.trans ((Below.refl _ W).drew.trans hb4), by rw [World.size_setCell]; omega⟩
      · have n1 := own_ge hrow2 (B := w1.heap.size + 1) (by omega)
        have n2 := own_ge hrow2 (B := w1.heap.size + 1 + 1) (by omega)
        have m1 := r2.block (w1.heap.size + 1) (by simp; omega) n1
        have m2 := r2.block (w1.heap.size + 1 + 1) (by simp; omega) n2
        constructor
        · rw [World.cell?_setCell_other _ _ _ _ (by simp)]
          unfold World.cell?
          rw [m1, Below.heap_alloc _ _ _ (by show _ < W.heap.size; omega)]
          rfl
        · rw [World.cell?_setCell_other _ _ _ _ (by simp)]
          unfold World.cell?
          rw [m2, Below.heap_alloc _ _ _ (by show _ < W.heap.size; omega)]
          rfl
      · simp only [List.map_append, List.map_cons, List.map_nil, Hap.out, Hid.out HD, List.length_append, List.length_cons, List.length_nil]
        exact row_base hr4 (row_ge r1)
    have HF := Lib.hid FIN
    clear FIN
    clear hB
    clear r1 r2 r3 hr4 hrow hrow2 hv hnil hv3
    have mixed : Tryz.prog.follows .mixedOrders = true := by kernel_rfl
    have t36 : Fence.wide.fn 36 := trivial
    have t37 : Fence.wide.fn 37 := trivial
    have hrun2 : Sem.run Tryz.prog (Builtin.append_ #[22, 22] 22 #[v, .slice (some ⟨W.heap.size, 0, none⟩) 1 1]) (W.alloc (.cells #[.int .i64 D] 3)).drew = _ := hrun
    clear hrun
    conv at hrun2 => lhs; simp [go_sem]
    have Hrun2 := Lib.hid hrun2
    clear hrun2
    have MX6 := CallsIn.inRound l' ((callsIn_wide (n := 6)).2 MX)
    have MN6 := CallsIn.inRound l' ((callsIn_wide (n := 6)).2 MN)
    gi_wp2
    gi_region_with_o (first
      | (gi_at_call 36; refine MX6.mono ?_; rintro e w' ⟨rfl, rfl⟩)
      | (gi_at_call 37; refine MN6.mono ?_; rintro e w' ⟨rfl, rfl⟩)
      | (rw [Hrun2.out]))
    all_goals exact HF.out
  case done =>
    rintro D ys W hD rfl ⟨⟨v, hv, hrow, hnil⟩, hB, hWz⟩ hK
    have hT2 : Tab W := hT.keep (Kept.of_below hB)
    have hsp : (List.finRange q).map (fun i => Value.int .i64 (apart (grp l g i.1))) = (spr l g).map (fun c => Value.int .i64 c) := by
      rw [spr, ← Hq.out, List.map_map]; rfl
    have hln : (spr l g).length = q := by rw [spr, ← Hq.out]; simp
    rw [hsp, List.length_finRange] at hrow
    have hN : NewInts w1 W v (spr l g) := ⟨row_relax (by rw [hln]; exact hrow) (by omega), by
      rw [hnil]
      constructor
      · intro h; have := congrArg List.length h; simp at this; omega
      · intro h; rw [h] at hln; simp at hln; omega, Kept.of_below hB⟩
    obtain ⟨g', cap, rfl, hg1, hg2', _, _, hrw⟩ := hN.row (by omega)
    have hvt : Valt (spr l g) := by
      intro x hx
      rw [spr, List.mem_map] at hx
      obtain ⟨i, _, rfl⟩ := hx
      have hlen := grp_length i.2
      have a1 := Hv.out _ (grp_mem (maxOf_mem (l := grp l g i.1) (by omega)))
      have a2 := Hv.out _ (grp_mem (minOf_mem (l := grp l g i.1) (by omega)))
      unfold apart; omega
    have M := cmean_any g' 0 cap (spr l g) W hT2 (by omega) (by omega) hvt hrw
    have hc := hv.cell
    have HN := Lib.hid hN
    have HV := Lib.hid hv
    clear hsp hN hrw hvt hnil hrow hv
    obtain ⟨t, ht⟩ : ∃ t, rt (ctr (spr l g)) = t := ⟨_, rfl⟩
    rw [ht] at M
    have Ht := Lib.hid ht
    clear ht
    rw [hln] at M hc
    gi_wp2
    refine ⟨trivial, (callsIn_wide.2 M).mono ?_⟩
    rintro e w3 ⟨rfl, k3⟩
    have hc3 := k3.cell hc
    have hK3 := k3.heap hK
    gi_wp2
    refine ⟨by simp, .inl ⟨_, _, rfl, run_takeDeferred hK3, ?_⟩⟩
    refine ⟨.tuple #[.slice (some ⟨g', 0, none⟩) q cap, .string t, .int .i64 0], by simp [results, Tryz.f29, go_sem], _, by rw [Ht.out], ?_⟩
    have hn := HN.out
    rw [hln] at hn
    exact (hn.keep k3).put (by omega) hK3
  case stop =>
    rintro D c pre W _ _ h _
    exact h.elim

end Go.Proofs.YtgmegfcjbnfnaaaGreatDoor

/- Walks over series: Spread, at whatever arguments. -/
namespace Go.Proofs.YtgmegfcjbnfnaaaGreatDoor
open Go.RowKit Go.Shelf Wide Numer

/-- the error of Spread -/
def sE (l : List Int) (g : Int) : Int := if chkS l ≠ 0 then chkS l else if g < 2 ∨ 256 < g then 2 else if (l.length : Int) < g then 14 else 0
/-- what Spread answers -/
def SprR (l : List Int) (g : Int) (w : World) (e : Ending) (w' : World) : Prop :=
  (sE l g = 0 ∧ ∃ m : Nat, g = m ∧ 2 ≤ m ∧ m ≤ l.length ∧ ∃ v, e = .returned (.tuple #[v, .string (rt (ctr (spr l m))), .int .i64 0]) ∧ NewInts w w' v (spr l m)) ∨
  (sE l g ≠ 0 ∧ e = .returned (.tuple #[.slice none 0 0, .string ⟨#[]⟩, .int .i64 (sE l g)]) ∧ w' = w)

set_option maxHeartbeats 2000000 in
set_option maxRecDepth 100000 in
theorem cspread_any (a : Option Addr) (c : Nat) (l : List Int) (g : Int) (w : World) (hT : Tab w) (hl : l.length ≤ 100000000000000) (hs : Ser w a l) (hlc : l.length ≤ c) :
    Calls Tryz.prog 29 #[.slice a l.length c, .int .i64 g] w (SprR l g w) := by
  have C := ccheck_ser a c l w hl hs
  by_cases hc : chkS l = 0
  · obtain ⟨h0, h2, h3⟩ := chkS_zero.1 hc
    obtain ⟨b, o, rfl, hb, hr⟩ := hs h0
    by_cases hx : g < 2 ∨ 256 < g
    · have e0 : sE l g = 2 := by rw [sE, if_neg (by omega), if_pos hx]
      have R : Calls Tryz.prog 29 #[.slice (some ⟨b, o, none⟩) l.length c, .int .i64 g] w fun e w' =>
          e = .returned (.tuple #[.slice none 0 0, .string ⟨#[]⟩, .int .i64 2]) ∧ w' = w := by
        rw [hc] at C
        clear hr h3 hs hc e0
        by_cases h5 : g < 2
        · clear hx
          go_enter Tryz.func29, Tryz.ntmps29
          go_wp2_with fail
          refine C.mono ?_
          rintro e w2 ⟨rfl, rfl⟩
          go_wp2
          go_returns
          exact ⟨rfl, rfl⟩
        · have h6 : 256 < g := by omega
          clear hx
          go_enter Tryz.func29, Tryz.ntmps29
          go_wp2_with fail
          refine C.mono ?_
          rintro e w2 ⟨rfl, rfl⟩
          go_wp2
          go_returns
          exact ⟨rfl, rfl⟩
      exact R.mono fun e w' ⟨he, hw⟩ => .inr ⟨by omega, by rw [e0]; exact he, hw⟩
    · by_cases h5 : (l.length : Int) < g
      · have e0 : sE l g = 14 := by rw [sE, if_neg (by omega), if_neg hx, if_pos h5]
        have R : Calls Tryz.prog 29 #[.slice (some ⟨b, o, none⟩) l.length c, .int .i64 g] w fun e w' =>
            e = .returned (.tuple #[.slice none 0 0, .string ⟨#[]⟩, .int .i64 14]) ∧ w' = w := by
          rw [hc] at C
          have h6 : ¬ g < 2 := by omega
          have h7 : ¬ 256 < g := by omega
          clear hr h3 hs hc e0 hx
          go_enter Tryz.func29, Tryz.ntmps29
          go_wp2_with fail
          refine C.mono ?_
          rintro e w2 ⟨rfl, rfl⟩
          go_wp2
          go_returns
          exact ⟨rfl, rfl⟩
        exact R.mono fun e w' ⟨he, hw⟩ => .inr ⟨by omega, by rw [e0]; exact he, hw⟩
      · have e0 : sE l g = 0 := by rw [sE, if_neg (by omega), if_neg hx, if_neg h5]
        obtain ⟨m, rfl⟩ : ∃ m : Nat, g = m := ⟨g.toNat, by omega⟩
        exact (callsIn_wide.1 (cspread_yes b o c l m w hT hb hr h0 h2 h3 hlc (by omega) (by omega) (by omega))).mono fun e w' h => .inl ⟨e0, m, rfl, by omega, by omega, h⟩
  · have e0 : sE l g = chkS l := by rw [sE, if_pos hc]
    have R : Calls Tryz.prog 29 #[.slice a l.length c, .int .i64 g] w fun e w' =>
        e = .returned (.tuple #[.slice none 0 0, .string ⟨#[]⟩, .int .i64 (chkS l)]) ∧ w' = w := by
      generalize chkS l = v at *
      have hb2 : (v != 0) = true := by simp [hc]
      clear hs hc e0
      go_enter Tryz.func29, Tryz.ntmps29
      go_wp2_with fail
      refine C.mono ?_
      rintro e w2 ⟨rfl, rfl⟩
      go_wp2
      go_returns
      exact ⟨rfl, rfl⟩
    exact R.mono fun e w' ⟨he, hw⟩ => .inr ⟨by rw [e0]; exact hc, by rw [e0]; exact he, hw⟩

end Go.Proofs.YtgmegfcjbnfnaaaGreatDoor
