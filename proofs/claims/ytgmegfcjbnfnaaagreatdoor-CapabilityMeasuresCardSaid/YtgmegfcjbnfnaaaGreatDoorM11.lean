/- The reference 57: Sorted, Center, Spread, Runs. -/
import Derived.Test.YtgmegfcjbnfnaaaGreatDoorM10
import Derived.Test.YtgmegfcjbnfnaaaGreatDoorM7
import Derived.Test.YtgmegfcjbnfnaaaGreatDoorM8
import Derived.Deep.RegionWith
import Derived.Deep.RegionHeld3

/- Walks over the reference 57: appending one int; Side, Sum, Center. -/
namespace Go.Proofs.YtgmegfcjbnfnaaaGreatDoor
open Go.RowKit Go.Shelf Wide Numer

theorem NewInts.start (w : World) : NewInts w w (.slice none 0 0) [] := ⟨⟨rfl, .inl ⟨rfl, rfl⟩⟩, by simp, Kept.refl w⟩

theorem wpList_append_int {ops : Array Oper} {rest : List Oper} {o : Oper} {a : Act} {Q : Exit → Act → World → Prop} {w0 w : World} {v : Value} {l : List Int} {x : Int} (hgd : o.guard = none) (s y : Operand)
    (ho : o.op = .call { callee := .builtin .append, args := #[s, y], argTypes := #[22, 22] })
    (hs : a.eval s = v) (hy : a.eval y = .slice (some ⟨w.heap.size, 0, none⟩) 1 1) (hN : NewInts w0 w v l) (hl : l.length ≤ 100000)
    (h : ∀ v' w', NewInts w0 w' v' (l ++ [x]) → wpList Tryz.prog ops Q rest (a.put o.dst v') w') :
    wpList Tryz.prog ops Q (o :: rest) a (w.alloc (.cells #[.int .i64 x] 3)) := by
  obtain ⟨i0, hi, hz0, hz1, hz2⟩ := info_parts infoInt
  obtain ⟨hown, hnil, hk⟩ := hN
  refine wpList_append_own _ hgd s y 22 ho w0.heap.size 3 i0 (.int .i64 0) 1 8 Tryz.underlying22 hi hz0 hz1 hz2 rfl (by decide) v l.length (l.map (Value.int .i64)) hs (hown.alloc _) ⟨w.heap.size, 0, none⟩ 1 1 [.int .i64 x] hy rfl (cell_one_new w _ _) (by simp [Value.oneCell']) (by unfold maxLen; omega) (by omega) (by have := hk.size; simp; omega) ?_
  intro v' w' hown' hgrow hnil'
  refine h v' w' ⟨?_, ?_, ?_⟩
  · rw [List.length_append, List.map_append]; exact hown'
  · rw [hnil']; simp
  · have hk1 := hk.alloc (.cells #[.int .i64 x] 3)
    exact ⟨hgrow.os.trans hk1.os, hgrow.tape.trans hk1.tape, hgrow.output.trans hk1.output, Nat.le_trans hk1.size hgrow.size, fun j hj _ => by
      rw [hgrow.block j (Nat.lt_of_lt_of_le hj hk1.size) (fun e => by have := (hown.lt j e.symm).1; omega)]; exact hk1.block j hj (by simp)⟩

set_option maxHeartbeats 1000000 in
set_option maxRecDepth 100000 in
theorem side_any (n lo hi : Int) (hn : -1048576 ≤ n ∧ n ≤ 1048576) (h1 : -1048576 ≤ lo ∧ lo ≤ 1048576) (h2 : -1048576 ≤ hi ∧ hi ≤ 1048576) (w : World) :
    Calls Tryz.prog 64 #[.int .i64 n, .agg #[.int .i64 lo, .int .i64 hi]] w fun e w' => e = .returned (.int .i64 (sd (lo + hi) n)) ∧ Kept w w' := by
  have K1 := (Kept.refl w).alloc (.cells #[.int .i64 lo, .int .i64 hi] 34)
  obtain ⟨cl, ch⟩ := two_cells (lim_head lo hi w)
  obtain ⟨n1, n2⟩ := hn
  obtain ⟨l1, l2⟩ := h1
  obtain ⟨l3, l4⟩ := h2
  rcases sd_cases (lo + hi) n with ⟨h1, h2⟩ | ⟨h1, h2⟩ | ⟨h1, h2⟩
  · rw [h1]
    go_enter Tryz.func64, Tryz.ntmps64
    go_wp2
    go_returns
    exact ⟨rfl, K1⟩
  · have q1 : ¬ 2 * n < lo + hi := by omega
    have q2 : ¬ lo + hi < 2 * n := by omega
    rw [h1]
    clear h2
    go_enter Tryz.func64, Tryz.ntmps64
    go_wp2
    go_returns
    exact ⟨rfl, K1⟩
  · have q1 : ¬ 2 * n < lo + hi := by omega
    rw [h1]
    go_enter Tryz.func64, Tryz.ntmps64
    go_wp2
    go_returns
    exact ⟨rfl, K1⟩

set_option maxHeartbeats 1000000 in
set_option maxRecDepth 100000 in
theorem rsum_any (b o c : Nat) (l : List Int) (w : World) (hl : l.length ≤ 4096) (hv : Valt l) (hr : Row w b o l) :
    Calls Tryz.prog 75 #[.slice (some ⟨b, o, none⟩) l.length c] w fun e w' => e = .returned (.int .i64 l.sum) ∧ w' = w := by
  have HV := Lib.hid hv
  have HR := Lib.hid hr
  obtain ⟨n, hn⟩ : ∃ n, l.length = n := ⟨_, rfl⟩
  rw [hn] at hl ⊢
  have Hn := Lib.hid hn
  clear hv hr hn
  go_enter Tryz.func75, Tryz.ntmps75
  go_wp2_with fail
  go_loopg [3, 4] n (fun k s i wr => ∃ (j : Nat) (S : Int), k + j = n ∧ s = .int .i64 S ∧ S = (l.take j).sum ∧ i = .int .i64 j ∧ wr = w)
  case atStart => exact ⟨0, 0, by omega, rfl, by simp, rfl, rfl⟩
  case round =>
    obtain ⟨j, S, hkj, rfl, hS, rfl, rfl⟩ := hrel
    by_cases hj : j < n
    · have hcj := HR.out j (by rw [Hn.out]; exact hj)
      have hst := sum_take_succ l j (by rw [Hn.out]; exact hj)
      have hbd := sum_take_bd HV.out (by rw [Hn.out]; omega) j
      have hbx := HV.out.get j (by rw [Hn.out]; exact hj)
      generalize l[j]?.getD 0 = x at *
      obtain ⟨bx1, bx2⟩ := hbx
      have S1 : -9000000000 ≤ S := by omega
      have S2 : S ≤ 9000000000 := by omega
      have HS1 : Hid (S + x = (l.take (j + 1)).sum) := Lib.hid (by rw [hst]; omega)
      clear hst hbd hS
      go_wp2
      go_roundg (gk - 1)
      case measure => omega
      case rel => exact ⟨j + 1, S + x, by omega, rfl, HS1.out, by go_num, rfl⟩
    · have hSl : S = l.sum := by
        rw [hS, List.take_of_length_le (by rw [Hn.out]; omega)]
      have HSl := Lib.hid hSl
      clear hS hSl
      go_wp2
      go_returns
      exact ⟨congrArg (fun x => Ending.returned (.int .i64 x)) HSl.out, rfl⟩

set_option maxHeartbeats 1000000 in
set_option maxRecDepth 100000 in
theorem center_any (b o c : Nat) (l : List Int) (w : World) (h0 : 0 < l.length) (hl : l.length ≤ 4096) (hv : Valt l) (hr : Row w b o l) :
    Calls Tryz.prog 42 #[.slice (some ⟨b, o, none⟩) l.length c] w fun e w' => e = .returned (.string (rt (ctr l))) ∧ Kept w w' := by
  have S := rsum_any b o c l w hl hv hr
  have sb := sum_bdt hv
  have O := fun w => over_any l.sum (l.length : Int) (by omega) (by unfold Sh; omega) (by unfold Sh; omega) w
  rw [show Rat.divInt l.sum (l.length : Int) = ctr l from rfl] at O
  generalize rt (ctr l) = t at *
  generalize l.sum = s at *
  clear hr hv sb
  go_enter Tryz.func42, Tryz.ntmps42
  go_wp2_with fail
  refine S.mono ?_
  rintro e w1 ⟨rfl, rfl⟩
  go_wp2_with fail
  refine (O _).mono ?_
  rintro e w2 ⟨rfl, k2⟩
  go_wp2
  go_returns
  exact ⟨rfl, k2⟩
end Go.Proofs.YtgmegfcjbnfnaaaGreatDoor

/- Walks over the reference 57: Sorted. -/
namespace Go.Proofs.YtgmegfcjbnfnaaaGreatDoor
open Go.RowKit Go.Shelf Wide Numer

/-- the block g holds the ints l ahead of spare cells -/
def IntsC (w : World) (g cap : Nat) (l : List Int) : Prop :=
  ∃ cur : Array Value, w.heap[g]? = some (.cells cur 3) ∧ l.length ≤ cap ∧ cap ≤ maxLen ∧ cur.size = cap ∧ cur.toList.take l.length = l.map (Value.int .i64)
theorem NewInts.block {w w' : World} {v : Value} {l : List Int} (h : NewInts w w' v l) (h0 : 0 < l.length) : ∃ g cap, v = .slice (some ⟨g, 0, none⟩) l.length cap ∧ w.heap.size ≤ g ∧ IntsC w' g cap l := by
  obtain ⟨⟨_, ⟨_, hz⟩ | ⟨g, cap, cur, hv, hb, hg, h1, h2, h3, h4⟩⟩, _, _⟩ := h
  · omega
  · rw [Nat.mul_one] at h3 h4
    exact ⟨g, cap, hv, hb, cur, hg, h1, h2, h3, h4⟩
theorem IntsC.new {w w' : World} {g cap : Nat} {l : List Int} (h : IntsC w' g cap l) (hb : w.heap.size ≤ g) (h0 : 0 < l.length) (k : Kept w w') : NewInts w w' (.slice (some ⟨g, 0, none⟩) l.length cap) l := by
  obtain ⟨cur, hg, h1, h2, h3, h4⟩ := h
  refine ⟨⟨by simp, .inr ⟨g, cap, cur, rfl, hb, hg, h1, h2, by omega, by rw [Nat.mul_one]; exact h4⟩⟩, ?_, k⟩
  constructor
  · intro e; cases e
  · intro e; subst e; simp at h0
theorem IntsC.cell {w : World} {g cap : Nat} {l : List Int} (h : IntsC w g cap l) (j : Nat) (hj : j < l.length) : w.cell? ⟨g, j, none⟩ = some (.int .i64 (l[j]?.getD 0)) := by
  obtain ⟨cur, hg, h1, h2, h3, h4⟩ := h
  have := row_of_block hg h4 j hj
  rw [Nat.zero_add] at this
  exact this
theorem IntsC.keep {w w1 : World} {g cap : Nat} {l : List Int} (h : IntsC w g cap l) (k : Kept w w1) : IntsC w1 g cap l := by
  obtain ⟨cur, hg, h1⟩ := h
  exact ⟨cur, k.heap hg, h1⟩
theorem IntsC.fz {w : World} {g cap : Nat} {l : List Int} (h : IntsC w g cap l) (j : Nat) : w.frozen? ⟨g, j, none⟩ = false := by
  obtain ⟨cur, hg, _⟩ := h
  simp [World.frozen?, hg]
theorem IntsC.set {w : World} {g cap : Nat} {l : List Int} (h : IntsC w g cap l) (j : Nat) (c : Int) : IntsC (w.setCell ⟨g, j, none⟩ (.int .i64 c)) g cap (l.set j c) := by
  obtain ⟨cur, hg, h1, h2, h3, h4⟩ := h
  refine ⟨cur.set! j (.int .i64 c), ?_, by simpa using h1, h2, by simpa using h3, ?_⟩
  · simp [World.setCell, Array.getElem?_modify, hg]
  · rw [List.length_set, Array.set!_eq_setIfInBounds, Array.toList_setIfInBounds, List.take_set, h4, List.map_set]
theorem kept_set {w w1 : World} (k : Kept w w1) {g j : Nat} {v : Value} (hg : w.heap.size ≤ g) : Kept w (w1.setCell ⟨g, j, none⟩ v) :=
  Kept.of_below (k.below.setCell (show w.heap.size ≤ (⟨g, j, none⟩ : Addr).block from hg) v)

/-! ### insertion -/
def Asc (l : List Int) : Prop := ∀ a b, a < b → b < l.length → l[a]?.getD 0 ≤ l[b]?.getD 0
/-- ascending but for the value at k, which is not greater than those behind it -/
def Ins (l : List Int) (k : Nat) : Prop :=
  (∀ a b, a < b → b < l.length → a ≠ k → b ≠ k → l[a]?.getD 0 ≤ l[b]?.getD 0) ∧ (∀ b, k < b → b < l.length → l[k]?.getD 0 ≤ l[b]?.getD 0)
def swp (l : List Int) (p : Nat) : List Int := (l.set (p + 1) (l[p]?.getD 0)).set p (l[p + 1]?.getD 0)
theorem swp_length (l : List Int) (p : Nat) : (swp l p).length = l.length := by simp [swp]
theorem swp_perm {l : List Int} {p : Nat} (h : p + 1 < l.length) : (swp l p).Perm l := by
  have := @List.set_set_perm _ l (p + 1) p h (by omega)
  unfold swp
  have e1 : l[p]?.getD 0 = l[p] := by simp [show p < l.length by omega]
  have e2 : l[p + 1]?.getD 0 = l[p + 1] := by simp [h]
  rw [e1, e2]; exact this
theorem swp_get {l : List Int} {p : Nat} (h : p + 1 < l.length) (a : Nat) : (swp l p)[a]?.getD 0 = if a = p then l[p + 1]?.getD 0 else if a = p + 1 then l[p]?.getD 0 else l[a]?.getD 0 := by
  unfold swp
  by_cases h1 : a = p
  · subst h1
    rw [if_pos rfl]
    simp [show a < l.length by omega]
  · rw [if_neg h1, List.getElem?_set_ne (by omega)]
    by_cases h2 : a = p + 1
    · subst h2
      rw [if_pos rfl]
      simp [h]
    · rw [if_neg h2, List.getElem?_set_ne (by omega)]
theorem Ins.step {l : List Int} {p : Nat} (h : Ins l (p + 1)) (hp : p + 1 < l.length) (hlt : l[p + 1]?.getD 0 < l[p]?.getD 0) : Ins (swp l p) p := by
  obtain ⟨h1, h2⟩ := h
  constructor
  · intro a b hab hb ha hb2
    rw [swp_length] at hb
    rw [swp_get hp, swp_get hp, if_neg ha, if_neg hb2]
    by_cases c1 : a = p + 1
    · rw [if_pos c1, if_neg (by omega)]
      exact h1 p b (by omega) hb (by omega) (by omega)
    · rw [if_neg c1]
      by_cases c2 : b = p + 1
      · rw [if_pos c2]
        exact h1 a p (by omega) (by omega) (by omega) (by omega)
      · rw [if_neg c2]
        exact h1 a b hab hb (by omega) (by omega)
  · intro b hb hbl
    rw [swp_length] at hbl
    rw [swp_get hp, swp_get hp, if_pos rfl, if_neg (by omega)]
    by_cases c2 : b = p + 1
    · rw [if_pos c2]; omega
    · rw [if_neg c2]
      exact h2 b (by omega) hbl
theorem Ins.done {l : List Int} {k : Nat} (h : Ins l k) (hk : k = 0 ∨ ∃ p, k = p + 1 ∧ l[p]?.getD 0 ≤ l[k]?.getD 0) : Asc l := by
  obtain ⟨h1, h2⟩ := h
  intro a b hab hb
  by_cases c1 : a = k
  · subst c1; exact h2 b hab hb
  · by_cases c2 : b = k
    · subst c2
      rcases hk with rfl | ⟨p, rfl, hp⟩
      · omega
      · by_cases c3 : a = p
        · subst c3; exact hp
        · exact Int.le_trans (h1 a p (by omega) (by omega) (by omega) (by omega)) hp
    · exact h1 a b hab hb c1 c2
theorem Asc.ins {l : List Int} {x : Int} (h : Asc l) : Ins (l ++ [x]) l.length := by
  constructor
  · intro a b hab hb ha hb2
    rw [List.length_append, List.length_cons, List.length_nil] at hb
    rw [List.getElem?_append_left (by omega), List.getElem?_append_left (by omega)]
    exact h a b hab (by omega)
  · intro b hb hbl
    rw [List.length_append, List.length_cons, List.length_nil] at hbl
    omega
theorem Asc.sorted {l m : List Int} (h : Asc m) (hp : m.Perm l) : m = sortL l := by
  have h1 : m.Pairwise (fun a b => a ≤ b) := by
    rw [List.pairwise_iff_getElem]
    intro i j hi hj hij
    have := h i j hij hj
    simpa [hi, hj] using this
  have h2 : (sortL l).Pairwise (fun a b => a ≤ b) := by
    have := List.pairwise_mergeSort (le := fun x y : Int => decide (x ≤ y)) (fun a b c h1 h2 => by simp at *; omega) (fun a b => by simp; omega) l
    exact this.imp (by intro a b h; simpa using h)
  exact List.Perm.eq_of_pairwise (fun a b _ _ h3 h4 => by omega) h1 h2 (hp.trans (sortL_perm l).symm)

set_option maxHeartbeats 4000000 in
set_option maxRecDepth 100000 in
theorem sorted57_any (b o c : Nat) (l : List Int) (w : World) (h0 : 0 < l.length) (hl : l.length ≤ 4096) (hr : Row w b o l) :
    Calls Tryz.prog 46 #[.slice (some ⟨b, o, none⟩) l.length c] w fun e w' => ∃ v, e = .returned v ∧ NewInts w w' v (sortL l) := by
  obtain ⟨n, hn⟩ : ∃ n, l.length = n := ⟨_, rfl⟩
  rw [hn] at hl h0 ⊢
  have Hn := Lib.hid hn
  have HR := Lib.hid hr
  clear hn hr
  go_enter Tryz.func46, Tryz.ntmps46
  go_wp2_with fail
  go_loopg [3, 4] n (fun k v i wr => ∃ (j : Nat) (L : List Int), k + j = n ∧ i = .int .i64 j ∧ NewInts w wr v L ∧ L.length = j ∧ L.Perm (l.take j) ∧ Asc L)
  case atStart => exact ⟨0, [], by omega, rfl, NewInts.start w, rfl, by simp, fun a b _ h => by simp at h⟩
  case round =>
    obtain ⟨j, L, hkj, rfl, hN, hLj, hP, hA⟩ := hrel
    have HN := Lib.hid hN
    have HP := Lib.hid hP
    have HA := Lib.hid hA
    clear hN hP hA
    by_cases hj : j < n
    · have hcj := (HR.out.keep HN.out.2.2) j (by rw [Hn.out]; exact hj)
      have hx : Hid (l.take (j + 1) = l.take j ++ [l[j]?.getD 0]) := Lib.hid (by rw [List.take_add_one]; simp [show j < l.length by rw [Hn.out]; exact hj])
      generalize l[j]?.getD 0 = x at *
      go_wp2_with (first
        | (at_builtin; refine wpList_append_int rfl _ _ rfl rfl rfl HN.out ?c1 ?c2)
        | go_in)
      case c1 => omega
      intro v' w' hN'
      obtain ⟨g, cap, rfl, hg, hB⟩ := hN'.block (by simp)
      have hk := hN'.2.2
      have hlen : (L ++ [x]).length = j + 1 := by rw [List.length_append, hLj]; rfl
      have hI := Lib.hid (HA.out.ins (x := x))
      have hP2 : Hid ((L ++ [x]).Perm (l.take (j + 1))) := Lib.hid (by rw [hx.out]; exact HP.out.append_right _)
      have hB2 := Lib.hid hB
      have hk2 := Lib.hid hk
      rw [hLj] at hI
      rw [hlen]
      clear hN' hB hk hx HP HA HN hcj hLj
      generalize L ++ [x] = L1 at *
      obtain ⟨qk, hqk⟩ : ∃ qk, qk + 1 = gk := ⟨gk - 1, by omega⟩
      go_wp2_with fail
      go_loopg [5] j (fun k kv w9 => ∃ M : List Int, kv = .int .i64 k ∧ IntsC w9 g cap M ∧ Kept w w9 ∧ M.Perm (l.take (j + 1)) ∧ Ins M k ∧ M.length = j + 1 ∧ k ≤ j)
      case atStart => exact ⟨L1, rfl, hB2.out, hk2.out, hP2.out, hI.out, hlen, Nat.le_refl _⟩
      case round =>
        obtain ⟨M, rfl, hB, hk, hP, hI, hlen9, hkj9⟩ := hrel
        have HB9 := Lib.hid hB
        have HP9 := Lib.hid hP
        have HI9 := Lib.hid hI
        have HK9 := Lib.hid hk
        have fin : Hid (∀ q, (gk = 0 ∨ ∃ p, gk = p + 1 ∧ M[p]?.getD 0 ≤ M[gk]?.getD 0) → NewInts w (wr.drewN q) (.slice (some ⟨g, 0, none⟩) (j + 1) cap) M ∧ M.length = j + 1 ∧ M.Perm (l.take (j + 1)) ∧ Asc M) := Lib.hid fun q h => by
          have h1 := (HB9.out.keep ((Kept.refl wr).drewN q)).new hg (by omega) (hk.drewN q)
          rw [hlen9] at h1
          exact ⟨h1, hlen9, HP9.out, HI9.out.done h⟩
        rcases Nat.eq_zero_or_pos gk with hz | hz
        · subst hz
          clear hB hk hP hI
          have hg0 : decide ((0 : Int) < ((0 : Nat) : Int)) = false := by decide
          go_wp2_with fail
          go_quiet (fail)
          go_wp2
          go_roundg qk
          case measure => omega
          case rel =>
            obtain ⟨r1, r2, r3, r4⟩ := fin.out _ (by simp)
            exact ⟨j + 1, M, by omega, by go_num, r1, r2, r3, r4⟩
        · obtain ⟨p, rfl⟩ : ∃ p, gk = p + 1 := ⟨gk - 1, by omega⟩
          have c1 := hB.cell (p + 1) (by omega)
          have c2 := hB.cell p (by omega)
          have f1 := hB.fz (p + 1)
          have f2 := hB.fz p
          have hstep := Lib.hid (fun h => Ins.step (p := p) (l := M) HI9.out (by omega) h)
          have hset := Lib.hid (fun w1 (h : Kept wr w1) => ((HB9.out.keep h).set (p + 1) (M[p]?.getD 0)).set p (M[p + 1]?.getD 0))
          have hperm := Lib.hid (swp_perm (l := M) (p := p) (by omega))
          have hsl := swp_length M p
          rw [show (M.set (p + 1) (M[p]?.getD 0)).set p (M[p + 1]?.getD 0) = swp M p from rfl] at hset
          obtain ⟨x1, hx1⟩ : ∃ x1, M[p + 1]?.getD 0 = x1 := ⟨_, rfl⟩
          obtain ⟨x2, hx2⟩ : ∃ x2, M[p]?.getD 0 = x2 := ⟨_, rfl⟩
          rw [hx1] at c1 hset hstep
          rw [hx2] at c2 hset hstep
          have HX1 := Lib.hid hx1
          have HX2 := Lib.hid hx2
          clear hB hk hP hI hx1 hx2
          by_cases hlt : x1 < x2
          · have hd : decide (x1 < x2) = true := by simp [hlt]
            clear fin
            go_wp2_with fail
            go_quiet (fail)
            go_wp2
            go_region
            go_wp2
            go_roundg p
            case measure => omega
            case rel => exact ⟨swp M p, rfl, hset.out _ ((Kept.refl wr).drewN _), kept_set (kept_set (HK9.out.drewN _) hg) hg, hperm.out.trans HP9.out, hstep.out hlt, hsl.trans hlen9, by omega⟩
          · have hd : decide (x1 < x2) = false := by simp [hlt]
            have hf := Lib.hid (fun q => fin.out q (.inr ⟨p, rfl, by rw [HX1.out, HX2.out]; omega⟩))
            clear fin
            go_wp2_with fail
            go_quiet (fail)
            go_wp2
            go_roundg qk
            case measure => omega
            case rel =>
              obtain ⟨r1, r2, r3, r4⟩ := hf.out _
              exact ⟨j + 1, M, by omega, by go_num, r1, r2, r3, r4⟩
    · have hjl : j = l.length := by rw [Hn.out]; omega
      have hf := Lib.hid (HA.out.sorted (l := l) (by have := HP.out; rw [hjl, List.take_length] at this; exact this))
      clear hjl
      go_wp2
      go_returns
      exact ⟨_, rfl, by rw [← hf.out]; exact HN.out⟩
end Go.Proofs.YtgmegfcjbnfnaaaGreatDoor

/- Walks over the reference 57: Spread. -/
namespace Go.Proofs.YtgmegfcjbnfnaaaGreatDoor
open Go.RowKit Go.Shelf Wide Numer

theorem sortL_asc (l : List Int) : Asc (sortL l) := by
  have h2 : (sortL l).Pairwise (fun a b => a ≤ b) := by
    have := List.pairwise_mergeSort (le := fun x y : Int => decide (x ≤ y)) (fun a b c h1 h2 => by simp at *; omega) (fun a b => by simp; omega) l
    exact this.imp (by intro a b h; simpa using h)
  rw [List.pairwise_iff_getElem] at h2
  intro a b hab hb
  have := h2 a b (by omega) hb hab
  simpa [hb, show a < (sortL l).length by omega] using this
theorem sort_low {m : List Int} (h : 0 < m.length) : (sortL m)[0]?.getD 0 = Lib.minOf m := by
  have hl := sortL_length m
  have e : (sortL m)[0]?.getD 0 ∈ m := (sortL_perm m).mem_iff.1 (by simp [show 0 < (sortL m).length by omega])
  have h1 := minOf_le e
  have h2 := (sortL_perm m).mem_iff.2 (minOf_mem h)
  obtain ⟨i, hi, hx⟩ := List.getElem_of_mem h2
  have h3 : (sortL m)[i]?.getD 0 = Lib.minOf m := by simp [hi, hx]
  rcases Nat.eq_zero_or_pos i with h0 | h0
  · subst h0; exact h3
  · have := sortL_asc m 0 i h0 hi
    omega
theorem sort_high {m : List Int} (h : 0 < m.length) : (sortL m)[m.length - 1]?.getD 0 = Lib.maxOf m := by
  have hl := sortL_length m
  have e : (sortL m)[m.length - 1]?.getD 0 ∈ m := (sortL_perm m).mem_iff.1 (by simp [show m.length - 1 < (sortL m).length by omega])
  have h1 := le_maxOf e
  have h2 := (sortL_perm m).mem_iff.2 (maxOf_mem h)
  obtain ⟨i, hi, hx⟩ := List.getElem_of_mem h2
  have h3 : (sortL m)[i]?.getD 0 = Lib.maxOf m := by simp [hi, hx]
  by_cases h0 : i = m.length - 1
  · subst h0; exact h3
  · have := sortL_asc m i (m.length - 1) (by omega) (by omega)
    omega
theorem grp_val {l : List Int} {g i : Nat} (hv : Vals l) : Vals (grp l g i) := fun x hx => hv x (grp_mem hx)
/-- the first q spreads -/
def sprq (l : List Int) (g q : Nat) : List Int := (List.range q).map fun i => apart (grp l g i)
theorem sprq_succ (l : List Int) (g q : Nat) : sprq l g (q + 1) = sprq l g q ++ [apart (grp l g q)] := by simp [sprq, List.range_succ]
theorem sprq_length (l : List Int) (g q : Nat) : (sprq l g q).length = q := by simp [sprq]
theorem spr_q (l : List Int) (g : Nat) : spr l g = sprq l g (l.length / g) := by
  apply List.ext_getElem
  · simp [spr, sprq]
  · intro i h1 h2
    simp [spr, sprq]
theorem NewInts.alloc {w w' : World} {v : Value} {l : List Int} (h : NewInts w w' v l) (o : Obj) : NewInts w (w'.alloc o) v l := ⟨h.1.alloc o, h.2.1, h.2.2.alloc o⟩

theorem append_run {w0 w : World} {v : Value} {l : List Int} (x : Int) (hN : NewInts w0 w v l) (hl : l.length ≤ 100000) :
    ∃ v' w', (Builtin.append_ #[22, 22] 22 #[v, .slice (some ⟨w.heap.size, 0, none⟩) 1 1]).run Tryz.prog (w.alloc (.cells #[.int .i64 x] 3)) = .ok v' w' ∧ NewInts w0 w' v' (l ++ [x]) := by
  obtain ⟨i0, hi, hz0, hz1, hz2⟩ := info_parts infoInt
  obtain ⟨hown, hnil, hk⟩ := hN
  obtain ⟨v', w', hrun, hown', hgrow, hnil'⟩ := run_append_own (P := Tryz.prog) (w := w.alloc (.cells #[.int .i64 x] 3)) w0.heap.size 22 22 3 i0 (.int .i64 0) 1 8 Tryz.underlying22 hi hz0 hz1 hz2 rfl (by decide)
    v l.length (l.map (Value.int .i64)) (hown.alloc _) ⟨w.heap.size, 0, none⟩ 1 1 [.int .i64 x] rfl (cell_one_new w _ _) (by simp [Value.oneCell']) (by unfold maxLen; omega) (by omega) (by have := hk.size; simp; omega)
  refine ⟨v', w', hrun, ?_, ?_, ?_⟩
  · rw [List.length_append, List.map_append]; exact hown'
  · rw [hnil']; simp
  · have hk1 := hk.alloc (.cells #[.int .i64 x] 3)
    exact ⟨hgrow.os.trans hk1.os, hgrow.tape.trans hk1.tape, hgrow.output.trans hk1.output, Nat.le_trans hk1.size hgrow.size, fun j hj _ => by
      rw [hgrow.block j (Nat.lt_of_lt_of_le hj hk1.size) (fun e => by have := (hown.lt j e.symm).1; omega)]; exact hk1.block j hj (by simp)⟩

/-- what the reference's Spread answers -/
def RSprR (l : List Int) (g : Int) (w : World) (e : Ending) (w' : World) : Prop :=
  (sE l g = 0 ∧ ∃ m : Nat, g = m ∧ 2 ≤ m ∧ m ≤ l.length ∧ ∃ v, e = .returned (.tuple #[v, .string (rt (ctr (spr l m))), .int .i64 0]) ∧ NewInts w w' v (spr l m)) ∨
  (sE l g ≠ 0 ∧ e = .returned (.tuple #[.slice none 0 0, .string ⟨#[]⟩, .int .i64 (sE l g)]) ∧ w' = w)

set_option maxHeartbeats 4000000 in
set_option maxRecDepth 100000 in
theorem rspread_yes (b o c : Nat) (l : List Int) (g : Nat) (w : World) (hT : chkS l = 0) (hr : Row w b o l) (hb : b < w.heap.size) (hc : l.length ≤ c) (hg : 2 ≤ g) (hg2 : g ≤ 256) (hgl : g ≤ l.length) :
    Calls Tryz.prog 30 #[.slice (some ⟨b, o, none⟩) l.length c, .int .i64 (g : Int)] w fun e w' => ∃ v, e = .returned (.tuple #[v, .string (rt (ctr (spr l g))), .int .i64 0]) ∧ NewInts w w' v (spr l g) := by
  obtain ⟨h0, h2, h3⟩ := chkS_zero.1 hT
  have C := rcheck57_any (some ⟨b, o, none⟩) c l w (Ser.of hb hr)
  rw [hT] at C
  obtain ⟨q, hq⟩ : ∃ q, l.length / g = q := ⟨_, rfl⟩
  have hq1 : 1 ≤ q := by rw [← hq]; exact (Nat.one_le_div_iff (by omega)).2 hgl
  have hqn : ∀ i, i * g + g ≤ l.length ↔ i < q := fun i => by
    rw [← hq, Nat.lt_iff_add_one_le, Nat.le_div_iff_mul_le (by omega), Nat.add_mul, Nat.one_mul]
  have hspr : spr l g = sprq l g q := by rw [spr_q, hq]
  have hqle : q ≤ 4096 := by rw [← hq]; exact Nat.le_trans (Nat.div_le_self _ _) h2
  have Hqn := Lib.hid hqn
  have Hspr := Lib.hid hspr
  have HR := Lib.hid hr
  have H3 := Lib.hid h3
  have Hq := Lib.hid hq
  rw [hspr]
  obtain ⟨n, hn⟩ : ∃ n, l.length = n := ⟨_, rfl⟩
  rw [hn] at C h0 h2 hgl hc ⊢
  have Hn := Lib.hid hn
  clear hqn hspr hr h3 hT hq hn
  have hd1 : decide ((g : Int) < 2) = false := by simp; omega
  have hd2 : decide (256 < (g : Int)) = false := by simp; omega
  have hd3 : decide (n < g) = false := by simp; omega
  go_enter Tryz.func30, Tryz.ntmps30
  go_wp2_with fail
  refine C.mono ?_
  rintro e w1 ⟨rfl, rfl⟩
  clear C
  go_wp2_with fail
  go_loopg [8, 9] q (fun k v i wr => ∃ j I : Nat, k + j = q ∧ I = j * g ∧ i = .int .i64 I ∧ NewInts w1 wr v (sprq l g j))
  case atStart => exact ⟨0, 0, by omega, by simp, rfl, NewInts.start w1⟩
  case round =>
    obtain ⟨j, I, hkj, hI, rfl, hN⟩ := hrel
    have HN := Lib.hid hN
    clear hN
    have hin := Hqn.out j
    rw [← hI, Hn.out] at hin
    have HI := Lib.hid hI
    clear hI
    by_cases hj : j < q
    · have hIn := hin.2 hj
      have hlen : (grp l g j).length = g := grp_length (by rw [Hq.out]; exact hj)
      have hgr := grp_row (g := g) (i := j) HR.out (by rw [Hq.out]; exact hj)
      rw [← HI.out] at hgr
      have HG := Lib.hid hgr
      have S := fun c w h => sorted57_any b (o + I) c (grp l g j) w (by omega) (by omega) h
      rw [hlen] at S
      have Hlen := Lib.hid hlen
      clear hin hlen hgr
      go_wp2_with fail
      refine (S _ _ (HG.out.keep HN.out.2.2)).mono ?_
      rintro e w2 ⟨v2, rfl, hS⟩
      clear S
      obtain ⟨g2, cap2, rfl, hg2', _, _, _, hrow2⟩ := hS.row (by rw [sortL_length, Hlen.out]; omega)
      have HN2 := Lib.hid (HN.out.keep hS.2.2)
      obtain ⟨p, hp⟩ : ∃ p, g = p + 1 := ⟨g - 1, by omega⟩
      have hp1 : (g : Int) - 1 = (p : Int) := by omega
      have c1 := hrow2 p (by rw [sortL_length, Hlen.out]; omega)
      have c2 := hrow2 0 (by rw [sortL_length, Hlen.out]; omega)
      rw [sort_low (by rw [Hlen.out]; omega), Nat.zero_add] at c2
      rw [Nat.zero_add, show p = (grp l g j).length - 1 by rw [Hlen.out]; omega, sort_high (by rw [Hlen.out]; omega), show (grp l g j).length - 1 = p by rw [Hlen.out]; omega] at c1
      rw [sortL_length, Hlen.out]
      have a1 := (grp_val H3.out) _ (maxOf_mem (l := grp l g j) (by rw [Hlen.out]; omega))
      have a2 := (grp_val H3.out) _ (minOf_mem (l := grp l g j) (by rw [Hlen.out]; omega))
      have hap := Lib.hid (show apart (grp l g j) = Lib.maxOf (grp l g j) - Lib.minOf (grp l g j) from rfl)
      generalize Lib.maxOf (grp l g j) = M1 at *
      generalize Lib.minOf (grp l g j) = M2 at *
      obtain ⟨a11, a12⟩ := a1
      obtain ⟨a21, a22⟩ := a2
      obtain ⟨D, hD⟩ : ∃ D, M1 - M2 = D := ⟨_, rfl⟩
      have HP := Lib.hid hp
      have hpg : p < g := by omega
      have hwp : IntKind.i64.wrap (p : Int) = (p : Int) := by rw [IntKind.wrap_i64]; omega
      have hwD : IntKind.i64.wrap (M1 - M2) = D := by rw [IntKind.wrap_i64]; omega
      have hg0 : 0 < g := by omega
      have HD := Lib.hid hD
      have D1 : -2097152 ≤ D := by omega
      have D2 : D ≤ 2097152 := by omega
      clear hD hS hrow2 HN hp HG Hlen
      have mixed : Tryz.prog.follows .mixedOrders = true := by kernel_rfl
      obtain ⟨v', w3, hrun, hN3⟩ := append_run (w := w2.drew) D (HN2.out.keep ((Kept.refl w2).drew)) (by rw [sprq_length]; omega)
      rw [← HD.out, ← hap.out, ← sprq_succ] at hN3
      have hrun2 : Sem.run Tryz.prog (Builtin.append_ #[22, 22] 22 #[u8, .slice (some ⟨w2.heap.size, 0, none⟩) 1 1]) (w2.alloc (.cells #[.int .i64 D] 3)).drew = _ := hrun
      clear hrun
      conv at hrun2 => lhs; simp [go_sem]
      have Hrun2 := Lib.hid hrun2
      have HN3 := Lib.hid hN3
      clear hrun2 hN3 HN2
      go_wp2_with fail
      go_region_with (rw [Hrun2.out])
      all_goals
        go_wp2
        go_roundg (gk - 1)
        case measure => omega
        case rel => exact ⟨j + 1, I + g, by omega, by rw [Nat.add_mul, Nat.one_mul, ← HI.out], by go_num, HN3.out⟩
    · have hIn : ¬ I + g ≤ n := fun h => hj (hin.1 h)
      obtain rfl : j = q := by omega
      have hIb : I ≤ n := by rw [HI.out, ← Hn.out, ← Hq.out]; exact Nat.div_mul_le_self _ _
      have hlq := sprq_length l g j
      obtain ⟨g2, cap2, rfl, hg2', _, _, _, hrow2⟩ := HN.out.row (by omega)
      have hvt : Valt (sprq l g j) := by
        rw [← Hspr.out]
        intro x hx
        have h4 := spr_mem (by omega) hx
        have b1 := H3.out _ (maxOf_mem (l := l) (by rw [Hn.out]; omega))
        have b2 := H3.out _ (minOf_mem (l := l) (by rw [Hn.out]; omega))
        unfold apart at h4; omega
      have M := center_any g2 0 cap2 (sprq l g j) wr (by omega) (by omega) hvt hrow2
      obtain ⟨t, ht⟩ : ∃ t, rt (ctr (sprq l g j)) = t := ⟨_, rfl⟩
      rw [ht] at M
      rw [hlq] at M ⊢
      have Ht := Lib.hid ht
      clear hin hrow2 hvt ht
      go_wp2_with fail
      refine M.mono ?_
      rintro e w3 ⟨rfl, k3⟩
      go_wp2
      go_returns
      refine ⟨.slice (some ⟨g2, 0, none⟩) j cap2, ?_, by have := HN.out.keep k3; rw [hlq] at this; exact this⟩
      rw [Ht.out]; rfl

set_option maxHeartbeats 2000000 in
set_option maxRecDepth 100000 in
theorem rspread_any (a : Option Addr) (c : Nat) (l : List Int) (g : Int) (w : World) (hs : Ser w a l) (hlc : l.length ≤ c) :
    Calls Tryz.prog 30 #[.slice a l.length c, .int .i64 g] w (RSprR l g w) := by
  have C := rcheck57_any a c l w hs
  by_cases hc : chkS l = 0
  · obtain ⟨h0, h2, h3⟩ := chkS_zero.1 hc
    obtain ⟨b, o, rfl, hb, hr⟩ := hs h0
    by_cases hx : g < 2 ∨ 256 < g
    · have e0 : sE l g = 2 := by rw [sE, if_neg (by omega), if_pos hx]
      have R : Calls Tryz.prog 30 #[.slice (some ⟨b, o, none⟩) l.length c, .int .i64 g] w fun e w' =>
          e = .returned (.tuple #[.slice none 0 0, .string ⟨#[]⟩, .int .i64 2]) ∧ w' = w := by
        rw [hc] at C
        clear hr h3 hs hc e0
        by_cases h5 : g < 2
        · clear hx
          go_enter Tryz.func30, Tryz.ntmps30
          go_wp2_with fail
          refine C.mono ?_
          rintro e w2 ⟨rfl, rfl⟩
          go_wp2
          go_returns
          exact ⟨rfl, rfl⟩
        · have h6 : 256 < g := by omega
          clear hx
          go_enter Tryz.func30, Tryz.ntmps30
          go_wp2_with fail
          refine C.mono ?_
          rintro e w2 ⟨rfl, rfl⟩
          go_wp2
          go_returns
          exact ⟨rfl, rfl⟩
      exact R.mono fun e w' ⟨he, hw⟩ => .inr ⟨by omega, by rw [e0]; exact he, hw⟩
    · by_cases h5 : (l.length : Int) < g
      · have e0 : sE l g = 14 := by rw [sE, if_neg (by omega), if_neg hx, if_pos h5]
        have R : Calls Tryz.prog 30 #[.slice (some ⟨b, o, none⟩) l.length c, .int .i64 g] w fun e w' =>
            e = .returned (.tuple #[.slice none 0 0, .string ⟨#[]⟩, .int .i64 14]) ∧ w' = w := by
          rw [hc] at C
          have h6 : ¬ g < 2 := by omega
          have h7 : ¬ 256 < g := by omega
          clear hr h3 hs hc e0 hx
          go_enter Tryz.func30, Tryz.ntmps30
          go_wp2_with fail
          refine C.mono ?_
          rintro e w2 ⟨rfl, rfl⟩
          go_wp2
          go_returns
          exact ⟨rfl, rfl⟩
        exact R.mono fun e w' ⟨he, hw⟩ => .inr ⟨by omega, by rw [e0]; exact he, hw⟩
      · obtain ⟨m, rfl⟩ : ∃ m : Nat, g = m := ⟨g.toNat, by omega⟩
        have e0 : sE l (m : Int) = 0 := by rw [sE, if_neg (by omega), if_neg hx, if_neg h5]
        exact (rspread_yes b o c l m w hc hr hb hlc (by omega) (by omega) (by omega)).mono fun e w' h => .inl ⟨e0, m, rfl, by omega, by omega, h⟩
  · have e0 : sE l g = chkS l := by rw [sE, if_pos hc]
    have R : Calls Tryz.prog 30 #[.slice a l.length c, .int .i64 g] w fun e w' =>
        e = .returned (.tuple #[.slice none 0 0, .string ⟨#[]⟩, .int .i64 (chkS l)]) ∧ w' = w := by
      clear e0 hs
      generalize chkS l = E at *
      have hE2 : (E != 0) = true := by simp [hc]
      go_enter Tryz.func30, Tryz.ntmps30
      go_wp2_with fail
      refine C.mono ?_
      rintro e w2 ⟨rfl, rfl⟩
      go_wp2
      go_returns
      exact ⟨rfl, rfl⟩
    exact R.mono fun e w' ⟨he, hw⟩ => .inr ⟨by omega, by rw [e0]; exact he, hw⟩
end Go.Proofs.YtgmegfcjbnfnaaaGreatDoor

/- Walks over the reference 57: Runs. -/
namespace Go.Proofs.YtgmegfcjbnfnaaaGreatDoor
open Go.RowKit Go.Shelf Wide Numer

/-! ### runs, one value more at the end -/
def opn (c : Int) : Int → List Int → Int
  | run, [] => run
  | run, n :: l => if 0 < sd c n * run then opn c (run + sd c n) l else opn c (sd c n) l
def cls (c : Int) : Int → List Int → List Int
  | _, [] => []
  | run, n :: l => if 0 < sd c n * run then cls c (run + sd c n) l else rn run ++ cls c (sd c n) l
theorem runs_cls (c : Int) : ∀ (l : List Int) (run : Int), runsC c run l = cls c run l ++ rn (opn c run l)
  | [], run => rfl
  | n :: l, run => by
    rw [runsC, cls, opn]
    split
    · exact runs_cls c l _
    · rw [runs_cls c l, List.append_assoc]
theorem opn_snoc (c x : Int) : ∀ (l : List Int) (run : Int), opn c run (l ++ [x]) = if 0 < sd c x * opn c run l then opn c run l + sd c x else sd c x
  | [], run => rfl
  | n :: l, run => by
    rw [List.cons_append, opn, opn]
    split
    · exact opn_snoc c x l _
    · exact opn_snoc c x l _
theorem cls_snoc (c x : Int) : ∀ (l : List Int) (run : Int), cls c run (l ++ [x]) = if 0 < sd c x * opn c run l then cls c run l else cls c run l ++ rn (opn c run l)
  | [], run => by
    show (if 0 < sd c x * run then ([] : List Int) else rn run ++ []) = if 0 < sd c x * run then [] else [] ++ rn run
    simp
  | n :: l, run => by
    rw [List.cons_append, cls, opn, cls, cls_snoc c x l, cls_snoc c x l]
    split
    · rfl
    · split
      · rfl
      · rw [List.append_assoc]
theorem opn_sign (c x : Int) (l : List Int) (run : Int) : (opn c run (l ++ [x]) < 0 ↔ sd c x < 0) ∧ (0 < opn c run (l ++ [x]) ↔ 0 < sd c x) := by
  rw [opn_snoc]
  have hs := sd_vals c x
  split
  · rename_i h
    rcases (mul_pos_cases hs).1 h with ⟨h1, h2⟩ | ⟨h1, h2⟩ <;> omega
  · exact ⟨Iff.rfl, Iff.rfl⟩
theorem runs_zero (c x : Int) (l : List Int) (h : sd c x = 0) : runsC c 0 (l ++ [x]) = runsC c 0 l := by
  rw [runs_cls, runs_cls, opn_snoc, cls_snoc, h]
  simp [rn]
theorem runs_same (c x y : Int) (l : List Int) (h : sd c x ≠ 0) (e : sd c y = sd c x) : ∃ ys o, runsC c 0 (l ++ [y]) = ys ++ [o] ∧ runsC c 0 (l ++ [y] ++ [x]) = ys ++ [o + sd c x] := by
  have hs := sd_vals c x
  obtain ⟨g1, g2⟩ := opn_sign c y l 0
  refine ⟨cls c 0 (l ++ [y]), opn c 0 (l ++ [y]), ?_, ?_⟩
  · rw [runs_cls c (l ++ [y]), rn, if_neg (by omega)]
  · rw [runs_cls c (l ++ [y] ++ [x]), opn_snoc, cls_snoc]
    generalize opn c 0 (l ++ [y]) = o at *
    have h3 : 0 < sd c x * o := (mul_pos_cases hs).2 (by omega)
    rw [if_pos h3, if_pos h3, rn, if_neg (by omega)]
theorem runs_new (c x : Int) (l : List Int) (h : sd c x ≠ 0) (e : l = [] ∨ ∃ l' y, l = l' ++ [y] ∧ sd c y ≠ sd c x) : runsC c 0 (l ++ [x]) = runsC c 0 l ++ [sd c x] := by
  have hs := sd_vals c x
  have h3 : ¬ 0 < sd c x * opn c 0 l := by
    rcases e with rfl | ⟨l', y, rfl, hy⟩
    · show ¬ 0 < sd c x * 0
      simp
    · obtain ⟨g1, g2⟩ := opn_sign c y l' 0
      have hy2 := sd_vals c y
      generalize opn c 0 (l' ++ [y]) = o at *
      intro h4
      rcases (mul_pos_cases hs).1 h4 with ⟨h1, h2⟩ | ⟨h1, h2⟩ <;> omega
  rw [runs_cls, runs_cls, opn_snoc, cls_snoc, if_neg h3, if_neg h3, show rn (sd c x) = [sd c x] by rw [rn, if_neg h]]
theorem runs_small (c : Int) (l : List Int) (k : Int) (h : k ∈ runsC c 0 l) : k.natAbs ≤ l.length := by
  have h1 := runs_tot c l 0
  have h2 := List.countP_le_length (p := fun n => decide (2 * n ≠ c)) (l := l)
  have h3 : k.natAbs ≤ tota (runsC c 0 l) := by
    generalize runsC c 0 l = m at *
    clear h1
    induction m with
    | nil => cases h
    | cons a m ih =>
      simp only [tota, List.map_cons, List.sum_cons] at ih ⊢
      rcases List.mem_cons.1 h with rfl | h
      · omega
      · have := ih h; omega
  have : (0 : Int).natAbs = 0 := rfl
  omega
theorem runs_short (c : Int) (l : List Int) : (runsC c 0 l).length ≤ l.length := by
  have h1 := runs_tot c l 0
  have h2 := List.countP_le_length (p := fun n => decide (2 * n ≠ c)) (l := l)
  have h3 := runs_len c l 0
  have : (0 : Int).natAbs = 0 := rfl
  omega
theorem take_snoc (l : List Int) (j : Nat) (h : j < l.length) : l.take (j + 1) = l.take j ++ [l[j]?.getD 0] := by
  rw [List.take_add_one]; simp [h]
theorem set_last (ys : List Int) (o x : Int) : (ys ++ [o]).set ys.length x = ys ++ [x] := by simp

/-- what the reference's Runs answers -/
def RRunsR (l : List Int) (lo hi : Int) (w : World) (e : Ending) (w' : World) : Prop :=
  ∃ v, e = .returned (.tuple #[v, .int .i64 (bE l lo hi)]) ∧ NewInts w w' v (if bE l lo hi = 0 then runsC (lo + hi) 0 l else [])

set_option maxHeartbeats 8000000 in
set_option maxRecDepth 100000 in
theorem rruns_yes (b o c : Nat) (l : List Int) (lo hi : Int) (w : World) (hE : bE l lo hi = 0) (hr : Row w b o l) (hb : b < w.heap.size) :
    Calls Tryz.prog 28 #[.slice (some ⟨b, o, none⟩) l.length c, .agg #[.int .i64 lo, .int .i64 hi]] w fun e w' => ∃ v, e = .returned (.tuple #[v, .int .i64 0]) ∧ NewInts w w' v (runsC (lo + hi) 0 l) := by
  obtain ⟨h4, ⟨l1, l2⟩, ⟨l3, l4⟩, l5⟩ := bE_zero hE
  obtain ⟨h0, h2, h3⟩ := chkS_zero.1 h4
  have K1 := (Kept.refl w).alloc (.cells #[.int .i64 lo, .int .i64 hi] 34)
  obtain ⟨cl, ch⟩ := two_cells (lim_head lo hi w)
  have G := given_any (some ⟨b, o, none⟩) c l lo hi (w.alloc (.cells #[.int .i64 lo, .int .i64 hi] 34)) ((Ser.of hb hr).keep K1)
  rw [hE] at G
  have HR := Lib.hid (hr.keep K1)
  have SD := fun n (hn : -1048576 ≤ n ∧ n ≤ 1048576) w => side_any n lo hi hn ⟨l1, l2⟩ ⟨l3, l4⟩ w
  obtain ⟨n, hn⟩ : ∃ n, l.length = n := ⟨_, rfl⟩
  rw [hn] at G h0 h2 ⊢
  have Hn := Lib.hid hn
  have H3 := Lib.hid h3
  obtain ⟨B, hB⟩ : ∃ B, w.heap.size = B := ⟨_, rfl⟩
  clear hr h3 h4 hE hn
  go_enter Tryz.func28, Tryz.ntmps28
  go_wp2_with fail
  rw [hB] at cl ch
  generalize w.alloc (.cells #[.int .i64 lo, .int .i64 hi] 34) = w1 at *
  clear hB
  refine G.mono ?_
  rintro e w2 ⟨rfl, k2⟩
  have cl2 := k2.cell cl
  have ch2 := k2.cell ch
  have HR2 := Lib.hid (HR.out.keep k2)
  clear G cl ch HR
  go_wp2_with fail
  go_loopg [7, 8] n (fun k v i wr => ∃ j : Nat, k + j = n ∧ i = .int .i64 j ∧ NewInts w2 wr v (runsC (lo + hi) 0 (l.take j)))
  case atStart => exact ⟨0, by omega, rfl, NewInts.start w2⟩
  case round =>
    obtain ⟨j, hkj, rfl, hN⟩ := hrel
    have HN := Lib.hid hN
    have cl3 := hN.2.2.cell cl2
    have ch3 := hN.2.2.cell ch2
    by_cases hj : j < n
    · have hjl : j < l.length := by rw [Hn.out]; exact hj
      have hcj := (HR2.out.keep hN.2.2) j hjl
      have hx := H3.out _ (show l[j]?.getD 0 ∈ l by simp [hjl])
      have hsn := Lib.hid (take_snoc l j hjl)
      clear hN
      generalize l[j]?.getD 0 = x at *
      have S := SD x hx
      clear hx
      go_wp2_with fail
      go_region_held3 (fun w' => w'.cell? ⟨b, o + j, none⟩ = some (.int .i64 x) ∧ w'.cell? ⟨B, 0, none⟩ = some (.int .i64 lo) ∧ w'.cell? ⟨B, 1, none⟩ = some (.int .i64 hi))
        (first | exact ⟨hk3.cell hcj, hk3.cell cl3, hk3.cell ch3⟩ | exact ⟨hcj, cl3, ch3⟩)
        (first | (go_at_call 64; refine (S _).mono ?_; rintro e w3 ⟨rfl, hk3⟩))
      have k3 := kept_drew hk3
      have HN3 := Lib.hid (HN.out.keep k3)
      have cl4 := k3.cell cl3
      have ch4 := k3.cell ch3
      clear hk3 S hcj cl3 ch3 HN
      obtain ⟨s, hs⟩ : ∃ s, sd (lo + hi) x = s := ⟨_, rfl⟩
      have hsv := sd_vals (lo + hi) x
      rw [hs] at hsv ⊢
      have HS := Lib.hid hs
      have s1 : -1 ≤ s := by omega
      have s2 : s ≤ 1 := by omega
      clear hs hsv
      by_cases h0 : s = 0
      · have hb : (s == 0) = true := by rw [beq_iff_eq]; exact h0
        have hz := Lib.hid (runs_zero (lo + hi) x (l.take j) (HS.out.trans h0))
        clear h0
        go_wp2
        go_roundg (gk - 1)
        case measure => omega
        case rel => exact ⟨j + 1, by omega, by go_num, by rw [hsn.out, hz.out]; exact HN3.out⟩
      · have hb : (s == 0) = false := by rw [beq_eq_false_iff_ne]; exact h0
        have hlen := runs_short (lo + hi) (l.take j)
        have hlt : (l.take j).length ≤ j := by simp; omega
        by_cases hj0 : j = 0
        · subst hj0
          have hd : decide ((0 : Int) < ((0 : Nat) : Int)) = false := by decide
          have hnew := Lib.hid (runs_new (lo + hi) x (l.take 0) (by rw [HS.out]; exact h0) (.inl (by simp)))
          clear h0
          go_wp2_with fail
          go_quiet (fail)
          go_wp2_with (first
            | (at_builtin; refine wpList_append_int rfl _ _ rfl rfl rfl (HN3.out.keep ((Kept.refl w3).drewN _)) ?c1 ?c2)
            | go_in)
          case c1 => omega
          intro v' w' hN'
          have HN4 := Lib.hid hN'
          clear hN'
          go_wp2
          go_roundg (gk - 1)
          case measure => omega
          case rel => exact ⟨0 + 1, by omega, by go_num, by rw [hsn.out, hnew.out, HS.out]; exact HN4.out⟩
        · obtain ⟨p, rfl⟩ : ∃ p, j = p + 1 := ⟨j - 1, by omega⟩
          have hp1 : ((p + 1 : Nat) : Int) - 1 = (p : Int) := by omega
          have hpl : p < l.length := by omega
          have hcp := (HR2.out.keep HN3.out.2.2) p hpl
          have hy := H3.out _ (show l[p]?.getD 0 ∈ l by simp [hpl])
          have hsp := Lib.hid (take_snoc l p hpl)
          generalize l[p]?.getD 0 = y at *
          have S := SD y hy
          clear hy
          have hwp : IntKind.i64.wrap (p : Int) = (p : Int) := by rw [IntKind.wrap_i64]; omega
          have hpn : p < n := by omega
          obtain ⟨t, ht⟩ : ∃ t, sd (lo + hi) y = t := ⟨_, rfl⟩
          have HT := Lib.hid ht
          rw [ht] at S
          have hd : decide ((0 : Int) < ((p + 1 : Nat) : Int)) = true := by rw [decide_eq_true_iff]; omega
          clear ht
          by_cases hts : t = s
          · subst hts
            have hb2 : (t == t) = true := by simp
            obtain ⟨ys, r, hys1, hys2⟩ := runs_same (lo + hi) x y (l.take p) (by rw [HS.out]; exact h0) (HT.out.trans HS.out.symm)
            have hrs := runs_small (lo + hi) (l.take (p + 1)) r (by rw [hsp.out, hys1]; simp)
            have r1 : -4096 ≤ r := by omega
            have r2 : r ≤ 4096 := by omega
            have H1 := Lib.hid (hsp.out ▸ hys1 : runsC (lo + hi) 0 (l.take (p + 1)) = ys ++ [r])
            have H2 := Lib.hid (show runsC (lo + hi) 0 (l.take (p + 1 + 1)) = ys ++ [r + t] by rw [hsn.out, hsp.out, hys2, HS.out])
            have hN5 := HN3.out
            rw [H1.out] at hN5
            obtain ⟨g, cap, rfl, hg, hB⟩ := hN5.block (by simp)
            have hyl : (ys ++ [r]).length = ys.length + 1 := by simp
            rw [hyl] at hN5 ⊢
            have hN6 := Lib.hid hN5
            have HB := Lib.hid hB
            clear hys1 hys2 hrs hN5 hB hyl h0
            go_wp2_with fail
            go_region_held3 (fun w' => w'.cell? ⟨b, o + p, none⟩ = some (.int .i64 y) ∧ w'.cell? ⟨B, 0, none⟩ = some (.int .i64 lo) ∧ w'.cell? ⟨B, 1, none⟩ = some (.int .i64 hi))
              (first | exact ⟨hk3.cell hcp, hk3.cell cl4, hk3.cell ch4⟩ | exact ⟨hcp, cl4, ch4⟩)
              (first | (go_at_call 64; refine (S _).mono ?_; rintro e w4 ⟨rfl, hk3⟩))
            have k4 := kept_drew hk3
            have hB4 := HB.out.keep k4
            have c1 := hB4.cell ys.length (by simp)
            rw [show (ys ++ [r])[ys.length]?.getD 0 = r by simp] at c1
            have f1 := hB4.fz ys.length
            have hyb : ys.length ≤ 5000 := by have := congrArg List.length H1.out; simp at this; omega
            have hi1 : ((ys.length + 1 : Nat) : Int) - 1 = (ys.length : Int) := by omega
            have hB5 := hB4.set ys.length (r + t)
            rw [set_last] at hB5
            have HB5 := Lib.hid hB5
            clear hlen hlt
            have KK := Lib.hid (kept_set (j := ys.length) (v := Value.int .i64 (r + t)) (hN6.out.2.2.trans k4) hg)
            clear hB5 hB4 hk3 k4 S hcp cl4 ch4
            go_wp2
            go_roundg (gk - 1)
            case measure => omega
            case rel =>
              refine ⟨p + 1 + 1, by omega, by go_num, ?_⟩
              rw [H2.out]
              have := HB5.out.new hg (by simp) KK.out
              simpa using this
          · have hb2 : (t == s) = false := by rw [beq_eq_false_iff_ne]; exact hts
            have hnew := Lib.hid (runs_new (lo + hi) x (l.take (p + 1)) (by rw [HS.out]; exact h0) (.inr ⟨l.take p, y, hsp.out, by rw [HT.out, HS.out]; exact hts⟩))
            clear h0 hts
            go_wp2_with fail
            go_region_held3 (fun w' => w'.cell? ⟨b, o + p, none⟩ = some (.int .i64 y) ∧ w'.cell? ⟨B, 0, none⟩ = some (.int .i64 lo) ∧ w'.cell? ⟨B, 1, none⟩ = some (.int .i64 hi))
              (first | exact ⟨hk3.cell hcp, hk3.cell cl4, hk3.cell ch4⟩ | exact ⟨hcp, cl4, ch4⟩)
              (first | (go_at_call 64; refine (S _).mono ?_; rintro e w4 ⟨rfl, hk3⟩))
            have k4 := kept_drew hk3
            have HN5 := Lib.hid (HN3.out.keep k4)
            clear hk3 k4 S hcp cl4 ch4 HN3
            go_wp2_with (first
              | (at_builtin; refine wpList_append_int rfl _ _ rfl rfl rfl HN5.out ?d1 ?d2)
              | go_in)
            case d1 => omega
            intro v' w' hN'
            have HN4 := Lib.hid hN'
            clear hN'
            go_wp2
            go_roundg (gk - 1)
            case measure => omega
            case rel => exact ⟨p + 1 + 1, by omega, by go_num, by rw [hsn.out, hnew.out, HS.out]; exact HN4.out⟩
    · have hjl : l.take j = l := List.take_of_length_le (by rw [Hn.out]; omega)
      rw [hjl] at HN
      clear hN hjl cl3 ch3
      go_wp2
      go_returns
      exact ⟨_, rfl, HN.out.mono (K1.trans k2)⟩
end Go.Proofs.YtgmegfcjbnfnaaaGreatDoor
