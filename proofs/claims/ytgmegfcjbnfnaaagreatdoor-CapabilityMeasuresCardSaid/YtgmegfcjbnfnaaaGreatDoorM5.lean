/- Series: Check, Mean, Variance, Capability. -/
import Derived.Test.YtgmegfcjbnfnaaaGreatDoorM1
import Derived.Test.YtgmegfcjbnfnaaaGreatDoorM2
import Derived.IntWalk
import Derived.Shelf.Abstract
import Derived.Test.YtgmegfcjbnfnaaaGreatDoorM4

/- The plain mathematics of series: sums, squares, runs, counts. -/
namespace Go.Proofs.YtgmegfcjbnfnaaaGreatDoor
open Go.RowKit Wide

/-- a value that is not too great -/
def okv (n : Int) : Bool := decide (-1048576 ≤ n) && decide (n ≤ 1048576)
theorem okv_iff (n : Int) : okv n = true ↔ -1048576 ≤ n ∧ n ≤ 1048576 := by simp [okv]
/-- what Check answers of a series -/
def chkS (l : List Int) : Int := if l.length = 0 then 13 else if 4096 < l.length then 5 else if l.all okv then 0 else 2
theorem chkS_zero {l : List Int} : chkS l = 0 ↔ 0 < l.length ∧ l.length ≤ 4096 ∧ ∀ x ∈ l, -1048576 ≤ x ∧ x ≤ 1048576 := by
  unfold chkS
  constructor
  · intro h
    split at h
    · omega
    · split at h
      · omega
      · split at h
        · rename_i h3
          refine ⟨by omega, by omega, fun x hx => (okv_iff x).1 (List.all_eq_true.1 h3 x hx)⟩
        · omega
  · rintro ⟨h1, h2, h3⟩
    rw [if_neg (by omega), if_neg (by omega), if_pos (List.all_eq_true.2 fun x hx => (okv_iff x).2 (h3 x hx))]

theorem sum_bd {l : List Int} (h : ∀ x ∈ l, -1048576 ≤ x ∧ x ≤ 1048576) : -(1048576 * (l.length : Int)) ≤ l.sum ∧ l.sum ≤ 1048576 * (l.length : Int) := by
  induction l with
  | nil => simp
  | cons x l ih =>
    have h1 := h x (List.mem_cons_self ..)
    have h2 := ih fun y hy => h y (List.mem_cons_of_mem _ hy)
    rw [List.sum_cons, List.length_cons]
    omega

/-- the sum of the squares -/
def sqs (l : List Int) : Int := (l.map fun x => x * x).sum
theorem sqs_nil : sqs [] = 0 := rfl
theorem sqs_cons (x : Int) (l : List Int) : sqs (x :: l) = x * x + sqs l := by simp [sqs]
theorem sqs_snoc (l : List Int) (x : Int) : sqs (l ++ [x]) = sqs l + x * x := by simp [sqs]
theorem sum_snoc (l : List Int) (x : Int) : (l ++ [x]).sum = l.sum + x := by simp
theorem sq_le {x m : Int} (h : -m ≤ x ∧ x ≤ m) : 0 ≤ x * x ∧ x * x ≤ m * m := by
  have h1 := Int.mul_nonneg (show 0 ≤ m - x by omega) (show 0 ≤ m + x by omega)
  have h2 : (m - x) * (m + x) = m * m - x * x := by grind
  have h3 : 0 ≤ x * x := by
    rcases Int.le_total 0 x with h | h
    · exact Int.mul_nonneg h h
    · exact Int.mul_nonneg_of_nonpos_of_nonpos h h
  omega
theorem sqs_bd {l : List Int} (h : ∀ x ∈ l, -1048576 ≤ x ∧ x ≤ 1048576) : 0 ≤ sqs l ∧ sqs l ≤ 1099511627776 * (l.length : Int) := by
  induction l with
  | nil => simp [sqs]
  | cons x l ih =>
    have h1 := sq_le (m := 1048576) (h x (List.mem_cons_self ..))
    have h2 := ih fun y hy => h y (List.mem_cons_of_mem _ hy)
    rw [sqs_cons, List.length_cons]
    omega

/-! ### the variance -/
/-- n times the squares' sum, less the sum's square -/
def vnum (l : List Int) : Int := (l.length : Int) * sqs l - l.sum * l.sum
def vden (l : List Int) : Int := (l.length : Int) * ((l.length : Int) - 1)
def vr (l : List Int) : Rat := Rat.divInt (vnum l) (vden l)
def ctr (l : List Int) : Rat := Rat.divInt l.sum l.length

/-- the sum of the squares of the distances to m -/
def dev (m : Rat) : List Int → Rat
  | [] => 0
  | x :: l => ((x : Rat) - m) * ((x : Rat) - m) + dev m l
theorem dev_eq (m : Rat) (l : List Int) : dev m l = ((sqs l : Int) : Rat) - 2 * m * ((l.sum : Int) : Rat) + (((l.length : Int) : Int) : Rat) * (m * m) := by
  induction l with
  | nil =>
    show (0 : Rat) = ((0 : Int) : Rat) - 2 * m * ((0 : Int) : Rat) + ((0 : Int) : Rat) * (m * m)
    simp only [Rat.intCast_zero]
    grind
  | cons x l ih =>
    rw [dev, ih, sqs_cons, List.sum_cons, List.length_cons, Int.natCast_add]
    simp only [Rat.intCast_add, Rat.intCast_mul]
    have : (((1 : Nat) : Int) : Rat) = 1 := rfl
    rw [this]
    grind
theorem field_dev (n q s : Rat) (h1 : n ≠ 0) (h2 : n - 1 ≠ 0) : (q - 2 * (s / n) * s + n * (s / n * (s / n))) / (n - 1) = (n * q - s * s) / (n * (n - 1)) := by
  have h3 : n * (n - 1) ≠ 0 := by
    intro h
    rcases Rat.mul_eq_zero.1 h with h | h
    · exact h1 h
    · exact h2 h
  grind
theorem cast_ne {n : Int} (h : n ≠ 0) : (n : Rat) ≠ 0 := fun e => h (Rat.intCast_inj.1 (e.trans Rat.intCast_zero.symm))
theorem vr_dev {l : List Int} (h : 2 ≤ l.length) : dev (ctr l) l / ((((l.length : Int) - 1 : Int)) : Rat) = vr l := by
  have h1 := cast_ne (n := (l.length : Int)) (by omega)
  have h2 := cast_ne (n := (l.length : Int) - 1) (by omega)
  rw [dev_eq, vr, ctr, Rat.divInt_eq_div, Rat.divInt_eq_div, vnum, vden]
  simp only [Rat.intCast_mul, Rat.intCast_sub] at h2 ⊢
  exact field_dev _ _ _ h1 h2

end Go.Proofs.YtgmegfcjbnfnaaaGreatDoor

/- The plain mathematics of series: runs. -/
namespace Go.Proofs.YtgmegfcjbnfnaaaGreatDoor
open Go.RowKit Wide Numer

/-- on which side of the middle -/
def sd (c n : Int) : Int := zsgn (2 * n - c)
theorem sd_cases (c n : Int) : (sd c n = -1 ∧ 2 * n < c) ∨ (sd c n = 0 ∧ 2 * n = c) ∨ (sd c n = 1 ∧ c < 2 * n) := by
  unfold sd
  rcases Int.lt_trichotomy (2 * n - c) 0 with h | h | h
  · exact .inl ⟨zsgn_neg h, by omega⟩
  · rw [h]; exact .inr (.inl ⟨rfl, by omega⟩)
  · exact .inr (.inr ⟨zsgn_pos h, by omega⟩)

/-- the run that goes on, if there is one -/
def rn (run : Int) : List Int := if run = 0 then [] else [run]
/-- the runs, one of them being under way -/
def runsC (c : Int) : Int → List Int → List Int
  | run, [] => rn run
  | run, n :: l => if 0 < sd c n * run then runsC c (run + sd c n) l else rn run ++ runsC c (sd c n) l

theorem mul_pos_cases {s run : Int} (hs : s = -1 ∨ s = 0 ∨ s = 1) : 0 < s * run ↔ (s = -1 ∧ run < 0) ∨ (s = 1 ∧ 0 < run) := by
  rcases hs with rfl | rfl | rfl
  · constructor
    · intro h; exact .inl ⟨rfl, by omega⟩
    · rintro (⟨_, h⟩ | ⟨h, _⟩) <;> omega
  · constructor
    · intro h; omega
    · rintro (⟨h, _⟩ | ⟨h, _⟩) <;> omega
  · constructor
    · intro h; exact .inr ⟨rfl, by omega⟩
    · rintro (⟨h, _⟩ | ⟨_, h⟩) <;> omega
theorem sd_vals (c n : Int) : sd c n = -1 ∨ sd c n = 0 ∨ sd c n = 1 := by rcases sd_cases c n with h | h | h <;> simp [h.1]

theorem runs_ne (c : Int) : ∀ (l : List Int) (run k : Int), k ∈ runsC c run l → k ≠ 0
  | [], run, k, h => by
    unfold runsC rn at h
    split at h
    · cases h
    · simp at h; omega
  | n :: l, run, k, h => by
    unfold runsC at h
    split at h
    · exact runs_ne c l _ k h
    · rcases List.mem_append.1 h with h | h
      · unfold rn at h
        split at h
        · cases h
        · simp at h; omega
      · exact runs_ne c l _ k h

/-- the runs' lengths together -/
def tota (l : List Int) : Nat := (l.map Int.natAbs).sum
theorem tota_rn (run : Int) : tota (rn run) = run.natAbs := by unfold tota rn; split <;> simp_all
theorem tota_append (l m : List Int) : tota (l ++ m) = tota l + tota m := by simp [tota]
theorem runs_tot (c : Int) : ∀ (l : List Int) (run : Int), tota (runsC c run l) = run.natAbs + l.countP (fun n => decide (2 * n ≠ c))
  | [], run => by rw [runsC, tota_rn]; simp
  | n :: l, run => by
    have hs := sd_vals c n
    have hc : (n :: l).countP (fun n => decide (2 * n ≠ c)) = l.countP (fun n => decide (2 * n ≠ c)) + (sd c n).natAbs := by
      rw [List.countP_cons]
      rcases sd_cases c n with ⟨h1, h2⟩ | ⟨h1, h2⟩ | ⟨h1, h2⟩
      · rw [h1]; simp; omega
      · rw [h1]; simp; omega
      · rw [h1]; simp; omega
    rw [hc, runsC]
    split
    · rename_i h
      rw [runs_tot c l]
      rcases (mul_pos_cases hs).1 h with ⟨h1, h2⟩ | ⟨h1, h2⟩ <;> rw [h1] <;> omega
    · rw [tota_append, tota_rn, runs_tot c l]
      omega

theorem runs_last (c x : Int) (hx : sd c x ≠ 0) : ∀ (l : List Int) (run : Int), ∃ ys k, runsC c run (l ++ [x]) = ys ++ [k] ∧ (0 < sd c x → 0 < k) ∧ (sd c x < 0 → k < 0)
  | [], run => by
    have hs := sd_vals c x
    show ∃ ys k, (if 0 < sd c x * run then runsC c (run + sd c x) [] else rn run ++ runsC c (sd c x) []) = ys ++ [k] ∧ _
    split
    · rename_i h
      rcases (mul_pos_cases hs).1 h with ⟨h1, h2⟩ | ⟨h1, h2⟩
      · refine ⟨[], run + sd c x, ?_, by omega, by omega⟩
        rw [runsC, rn, if_neg (by omega)]; rfl
      · refine ⟨[], run + sd c x, ?_, by omega, by omega⟩
        rw [runsC, rn, if_neg (by omega)]; rfl
    · refine ⟨rn run, sd c x, ?_, by omega, by omega⟩
      rw [runsC, show rn (sd c x) = [sd c x] by rw [rn, if_neg hx]]
  | n :: l, run => by
    rw [List.cons_append, runsC]
    split
    · exact runs_last c x hx l _
    · obtain ⟨ys, k, h1, h2, h3⟩ := runs_last c x hx l (sd c n)
      exact ⟨rn run ++ ys, k, by rw [h1, List.append_assoc], h2, h3⟩

theorem runs_len (c : Int) (l : List Int) (run : Int) : (runsC c run l).length ≤ tota (runsC c run l) := by
  have h := fun k hk => runs_ne c l run k hk
  generalize runsC c run l = m at *
  induction m with
  | nil => simp
  | cons k m ih =>
    have h1 := h k (List.mem_cons_self ..)
    have h2 := ih fun j hj => h j (List.mem_cons_of_mem _ hj)
    simp only [tota, List.map_cons, List.sum_cons, List.length_cons] at h2 ⊢
    omega

end Go.Proofs.YtgmegfcjbnfnaaaGreatDoor

/- The plain mathematics of series: counts. -/
namespace Go.Proofs.YtgmegfcjbnfnaaaGreatDoor
open Go.RowKit Wide Numer

/-- how many values fall into each of m bins -/
def cnts (f : Int → Nat) (m : Nat) (l : List Int) : List Int := (List.range m).map fun j => ((l.countP fun x => decide (f x = j) : Nat) : Int)
theorem cnts_length (f : Int → Nat) (m : Nat) (l : List Int) : (cnts f m l).length = m := by simp [cnts]
theorem cnts_get (f : Int → Nat) (m : Nat) (l : List Int) (j : Nat) (h : j < m) : (cnts f m l)[j]?.getD 0 = ((l.countP fun x => decide (f x = j) : Nat) : Int) := by simp [cnts, h]
theorem cnts_nil (f : Int → Nat) (m : Nat) : cnts f m [] = List.replicate m 0 := by
  apply List.ext_getElem
  · simp [cnts]
  · intro i h1 h2; simp [cnts]
theorem cnts_snoc (f : Int → Nat) (m : Nat) (l : List Int) (x : Int) : cnts f m (l ++ [x]) = (cnts f m l).set (f x) ((cnts f m l)[f x]?.getD 0 + 1) := by
  apply List.ext_getElem
  · simp [cnts]
  · intro i h1 h2
    have hi : i < m := by simpa [cnts] using h1
    rw [List.getElem_set]
    by_cases h : f x = i
    · subst h
      rw [if_pos rfl, cnts_get f m l _ hi]
      simp [cnts, List.countP_append]
    · rw [if_neg h]
      simp [cnts, List.countP_append, h]
theorem cnts_perm (f : Int → Nat) (m : Nat) {l k : List Int} (h : l.Perm k) : cnts f m l = cnts f m k := by
  unfold cnts
  congr 1
  funext j
  rw [h.countP_eq]
theorem countP_lt_succ (f : Int → Nat) (m : Nat) (l : List Int) : (l.countP fun x => decide (f x < m + 1)) = (l.countP fun x => decide (f x < m)) + l.countP fun x => decide (f x = m) := by
  induction l with
  | nil => rfl
  | cons x l ih =>
    simp only [List.countP_cons, ih, decide_eq_true_eq]
    split <;> split <;> split <;> omega
theorem cnts_sum_lt (f : Int → Nat) (m : Nat) (l : List Int) : (cnts f m l).sum = ((l.countP fun x => decide (f x < m) : Nat) : Int) := by
  induction m with
  | zero => simp [cnts]
  | succ m ih =>
    unfold cnts at *
    rw [List.range_succ, List.map_append, List.sum_append, ih, countP_lt_succ]
    simp
theorem cnts_sum (f : Int → Nat) (m : Nat) (l : List Int) (h : ∀ x, f x < m) : (cnts f m l).sum = (l.length : Int) := by
  rw [cnts_sum_lt, List.countP_eq_length.2]
  intro x _
  simpa using h x
theorem cnts_bd (f : Int → Nat) (m : Nat) (l : List Int) (j : Nat) : 0 ≤ (cnts f m l)[j]?.getD 0 ∧ (cnts f m l)[j]?.getD 0 ≤ l.length := by
  by_cases h : j < m
  · rw [cnts_get f m l j h]
    have := List.countP_le_length (p := fun x => decide (f x = j)) (l := l)
    omega
  · rw [List.getElem?_eq_none (by rw [cnts_length]; omega)]
    simp

/-- into which bin a value falls: 0 below, bins + 1 above -/
def binOf (low width : Int) (bins : Nat) (x : Int) : Nat := if x < low then 0 else min ((x - low) / width).toNat bins + 1
theorem binOf_lt (low width : Int) (bins : Nat) (x : Int) : binOf low width bins x < bins + 2 := by unfold binOf; split <;> omega

theorem wrap64_mid {x : Int} (h0 : -4294967296 ≤ x) (h1 : x ≤ 4294967296) : wrap64 x = x := IntWalk.wrap64_in x ⟨by omega, by omega⟩
theorem wrap64_nat {k : Nat} (h : k ≤ 1000000) : wrap64 (k : Int) = (k : Int) := wrap64_mid (by omega) (by omega)
theorem bin_hi {low width x : Int} {m : Nat} (hlo : ¬ x < low) (hw : 1 ≤ width) (h1 : -1048576 ≤ low) (h2 : x ≤ 1048576) :
    ∃ Q M : Int, (x - low).tdiv width = Q ∧ min Q (m : Int) = M ∧ M + 1 = ((binOf low width m x : Nat) : Int) ∧ 0 ≤ Q ∧ Q ≤ 2097152 := by
  have hq0 : 0 ≤ (x - low) / width := Int.ediv_nonneg (by omega) (by omega)
  have hq1 : (x - low) / width ≤ x - low := Int.ediv_le_self _ (by omega)
  have ht : (x - low).tdiv width = (x - low) / width := Int.tdiv_eq_ediv_of_nonneg (by omega)
  have hb : binOf low width m x = min ((x - low) / width).toNat m + 1 := by rw [binOf, if_neg hlo]
  rw [hb, ht]
  generalize (x - low) / width = Q at *
  exact ⟨Q, min Q m, rfl, rfl, by omega, hq0, by omega⟩

end Go.Proofs.YtgmegfcjbnfnaaaGreatDoor

/- Walks over series: in, IndexFunc, ContainsFunc, Check. -/
namespace Go.Proofs.YtgmegfcjbnfnaaaGreatDoor
open Go.RowKit Wide

/-- the memory holds a series -/
def Row (w : World) (b o : Nat) (l : List Int) : Prop := ∀ j, j < l.length → w.cell? ⟨b, o + j, none⟩ = some (.int .i64 (l[j]?.getD 0))
theorem Row.keep {w w' : World} {b o : Nat} {l : List Int} (h : Row w b o l) (k : Kept w w') : Row w' b o l := fun j hj => k.cell (h j hj)

set_option maxHeartbeats 1000000 in
set_option maxRecDepth 100000 in
theorem in_any (n : Int) (w : World) :
    Calls Tryz.prog 49 #[.int .i64 n] w fun e w' => e = .returned (.bool (okv n)) ∧ w' = w := by
  by_cases h1 : -1048576 ≤ n
  · by_cases h2 : n ≤ 1048576
    · rw [show okv n = true by simp [okv, h1, h2]]
      go_enter Tryz.func49, Tryz.ntmps49
      go_wp2
      go_returns
      exact ⟨rfl, rfl⟩
    · rw [show okv n = false by simp [okv, h2]]
      go_enter Tryz.func49, Tryz.ntmps49
      go_wp2
      go_returns
      exact ⟨rfl, rfl⟩
  · rw [show okv n = false by simp [okv, h1]]
    go_enter Tryz.func49, Tryz.ntmps49
    go_wp2
    go_returns
    exact ⟨rfl, rfl⟩

theorem chk1_any (n : Int) (w : World) :
    Calls Tryz.prog 48 #[.int .i64 n] w fun e w' => e = .returned (.bool (!okv n)) ∧ w' = w := by
  have I := in_any n w
  generalize okv n = v at *
  go_enter Tryz.func48, Tryz.ntmps48
  go_wp2_with fail
  refine I.mono ?_
  rintro e w1 ⟨rfl, rfl⟩
  go_wp2
  go_returns
  exact ⟨rfl, rfl⟩

theorem any_take_succ (p : Int → Bool) (l : List Int) (j : Nat) (h : j < l.length) : (l.take (j + 1)).any p = ((l.take j).any p || p (l[j]?.getD 0)) := by
  rw [List.take_add_one, List.any_append]
  simp [h]

set_option maxHeartbeats 1000000 in
set_option maxRecDepth 100000 in
theorem idxf_any (g : Nat) (p : Int → Bool) (eg : ∀ args w, (callFunc g args).run Tryz.prog w = .ok (.enter g args) w)
    (hp : ∀ W x, Calls Tryz.prog g #[.int .i64 x] W fun e w' => e = .returned (.bool (p x)) ∧ w' = W)
    (b o c : Nat) (l : List Int) (w : World) (hl : l.length ≤ 100000000000000) (hr : Row w b o l) :
    Calls Tryz.prog 84 #[.slice (some ⟨b, o, none⟩) l.length c, .func (.func g) #[] #[]] w fun e w' =>
      ∃ r : Int, e = .returned (.int .i64 r) ∧ (0 ≤ r ↔ l.any p = true) ∧ w' = w := by
  have HR := Lib.hid hr
  clear hr
  go_enter Tryz.func84, Tryz.ntmps84
  go_wp2_with fail
  go_loopg [8] l.length (fun k i wr => ∃ j : Nat, k + j = l.length ∧ i = .int .i64 j ∧ (l.take j).any p = false ∧ wr = w)
  case atStart => exact ⟨0, by omega, rfl, by simp, rfl⟩
  case round =>
    obtain ⟨j, hkj, rfl, ha, rfl⟩ := hrel
    by_cases hj : j < l.length
    · have hcj := HR.out j hj
      have hs := any_take_succ p l j hj
      rw [ha, Bool.false_or] at hs
      obtain ⟨x, hx⟩ : ∃ x, x = l[j]?.getD 0 := ⟨_, rfl⟩
      rw [← hx] at hcj hs
      have Hs := Lib.hid hs
      have P := hp wr x
      generalize p x = v at *
      clear hx ha hs
      go_wp2_with fail
      refine P.mono ?_
      rintro e w1 ⟨rfl, rfl⟩
      cases v
      · go_wp2
        go_roundg (gk - 1)
        case measure => omega
        case rel => exact ⟨j + 1, by omega, by go_num, Hs.out, rfl⟩
      · have Ha : Hid (l.any p = true) := Lib.hid (by
          have h1 := Hs.out
          rw [List.any_eq_true] at h1 ⊢
          obtain ⟨y, hy, hpy⟩ := h1
          exact ⟨y, List.mem_of_mem_take hy, hpy⟩)
        go_wp2
        go_returns
        exact ⟨_, rfl, ⟨fun _ => Ha.out, fun _ => by omega⟩, rfl⟩
    · have ha2 : Hid (l.any p = false) := Lib.hid (by rw [List.take_of_length_le (by omega)] at ha; exact ha)
      clear ha
      go_wp2
      go_returns
      exact ⟨_, rfl, ⟨fun h => absurd h (by decide), fun h => by rw [ha2.out] at h; cases h⟩, rfl⟩

set_option maxHeartbeats 1000000 in
set_option maxRecDepth 100000 in
theorem contf_any (g : Nat) (p : Int → Bool) (eg : ∀ args w, (callFunc g args).run Tryz.prog w = .ok (.enter g args) w)
    (hp : ∀ W x, Calls Tryz.prog g #[.int .i64 x] W fun e w' => e = .returned (.bool (p x)) ∧ w' = W)
    (b o c : Nat) (l : List Int) (w : World) (hl : l.length ≤ 100000000000000) (hr : Row w b o l) :
    Calls Tryz.prog 47 #[.slice (some ⟨b, o, none⟩) l.length c, .func (.func g) #[] #[]] w fun e w' =>
      e = .returned (.bool (l.any p)) ∧ w' = w := by
  have I := idxf_any g p eg hp b o c l w hl hr
  generalize l.any p = v at *
  clear hr eg hp
  go_enter Tryz.func47, Tryz.ntmps47
  go_wp2_with fail
  refine I.mono ?_
  rintro e w1 ⟨r, rfl, hr, rfl⟩
  have hv : Hid (decide (0 ≤ r) = v) := Lib.hid (by cases v <;> simp at hr ⊢ <;> omega)
  clear hr
  go_wp2
  go_returns
  exact ⟨congrArg (fun x => Ending.returned (.bool x)) hv.out, rfl⟩

set_option maxHeartbeats 1000000 in
set_option maxRecDepth 100000 in
/-- Check, at a series that is not empty -/
theorem ccheck_any (b o c : Nat) (l : List Int) (w : World) (h0 : 0 < l.length) (hl : l.length ≤ 100000000000000) (hr : Row w b o l) :
    Calls Tryz.prog 18 #[.slice (some ⟨b, o, none⟩) l.length c] w fun e w' => e = .returned (.int .i64 (chkS l)) ∧ w' = w := by
  have C := contf_any 48 (fun n => !okv n) (enters_of Tryz.func48 (by kernel_rfl) rfl) (fun W x => chk1_any x W) b o c l w hl hr
  by_cases h1 : 4096 < l.length
  · rw [show chkS l = 5 by rw [chkS, if_neg (by omega), if_pos h1]]
    clear C hr
    go_enter Tryz.func18, Tryz.ntmps18
    go_wp2
    go_returns
    exact ⟨rfl, rfl⟩
  · have e : chkS l = if l.any (fun n => !okv n) then 2 else 0 := by
      rw [chkS, if_neg (by omega), if_neg h1]
      have : l.all okv = !(l.any fun n => !okv n) := by rw [List.all_eq_not_any_not]
      rw [this]
      cases l.any fun n => !okv n <;> rfl
    rw [e]
    clear e hr
    generalize (l.any fun n => !okv n) = v at *
    cases v
    all_goals
      rw [show (if _ = true then (2 : Int) else 0) = _ from rfl]
      go_enter Tryz.func18, Tryz.ntmps18
      go_wp2_with fail
      refine C.mono ?_
      rintro e w1 ⟨rfl, rfl⟩
      go_wp2
      go_returns
      exact ⟨rfl, rfl⟩

/-- Check, at an empty series -/
theorem ccheck_nil (a : Option Addr) (c : Nat) (w : World) :
    Calls Tryz.prog 18 #[.slice a 0 c] w fun e w' => e = .returned (.int .i64 13) ∧ w' = w := by
  go_enter Tryz.func18, Tryz.ntmps18
  go_wp2
  go_returns
  exact ⟨rfl, rfl⟩

/-- a series, which may be nil -/
def Ser (w : World) (a : Option Addr) (l : List Int) : Prop := 0 < l.length → ∃ b o, a = some ⟨b, o, none⟩ ∧ b < w.heap.size ∧ Row w b o l
theorem Ser.keep {w w' : World} {a : Option Addr} {l : List Int} (h : Ser w a l) (k : Kept w w') : Ser w' a l := fun h0 => by
  obtain ⟨b, o, ha, hb, hr⟩ := h h0
  exact ⟨b, o, ha, Nat.lt_of_lt_of_le hb k.size, hr.keep k⟩
theorem Ser.of {w : World} {b o : Nat} {l : List Int} (hb : b < w.heap.size) (h : Row w b o l) : Ser w (some ⟨b, o, none⟩) l := fun _ => ⟨b, o, rfl, hb, h⟩
theorem ccheck_ser (a : Option Addr) (c : Nat) (l : List Int) (w : World) (hl : l.length ≤ 100000000000000) (hs : Ser w a l) :
    Calls Tryz.prog 18 #[.slice a l.length c] w fun e w' => e = .returned (.int .i64 (chkS l)) ∧ w' = w := by
  by_cases h0 : 0 < l.length
  · obtain ⟨b, o, rfl, _, hr⟩ := hs h0
    exact ccheck_any b o c l w h0 hl hr
  · have hl0 : l.length = 0 := by omega
    rw [show chkS l = 13 by rw [chkS, if_pos hl0], hl0]
    exact ccheck_nil a c w

end Go.Proofs.YtgmegfcjbnfnaaaGreatDoor

/- Walks over series: sum, mean, Mean. -/
namespace Go.Proofs.YtgmegfcjbnfnaaaGreatDoor
open Go.RowKit Wide

/-- the values are not too great -/
def Vals (l : List Int) : Prop := ∀ x ∈ l, -1048576 ≤ x ∧ x ≤ 1048576
theorem Vals.get {l : List Int} (h : Vals l) (j : Nat) (hj : j < l.length) : -1048576 ≤ l[j]?.getD 0 ∧ l[j]?.getD 0 ≤ 1048576 := by
  have : l[j]?.getD 0 = l[j] := by simp [hj]
  rw [this]
  exact h _ (List.getElem_mem _)
theorem Vals.take {l : List Int} (h : Vals l) (j : Nat) : Vals (l.take j) := fun x hx => h x (List.mem_of_mem_take hx)
theorem sum_take_succ (l : List Int) (j : Nat) (h : j < l.length) : (l.take (j + 1)).sum = (l.take j).sum + l[j]?.getD 0 := by
  rw [List.take_add_one, List.sum_append]
  simp [h]
/-- twice as far -/
def Valt (l : List Int) : Prop := ∀ x ∈ l, -2097152 ≤ x ∧ x ≤ 2097152
theorem Vals.t {l : List Int} (h : Vals l) : Valt l := fun x hx => by have := h x hx; omega
theorem Valt.get {l : List Int} (h : Valt l) (j : Nat) (hj : j < l.length) : -2097152 ≤ l[j]?.getD 0 ∧ l[j]?.getD 0 ≤ 2097152 := by
  have : l[j]?.getD 0 = l[j] := by simp [hj]
  rw [this]
  exact h _ (List.getElem_mem _)
theorem Valt.take {l : List Int} (h : Valt l) (j : Nat) : Valt (l.take j) := fun x hx => h x (List.mem_of_mem_take hx)
theorem sum_bdt {l : List Int} (h : Valt l) : -(2097152 * (l.length : Int)) ≤ l.sum ∧ l.sum ≤ 2097152 * (l.length : Int) := by
  induction l with
  | nil => simp
  | cons x l ih =>
    have h1 := h x (List.mem_cons_self ..)
    have h2 := ih fun y hy => h y (List.mem_cons_of_mem _ hy)
    rw [List.sum_cons, List.length_cons]
    omega
theorem sum_take_bd {l : List Int} (h : Valt l) (hl : l.length ≤ 4096) (j : Nat) : -8589934592 ≤ (l.take j).sum ∧ (l.take j).sum ≤ 8589934592 := by
  have := sum_bdt (h.take j)
  have : (l.take j).length ≤ l.length := by simp; omega
  omega

theorem cs1_any (n : Int) (w : World) : Calls Tryz.prog 89 #[.int .i64 n] w fun e w' => e = .returned (.int .i64 n) ∧ w' = w := by
  go_enter Tryz.func89, Tryz.ntmps89
  go_wp2
  go_returns
  exact ⟨rfl, rfl⟩
theorem cs2_any (n m : Int) (h1 : -9000000000000000 ≤ n) (h2 : n ≤ 9000000000000000) (h3 : -9000000000000000 ≤ m) (h4 : m ≤ 9000000000000000) (w : World) :
    Calls Tryz.prog 90 #[.int .i64 n, .int .i64 m] w fun e w' => e = .returned (.int .i64 (n + m)) ∧ w' = w := by
  go_enter Tryz.func90, Tryz.ntmps90
  go_wp2
  go_returns
  exact ⟨rfl, rfl⟩

set_option maxHeartbeats 1000000 in
set_option maxRecDepth 100000 in
theorem toti_any (b o c : Nat) (l : List Int) (w : World) (h0 : 0 < l.length) (hl : l.length ≤ 4096) (hv : Valt l) (hr : Row w b o l) :
    Calls Tryz.prog 88 #[.slice (some ⟨b, o, none⟩) l.length c, .func (.func 89) #[] #[], .func (.func 90) #[] #[]] w fun e w' =>
      e = .returned (.int .i64 l.sum) ∧ w' = w := by
  have HR := Lib.hid hr
  have HV := Lib.hid hv
  clear hr hv
  go_enter Tryz.func88, Tryz.ntmps88
  go_wp2_with fail
  go_loopg [7, 13] l.length (fun k s i wr => ∃ (j : Nat) (S : Int), k + j = l.length ∧ s = .int .i64 S ∧ S = (l.take j).sum ∧ i = .int .i64 j ∧ wr = w)
  case atStart => exact ⟨0, 0, by omega, rfl, by simp, rfl, rfl⟩
  case round =>
    obtain ⟨j, S, hkj, rfl, hS, rfl, rfl⟩ := hrel
    by_cases hj : j < l.length
    · have hcj := HR.out j hj
      have hs := sum_take_succ l j hj
      rw [← hS] at hs
      have bd := sum_take_bd HV.out hl j
      rw [← hS] at bd
      have bx := HV.out.get j hj
      generalize l[j]?.getD 0 = x at *
      have Hs := Lib.hid hs
      have HS := Lib.hid hS
      obtain ⟨b1, b2⟩ := bd
      obtain ⟨b3, b4⟩ := bx
      clear hs hS
      by_cases hz : j = 0
      · have Hz := Lib.hid hz
        have i0 : ((j : Int) == 0) = true := by simp [hz]
        clear hz
        go_wp2_with fail
        refine (cs1_any x _).mono ?_
        rintro e w1 ⟨rfl, rfl⟩
        go_wp2
        go_roundg (gk - 1)
        case measure => omega
        case rel =>
          refine ⟨j + 1, x, by omega, rfl, ?_, by go_num, rfl⟩
          have h1 := HS.out
          rw [Hz.out] at h1
          have h2 : S = 0 := by rw [h1]; rfl
          rw [Hs.out, h2]; omega
      · have i0 : ((j : Int) == 0) = false := by simp; omega
        clear hz
        go_wp2_with fail
        refine (cs1_any x _).mono ?_
        rintro e w1 ⟨rfl, rfl⟩
        go_wp2_with fail
        refine (cs2_any S x (by omega) (by omega) (by omega) (by omega) _).mono ?_
        rintro e w1 ⟨rfl, rfl⟩
        go_wp2
        go_roundg (gk - 1)
        case measure => omega
        case rel => exact ⟨j + 1, S + x, by omega, rfl, Hs.out.symm, by go_num, rfl⟩
    · have hS2 : Hid (S = l.sum) := Lib.hid (by rw [hS, List.take_of_length_le (by omega)])
      clear hS
      go_wp2
      go_returns
      exact ⟨congrArg (fun x => Ending.returned (.int .i64 x)) hS2.out, rfl⟩

theorem csum_any (b o c : Nat) (l : List Int) (w : World) (h0 : 0 < l.length) (hl : l.length ≤ 4096) (hv : Valt l) (hr : Row w b o l) :
    Calls Tryz.prog 57 #[.slice (some ⟨b, o, none⟩) l.length c] w fun e w' => e = .returned (.int .i64 l.sum) ∧ w' = w := by
  have T := toti_any b o c l w h0 hl hv hr
  generalize l.sum = S at *
  clear hr hv
  go_enter Tryz.func57, Tryz.ntmps57
  go_wp2_with fail
  refine T.mono ?_
  rintro e w1 ⟨rfl, rfl⟩
  go_wp2
  go_returns
  exact ⟨rfl, rfl⟩

end Go.Proofs.YtgmegfcjbnfnaaaGreatDoor

/- Walks over series: mean, Mean. -/
namespace Go.Proofs.YtgmegfcjbnfnaaaGreatDoor
open Go.RowKit Wide Numer

set_option maxHeartbeats 1000000 in
set_option maxRecDepth 100000 in
theorem cmean_any (b o c : Nat) (l : List Int) (w : World) (hT : Tab w) (h0 : 0 < l.length) (hl : l.length ≤ 4096) (hv : Valt l) (hr : Row w b o l) :
    Calls Tryz.prog 41 #[.slice (some ⟨b, o, none⟩) l.length c] w fun e w' => e = .returned (.tuple #[.string (rt (ctr l)), .int .i64 0]) ∧ Kept w w' := by
  have C := csum_any b o c l w h0 hl hv hr
  have bd := sum_bdt hv
  have R := rof_any l.sum l.length (by omega) (by omega) (by omega) (by omega) (by omega) w hT
  rw [show Rat.divInt l.sum l.length = ctr l from rfl] at R
  generalize ctr l = v at *
  generalize l.sum = S at *
  clear hr hv
  go_enter Tryz.func41, Tryz.ntmps41
  go_wp2_with fail
  refine C.mono ?_
  rintro e w1 ⟨rfl, rfl⟩
  go_wp2_with fail
  refine R.mono ?_
  rintro e w1 ⟨rfl, k1⟩
  go_wp2
  go_returns
  exact ⟨rfl, k1⟩

/-- a result, if the series is right -/
def ifS (e : Int) (t : ByteArray) : ByteArray := if e = 0 then t else ⟨#[]⟩

set_option maxHeartbeats 1000000 in
set_option maxRecDepth 100000 in
theorem cMean_any (a : Option Addr) (c : Nat) (l : List Int) (w : World) (hT : Tab w) (hl : l.length ≤ 100000000000000) (hs : Ser w a l) :
    Calls Tryz.prog 12 #[.slice a l.length c] w fun e w' => e = .returned (.tuple #[.string (ifS (chkS l) (rt (ctr l))), .int .i64 (chkS l)]) ∧ Kept w w' := by
  have C := ccheck_ser a c l w hl hs
  by_cases hc : chkS l = 0
  · obtain ⟨h0, h2, h3⟩ := chkS_zero.1 hc
    obtain ⟨b, o, rfl, _, hr⟩ := hs h0
    have M := cmean_any b o c l w hT h0 h2 (Vals.t h3) hr
    rw [hc] at C ⊢
    rw [ifS, if_pos rfl]
    generalize ctr l = v at *
    clear hr hs h3 hc
    go_enter Tryz.func12, Tryz.ntmps12
    go_wp2_with fail
    refine C.mono ?_
    rintro e w1 ⟨rfl, rfl⟩
    go_wp2_with fail
    refine M.mono ?_
    rintro e w1 ⟨rfl, k1⟩
    go_wp2
    go_returns
    exact ⟨rfl, k1⟩
  · rw [ifS, if_neg hc]
    generalize chkS l = v at *
    have hb : (v != 0) = true := by simp [hc]
    clear hs hc
    go_enter Tryz.func12, Tryz.ntmps12
    go_wp2_with fail
    refine C.mono ?_
    rintro e w1 ⟨rfl, rfl⟩
    go_wp2
    go_returns
    exact ⟨rfl, Kept.refl _⟩

end Go.Proofs.YtgmegfcjbnfnaaaGreatDoor

/- Walks over series: the variance. -/
namespace Go.Proofs.YtgmegfcjbnfnaaaGreatDoor
open Go.RowKit Wide Numer

theorem ctimes_any (n m k : Int) (hk : k = n * m) (hn : fits n) (hm : fits m) (hf : fits k) (w : World) (hT : Tab w) :
    Calls Tryz.prog 78 #[.string (tx n), .string (tx m)] w fun e w' => e = .returned (.string (tx k)) ∧ Kept w w' := by
  have M := mul_any n m hn hm w hT
  rw [← hk, limT_of hf, limE_of hf] at M
  clear hk hn hm hf
  generalize tx k = t at *
  generalize tx n = t1 at *
  generalize tx m = t2 at *
  go_enter Tryz.func78, Tryz.ntmps78
  go_wp2_with fail
  refine M.mono ?_
  rintro e w1 ⟨rfl, k1⟩
  go_wp2
  go_returns
  exact ⟨rfl, k1⟩

theorem cplus_any (n m k : Int) (hk : k = n + m) (hn : fits n) (hm : fits m) (hf : fits k) (w : World) (hT : Tab w) :
    Calls Tryz.prog 80 #[.string (tx n), .string (tx m)] w fun e w' => e = .returned (.string (tx k)) ∧ Kept w w' := by
  have M := add_any n m hn hm w hT
  rw [← hk, limT_of hf, limE_of hf] at M
  clear hk hn hm hf
  generalize tx k = t at *
  generalize tx n = t1 at *
  generalize tx m = t2 at *
  go_enter Tryz.func80, Tryz.ntmps80
  go_wp2_with fail
  refine M.mono ?_
  rintro e w1 ⟨rfl, k1⟩
  go_wp2
  go_returns
  exact ⟨rfl, k1⟩

theorem fits20 {n : Int} (h0 : -99999999999999999999 ≤ n) (h1 : n ≤ 99999999999999999999) : fits n :=
  fits_of_lt (k := 20) (by omega) (by omega) (by omega)

set_option maxHeartbeats 1000000 in
set_option maxRecDepth 100000 in
theorem cv1_any (x : Int) (hx : -1048576 ≤ x ∧ x ≤ 1048576) (w : World) (hT : Tab w) :
    Calls Tryz.prog 77 #[.int .i64 x] w fun e w' => e = .returned (.string (tx (x * x))) ∧ Kept w w' := by
  have O := fun w hT => wof_any x (by omega) (by omega) w hT
  have sq := sq_le (m := 1048576) hx
  have C := fun w hT => ctimes_any x x (x * x) rfl (fits20 (by omega) (by omega)) (fits20 (by omega) (by omega)) (fits20 (by omega) (by omega)) w hT
  clear sq hx
  generalize tx (x * x) = t at *
  generalize tx x = t1 at *
  go_enter Tryz.func77, Tryz.ntmps77
  go_wp2_with fail
  refine (O w hT).mono ?_
  rintro e w1 ⟨rfl, k1⟩
  have hT1 := hT.keep k1
  go_wp2_with fail
  refine (O w1 hT1).mono ?_
  rintro e w2 ⟨rfl, k2⟩
  have hT2 := hT1.keep k2
  go_wp2_with fail
  refine (C w2 hT2).mono ?_
  rintro e w3 ⟨rfl, k3⟩
  go_wp2
  go_returns
  exact ⟨rfl, (k1.trans k2).trans k3⟩

theorem sqs_take_succ (l : List Int) (j : Nat) (h : j < l.length) : sqs (l.take (j + 1)) = sqs (l.take j) + l[j]?.getD 0 * l[j]?.getD 0 := by
  have e : l.take (j + 1) = l.take j ++ [l[j]?.getD 0] := by rw [List.take_add_one]; simp [h]
  rw [e, sqs_snoc]
theorem sqs_take_bd {l : List Int} (h : Vals l) (hl : l.length ≤ 4096) (j : Nat) : 0 ≤ sqs (l.take j) ∧ sqs (l.take j) ≤ 4503599627370496 := by
  have := sqs_bd (h.take j)
  have : (l.take j).length ≤ l.length := by simp; omega
  omega

set_option maxHeartbeats 1000000 in
set_option maxRecDepth 100000 in
theorem tots_any (b o c : Nat) (l : List Int) (w : World) (hT : Tab w) (h0 : 0 < l.length) (hl : l.length ≤ 4096) (hv : Vals l) (hr : Row w b o l) :
    Calls Tryz.prog 76 #[.slice (some ⟨b, o, none⟩) l.length c, .func (.func 77) #[] #[], .func (.func 80) #[] #[]] w fun e w' =>
      e = .returned (.string (tx (sqs l))) ∧ Kept w w' := by
  have HR := Lib.hid hr
  have HV := Lib.hid hv
  clear hr hv
  go_enter Tryz.func76, Tryz.ntmps76
  go_wp2_with fail
  go_loopg [7, 13] l.length (fun k s i wr => ∃ (j : Nat) (t : ByteArray), k + j = l.length ∧ s = .string t ∧ (0 < j → t = tx (sqs (l.take j))) ∧ i = .int .i64 j ∧ Kept w wr)
  case atStart => exact ⟨0, _, by omega, rfl, fun h => absurd h (Nat.lt_irrefl 0), rfl, Kept.refl w⟩
  case round =>
    obtain ⟨j, t, hkj, rfl, ht, rfl, kr⟩ := hrel
    have hTr := hT.keep kr
    by_cases hj : j < l.length
    · have hcj : wr.cell? ⟨b, o + j, none⟩ = _ := kr.cell (HR.out j hj)
      have hs := sqs_take_succ l j hj
      have bd := sqs_take_bd HV.out hl j
      have bx := HV.out.get j hj
      generalize l[j]?.getD 0 = x at *
      have V := cv1_any x bx wr hTr
      have Hs := Lib.hid hs
      have Ht := Lib.hid ht
      by_cases hz : j = 0
      · have Hz := Lib.hid hz
        have i0 : ((j : Int) == 0) = true := by simp [hz]
        obtain ⟨t2, ht2⟩ : ∃ t2, t2 = tx (x * x) := ⟨_, rfl⟩
        rw [← ht2] at V
        have Ht2 := Lib.hid ht2
        clear hz hs ht bx bd ht2
        go_wp2_with fail
        refine V.mono ?_
        rintro e w1 ⟨rfl, k1⟩
        go_wp2
        go_roundg (gk - 1)
        case measure => omega
        case rel =>
          refine ⟨j + 1, t2, by omega, rfl, fun _ => ?_, by go_num, kr.trans k1⟩
          have h1 := Hs.out
          rw [Hz.out] at h1 ⊢
          rw [Ht2.out, h1, List.take_zero, sqs_nil, Int.zero_add]
      · have i0 : ((j : Int) == 0) = false := by simp; omega
        have sq := sq_le (m := 1048576) bx
        have P := fun w hT => cplus_any (sqs (l.take j)) (x * x) _ hs (fits20 (by omega) (by omega)) (fits20 (by omega) (by omega)) (fits20 (by omega) (by omega)) w hT
        rw [← ht (by omega)] at P
        generalize tx (x * x) = t2 at *
        obtain ⟨t3, ht3⟩ : ∃ t3, t3 = tx (sqs (l.take (j + 1))) := ⟨_, rfl⟩
        rw [← ht3] at P
        have Ht3 := Lib.hid ht3
        clear hz hs ht bx bd ht3 sq
        go_wp2_with fail
        refine V.mono ?_
        rintro e w1 ⟨rfl, k1⟩
        have hT1 := hTr.keep k1
        go_wp2_with fail
        refine (P w1 hT1).mono ?_
        rintro e w2 ⟨rfl, k2⟩
        go_wp2
        go_roundg (gk - 1)
        case measure => omega
        case rel => exact ⟨j + 1, t3, by omega, rfl, fun _ => Ht3.out, by go_num, (kr.trans k1).trans k2⟩
    · have ht2 : Hid (t = tx (sqs l)) := Lib.hid (by
        have := ht (by omega)
        rwa [List.take_of_length_le (by omega)] at this)
      clear ht
      go_wp2
      go_returns
      exact ⟨congrArg (fun x => Ending.returned (.string x)) ht2.out, kr⟩

theorem tx_m1 : tx (-1) = ⟨#[45, 49]⟩ := by decide +kernel

set_option maxHeartbeats 2000000 in
set_option maxRecDepth 100000 in
theorem cvar_any (b o c : Nat) (l : List Int) (w : World) (hT : Tab w) (h0 : 2 ≤ l.length) (hl : l.length ≤ 4096) (hv : Vals l) (hr : Row w b o l) :
    Calls Tryz.prog 43 #[.slice (some ⟨b, o, none⟩) l.length c] w fun e w' => e = .returned (.tuple #[.string (rt (vr l)), .int .i64 0]) ∧ Kept w w' := by
  obtain ⟨a1, a2⟩ := sum_bd hv
  obtain ⟨a3, a4⟩ := sqs_bd hv
  obtain ⟨s1, s2⟩ := sq_le (m := 4294967296) (x := l.sum) ⟨by omega, by omega⟩
  have q1 : 0 ≤ (l.length : Int) * sqs l := Int.mul_nonneg (by omega) a3
  have q2 : (l.length : Int) * sqs l ≤ 4096 * 4503599627370496 := Int.mul_le_mul (by omega) (by omega) a3 (by omega)
  have d0 : 0 < vden l := Int.mul_pos (by omega) (by omega)
  have d1 : vden l ≤ 4096 * 4096 := Int.mul_le_mul (by omega) (by omega) (by omega) (by omega)
  have O1 := fun w hT => wof_any l.sum (by omega) (by omega) w hT
  have O2 := fun w hT => wof_any l.length (by omega) (by omega) w hT
  have O3 := fun w hT => wof_any (vden l) (by omega) (by omega) w hT
  have T := tots_any b o c l w hT (by omega) hl hv hr
  have T1 := fun w hT => ctimes_any l.length (sqs l) _ rfl (fits20 (by omega) (by omega)) (fits20 (by omega) (by omega)) (fits20 (by omega) (by omega)) w hT
  have T2 := fun w hT => ctimes_any l.sum l.sum _ rfl (fits20 (by omega) (by omega)) (fits20 (by omega) (by omega)) (fits20 (by omega) (by omega)) w hT
  have T3 := fun w hT => ctimes_any (-1) (l.sum * l.sum) (-(l.sum * l.sum)) (by omega) (fits20 (by omega) (by omega)) (fits20 (by omega) (by omega)) (fits20 (by omega) (by omega)) w hT
  have T4 := fun w hT => cplus_any ((l.length : Int) * sqs l) (-(l.sum * l.sum)) (vnum l) (by unfold vnum; omega) (fits20 (by omega) (by omega)) (fits20 (by omega) (by omega)) (fits20 (by unfold vnum; omega) (by unfold vnum; omega)) w hT
  have M := fun w hT => make_any (vnum l) (vden l) (fits20 (by unfold vnum; omega) (by unfold vnum; omega)) (fits20 (by omega) (by omega)) (by omega) w hT
  rw [tx_m1] at T3
  have hd : (l.length : Int) * ((l.length : Int) - 1) = vden l := rfl
  have hvr : Rat.divInt (vnum l) (vden l) = vr l := rfl
  rw [hvr] at M
  clear hvr
  generalize rt (vr l) = v at *
  generalize tx (vnum l) = t1 at *
  generalize tx (-(l.sum * l.sum)) = t2 at *
  generalize tx (l.sum * l.sum) = t3 at *
  generalize tx ((l.length : Int) * sqs l) = t4 at *
  generalize tx (sqs l) = t5 at *
  generalize tx l.sum = t6 at *
  have S := fun w hr => csum_any b o c l w (by omega) hl (Vals.t hv) hr
  generalize l.sum = s at *
  clear q1 q2 s1 s2 a3 a4 hv
  generalize tx (vden l) = t7 at *
  generalize vden l = d at *
  go_enter Tryz.func43, Tryz.ntmps43
  go_wp2_with fail
  refine T.mono ?_
  rintro e w1 ⟨rfl, k1⟩
  have hT1 := hT.keep k1
  have hr1 := Lib.hid (hr.keep k1)
  clear hr
  go_wp2_with fail
  refine (S w1 hr1.out).mono ?_
  rintro e w1 ⟨rfl, rfl⟩
  go_wp2_with fail
  refine (O1 _ hT1).mono ?_
  rintro e w2 ⟨rfl, k2⟩
  have hT2 := hT1.keep k2
  go_wp2_with fail
  refine (O2 _ hT2).mono ?_
  rintro e w3 ⟨rfl, k3⟩
  have hT3 := hT2.keep k3
  go_wp2_with fail
  refine (T1 _ hT3).mono ?_
  rintro e w4 ⟨rfl, k4⟩
  have hT4 := hT3.keep k4
  go_wp2_with fail
  refine (T2 _ hT4).mono ?_
  rintro e w5 ⟨rfl, k5⟩
  have hT5 := hT4.keep k5
  go_wp2_with fail
  refine (T3 _ hT5).mono ?_
  rintro e w6 ⟨rfl, k6⟩
  have hT6 := hT5.keep k6
  go_wp2_with fail
  refine (T4 _ hT6).mono ?_
  rintro e w7 ⟨rfl, k7⟩
  have hT7 := hT6.keep k7
  go_wp2_with fail
  refine (O3 _ hT7).mono ?_
  rintro e w8 ⟨rfl, k8⟩
  have hT8 := hT7.keep k8
  go_wp2_with fail
  refine (M _ hT8).mono ?_
  rintro e w9 ⟨rfl, k9⟩
  go_wp2
  go_returns
  exact ⟨rfl, (((((((k1.trans k2).trans k3).trans k4).trans k5).trans k6).trans k7).trans k8).trans k9⟩

end Go.Proofs.YtgmegfcjbnfnaaaGreatDoor

/- Walks over series: Variance, both, varied, index. -/
namespace Go.Proofs.YtgmegfcjbnfnaaaGreatDoor
open Go.RowKit Wide Numer

/-! ### how long the parts of a fraction are -/
theorem divInt_sz (n d : Int) (hd : d ≠ 0) : (Rat.divInt n d).num.natAbs ≤ n.natAbs ∧ (Rat.divInt n d).den ≤ d.natAbs := by
  have h1 := low_num (a := n) hd
  have h2 := low_den (a := n) hd
  have g := lowG_ne (a := n) hd
  have g1 : 1 ≤ (lowG n d).natAbs := by omega
  constructor
  · have := congrArg Int.natAbs h1
    rw [Int.natAbs_mul] at this
    have h3 := Nat.mul_le_mul_right (Rat.divInt n d).num.natAbs g1
    omega
  · have := congrArg Int.natAbs h2
    rw [Int.natAbs_mul] at this
    have h3 := Nat.mul_le_mul_right (Rat.divInt n d).den g1
    have h4 : ((Rat.divInt n d).den : Int).natAbs = (Rat.divInt n d).den := by simp
    rw [h4] at this
    omega
/-- both parts have at most k digits -/
def Sz (r : Rat) (k : Nat) : Prop := r.num.natAbs < 10 ^ k ∧ r.den < 10 ^ k
theorem Sz.fits {r : Rat} {k : Nat} (h : Sz r k) (h1 : 1 ≤ k) (h2 : k ≤ 1024) : fitsR r :=
  ⟨fits_of_lt h1 h2 h.1, fits_of_lt h1 h2 (by simpa using h.2)⟩
theorem Sz.d {r : Rat} {k : Nat} (h : Sz r k) : (r.den : Int).natAbs < 10 ^ k := by simpa using h.2
theorem mul_lt_pow {u v k m : Nat} (h1 : u < 10 ^ k) (h2 : v < 10 ^ m) : u * v < 10 ^ (k + m) := by
  rw [Nat.pow_add]
  exact Nat.mul_lt_mul'' h1 h2
theorem fits_mul {n m : Int} {k j : Nat} (h1 : n.natAbs < 10 ^ k) (h2 : m.natAbs < 10 ^ j) (h3 : 1 ≤ k + j) (h4 : k + j ≤ 1024) : fits (n * m) :=
  fits_of_lt h3 h4 (by rw [Int.natAbs_mul]; exact mul_lt_pow h1 h2)
theorem Sz.mul {r s : Rat} {k m : Nat} (h : Sz r k) (g : Sz s m) : Sz (r * s) (k + m) := by
  rw [← mul_divInt]
  have hd : ((r.den : Int) * (s.den : Int)) ≠ 0 := Int.mul_ne_zero (den_ne r) (den_ne s)
  have := divInt_sz (r.num * s.num) _ hd
  rw [Int.natAbs_mul, Int.natAbs_mul] at this
  have e1 : (r.den : Int).natAbs = r.den := by simp
  have e2 : (s.den : Int).natAbs = s.den := by simp
  rw [e1, e2] at this
  exact ⟨Nat.lt_of_le_of_lt this.1 (mul_lt_pow h.1 g.1), Nat.lt_of_le_of_lt this.2 (mul_lt_pow h.2 g.2)⟩
theorem Sz.div {r s : Rat} {k m : Nat} (h : Sz r k) (g : Sz s m) (h0 : s ≠ 0) : Sz (r / s) (k + m) := by
  rw [← div_divInt]
  have hd : ((r.den : Int) * s.num) ≠ 0 := Int.mul_ne_zero (den_ne r) (by rw [Ne, Rat.num_eq_zero]; exact h0)
  have := divInt_sz (r.num * (s.den : Int)) _ hd
  rw [Int.natAbs_mul, Int.natAbs_mul] at this
  have e1 : (r.den : Int).natAbs = r.den := by simp
  have e2 : (s.den : Int).natAbs = s.den := by simp
  rw [e1, e2] at this
  exact ⟨Nat.lt_of_le_of_lt this.1 (mul_lt_pow h.1 g.2), Nat.lt_of_le_of_lt this.2 (mul_lt_pow h.2 g.1)⟩
theorem Sz.divInt {n d : Int} {k : Nat} (hd : d ≠ 0) (h1 : n.natAbs < 10 ^ k) (h2 : d.natAbs < 10 ^ k) : Sz (Rat.divInt n d) k := by
  have := divInt_sz n d hd
  exact ⟨Nat.lt_of_le_of_lt this.1 h1, Nat.lt_of_le_of_lt this.2 h2⟩
theorem Sz.int {n : Int} {k : Nat} (hk : 1 ≤ k) (h1 : n.natAbs < 10 ^ k) : Sz (n : Rat) k := by
  refine ⟨h1, ?_⟩
  show 1 < 10 ^ k
  exact Nat.one_lt_pow (by omega) (by omega)

/-! ### the squared index -/
def idxV (n : Rat) (f : Int) (v : Rat) : Rat := n * n / ((f : Rat) * v)

set_option maxHeartbeats 1000000 in
set_option maxRecDepth 100000 in
theorem cindex_any (n : Rat) (f : Int) (v : Rat) (k m : Nat) (hk : Sz n k) (hm : Sz v m) (k1 : 1 ≤ k) (m1 : 1 ≤ m) (k2 : k ≤ 100) (m2 : m ≤ 100) (f0 : 0 < f) (f1 : f ≤ 99) (hv : v ≠ 0) (w : World) (hT : Tab w) :
    Calls Tryz.prog 52 #[.string (rt n), .int .i64 f, .string (rt v)] w fun e w' => e = .returned (.tuple #[.string (rt (idxV n f v)), .int .i64 0]) ∧ Kept w w' := by
  have M1 := fun w hT => rmul_any n n (hk.fits k1 (by omega)) (hk.fits k1 (by omega)) w hT
  have sf : Sz (f : Rat) 2 := Sz.int (by omega) (by omega)
  have M2 := fun w hT => rmul_any (f : Rat) v (sf.fits (by omega) (by omega)) (hm.fits m1 (by omega)) w hT
  have W := fun w hT => whole_any f (by omega) (by omega) w hT
  have s1 := hk.mul hk
  have s2 := sf.mul hm
  have hfv : (f : Rat) * v ≠ 0 := by
    intro h
    rcases Rat.mul_eq_zero.1 h with h | h
    · exact cast_ne (n := f) (by omega) h
    · exact hv h
  have D := fun w hT => rdiv_any (n * n) ((f : Rat) * v) (s1.fits (by omega) (by omega)) (s2.fits (by omega) (by omega)) hfv w hT
  have c1 : (fits (n.num * n.num) ∧ fits ((n.den : Int) * (n.den : Int))) := ⟨fits_mul hk.1 hk.1 (by omega) (by omega), fits_mul hk.d hk.d (by omega) (by omega)⟩
  have c2 : (fits ((f : Rat).num * v.num) ∧ fits (((f : Rat).den : Int) * (v.den : Int))) := ⟨fits_mul sf.1 hm.1 (by omega) (by omega), fits_mul sf.d hm.d (by omega) (by omega)⟩
  have c3 : (fits ((n * n).num * (((f : Rat) * v).den : Int)) ∧ fits (((n * n).den : Int) * ((f : Rat) * v).num)) := ⟨fits_mul s1.1 s2.d (by omega) (by omega), fits_mul s1.d s2.1 (by omega) (by omega)⟩
  simp only [resT, resE, c1, c2, c3, and_self, if_true] at M1 M2 D
  rw [show n * n / ((f : Rat) * v) = idxV n f v from rfl] at D
  clear c1 c2 c3 s1 s2 sf hk hm hfv hv
  generalize rt (idxV n f v) = t at *
  generalize rt (n * n) = t1 at *
  generalize rt ((f : Rat) * v) = t2 at *
  generalize rt (f : Rat) = t3 at *
  generalize rt n = t4 at *
  generalize rt v = t5 at *
  go_enter Tryz.func52, Tryz.ntmps52
  go_wp2_with fail
  refine (M1 _ hT).mono ?_
  rintro e w1 ⟨rfl, q1⟩
  have hT1 := hT.keep q1
  go_wp2_with fail
  refine (W _ hT1).mono ?_
  rintro e w2 ⟨rfl, q2⟩
  have hT2 := hT1.keep q2
  go_wp2_with fail
  refine (M2 _ hT2).mono ?_
  rintro e w3 ⟨rfl, q3⟩
  have hT3 := hT2.keep q3
  go_wp2_with fail
  refine (D _ hT3).mono ?_
  rintro e w4 ⟨rfl, q4⟩
  go_wp2
  go_returns
  exact ⟨rfl, ((q1.trans q2).trans q3).trans q4⟩

/-- the error of Variance -/
def vE (l : List Int) : Int := if chkS l ≠ 0 then chkS l else if l.length = 1 then 14 else 0

set_option maxHeartbeats 1000000 in
set_option maxRecDepth 100000 in
theorem cVariance_any (a : Option Addr) (c : Nat) (l : List Int) (w : World) (hT : Tab w) (hl : l.length ≤ 100000000000000) (hs : Ser w a l) :
    Calls Tryz.prog 14 #[.slice a l.length c] w fun e w' => e = .returned (.tuple #[.string (ifS (vE l) (rt (vr l))), .int .i64 (vE l)]) ∧ Kept w w' := by
  have C := ccheck_ser a c l w hl hs
  by_cases hc : chkS l = 0
  · obtain ⟨h0, h2, h3⟩ := chkS_zero.1 hc
    obtain ⟨b, o, rfl, _, hr⟩ := hs h0
    by_cases h1 : l.length = 1
    · rw [show vE l = 14 by rw [vE, if_neg (by omega), if_pos h1], ifS, if_neg (by omega)]
      rw [hc] at C
      have hb : ((l.length : Int) == 1) = true := by simp [h1]
      clear hr hs h3 hc h1 hT
      go_enter Tryz.func14, Tryz.ntmps14
      go_wp2_with fail
      refine C.mono ?_
      rintro e w1 ⟨rfl, rfl⟩
      go_wp2
      go_returns
      exact ⟨rfl, Kept.refl _⟩
    · have M := cvar_any b o c l w hT (by omega) h2 h3 hr
      rw [show vE l = 0 by rw [vE, if_neg (by omega), if_neg h1], ifS, if_pos rfl]
      rw [hc] at C
      have hb : ((l.length : Int) == 1) = false := by simp; omega
      generalize vr l = v at *
      clear hr hs h3 hc h1
      go_enter Tryz.func14, Tryz.ntmps14
      go_wp2_with fail
      refine C.mono ?_
      rintro e w1 ⟨rfl, rfl⟩
      go_wp2_with fail
      refine M.mono ?_
      rintro e w1 ⟨rfl, k1⟩
      go_wp2
      go_returns
      exact ⟨rfl, k1⟩
  · rw [show vE l = chkS l by rw [vE, if_pos hc], ifS, if_neg hc]
    generalize chkS l = v at *
    have hb : (v != 0) = true := by simp [hc]
    clear hs hc
    go_enter Tryz.func14, Tryz.ntmps14
    go_wp2_with fail
    refine C.mono ?_
    rintro e w1 ⟨rfl, rfl⟩
    go_wp2
    go_returns
    exact ⟨rfl, Kept.refl _⟩

/-- the error of a series with limits -/
def bE (l : List Int) (lo hi : Int) : Int := if chkS l ≠ 0 then chkS l else if (okv lo && okv hi) = false then 2 else if hi < lo then 9 else 0

set_option maxHeartbeats 1000000 in
set_option maxRecDepth 100000 in
theorem cboth_any (a : Option Addr) (c : Nat) (l : List Int) (lo hi : Int) (w : World) (hl : l.length ≤ 100000000000000) (hs : Ser w a l) :
    Calls Tryz.prog 61 #[.slice a l.length c, .agg #[.int .i64 lo, .int .i64 hi]] w fun e w' => e = .returned (.int .i64 (bE l lo hi)) ∧ Kept w w' := by
  have hs1 := hs.keep ((Kept.refl w).alloc (.cells #[.int .i64 lo, .int .i64 hi] 34))
  have C := ccheck_ser a c l _ hl hs1
  have K1 := (Kept.refl w).alloc (.cells #[.int .i64 lo, .int .i64 hi] 34)
  have I1 := fun w => in_any lo w
  have I2 := fun w => in_any hi w
  by_cases hc : chkS l = 0
  · rw [hc] at C
    have e0 : bE l lo hi = if (okv lo && okv hi) = false then 2 else if hi < lo then 9 else 0 := by rw [bE, if_neg (by omega)]
    rw [e0]
    generalize okv lo = u at *
    generalize okv hi = v at *
    clear hs hs1 hc e0
    cases u
    · rw [if_pos (by simp)]
      go_enter Tryz.func61, Tryz.ntmps61
      go_wp2_with fail
      refine C.mono ?_
      rintro e w1 ⟨rfl, rfl⟩
      go_wp2_with fail
      refine (I1 _).mono ?_
      rintro e w1 ⟨rfl, rfl⟩
      go_wp2
      go_returns
      exact ⟨rfl, K1⟩
    · cases v
      · rw [if_pos (by simp)]
        go_enter Tryz.func61, Tryz.ntmps61
        go_wp2_with fail
        refine C.mono ?_
        rintro e w1 ⟨rfl, rfl⟩
        go_wp2_with fail
        refine (I1 _).mono ?_
        rintro e w1 ⟨rfl, rfl⟩
        go_wp2_with fail
        refine (I2 _).mono ?_
        rintro e w1 ⟨rfl, rfl⟩
        go_wp2
        go_returns
        exact ⟨rfl, K1⟩
      · rw [if_neg (by simp)]
        by_cases h9 : hi < lo
        · rw [if_pos h9]
          go_enter Tryz.func61, Tryz.ntmps61
          go_wp2_with fail
          refine C.mono ?_
          rintro e w1 ⟨rfl, rfl⟩
          go_wp2_with fail
          refine (I1 _).mono ?_
          rintro e w1 ⟨rfl, rfl⟩
          go_wp2_with fail
          refine (I2 _).mono ?_
          rintro e w1 ⟨rfl, rfl⟩
          go_wp2
          go_returns
          exact ⟨rfl, K1⟩
        · rw [if_neg h9]
          go_enter Tryz.func61, Tryz.ntmps61
          go_wp2_with fail
          refine C.mono ?_
          rintro e w1 ⟨rfl, rfl⟩
          go_wp2_with fail
          refine (I1 _).mono ?_
          rintro e w1 ⟨rfl, rfl⟩
          go_wp2_with fail
          refine (I2 _).mono ?_
          rintro e w1 ⟨rfl, rfl⟩
          go_wp2
          go_returns
          exact ⟨rfl, K1⟩
  · rw [show bE l lo hi = chkS l by rw [bE, if_pos hc]]
    generalize chkS l = v at *
    have hb : (v != 0) = true := by simp [hc]
    clear hs hc
    go_enter Tryz.func61, Tryz.ntmps61
    go_wp2_with fail
    refine C.mono ?_
    rintro e w1 ⟨rfl, rfl⟩
    go_wp2
    go_returns
    exact ⟨rfl, K1⟩

end Go.Proofs.YtgmegfcjbnfnaaaGreatDoor

/- Walks over series: varied, Capability. -/
namespace Go.Proofs.YtgmegfcjbnfnaaaGreatDoor
open Go.RowKit Wide Numer

theorem lim_head (lo hi : Int) (w : World) : (w.alloc (.cells #[.int .i64 lo, .int .i64 hi] 34)).heap[w.heap.size]? = some (.cells #[.int .i64 lo, .int .i64 hi] 34) := by
  show (w.heap.push _)[w.heap.size]? = _
  simp
theorem bE_zero {l : List Int} {lo hi : Int} (h : bE l lo hi = 0) : chkS l = 0 ∧ (-1048576 ≤ lo ∧ lo ≤ 1048576) ∧ (-1048576 ≤ hi ∧ hi ≤ 1048576) ∧ lo ≤ hi := by
  unfold bE at h
  split at h
  · omega
  · split at h
    · omega
    · split at h
      · omega
      · rename_i h1 h2 h3
        have h4 : okv lo = true ∧ okv hi = true := by simpa using h2
        exact ⟨by omega, (okv_iff lo).1 h4.1, (okv_iff hi).1 h4.2, by omega⟩
/-- the error of a series with limits that should vary -/
def dE (l : List Int) (lo hi : Int) : Int := if bE l lo hi ≠ 0 then bE l lo hi else if l.length = 1 then 14 else if vr l = 0 then 10 else 0
theorem dE_zero {l : List Int} {lo hi : Int} (h : dE l lo hi = 0) : bE l lo hi = 0 ∧ 2 ≤ l.length ∧ vr l ≠ 0 := by
  unfold dE at h
  split at h
  · omega
  · split at h
    · omega
    · split at h
      · omega
      · rename_i h1 h2 h3
        have h4 := (chkS_zero.1 (bE_zero (show bE l lo hi = 0 by omega)).1).1
        exact ⟨by omega, by omega, h3⟩
theorem vr_sz {l : List Int} (hv : Vals l) (h2 : 2 ≤ l.length) (hl : l.length ≤ 4096) : Sz (vr l) 20 := by
  obtain ⟨a1, a2⟩ := sum_bd hv
  obtain ⟨a3, a4⟩ := sqs_bd hv
  obtain ⟨s1, s2⟩ := sq_le (m := 4294967296) (x := l.sum) ⟨by omega, by omega⟩
  have q1 : 0 ≤ (l.length : Int) * sqs l := Int.mul_nonneg (by omega) a3
  have q2 : (l.length : Int) * sqs l ≤ 4096 * 4503599627370496 := Int.mul_le_mul (by omega) (by omega) a3 (by omega)
  have d0 : 0 < vden l := Int.mul_pos (by omega) (by omega)
  have d1 : vden l ≤ 4096 * 4096 := Int.mul_le_mul (by omega) (by omega) (by omega) (by omega)
  exact Sz.divInt (by omega) (by unfold vnum; omega) (by omega)

set_option maxHeartbeats 1000000 in
set_option maxRecDepth 100000 in
theorem cvaried_any (a : Option Addr) (c : Nat) (l : List Int) (lo hi : Int) (w : World) (hT : Tab w) (hl : l.length ≤ 100000000000000) (hs : Ser w a l) :
    Calls Tryz.prog 51 #[.slice a l.length c, .agg #[.int .i64 lo, .int .i64 hi]] w fun e w' => e = .returned (.tuple #[.string (ifS (dE l lo hi) (rt (vr l))), .int .i64 (dE l lo hi)]) ∧ Kept w w' := by
  have K1 := (Kept.refl w).alloc (.cells #[.int .i64 lo, .int .i64 hi] 34)
  have C := cboth_any a c l lo hi _ hl (hs.keep K1)
  have V := fun w hT hs => cVariance_any a c l w hT hl hs
  by_cases hb : bE l lo hi = 0
  · rw [hb] at C
    have e0 : dE l lo hi = if l.length = 1 then 14 else if vr l = 0 then 10 else 0 := by rw [dE, if_neg (by omega)]
    have e1 : vE l = if l.length = 1 then 14 else 0 := by rw [vE, if_neg (by have := (bE_zero hb).1; omega)]
    rw [e1] at V
    rw [e0]
    by_cases h1 : l.length = 1
    · rw [if_pos h1] at V ⊢
      rw [ifS, if_neg (by omega)] at V ⊢
      clear e0 e1 h1 hb
      go_enter Tryz.func51, Tryz.ntmps51
      go_wp2_with fail
      refine C.mono ?_
      rintro e w1 ⟨rfl, k1⟩
      have hT1 := hT.keep (K1.trans k1)
      have hs1 := hs.keep (K1.trans k1)
      go_wp2_with fail
      refine (V _ hT1 hs1).mono ?_
      rintro e w2 ⟨rfl, k2⟩
      go_wp2
      go_returns
      exact ⟨rfl, (K1.trans k1).trans k2⟩
    · rw [if_neg h1] at V ⊢
      rw [ifS, if_pos rfl] at V
      have z := rt_zero (vr l)
      by_cases hv : vr l = 0
      · rw [if_pos hv, ifS, if_neg (by omega)]
        rw [show decide (vr l = 0) = true by simp [hv]] at z
        clear e0 e1 h1 hb hv
        generalize rt (vr l) = t at *
        go_enter Tryz.func51, Tryz.ntmps51
        go_wp2_with fail
        refine C.mono ?_
        rintro e w1 ⟨rfl, k1⟩
        have hT1 := hT.keep (K1.trans k1)
        have hs1 := hs.keep (K1.trans k1)
        go_wp2_with fail
        refine (V _ hT1 hs1).mono ?_
        rintro e w2 ⟨rfl, k2⟩
        go_wp2
        go_returns
        exact ⟨rfl, (K1.trans k1).trans k2⟩
      · rw [if_neg hv, ifS, if_pos rfl]
        rw [show decide (vr l = 0) = false by simp [hv]] at z
        clear e0 e1 h1 hb hv
        generalize rt (vr l) = t at *
        go_enter Tryz.func51, Tryz.ntmps51
        go_wp2_with fail
        refine C.mono ?_
        rintro e w1 ⟨rfl, k1⟩
        have hT1 := hT.keep (K1.trans k1)
        have hs1 := hs.keep (K1.trans k1)
        go_wp2_with fail
        refine (V _ hT1 hs1).mono ?_
        rintro e w2 ⟨rfl, k2⟩
        go_wp2
        go_returns
        exact ⟨rfl, (K1.trans k1).trans k2⟩
  · rw [show dE l lo hi = bE l lo hi by rw [dE, if_pos hb], ifS, if_neg hb]
    generalize bE l lo hi = v at *
    have hb2 : (v != 0) = true := by simp [hb]
    clear hs hb V
    go_enter Tryz.func51, Tryz.ntmps51
    go_wp2_with fail
    refine C.mono ?_
    rintro e w1 ⟨rfl, k1⟩
    go_wp2
    go_returns
    exact ⟨rfl, K1.trans k1⟩

set_option maxHeartbeats 1000000 in
set_option maxRecDepth 100000 in
theorem cCapability_any (a : Option Addr) (c : Nat) (l : List Int) (lo hi : Int) (w : World) (hT : Tab w) (hl : l.length ≤ 100000000000000) (hs : Ser w a l) :
    Calls Tryz.prog 20 #[.slice a l.length c, .agg #[.int .i64 lo, .int .i64 hi]] w fun e w' => e = .returned (.tuple #[.string (ifS (dE l lo hi) (rt (idxV ((hi - lo : Int) : Rat) 36 (vr l)))), .int .i64 (dE l lo hi)]) ∧ Kept w w' := by
  have K1 := (Kept.refl w).alloc (.cells #[.int .i64 lo, .int .i64 hi] 34)
  obtain ⟨cl, ch⟩ := two_cells (lim_head lo hi w)
  have V := cvaried_any a c l lo hi _ (hT.keep K1) hl (hs.keep K1)
  by_cases hb : dE l lo hi = 0
  · obtain ⟨h1, h2, h3⟩ := dE_zero hb
    obtain ⟨h4, h5, h6, h7⟩ := bE_zero h1
    obtain ⟨h8, h9, h10⟩ := chkS_zero.1 h4
    have I := fun w hT => cindex_any ((hi - lo : Int) : Rat) 36 (vr l) 8 20 (Sz.int (by omega) (by omega)) (vr_sz h10 h2 h9) (by omega) (by omega) (by omega) (by omega) (by omega) (by omega) h3 w hT
    have W := fun w hT => whole_any (hi - lo) (by omega) (by omega) w hT
    rw [hb, ifS, if_pos rfl] at V
    rw [hb, ifS, if_pos rfl]
    generalize rt (idxV ((hi - lo : Int) : Rat) 36 (vr l)) = t at *
    generalize rt ((hi - lo : Int) : Rat) = t1 at *
    generalize rt (vr l) = t2 at *
    obtain ⟨b1, b2⟩ := h5
    obtain ⟨b3, b4⟩ := h6
    clear hb h1 h2 h3 h4 h7 h8 h9 h10 hs
    go_enter Tryz.func20, Tryz.ntmps20
    go_wp2_with fail
    refine V.mono ?_
    rintro e w1 ⟨rfl, k1⟩
    have hT1 := hT.keep (K1.trans k1)
    have cl1 := k1.cell cl
    have ch1 := k1.cell ch
    go_wp2_with fail
    refine (W _ hT1).mono ?_
    rintro e w2 ⟨rfl, k2⟩
    go_wp2_with fail
    refine (I _ (hT1.keep k2)).mono ?_
    rintro e w3 ⟨rfl, k3⟩
    go_wp2
    go_returns
    exact ⟨rfl, ((K1.trans k1).trans k2).trans k3⟩
  · rw [ifS, if_neg hb] at V
    rw [ifS, if_neg hb]
    generalize dE l lo hi = v at *
    have hb2 : (v != 0) = true := by simp [hb]
    clear hs hb
    go_enter Tryz.func20, Tryz.ntmps20
    go_wp2_with fail
    refine V.mono ?_
    rintro e w1 ⟨rfl, k1⟩
    go_wp2
    go_returns
    exact ⟨rfl, K1.trans k1⟩

end Go.Proofs.YtgmegfcjbnfnaaaGreatDoor
