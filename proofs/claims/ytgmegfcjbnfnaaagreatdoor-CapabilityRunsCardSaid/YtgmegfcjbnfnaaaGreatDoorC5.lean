/- The statement CapabilityRuns holds for every input. No conditions beyond the row's own. -/
import Derived.Test.YtgmegfcjbnfnaaaGreatDoorM11
import Derived.Test.YtgmegfcjbnfnaaaGreatDoorM8
import Derived.Test.YtgmegfcjbnfnaaaGreatDoorM9

/- The walk of CapabilityRuns. -/
namespace Go.Proofs.YtgmegfcjbnfnaaaGreatDoor
open Go.RowKit Go.Shelf Wide Numer

set_option maxHeartbeats 2000000 in
set_option maxRecDepth 100000 in
theorem rruns_any (a : Option Addr) (c : Nat) (l : List Int) (lo hi : Int) (w : World) (hs : Ser w a l) :
    Calls Tryz.prog 28 #[.slice a l.length c, .agg #[.int .i64 lo, .int .i64 hi]] w (RRunsR l lo hi w) := by
  by_cases hb : bE l lo hi = 0
  · obtain ⟨b, o, rfl, hbb, hr⟩ := hs ((chkS_zero.1 (bE_zero hb).1).1)
    refine (rruns_yes b o c l lo hi w hb hr hbb).mono ?_
    rintro e w' ⟨v, he, hn⟩
    exact ⟨v, by rw [hb]; exact he, by rw [if_pos hb]; exact hn⟩
  · have R : Calls Tryz.prog 28 #[.slice a l.length c, .agg #[.int .i64 lo, .int .i64 hi]] w fun e w' => e = .returned (.tuple #[.slice none 0 0, .int .i64 (bE l lo hi)]) ∧ Kept w w' := by
      have K1 := (Kept.refl w).alloc (.cells #[.int .i64 lo, .int .i64 hi] 34)
      obtain ⟨cl, ch⟩ := two_cells (lim_head lo hi w)
      have G := given_any a c l lo hi (w.alloc (.cells #[.int .i64 lo, .int .i64 hi] 34)) (hs.keep K1)
      generalize bE l lo hi = E at *
      have hE2 : (E != 0) = true := by simp [hb]
      clear hs hb
      go_enter Tryz.func28, Tryz.ntmps28
      go_wp2_with fail
      refine G.mono ?_
      rintro e w2 ⟨rfl, k2⟩
      go_wp2
      go_returns
      exact ⟨rfl, K1.trans k2⟩
    refine R.mono ?_
    rintro e w' ⟨he, k⟩
    exact ⟨_, he, by rw [if_neg hb]; exact newInts_nil w w' k⟩

/-- what Spread answers, in one word -/
def sprV (l : List Int) (g : Int) : List Int := if sE l g = 0 then spr l g.toNat else []
def sprT (l : List Int) (g : Int) : ByteArray := if sE l g = 0 then rt (ctr (spr l g.toNat)) else ⟨#[]⟩
theorem SprR.norm {l : List Int} {g : Int} {w w' : World} {e : Ending} (h : SprR l g w e w') : ∃ v, e = .returned (.tuple #[v, .string (sprT l g), .int .i64 (sE l g)]) ∧ NewInts w w' v (sprV l g) := by
  rcases h with ⟨e0, m, rfl, _, _, v, he, hn⟩ | ⟨e0, he, rfl⟩
  · refine ⟨v, ?_, ?_⟩
    · rw [sprT, if_pos e0, e0]; exact he
    · rw [sprV, if_pos e0]; exact hn
  · refine ⟨.slice none 0 0, ?_, ?_⟩
    · rw [sprT, if_neg e0]; exact he
    · rw [sprV, if_neg e0]; exact newInts_nil _ _ (Kept.refl _)
theorem RSprR.norm {l : List Int} {g : Int} {w w' : World} {e : Ending} (h : RSprR l g w e w') : ∃ v, e = .returned (.tuple #[v, .string (sprT l g), .int .i64 (sE l g)]) ∧ NewInts w w' v (sprV l g) := SprR.norm h

theorem same_new {wa wb w : World} {v1 v2 : Value} {l : List Int} (h1 : NewInts wa w v1 l) (h2 : NewInts wb w v2 l) (hl : l.length ≤ 1000000) :
    Calls Tryz.prog 26 #[v1, v2] w fun e w' => e = .returned (.bool true) ∧ Kept w w' := by
  by_cases h0 : 0 < l.length
  · obtain ⟨g1, c1, rfl, _, _, _, _, r1⟩ := h1.row h0
    obtain ⟨g2, c2, rfl, _, _, _, _, r2⟩ := h2.row h0
    exact same_any g1 0 c1 g2 0 c2 l w r1 r2 hl
  · obtain rfl : l = [] := List.eq_nil_of_length_eq_zero (by omega)
    rw [h1.nil, h2.nil]
    exact same_nil w

set_option maxHeartbeats 4000000 in
set_option maxRecDepth 100000 in
theorem runs_walk (a : Option Addr) (c : Nat) (l : List Int) (lo hi groups : Int) (_ : -9223372036854775808 ≤ groups ∧ groups ≤ 9223372036854775807) (w : World) (hT : Tab w) (hs : Ser w a l) (hlc : l.length ≤ c) :
    Calls Tryz.prog 6 #[.slice a l.length c, .agg #[.int .i64 lo, .int .i64 hi], .int .i64 groups] w fun e w' => e = .returned (.bool true) ∧ Kept w w' := by
  have K1 := (Kept.refl w).alloc (.cells #[.int .i64 lo, .int .i64 hi] 34)
  obtain ⟨cl, ch⟩ := two_cells (lim_head lo hi w)
  have hT1 := Lib.hid (hT.keep K1)
  have hs1 := Lib.hid (hs.keep K1)
  clear hs hT
  have F := fun w => few_any a l.length c w
  have A := fun w hT => awake_any w hT
  go_enter Tryz.func6, Tryz.ntmps6
  go_wp2_with fail
  generalize w.alloc (.cells #[.int .i64 lo, .int .i64 hi] 34) = w1 at *
  refine (F _).mono ?_
  rintro e w2 ⟨rfl, rfl⟩
  cases hf : fewB l.length
  · clear hs1 cl ch F
    go_wp2_with fail
    refine (A _ hT1.out).mono ?_
    rintro e w3 ⟨rfl, k3⟩
    go_wp2
    go_returns
    exact ⟨rfl, K1.trans k3⟩
  · have hl : l.length ≤ 8192 := by
      unfold fewB at hf
      simp at hf
      omega
    have H1 := fun w hs => cRuns_any a c l lo hi w (by omega) hs
    have H2 := fun w hs => rruns_any a c l lo hi w hs
    have H3 := fun w hT hs => cspread_any a c l groups w hT (by omega) hs hlc
    have H4 := fun w hs => rspread_any a c l groups w hs hlc
    have z1 : (if bE l lo hi = 0 then runsC (lo + hi) 0 l else []).length ≤ 1000000 := by
      split
      · have := runs_short (lo + hi) l; omega
      · simp
    have z2 : (sprV l groups).length ≤ 1000000 := by
      unfold sprV
      split
      · rw [spr_length]
        exact Nat.le_trans (Nat.div_le_self _ _) (by omega)
      · simp
    have Z1 := Lib.hid z1
    have Z2 := Lib.hid z2
    clear hf F z1 z2
    go_wp2_with fail
    refine (H1 w2 hs1.out).mono ?_
    rintro e w3 ⟨v1, rfl, hn1⟩
    have k3 := hn1.2.2
    have cl3 := k3.cell cl
    have ch3 := k3.cell ch
    have N1 := Lib.hid hn1
    clear hn1 H1 cl ch
    go_wp2_with fail
    refine (H2 w3 (hs1.out.keep k3)).mono ?_
    rintro e w4 ⟨v2, rfl, hn2⟩
    have k4 := hn2.2.2
    have N2 := Lib.hid hn2
    have k24 := k3.trans k4
    clear hn2 H2 cl3 ch3
    go_wp2_with fail
    refine (H3 w4 (hT1.out.keep k24) (hs1.out.keep k24)).mono ?_
    rintro e w5 h3
    obtain ⟨v3, rfl, hn3⟩ := h3.norm
    have k5 := hn3.2.2
    have N3 := Lib.hid hn3
    have k25 := k24.trans k5
    clear h3 hn3 H3
    go_wp2_with fail
    refine (H4 w5 (hs1.out.keep k25)).mono ?_
    rintro e w6 h4
    obtain ⟨v4, rfl, hn4⟩ := h4.norm
    have k6 := hn4.2.2
    have N4 := Lib.hid hn4
    have k26 := k25.trans k6
    have hT6 := Lib.hid (hT1.out.keep k26)
    clear h4 hn4 H4 hs1 hT1
    generalize bE l lo hi = E1 at *
    generalize sE l groups = E2 at *
    generalize sprT l groups = t at *
    go_wp2_with fail
    refine (A _ hT6.out).mono ?_
    rintro e w7 ⟨rfl, k7⟩
    go_wp2_with fail
    refine (same_new (N1.out.keep ((k4.trans (k5.trans k6)).trans k7)) (N2.out.keep ((k5.trans k6).trans k7)) Z1.out).mono ?_
    rintro e w8 ⟨rfl, k8⟩
    go_wp2_with fail
    refine (same_new (N3.out.keep ((k6.trans k7).trans k8)) (N4.out.keep (k7.trans k8)) Z2.out).mono ?_
    rintro e w9 ⟨rfl, k9⟩
    go_wp2
    go_returns
    exact ⟨rfl, (((K1.trans k26).trans k7).trans k8).trans k9⟩
end Go.Proofs.YtgmegfcjbnfnaaaGreatDoor

/- The statement CapabilityRuns: for every input the law answers true, and its arguments read as before. No conditions beyond the row's own; the tables that it lists are tied to the program's text. -/
namespace Go.Proofs.YtgmegfcjbnfnaaaGreatDoor
open Go.ChangeShapes Go.WideShapes Go.ChangeAt Go.RowKit Wide

set_option maxRecDepth 100000 in
set_option maxHeartbeats 2000000 in
theorem capabilityRuns_lifted (os : Os) (started : os.Started) (H : Type) (enc : TypeId × Value → H) :
    ReturnsInHanded {} Tryz.checked os 6 .any (fun w args => (Rows.capabilityRunsSpec.pre enc Tryz.prog Tryz.f6 [] false w args ∧ laidMetH Tryz.prog Rows.capabilityRunsRow.laid w) ∧ sizedMet enc Tryz.prog Tryz.f6 (OpenSpec.ofChange Rows.capabilityRunsSpec) false w args)
      (Rows.capabilityRunsSpec.post enc Tryz.prog Tryz.f6 false true false false) := by
  refine returnsInHanded_of_change_and (C := Tryz.checked) (X := fun w _ => laidMetH Tryz.prog Rows.capabilityRunsRow.laid w) (fun _ _ _ hh h => h.of_heap hh) own0 started (by kernel_rfl) Tryz.func6
    (witness_laid (enc := enc) (os := os) (s := Rows.capabilityRunsSpec) (args := #[.slice none 0 0, .agg #[.int .i64 0, .int .i64 0], .int .i64 0]) (by kernel_rfl) (by kernel_rfl) (by kernel_rfl)) ?_
  intro W base args ds gs before hval0 hW _ _ hL _
  have hval : ∀ (j : Nat) t v, Tryz.f6.params[j]? = some t → args[j]? = some v → Value.okWide Tryz.prog W .any base t v := hval0
  have hW' := hW
  obtain ⟨p, q, hA0, hV0, rfl, hfz, hnd⟩ := hW
  have hA : DataW.TrodAll enc Tryz.prog W 0 (fun _ => true) true Tryz.f6.params.toList args.toList ds p := hA0
  rw [Tryz.params6] at hA hval
  obtain ⟨v0, vs0, d0, ds0, p0, q0, hargs, rfl, rfl, h0, r0⟩ := trodAll_cons hA
  obtain ⟨v1, vs1, d1, ds1, p1, q1, rfl, rfl, rfl, h1, r1⟩ := trodAll_cons r0
  obtain ⟨v2, vs2, d2, ds2, p2, q2, rfl, rfl, rfl, h2, r2⟩ := trodAll_cons r1
  obtain ⟨rfl, rfl, rfl⟩ := trodAll_nil r2
  obtain rfl : args = #[v0, v1, v2] := by cases args; simp_all
  obtain ⟨rfl, rfl⟩ := trodVars_none hV0
  simp only [List.append_nil] at hW'
  have hlt : ∀ x ∈ p0 ++ (p1 ++ p2), x.block < W.heap.size := fun x hx => by simpa using hW'.lt x hx
  have k0 := h0
  have k1 := h1
  have k2 := h2
  obtain ⟨a, c, l, rfl, hlc, hs⟩ := open_series (hval 0 22 v0 rfl rfl) h0
  obtain ⟨lo, hi, rfl⟩ := open_limits (hval 1 34 v1 rfl rfl) h1
  obtain ⟨z2, rfl, _, _, w2⟩ := open_int Tryz.underlying3 (hval 2 3 v2 rfl rfl) h2
  have b2 := i64_bd w2
  refine (runs_walk a c l lo hi z2 b2 W (tab_of_laid hL) hs hlc).mono fun e W' ⟨he, hk⟩ => ?_
  subst he
  have bel := hk.below
  refine ⟨_, rfl, _, _, _, [], p0 ++ (p1 ++ p2), [], hW', ?_, ?_, rfl, bel.frame _, fun h => by cases h⟩
  · exact trodAll_mk1 (shut_bool Tryz.underlying4 true)
  · exact (trodAll_cons_mk (Below.trod laidOut0 (by kernel_rfl) (of_decide_eq_true (by kernel_rfl)) k0 bel (fun x hx => hlt x (by simp [hx]))) (trodAll_cons_mk (Below.trod laidOut0 (by kernel_rfl) (of_decide_eq_true (by kernel_rfl)) k1 bel (fun x hx => hlt x (by simp [hx]))) (trodAll_mk1 (Below.trod laidOut0 (by kernel_rfl) (of_decide_eq_true (by kernel_rfl)) k2 bel (fun x hx => hlt x (by simp [hx]))))))

theorem capabilityRuns_holds : Rows.CapabilityRunsSaid :=
  OpenClaim.holds_of_wide 6 Tryz.f6 rfl rfl rfl rfl rfl rfl rfl ⟨rfl, rfl, rfl, rfl, rfl⟩ rfl rfl rfl rfl rfl (by kernel_rfl) Tryz.func6 (by kernel_rfl)
    (of_decide_eq_true (by kernel_rfl)) (by unfold Func.isWrapper; first | (rw [if_pos (by decide +kernel)]; kernel_rfl) | (rw [if_neg (by decide +kernel)]; exact ⟨rfl, rfl⟩))
    (fun os started H enc _ => capabilityRuns_lifted os started H enc)

theorem capabilityRuns_card : Rows.CapabilityRunsCardSaid :=
  Claim7.holds_tied_plain_at .later [] [.data, .data, .data, .data, .sentinel, .sentinel, .pinned] true (true, "55ac42c2fb987e375d79621de8aa858a6e8e30bb8a7df803310ae96f31e596a9") true
    capabilityRuns_holds (fun _ h => by cases h) (by kernel_rfl) (fun _ h => by cases h) capabilityRuns_row_tie rfl ⟨rfl, rfl⟩ (by kernel_rfl) rfl
    (fun f fn hf hfn => by
      obtain rfl : f = 6 := Option.some.inj ((show Tryz.prog.funcNamed "metrolab/metrolablaw57.CapabilityRuns" = some 6 by kernel_rfl).symm.trans hf) |>.symm
      obtain rfl : fn = Tryz.f6 := (Option.some.inj (Tryz.func6.symm.trans hfn)).symm
      exact ⟨by kernel_rfl, fun j t ht => by
        rw [Tryz.params6] at ht
        rcases j with _ | _ | _ | j
        · obtain rfl : 22 = t := by simpa using ht
          exact (show Tryz.prog.wantsStandIn 22 = false by kernel_rfl)
        · obtain rfl : 34 = t := by simpa using ht
          exact (show Tryz.prog.wantsStandIn 34 = false by kernel_rfl)
        · obtain rfl : 3 = t := by simpa using ht
          exact (show Tryz.prog.wantsStandIn 3 = false by kernel_rfl)
        · simp at ht⟩)
    (by kernel_rfl)

end Go.Proofs.YtgmegfcjbnfnaaaGreatDoor
