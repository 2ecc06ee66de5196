/- The statement CapabilityGroups holds for every input. No conditions beyond the row's own. -/
import Derived.Test.YtgmegfcjbnfnaaaGreatDoorM8
import Derived.Test.YtgmegfcjbnfnaaaGreatDoorM10
import Derived.Test.YtgmegfcjbnfnaaaGreatDoorM9

/- The walk of CapabilityGroups. -/
namespace Go.Proofs.YtgmegfcjbnfnaaaGreatDoor
open Go.RowKit Go.Shelf Wide Numer
open Go.Lib (itoa)

theorem one_row {w : World} {g : Nat} (x : Int) (h : w.heap[g]? = some (.cells #[.int .i64 x] 3)) : ∀ j, j < [x].length → w.cell? ⟨g, 0 + j, none⟩ = some (.int .i64 ([x].getD j 0)) := by
  intro j hj
  have hj2 : j < 1 := hj
  obtain rfl : j = 0 := by omega
  simp only [World.cell?, h]
  rfl
theorem equal1_any (b o c : Nat) (x : Int) (w : World) (hr : Row w b o [x]) :
    Calls Tryz.prog 35 #[.slice (some ⟨b, o, none⟩) 1 c, .slice (some ⟨w.heap.size, 0, none⟩) 1 1] (w.alloc (.cells #[.int .i64 x] 3)) fun e w' => e = .returned (.bool true) ∧ Kept w w' := by
  have k0 : Kept w (w.alloc (.cells #[.int .i64 x] 3)) := (Kept.refl w).alloc _
  have h0 : (w.alloc (.cells #[.int .i64 x] 3)).heap[w.heap.size]? = some (.cells #[.int .i64 x] 3) := by
    show (w.heap.push _)[w.heap.size]? = _
    simp
  refine (Tryz.slices_Equal_int b o 1 c w.heap.size 0 1 1 [x] [x] _ (Nat.le_refl 1) (Nat.le_refl 1) (by omega) (by omega) (fun j hj => by rw [List.getD_eq_getElem?_getD]; exact (hr.keep k0) j hj) (one_row x h0)).mono ?_
  rintro e w' ⟨rfl, q, rfl⟩
  exact ⟨by simp, k0.drewN q⟩

set_option maxHeartbeats 8000000 in
set_option maxRecDepth 100000 in
theorem groups_walk (a : Option Addr) (c : Nat) (l : List Int) (groups : Int) (hgr : 0 ≤ groups ∧ groups ≤ 255) (w : World) (hT : Tab w) (hs : Ser w a l) (hlc : l.length ≤ c) :
    Calls Tryz.prog 8 #[.slice a l.length c, .int .u8 groups] w fun e w' => e = .returned (.bool true) ∧ Kept w w' := by
  have R := fun w hs => right_any a c l w hs
  have A := fun w hT => awake_any w hT
  have hs1 := Lib.hid hs
  have hT1 := Lib.hid hT
  clear hs hT
  go_enter Tryz.func8, Tryz.ntmps8
  go_wp2_with fail
  refine (R _ hs1.out).mono ?_
  rintro e w2 ⟨rfl, rfl⟩
  cases hr : rightB l
  · clear hs1 R
    go_wp2_with fail
    refine (A _ hT1.out).mono ?_
    rintro e w3 ⟨rfl, k3⟩
    go_wp2
    go_returns
    exact ⟨rfl, k3⟩
  · obtain ⟨r1, r2, r3⟩ := rightB_yes hr
    obtain ⟨b, o, rfl, hbb, hrow⟩ := hs1.out (by omega)
    have hck : chkS l = 0 := chkS_zero.2 ⟨by omega, by omega, fun x hx => by have := r3 x hx; omega⟩
    have hE1 : sE l (l.length : Int) = 0 := by rw [sE, if_neg (by omega), if_neg (by omega), if_neg (by omega)]
    have hV : vE l = 0 := by rw [vE, if_neg (by omega), if_neg (by omega)]
    have S := fun w hT hs => cspread_any (some ⟨b, o, none⟩) c l (l.length : Int) w hT (by omega) hs hlc
    have V := fun w hT hs => cVariance_any (some ⟨b, o, none⟩) c l w hT (by omega) hs
    rw [hV, ifS, if_pos rfl] at V
    have hall := spr_all (l := l) (by omega)
    have hvz := vr_zero (l := l) r1
    have hap1 := apart_nonneg (m := l) (by omega)
    have hap2 : apart l ≤ 16000 := by
      have b1 := r3 _ (maxOf_mem (l := l) (by omega))
      have b2 := r3 _ (minOf_mem (l := l) (by omega))
      unfold apart; omega
    have hgd : ∀ w', Row w' b o l → ∀ j, j < l.length → w'.cell? ⟨b, o + j, none⟩ = some (.int .i64 (l.getD j 0)) := fun w' h j hj => by rw [List.getD_eq_getElem?_getD]; exact h j hj
    have X := fun w' h => Tryz.slices_Max_int b o l.length c l w' (by omega) (Nat.le_refl _) (by omega) (hgd w' h)
    have N := fun w' h => Tryz.slices_Min_int b o l.length c l w' (by omega) (Nat.le_refl _) (by omega) (hgd w' h)
    rw [List.take_length] at X N
    have hw : Lib.maxOf l - Lib.minOf l = apart l := rfl
    have bx := r3 _ (maxOf_mem (l := l) (by omega))
    have bn := r3 _ (minOf_mem (l := l) (by omega))
    obtain ⟨bx1, bx2⟩ := bx
    obtain ⟨bn1, bn2⟩ := bn
    have Hrow := Lib.hid hrow
    have hz1 := rt_is0 (vr l)
    have hdz : decide (vr l = 0) = decide (apart l = 0) := decide_eq_decide.2 hvz
    rw [hdz] at hz1
    have W := fun w => whole2_any (apart l) (by omega) (by omega) w
    obtain ⟨p, hp⟩ : ∃ p : Nat, l.length = p + 1 := ⟨l.length - 1, by omega⟩
    have hp2 : (l.length : Int) - 1 = (p : Int) := by omega
    obtain ⟨q, hq⟩ : ∃ q : Nat, groups.tmod (p : Int) = (q : Int) := ⟨(groups.tmod p).toNat, by
      rw [Int.toNat_of_nonneg (Int.tmod_nonneg _ (by omega))]⟩
    have hqp : q < p := by
      have := Int.tmod_lt_of_pos groups (show (0 : Int) < p by omega)
      omega
    obtain ⟨K, hK⟩ : ∃ K : Nat, K = 2 + q := ⟨_, rfl⟩
    have hK2 : (2 : Int) + (q : Int) = (K : Int) := by omega
    have hK3 : 2 ≤ K ∧ K ≤ l.length := by omega
    obtain ⟨hKa, hKb⟩ := hK3
    have hE2 : sE l (K : Int) = 0 := by rw [sE, if_neg (by omega), if_neg (by omega), if_neg (by omega)]
    have S2 := fun w hT hs => cspread_any (some ⟨b, o, none⟩) c l (K : Int) w hT (by omega) hs hlc
    have hdiv : (l.length : Int).tdiv (K : Int) = ((l.length / K : Nat) : Int) := by
      rw [Int.tdiv_eq_ediv_of_nonneg (by omega)]; rfl
    obtain ⟨n, hn⟩ : ∃ n, l.length / K = n := ⟨_, rfl⟩
    have hnl := spr_length l K
    rw [hn] at hdiv hnl
    have hn1 : 1 ≤ n := by rw [← hn]; exact (Nat.one_le_div_iff (by omega)).2 hKb
    have hn20 : n ≤ 20 := by rw [← hn]; exact Nat.le_trans (Nat.div_le_self _ _) r2
    have hmem := Lib.hid (fun x hx => spr_mem (l := l) (g := K) (x := x) (by omega) hx)
    have O := fun w => over_any (spr l K).sum (n : Int) (by omega) (by
      have : ∀ x ∈ spr l K, -1048576 ≤ x ∧ x ≤ 1048576 := fun x hx => by have := hmem.out x hx; omega
      have := sum_bd this
      unfold Sh; omega) (by unfold Sh; omega) w
    have hct : ctr (spr l K) = Rat.divInt (spr l K).sum (n : Int) := by rw [ctr, hnl]
    have HE1 := Lib.hid hE1
    have HE2 := Lib.hid hE2
    have Hall := Lib.hid hall
    have HKK := Lib.hid hK
    have Hp := Lib.hid hp
    have Hn := Lib.hid hn
    obtain ⟨gr1, gr2⟩ := hgr
    clear hr R hck hV hvz hdz hgd hrow hE1 hE2 hall hK hp hn hqp r3
    go_wp2_with fail
    refine (S w2 hT1.out hs1.out).mono ?_
    rintro e w3 h1
    rcases h1 with ⟨_, m, hm, _, _, v, rfl, hsp⟩ | ⟨e0, _, _⟩
    rotate_left
    · exact absurd HE1.out e0
    obtain rfl : m = l.length := by omega
    rw [Hall.out] at hsp ⊢
    rw [ctr_one]
    obtain ⟨g1, c1, rfl, hg1, _, _, _, hr1⟩ := hsp.row (by simp)
    have k3 := hsp.2.2
    have H1 := Lib.hid hr1
    rw [show [apart l].length = 1 from rfl]
    clear hsp hr1 hm S
    go_wp2_with fail
    refine (X w3 (Hrow.out.keep k3)).mono ?_
    rintro e w3 ⟨rfl, rfl⟩
    go_wp2_with fail
    refine (N w3 (Hrow.out.keep k3)).mono ?_
    rintro e w3 ⟨rfl, rfl⟩
    go_wp2_with fail
    refine (V w3 (hT1.out.keep k3) (hs1.out.keep k3)).mono ?_
    rintro e w4 ⟨rfl, k4⟩
    have H2 := Lib.hid (H1.out.keep k4)
    have k34 := k3.trans k4
    clear X N V H1
    go_wp2_with fail
    refine (equal1_any g1 0 c1 (apart l) w4 H2.out).mono ?_
    rintro e w5 ⟨rfl, k5⟩
    go_wp2_with fail
    refine (W w5).mono ?_
    rintro e w6 ⟨rfl, k6⟩
    have k16 : Kept w2 w6 := (k34.trans k5).trans k6
    clear k3 k4 k34 k5 k6 H2 W
    have hz : ∃ B, decide (apart l = 0) = B ∧ (apart l == 0) = B := ⟨_, rfl, by rw [Bool.eq_iff_iff, beq_iff_eq, decide_eq_true_iff]⟩
    obtain ⟨B, hB1, hB2⟩ := hz
    rw [hB1] at hz1
    clear hB1
    have hm0 : ∀ x ∈ spr l K, 0 ≤ x ∧ x ≤ apart l := hmem.out
    generalize apart l = D at *
    clear hmem Hall
    go_wp2_with fail
    refine (S2 w6 (hT1.out.keep k16) (hs1.out.keep k16)).mono ?_
    rintro e w7 h2
    rcases h2 with ⟨_, m, hm, _, _, v, rfl, hsp⟩ | ⟨e0, _, _⟩
    rotate_left
    · exact absurd HE2.out e0
    obtain rfl : m = K := by omega
    obtain ⟨g2, c2, rfl, hg2, _, _, _, hr2⟩ := hsp.row (by rw [hnl]; omega)
    have k7 := k16.trans hsp.2.2
    rw [hct, hnl]
    have H3 := Lib.hid hr2
    have HM := Lib.hid hm0
    have hT7 := Lib.hid (hT1.out.keep k7)
    have Hnl := Lib.hid hnl
    clear hsp hr2 hm S2 HE1 HE2 hm0 hnl hct k16
    generalize spr l m = L at *
    obtain ⟨out, hout⟩ : ∃ out, rt (Rat.divInt L.sum (n : Int)) = out := ⟨_, rfl⟩
    rw [hout] at O ⊢
    clear hout
    go_wp2_with fail
    go_loopg [13, 91] n (fun k s i wr => ∃ (j : Nat) (S : Int), k + j = n ∧ s = .int .i64 S ∧ S = (L.take j).sum ∧ i = .int .i64 j ∧ wr = w7)
    case atStart => exact ⟨0, 0, by omega, rfl, by simp, rfl, rfl⟩
    case round =>
      obtain ⟨j, S, hkj, rfl, hS, rfl, rfl⟩ := hrel
      by_cases hj : j < n
      · have hcj := H3.out j (by rw [Hnl.out]; exact hj)
        rw [Nat.zero_add] at hcj
        have hst := sum_take_succ L j (by rw [Hnl.out]; exact hj)
        have hbd := sum_take_bd (l := L) (fun x hx => by have := HM.out x hx; omega) (by rw [Hnl.out]; omega) j
        have hbx := HM.out _ (show L[j]?.getD 0 ∈ L by have := Hnl.out; simp [show j < L.length by omega])
        generalize L[j]?.getD 0 = x at *
        obtain ⟨bx1, bx2⟩ := hbx
        have S1 : -9000000000 ≤ S := by omega
        have S2 : S ≤ 9000000000 := by omega
        have x2 : ¬ x < 0 := by omega
        have x3 : ¬ D < x := by omega
        have HS1 : Hid (S + x = (L.take (j + 1)).sum) := Lib.hid (by rw [hst]; omega)
        clear hst hbd hS
        go_wp2
        go_roundg (gk - 1)
        case measure => omega
        case rel => exact ⟨j + 1, S + x, by omega, rfl, HS1.out, by go_num, rfl⟩
      · have hSl : S = L.sum := by
          rw [hS, List.take_of_length_le (by rw [Hnl.out]; omega)]
        subst hSl
        clear hS
        go_wp2_with fail
        refine (O _).mono ?_
        rintro e w8 ⟨rfl, k8⟩
        go_wp2_with fail
        refine (A _ (hT7.out.keep k8)).mono ?_
        rintro e w9 ⟨rfl, k9⟩
        go_wp2
        go_returns
        exact ⟨rfl, (k7.trans k8).trans k9⟩
end Go.Proofs.YtgmegfcjbnfnaaaGreatDoor

/- The statement CapabilityGroups: for every input the law answers true, and its arguments read as before. No conditions beyond the row's own; the tables that it lists are tied to the program's text. -/
namespace Go.Proofs.YtgmegfcjbnfnaaaGreatDoor
open Go.ChangeShapes Go.WideShapes Go.ChangeAt Go.RowKit Wide

set_option maxRecDepth 100000 in
set_option maxHeartbeats 2000000 in
theorem capabilityGroups_lifted (os : Os) (started : os.Started) (H : Type) (enc : TypeId × Value → H) :
    ReturnsInHanded {} Tryz.checked os 8 .any (fun w args => (Rows.capabilityGroupsSpec.pre enc Tryz.prog Tryz.f8 [] false w args ∧ laidMetH Tryz.prog Rows.capabilityGroupsRow.laid w) ∧ sizedMet enc Tryz.prog Tryz.f8 (OpenSpec.ofChange Rows.capabilityGroupsSpec) false w args)
      (Rows.capabilityGroupsSpec.post enc Tryz.prog Tryz.f8 false true false false) := by
  refine returnsInHanded_of_change_and (C := Tryz.checked) (X := fun w _ => laidMetH Tryz.prog Rows.capabilityGroupsRow.laid w) (fun _ _ _ hh h => h.of_heap hh) own0 started (by kernel_rfl) Tryz.func8
    (witness_laid (enc := enc) (os := os) (s := Rows.capabilityGroupsSpec) (args := #[.slice none 0 0, .int .u8 0]) (by kernel_rfl) (by kernel_rfl) (by kernel_rfl)) ?_
  intro W base args ds gs before hval0 hW _ _ hL _
  have hval : ∀ (j : Nat) t v, Tryz.f8.params[j]? = some t → args[j]? = some v → Value.okWide Tryz.prog W .any base t v := hval0
  have hW' := hW
  obtain ⟨p, q, hA0, hV0, rfl, hfz, hnd⟩ := hW
  have hA : DataW.TrodAll enc Tryz.prog W 0 (fun _ => true) true Tryz.f8.params.toList args.toList ds p := hA0
  rw [Tryz.params8] at hA hval
  obtain ⟨v0, vs0, d0, ds0, p0, q0, hargs, rfl, rfl, h0, r0⟩ := trodAll_cons hA
  obtain ⟨v1, vs1, d1, ds1, p1, q1, rfl, rfl, rfl, h1, r1⟩ := trodAll_cons r0
  obtain ⟨rfl, rfl, rfl⟩ := trodAll_nil r1
  obtain rfl : args = #[v0, v1] := by cases args; simp_all
  obtain ⟨rfl, rfl⟩ := trodVars_none hV0
  simp only [List.append_nil] at hW'
  have hlt : ∀ x ∈ p0 ++ p1, x.block < W.heap.size := fun x hx => by simpa using hW'.lt x hx
  have k0 := h0
  have k1 := h1
  obtain ⟨a, c, l, rfl, hlc, hs⟩ := open_series (hval 0 22 v0 rfl rfl) h0
  obtain ⟨z1, rfl, _, _, w1⟩ := open_int Tryz.underlying5 (hval 1 5 v1 rfl rfl) h1
  have b1 := u8_bd w1
  refine (groups_walk a c l z1 b1 W (tab_of_laid hL) hs hlc).mono fun e W' ⟨he, hk⟩ => ?_
  subst he
  have bel := hk.below
  refine ⟨_, rfl, _, _, _, [], p0 ++ p1, [], hW', ?_, ?_, rfl, bel.frame _, fun h => by cases h⟩
  · exact trodAll_mk1 (shut_bool Tryz.underlying4 true)
  · exact (trodAll_cons_mk (Below.trod laidOut0 (by kernel_rfl) (of_decide_eq_true (by kernel_rfl)) k0 bel (fun x hx => hlt x (by simp [hx]))) (trodAll_mk1 (Below.trod laidOut0 (by kernel_rfl) (of_decide_eq_true (by kernel_rfl)) k1 bel (fun x hx => hlt x (by simp [hx])))))

theorem capabilityGroups_holds : Rows.CapabilityGroupsSaid :=
  OpenClaim.holds_of_wide 8 Tryz.f8 rfl rfl rfl rfl rfl rfl rfl ⟨rfl, rfl, rfl, rfl, rfl⟩ rfl rfl rfl rfl rfl (by kernel_rfl) Tryz.func8 (by kernel_rfl)
    (of_decide_eq_true (by kernel_rfl)) (by unfold Func.isWrapper; first | (rw [if_pos (by decide +kernel)]; kernel_rfl) | (rw [if_neg (by decide +kernel)]; exact ⟨rfl, rfl⟩))
    (fun os started H enc _ => capabilityGroups_lifted os started H enc)

theorem capabilityGroups_card : Rows.CapabilityGroupsCardSaid :=
  Claim7.holds_tied_plain_at .later [] [.data, .data, .data, .data, .sentinel, .sentinel, .pinned] true (true, "55ac42c2fb987e375d79621de8aa858a6e8e30bb8a7df803310ae96f31e596a9") true
    capabilityGroups_holds (fun _ h => by cases h) (by kernel_rfl) (fun _ h => by cases h) capabilityGroups_row_tie rfl ⟨rfl, rfl⟩ (by kernel_rfl) rfl
    (fun f fn hf hfn => by
      obtain rfl : f = 8 := Option.some.inj ((show Tryz.prog.funcNamed "metrolab/metrolablaw57.CapabilityGroups" = some 8 by kernel_rfl).symm.trans hf) |>.symm
      obtain rfl : fn = Tryz.f8 := (Option.some.inj (Tryz.func8.symm.trans hfn)).symm
      exact ⟨by kernel_rfl, fun j t ht => by
        rw [Tryz.params8] at ht
        rcases j with _ | _ | j
        · obtain rfl : 22 = t := by simpa using ht
          exact (show Tryz.prog.wantsStandIn 22 = false by kernel_rfl)
        · obtain rfl : 5 = t := by simpa using ht
          exact (show Tryz.prog.wantsStandIn 5 = false by kernel_rfl)
        · simp at ht⟩)
    (by kernel_rfl)

end Go.Proofs.YtgmegfcjbnfnaaaGreatDoor
