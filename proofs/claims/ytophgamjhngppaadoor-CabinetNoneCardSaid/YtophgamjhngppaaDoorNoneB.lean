/-
  CabinetNone: no cabinet answers that it is none. No condition beyond the row's own (the listed variables lie as the program's text lays them).
-/
import Derived.Test.YtophgamjhngppaaDoorNoneA
import Derived.Test.YtophgamjhngppaaDoorEnd
import Derived.Test.YtophgamjhngppaaDoorTie
import Derived.Test.YtophgamjhngppaaDoorCards
import Derived.SevenTiedAt
namespace Go.Proofs.YtophgamjhngppaaDoor
open Go.ChangeShapes Go.WideShapes Go.ChangeAt Go.RowKit

theorem none_own : ownKnob Tryd.prog.godebug = none := by kernel_rfl
theorem none_out : laidOutB Tryd.prog = true := by kernel_rfl
set_option maxRecDepth 100000 in
theorem none_lifted (os : Os) (started : os.Started) (H : Type) (enc : TypeId × Value → H) :
    ReturnsInHanded {} Tryd.checked os 4 .any (fun w args => (Rows.cabinetNoneSpec.pre enc Tryd.prog Tryd.f4 Rows.cabinetNoneRow.domain false w args ∧ laidMetH Tryd.prog Rows.cabinetNoneRow.laid w) ∧ sizedMet enc Tryd.prog Tryd.f4 (OpenSpec.ofChange Rows.cabinetNoneSpec) false w args)
      (Rows.cabinetNoneSpec.post enc Tryd.prog Tryd.f4 false true false false) := by
  refine returnsInHanded_of_change_and (C := Tryd.checked) (X := fun w _ => laidMetH Tryd.prog Rows.cabinetNoneRow.laid w) (fun _ _ _ hh h => h.of_heap hh) none_own started (by kernel_rfl) Tryd.func4
    (ChangeSpec.witness_shaped (enc := enc) (C := Tryd.checked) (os := os) (X := fun w _ => laidMetH Tryd.prog Rows.cabinetNoneRow.laid w) false (World.laidAll Tryd.prog os Rows.cabinetNoneRow.laid) #[.string ⟨#[]⟩, .slice none 0 0, .int .i64 0] 8 (World.laidAll_os _ _ _)
      (World.shaped_of_ZipB (by kernel_rfl) (by kernel_rfl)) (by kernel_rfl) (by kernel_rfl) (by kernel_rfl)
      (by rw [MakeChecks.laidMetH_plain _ _ _ (by kernel_rfl)]; exact laidMet_laidAll _ (by kernel_rfl) (by kernel_rfl))) ?_
  intro W base args ds gs before hval0 hW hc _ hL _
  have hval : ∀ (j : Nat) t v, Tryd.f4.params[j]? = some t → args[j]? = some v → Value.okWide Tryd.prog W .any base t v := hval0
  have hW' := hW
  obtain ⟨p, q, hA0, hV, rfl, _, _⟩ := hW
  have hA : DataW.TrodAll enc Tryd.prog W 0 (fun _ => true) true Tryd.f4.params.toList args.toList ds p := hA0
  have hA1 := hA
  obtain ⟨rfl, rfl⟩ := trodVars_none hV
  rw [Tryd.params4] at hA hval
  obtain ⟨v0, v1, v2, d0, d1, d2, p0, p1, p2, rfl, rfl, rfl, h0, h1, h2⟩ := trodAll_three hA
  obtain ⟨s, rfl, rfl, rfl, hs⟩ := Go.ChangeMaps.open_string Tryd.underlying9 (hval 0 9 v0 rfl rfl) h0
  obtain ⟨n, rfl, rfl, rfl, wn⟩ := open_int Tryd.underlying3 (hval 2 3 v2 rfl rfl) h2
  refine (Chart.none_calls s v1 n W).mono fun e W' ⟨he, hf⟩ => ?_
  subst he
  exact ⟨_, rfl, Chart.post_true none_out Tryd.underlying4 (by kernel_rfl) rfl hW' hA1 rfl (by rw [Tryd.params4]; decide +kernel) (hf.below (Nat.le_refl _) fun _ _ => id) rfl⟩

theorem none_row : Rows.CabinetNoneSaid :=
  OpenClaim.holds_of_wide 4 Tryd.f4 rfl rfl rfl rfl rfl rfl rfl ⟨rfl, rfl, rfl, rfl, rfl⟩ rfl rfl rfl rfl rfl (by kernel_rfl) Tryd.func4 (by kernel_rfl)
    (of_decide_eq_true (by kernel_rfl)) (by unfold Func.isWrapper; first | (rw [if_pos (by decide +kernel)]; kernel_rfl) | (rw [if_neg (by decide +kernel)]; exact ⟨rfl, rfl⟩))
    (fun os started H enc _ => none_lifted os started H enc)
theorem none_card : Rows.CabinetNoneCardSaid :=
  Claim7.holds_tied_plain_at .later [] [.data, .pinned] true Rows.cabinetNoneCard.stood.harness true none_row (fun _ h => by cases h) (by kernel_rfl) (fun _ h => by cases h) cabinetNone_row_tie rfl ⟨rfl, rfl⟩ (by kernel_rfl) rfl
    (fun f fn hf hfn => by
      obtain rfl : f = 4 := Option.some.inj ((show Tryd.prog.funcNamed "chartulary/chartularylaw09.CabinetNone" = some 4 by kernel_rfl).symm.trans hf) |>.symm
      obtain rfl : fn = Tryd.f4 := (Option.some.inj (Tryd.func4.symm.trans hfn)).symm
      exact ⟨by kernel_rfl, fun j t ht => by
        rw [Tryd.params4] at ht
        have hm : t ∈ [9, 35, 3] := by simpa using Array.mem_of_getElem? ht
        have hall : ([9, 35, 3].all fun u => !Tryd.prog.wantsStandIn u) = true := by kernel_rfl
        exact (show Tryd.prog.wantsStandIn t = false by simpa using List.all_eq_true.1 hall t hm)⟩)
    (by kernel_rfl)
#print axioms none_card
end Go.Proofs.YtophgamjhngppaaDoor
