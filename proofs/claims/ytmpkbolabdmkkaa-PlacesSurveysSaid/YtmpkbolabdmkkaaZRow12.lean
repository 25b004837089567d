/- WHATEVER THE ARGUMENTS: PlacesSurveys returns true, and its arguments read as they did. For every input: no condition beyond the statement's own. -/
import Derived.Test.YtmpkbolabdmkkaaZLawP
import Derived.Test.YtmpkbolabdmkkaaZOpm
namespace Go.Proofs.Ytmpkbolabdmkkaa
open Go.ChangeShapes Go.WideShapes Go.ChangeAt Go.RowKit

theorem Try.own : ownKnob Try.prog.godebug = none := by kernel_rfl
theorem Try.laidOut : laidOutB Try.prog = true := by kernel_rfl

set_option maxRecDepth 100000 in
theorem lifted (os : Os) (started : os.Started) (H : Type) (enc : TypeId × Value → H) :
    ReturnsInHanded {} Try.checked os 12 .any (Rows.placesSurveysSpec.pre6 enc Try.prog Try.f12 Rows.placesSurveysRow.domain false) (Rows.placesSurveysSpec.post enc Try.prog Try.f12 false true false false) := by
  refine returnsInHanded_of_change_sized (C := Try.checked) Try.own started (by kernel_rfl) Try.func12
    (ChangeSpec.witness6 (enc := enc) (C := Try.checked) false ⟨#[], #[.agg #[.slice none 0 0, .slice none 0 0, .slice none 0 0], .agg #[.int .i64 0, .int .i64 0, .slice none 0 0]], []⟩ 8 (by kernel_rfl) (by kernel_rfl) (by kernel_rfl) (by kernel_rfl)) ?_
  intro W base args ds gs before hval0 hW hcnd hsz _
  have hval : ∀ (j : Nat) t v, Try.f12.params[j]? = some t → args[j]? = some v → Value.okWide Try.prog W .any base t v := hval0
  have hW' := hW
  obtain ⟨p, q, hA0, hV, rfl, hfz, hnd⟩ := hW
  have hA : DataW.TrodAll enc Try.prog W 0 (fun _ => true) true Try.f12.params.toList args.toList ds p := hA0
  rw [Try.params12] at hA hval
  obtain ⟨v0, v1, d0, d1, p0, p1, rfl, rfl, rfl, h0, h1⟩ := trodAll_two hA
  obtain ⟨rfl, rfl⟩ := trodVars_none hV
  have hsz' : (DataW.weightsEach Try.prog [26, 64] [d0, d1]).all (· ≤ reachBytes) = true := hsz
  have hw : ∀ k ∈ DataW.weightsEach Try.prog [26, 64] [d0, d1], k ≤ reachBytes := fun k hk => by simpa using List.all_eq_true.1 hsz' k hk
  obtain ⟨a, b, c, pr, rfl, hP, hC⟩ := open_probc (hval 0 26 v0 rfl rfl) h0 (weightsEach_mem (j := 0) rfl rfl hw)
  obtain ⟨nd, kv, rfl, hN⟩ := open_node (hval 1 64 v1 rfl rfl) h1 (weightsEach_mem (j := 1) rfl rfl hw)
  have hlt : ∀ x ∈ p0 ++ p1, x.block < W.heap.size := fun x hx => by simpa using hW'.lt x (by simpa using hx)
  refine (lawSurveys (Later.now W) a b c kv pr nd hP hC hN).mono fun e W' ⟨he, y, hy⟩ => ?_
  subst he
  subst hy
  have hb : Below W.heap.size W y.w := y.h
  refine ⟨_, rfl, _, _, _, [], p0 ++ p1, [], hW', ?_, ?_, ?_, ?_, ?_⟩
  · exact trodAll_mk1 (shut_bool Try.underlying4 true)
  · exact trodAll_mk2 (Below.trod Try.laidOut (by kernel_rfl) (of_decide_eq_true (by kernel_rfl)) h0 hb (fun x hx => hlt x (List.mem_append_left _ hx))) (Below.trod Try.laidOut (by kernel_rfl) (of_decide_eq_true (by kernel_rfl)) h1 hb (fun x hx => hlt x (List.mem_append_right _ hx)))
  · exact hV
  · exact hb.frame _
  · intro h; cases h

theorem placesSurveys_holds : Rows.PlacesSurveysSaid :=
  OpenClaim.holds_of_wide 12 Try.f12 rfl rfl rfl rfl rfl rfl rfl ⟨rfl, rfl, rfl, rfl, rfl⟩ rfl rfl rfl rfl rfl (by kernel_rfl) Try.func12 (by kernel_rfl)
    (of_decide_eq_true (by kernel_rfl)) (by unfold Func.isWrapper; first | (rw [if_pos (by decide +kernel)]; kernel_rfl) | (rw [if_neg (by decide +kernel)]; exact ⟨rfl, rfl⟩))
    (fun os started H enc _ => lifted os started H enc)
end Go.Proofs.Ytmpkbolabdmkkaa
