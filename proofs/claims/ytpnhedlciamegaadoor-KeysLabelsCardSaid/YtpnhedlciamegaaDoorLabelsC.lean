/- For every two keys the law KeysLabels answers true: two keys have one label only if they are made of the same, and a label's texts are the key's kind and its parts. Conditions: none beyond the given row's own (the listed variables hold what the program's text lays). -/
import Derived.Test.YtpnhedlciamegaaDoorOpen
import Derived.Test.YtpnhedlciamegaaDoorTie
import Derived.Test.YtpnhedlciamegaaDoorCards
import Derived.SevenTiedAt
set_option linter.all false
set_option linter.unusedSimpArgs false
set_option linter.unnecessarySimpa false
set_option linter.deprecated false
set_option linter.unusedVariables false
namespace Go.Proofs.YtpnhedlciamegaaDoor
open Go Go.ChangeShapes Go.WideShapes Go.ChangeAt Go.WideMaps Go.WideElems Go.RowKit Go.Proofs.Sep

theorem laidOutK : laidOutB Tryd.prog = true := by kernel_rfl
theorem ownK : ownKnob Tryd.prog.godebug = none := by kernel_rfl
theorem door_met (os : Os) (args : Array Value) : laidMetH Tryd.prog Rows.keysLabelsRow.laid ((World.doorLaid Tryd.prog 4000 os).forCall (fun _ _ => 0) ⟨#[], args, []⟩).memory :=
  laidMetH_of_parts3 (fuel := 8) (laidMet_of_run' 8 (by kernel_rfl) (by kernel_rfl)) (by kernel_rfl) (by kernel_rfl)

set_option maxRecDepth 100000 in
theorem labels_lifted (os : Os) (started : os.Started) (H : Type) (enc : TypeId × Value → H) :
    ReturnsInHanded {} Tryd.checked os 4 .any (fun w args => (Rows.keysLabelsSpec.pre enc Tryd.prog Tryd.f4 [] false w args ∧ laidMetH Tryd.prog Rows.keysLabelsRow.laid w) ∧ sizedMet enc Tryd.prog Tryd.f4 (OpenSpec.ofChange Rows.keysLabelsSpec) false w args)
      (Rows.keysLabelsSpec.post enc Tryd.prog Tryd.f4 false true false false) := by
  refine returnsInHanded_of_change_and (C := Tryd.checked) (X := fun w _ => laidMetH Tryd.prog Rows.keysLabelsRow.laid w) (fun _ _ _ hh h => h.of_heap hh) ownK started (by kernel_rfl) Tryd.func4
    (ChangeSpec.witness_shaped (enc := enc) (C := Tryd.checked) (os := os) (X := fun w _ => laidMetH Tryd.prog Rows.keysLabelsRow.laid w) false (World.doorLaid Tryd.prog 4000 os) #[keyV [] (.slice none 0 0) [], keyV [] (.slice none 0 0) []] 8 rfl (World.shaped_of_RefB (by kernel_rfl) (by kernel_rfl)) (by kernel_rfl) (by kernel_rfl) (by kernel_rfl) (door_met os _)) ?_
  intro W base args ds gs before hval0 hW _ _ hL _
  have hval : ∀ (j : Nat) t v, Tryd.f4.params[j]? = some t → args[j]? = some v → Value.okWide Tryd.prog W .any base t v := hval0
  have hW' := hW
  obtain ⟨p, q, hA0, hV, rfl, hfz, hnd⟩ := hW
  have hA : DataW.TrodAll enc Tryd.prog W 0 (fun _ => true) true Tryd.f4.params.toList args.toList ds p := hA0
  rw [Tryd.params4] at hA hval
  obtain ⟨v0, v1, d0, d1, p0, p1, rfl, rfl, rfl, h0, h1⟩ := trodAll_two hA
  obtain ⟨rfl, rfl⟩ := trodVars_none hV
  have hw0 := hval 0 28 v0 rfl rfl
  have hw1 := hval 1 28 v1 rfl rfl
  obtain ⟨ka, pa, ba, la, rfl, hla⟩ := key_of hw0 h0
  obtain ⟨kb, pb, bb, lb, rfl, hlb⟩ := key_of hw1 h1
  clear hA0 hval0
  simp only [List.append_nil] at hW'
  have hG := keysG_of hL
  refine (keysLabels_spec (φ := fun b => W.heap[b]?) (φa := fun b => W.heap[b]?) (φb := fun b => W.heap[b]?) hG hla hlb W ⟨by simp, by simp only [List.mem_cons, List.not_mem_nil, or_false]; rintro φ (rfl | rfl | rfl) <;> exact fun b o h => h, List.Pairwise.nil, by simp⟩).mono fun e W' ⟨rs', fs', ⟨he, _, _⟩, hst⟩ => ?_
  subst he
  have hbe := hst.keep.below
  refine ⟨_, rfl, _, _, _, [], p0 ++ p1, [], hW', ?_, ?_, ?_, hbe.frame _, fun h => by cases h⟩
  · exact trodAll_mk1 (shut_bool Tryd.underlying4 true)
  · exact trodAll_mk2 (Below.trod laidOutK (by kernel_rfl) (of_decide_eq_true (by kernel_rfl)) h0 hbe fun x hx => hW'.lt x (by simp [hx])) (Below.trod laidOutK (by kernel_rfl) (of_decide_eq_true (by kernel_rfl)) h1 hbe fun x hx => hW'.lt x (by simp [hx]))
  · rfl

theorem keysLabels_row : Rows.KeysLabelsSaid :=
  OpenClaim.holds_of_wide 4 Tryd.f4 rfl rfl rfl rfl rfl rfl rfl ⟨rfl, rfl, rfl, rfl, rfl⟩ rfl rfl rfl rfl rfl (by kernel_rfl) Tryd.func4 (by kernel_rfl)
    (of_decide_eq_true (by kernel_rfl)) (by unfold Func.isWrapper; first | (rw [if_pos (by decide +kernel)]; kernel_rfl) | (rw [if_neg (by decide +kernel)]; exact ⟨rfl, rfl⟩))
    (fun os started H enc _ => labels_lifted os started H enc)

theorem keysLabels_holds : Rows.KeysLabelsCardSaid :=
  Claim7.holds_tied_plain_at .later [] [.data, .data, .mapped] true (true, "7ce527b63b6d9b64ba70215964cffa66f990704f8ed3aad88521c9acb8d03f6f") true
    keysLabels_row (fun _ h => by cases h) (by kernel_rfl) (fun _ h => by cases h) keysLabels_row_tie rfl ⟨rfl, rfl⟩ (by kernel_rfl) rfl
    (fun f fn hf hfn => by
      obtain rfl : f = 4 := Option.some.inj ((show Tryd.prog.funcNamed "cryptex/cryptexlaw14.KeysLabels" = some 4 by kernel_rfl).symm.trans hf) |>.symm
      obtain rfl : fn = Tryd.f4 := (Option.some.inj (Tryd.func4.symm.trans hfn)).symm
      exact ⟨by kernel_rfl, fun j t ht => by
        rw [Tryd.params4] at ht
        have hm : t ∈ [28, 28] := by simpa using Array.mem_of_getElem? ht
        have hall : ([28, 28].all fun u => !Tryd.prog.wantsStandIn u) = true := by kernel_rfl
        exact (show Tryd.prog.wantsStandIn t = false by simpa using List.all_eq_true.1 hall t hm)⟩)
    (by kernel_rfl)
end Go.Proofs.YtpnhedlciamegaaDoor
