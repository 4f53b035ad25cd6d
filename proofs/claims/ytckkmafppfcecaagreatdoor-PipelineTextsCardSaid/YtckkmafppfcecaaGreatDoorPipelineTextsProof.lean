/- The law 'PipelineTexts' of compactorlaw41: the row (its listed tables laid) and the tied card. (The frame: the kit's Derived/Test/DeepOkProofs.lean and ToyasCard.lean, turned.) -/
import Derived.Test.YtckkmafppfcecaaGreatDoorCards
import Derived.Test.YtckkmafppfcecaaGreatDoorTie
import Derived.Test.YtckkmafppfcecaaGreatDoorLy
import Derived.Test.YtckkmafppfcecaaGreatDoorZn
import Derived.Test.YtckkmafppfcecaaGreatDoorPipelineTextsFacts
import Derived.Deep.DeepHandedRow
import Derived.Deep.DeepWitnessRowRef
import Derived.ProofKit
import Derived.SizedLaws
import Derived.WalkKit
import Derived.OpenShut
import Derived.ShutString
import Derived.ChangeOld
import Derived.Below
import Derived.SliceStrings
import Derived.SevenTiedAt
namespace Go.Proofs.YtckkmafppfcecaaGreatDoor.pipelineTexts
open Go.ChangeShapes Go.WideShapes Go.ChangeAt Go.RowKit Go.Lib
open Go.ChangeMaps (open_string shut_string)
set_option linter.unusedVariables false

theorem own : ownKnob Tryz.prog.godebug = none := by kernel_rfl
theorem laidOut : laidOutB Tryz.prog = true := by kernel_rfl
theorem walk (A0 : Option Addr) (n0 c0 : Nat) (l0 : List Stg) (z1 : Int) (w : World) (hx0 : Stgs w A0 n0 c0 l0) (hm0 : n0 ≤ maxLen) (hz1 : 0 ≤ z1 ∧ z1 < 256) (hT : TabY w) :
    Calls Tryz.prog 9 #[.slice A0 n0 c0, .int .u8 z1] w fun e w' => e = .returned (.bool true) ∧ Below w.heap.size w w' := by
  exact pipelineTexts_any _ _ _ _ _ _ hx0 hm0 hz1 hT

theorem witness_row (os : Os) {H : Type} (enc : TypeId × Value → H) :
    (OpenSpec.ofChange Rows.pipelineTextsSpec).preRow enc Tryz.prog Tryz.f9 Rows.pipelineTextsRow.domain false Rows.pipelineTextsRow.laid ((laidWorldY os).forCall (fun _ _ => 0) ⟨#[], #[.slice none 0 0, .int .u8 0], []⟩).memory #[.slice none 0 0, .int .u8 0] := by
  have hw : (DataW.whole enc Tryz.prog ((laidWorldY os).forCall (fun _ _ => 0) ⟨#[], #[.slice none 0 0, .int .u8 0], []⟩).memory Tryz.f9.params.toList (OpenSpec.ofChange Rows.pipelineTextsSpec).vars false (#[.slice none 0 0, .int .u8 0] : Array Value).toList 8).map (fun x => (x.1, x.2.1)) =
      some ([.nil, .lit (.int .u8 0)], []) := by kernel_rfl
  obtain ⟨⟨x1, x2, x3⟩, hx, hx1⟩ := Option.map_eq_some_iff.1 hw
  simp only [Prod.mk.injEq] at hx1
  obtain ⟨rfl, rfl⟩ := hx1
  exact OpenSpec.preRow_of_cond 8 hx (by kernel_rfl) (fun k hk => by cases hk) (by kernel_rfl) (laid_metY os _)

set_option maxRecDepth 100000 in
set_option maxHeartbeats 2000000 in
theorem lifted (os : Os) (started : os.Started) (H : Type) (enc : TypeId × Value → H) (F : Stop.Interp) :
    ReturnsInHanded {} Tryz.checked os 9 .any ((OpenSpec.ofChange Rows.pipelineTextsSpec).preRow enc Tryz.prog Tryz.f9 Rows.pipelineTextsRow.domain false Rows.pipelineTextsRow.laid) (((OpenSpec.ofChange Rows.pipelineTextsSpec).at F).post enc Tryz.prog Tryz.f9 false true false false) := by
  refine returnsInHanded_of_row (C := Tryz.checked) (s := OpenSpec.ofChange Rows.pipelineTextsSpec) own started (by kernel_rfl) Tryz.func9
    (witness_row_atRef (enc := enc) (C := Tryz.checked) false (laidWorldY os) #[.slice none 0 0, .int .u8 0] rfl (by kernel_rfl) (by kernel_rfl) (by kernel_rfl) (witness_row os enc)) ?_
  intro W base args ds gs before hval0 hW _ _ _ hL hSh _
  have hval : ∀ (j : Nat) t v, Tryz.f9.params[j]? = some t → args[j]? = some v → Value.okWide Tryz.prog W .any base t v := hval0
  have hW' := hW
  obtain ⟨p, q, hA0, hV, rfl, _, _⟩ := hW
  have hA : DataW.TrodAll enc Tryz.prog W 0 (fun _ => true) true Tryz.f9.params.toList args.toList ds p := hA0
  rw [Tryz.params9] at hA hval
  obtain ⟨v0, vs0, e0, ds0, q0, r0, hargs, rfl, rfl, h0, t0⟩ := trodAll_cons hA
  obtain ⟨v1, vs1, e1, ds1, q1, r1, rfl, rfl, rfl, h1, t1⟩ := trodAll_cons t0
  obtain ⟨rfl, rfl, rfl⟩ := trodAll_nil t1
  obtain rfl : args = #[v0, v1] := by cases args; simp_all
  obtain ⟨rfl, rfl⟩ := trodVars_none hV
  have k0 := h0
  have lt0 : ∀ x ∈ q0, x.block < W.heap.size := by obtain ⟨m, hm⟩ := k0; exact DataW.trod_lt m _ _ _ hm
  obtain ⟨m0, hm0⟩ := h0
  obtain ⟨aw0, nw0, cw0, rfl⟩ := okWide_slice Tryz.underlying22 (hval 0 22 v0 rfl rfl)
  obtain ⟨A0, n0, c0, l0, hv0, hx0, hl0⟩ := stgs_of_trod (v := .slice aw0 nw0 cw0) hm0
  obtain ⟨rfl, rfl, rfl⟩ : aw0 = A0 ∧ nw0 = n0 ∧ cw0 = c0 := by injection hv0 with h1 h2 h3; exact ⟨h1, h2, h3⟩
  obtain ⟨z1, rfl, rfl, rfl, hw1⟩ := open_int Tryz.underlying5 (hval 1 5 v1 rfl rfl) h1
  have hz1 : 0 ≤ z1 ∧ z1 < 256 := by
    have h9 := hw1
    simp [Lit.wf, IntKind.min, IntKind.max, IntKind.bits, IntKind.signed] at h9
    omega
  clear hA0 hval0
  have hT : TabY W := tabY_of hL hSh
  refine (walk aw0 nw0 cw0 l0 z1 W hx0 hl0 hz1 hT).mono fun e W' ⟨he, bel⟩ => ?_
  subst he
  exact ⟨_, rfl, _, _, _, [], _, [], hW', trodAll_mk1 (shut_bool Tryz.underlying4 _), (trodAll_cons_mk (Below.trod laidOut (by kernel_rfl) (of_decide_eq_true (by kernel_rfl)) k0 bel lt0) (trodAll_cons_mk (shut_int Tryz.underlying5 hw1) trodAll_mk0)), rfl, bel.frame _, fun h => by cases h⟩

theorem row_holds : Rows.PipelineTextsSaid :=
  OpenClaim.holds_of_cond 9 Tryz.f9 rfl rfl rfl rfl rfl rfl rfl ⟨rfl, rfl, rfl, rfl, rfl⟩ rfl rfl rfl rfl rfl (by as_aux_lemma => kernel_rfl) Tryz.func9 closedT
    (of_decide_eq_true (by as_aux_lemma => kernel_rfl)) (by unfold Func.isWrapper; first | (rw [if_pos (by as_aux_lemma => decide +kernel)]; as_aux_lemma => kernel_rfl) | (rw [if_neg (by as_aux_lemma => decide +kernel)]; exact ⟨rfl, rfl⟩))
    (fun os started H enc _ F0 => by rw [OpenClaim.pre_eq_preRow]; exact lifted os started H enc F0)

theorem card_holds : Rows.PipelineTextsCardSaid :=
  Claim7.holds_tied_plain_at .later [] [.data, .data, .data, .data, .sentinel, .sentinel, .pinned] true (true, "7ac5f7760a162aaf2b8bed3022245ed204f83131ea36e4a4123493497578975b") true
    row_holds (fun _ h => by cases h) (by as_aux_lemma => kernel_rfl) (fun _ h => by cases h) pipelineTexts_row_tie rfl ⟨rfl, rfl⟩ (by as_aux_lemma => kernel_rfl) rfl
    (fun f fn hf hfn => by
      obtain rfl : f = 9 := Option.some.inj ((show Tryz.prog.funcNamed "compactor/compactorlaw41.PipelineTexts" = some 9 by as_aux_lemma => kernel_rfl).symm.trans hf) |>.symm
      obtain rfl : fn = Tryz.f9 := (Option.some.inj (Tryz.func9.symm.trans hfn)).symm
      exact ⟨by as_aux_lemma => kernel_rfl, fun j t ht => by
        rw [Tryz.params9] at ht
        rcases j with _ | _ | j
        · obtain rfl : t = 22 := by simpa using ht.symm
          exact (show Tryz.prog.wantsStandIn 22 = false by as_aux_lemma => kernel_rfl)
        · obtain rfl : t = 5 := by simpa using ht.symm
          exact (show Tryz.prog.wantsStandIn 5 = false by as_aux_lemma => kernel_rfl)
        · simp at ht⟩)
    (by as_aux_lemma => kernel_rfl)
end Go.Proofs.YtckkmafppfcecaaGreatDoor.pipelineTexts

namespace Go.Proofs.YtckkmafppfcecaaGreatDoor
theorem pipelineTexts_holds : Rows.PipelineTextsCardSaid := pipelineTexts.card_holds
#print axioms pipelineTexts_holds
end Go.Proofs.YtckkmafppfcecaaGreatDoor
