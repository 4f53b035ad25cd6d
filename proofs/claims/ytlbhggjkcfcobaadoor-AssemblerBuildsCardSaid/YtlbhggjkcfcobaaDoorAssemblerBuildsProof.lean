/- The law 'AssemblerBuilds' of compactorlaw16: the row (its listed tables laid) and the tied card. (The frame: the kit's Derived/Test/DeepOkProofs.lean and ToyasCard.lean, turned.) -/
import Derived.Test.YtlbhggjkcfcobaaDoorCards
import Derived.Test.YtlbhggjkcfcobaaDoorTie
import Derived.Test.YtlbhggjkcfcobaaDoorJn
import Derived.Test.YtlbhggjkcfcobaaDoorJm
import Derived.Deep.DeepHandedRow
import Derived.Deep.DeepWitnessRowRef
import Derived.ProofKit
import Derived.SizedLaws
import Derived.WalkKit
import Derived.OpenShut
import Derived.ShutString
import Derived.ChangeOld
import Derived.Below
import Derived.SliceStrings
import Derived.SevenTiedAt
namespace Go.Proofs.YtlbhggjkcfcobaaDoor.assemblerBuilds
open Go.ChangeShapes Go.WideShapes Go.ChangeAt Go.RowKit Go.Lib
open Go.ChangeMaps (open_string shut_string)
set_option linter.unusedVariables false

theorem own : ownKnob Tryd.prog.godebug = none := by kernel_rfl
theorem laidOut : laidOutB Tryd.prog = true := by kernel_rfl
theorem walk (A0 : Option Addr) (n0 c0 : Nat) (l0 : List UInt8) (z1 : Int) (A2 : Option Addr) (n2 c2 : Nat) (l2 : List It) (w : World) (hx0 : Bytes w A0 n0 c0 l0) (hm0 : n0 ≤ maxLen) (hz1 : 0 ≤ z1 ∧ z1 < 256) (hx2 : ItemsM w A2 n2 c2 l2) (hm2 : n2 ≤ maxLen) (hT : TabB w) :
    Calls Tryd.prog 7 #[.slice A0 n0 c0, .int .u8 z1, .slice A2 n2 c2] w fun e w' => e = .returned (.bool true) ∧ Below w.heap.size w w' := by
  obtain ⟨lv, rfl⟩ : ∃ lv : Nat, z1 = (lv : Int) := ⟨z1.toNat, (Int.toNat_of_nonneg hz1.1).symm⟩
  exact builds_any A0 n0 c0 l0 lv A2 n2 c2 l2 w hx0 (by omega) hx2 (by have : maxLen < 9223372036854775808 := (by decide); omega) (by have : maxLen < 9223372036854775808 := (by decide); omega) hT.1 hT.2.1 hT.2.2

theorem witness_row (os : Os) {H : Type} (enc : TypeId × Value → H) :
    (OpenSpec.ofChange Rows.assemblerBuildsSpec).preRow enc Tryd.prog Tryd.f7 Rows.assemblerBuildsRow.domain false Rows.assemblerBuildsRow.laid ((laidWorldE os).forCall (fun _ _ => 0) ⟨#[], #[.slice none 0 0, .int .u8 0, .slice none 0 0], []⟩).memory #[.slice none 0 0, .int .u8 0, .slice none 0 0] := by
  have hw : (DataW.whole enc Tryd.prog ((laidWorldE os).forCall (fun _ _ => 0) ⟨#[], #[.slice none 0 0, .int .u8 0, .slice none 0 0], []⟩).memory Tryd.f7.params.toList (OpenSpec.ofChange Rows.assemblerBuildsSpec).vars false (#[.slice none 0 0, .int .u8 0, .slice none 0 0] : Array Value).toList 8).map (fun x => (x.1, x.2.1)) =
      some ([.nil, .lit (.int .u8 0), .nil], []) := by kernel_rfl
  obtain ⟨⟨x1, x2, x3⟩, hx, hx1⟩ := Option.map_eq_some_iff.1 hw
  simp only [Prod.mk.injEq] at hx1
  obtain ⟨rfl, rfl⟩ := hx1
  exact OpenSpec.preRow_of_cond 8 hx (by kernel_rfl) (fun k hk => by cases hk) (by kernel_rfl) (laid_metE os _)

set_option maxRecDepth 100000 in
set_option maxHeartbeats 2000000 in
theorem lifted (os : Os) (started : os.Started) (H : Type) (enc : TypeId × Value → H) (F : Stop.Interp) :
    ReturnsInHanded {} Tryd.checked os 7 .any ((OpenSpec.ofChange Rows.assemblerBuildsSpec).preRow enc Tryd.prog Tryd.f7 Rows.assemblerBuildsRow.domain false Rows.assemblerBuildsRow.laid) (((OpenSpec.ofChange Rows.assemblerBuildsSpec).at F).post enc Tryd.prog Tryd.f7 false true false false) := by
  refine returnsInHanded_of_row (C := Tryd.checked) (s := OpenSpec.ofChange Rows.assemblerBuildsSpec) own started (by kernel_rfl) Tryd.func7
    (witness_row_atRef (enc := enc) (C := Tryd.checked) false (laidWorldE os) #[.slice none 0 0, .int .u8 0, .slice none 0 0] rfl (by kernel_rfl) (by kernel_rfl) (by kernel_rfl) (witness_row os enc)) ?_
  intro W base args ds gs before hval0 hW _ _ _ hL hSh _
  have hval : ∀ (j : Nat) t v, Tryd.f7.params[j]? = some t → args[j]? = some v → Value.okWide Tryd.prog W .any base t v := hval0
  have hW' := hW
  obtain ⟨p, q, hA0, hV, rfl, _, _⟩ := hW
  have hA : DataW.TrodAll enc Tryd.prog W 0 (fun _ => true) true Tryd.f7.params.toList args.toList ds p := hA0
  rw [Tryd.params7] at hA hval
  obtain ⟨v0, vs0, e0, ds0, q0, r0, hargs, rfl, rfl, h0, t0⟩ := trodAll_cons hA
  obtain ⟨v1, vs1, e1, ds1, q1, r1, rfl, rfl, rfl, h1, t1⟩ := trodAll_cons t0
  obtain ⟨v2, vs2, e2, ds2, q2, r2, rfl, rfl, rfl, h2, t2⟩ := trodAll_cons t1
  obtain ⟨rfl, rfl, rfl⟩ := trodAll_nil t2
  obtain rfl : args = #[v0, v1, v2] := by cases args; simp_all
  obtain ⟨rfl, rfl⟩ := trodVars_none hV
  have k0 := h0
  have lt0 : ∀ x ∈ q0, x.block < W.heap.size := by obtain ⟨m, hm⟩ := k0; exact DataW.trod_lt m _ _ _ hm
  obtain ⟨m0, hm0⟩ := h0
  obtain ⟨aw0, nw0, cw0, rfl⟩ := okWide_slice Tryd.underlying41 (hval 0 41 v0 rfl rfl)
  obtain ⟨A0, n0, c0, l0, hv0, hx0, hl0⟩ := bytes_of_trod (v := .slice aw0 nw0 cw0) hm0
  obtain ⟨rfl, rfl, rfl⟩ : aw0 = A0 ∧ nw0 = n0 ∧ cw0 = c0 := by injection hv0 with h1 h2 h3; exact ⟨h1, h2, h3⟩
  obtain ⟨z1, rfl, rfl, rfl, hw1⟩ := open_int Tryd.underlying5 (hval 1 5 v1 rfl rfl) h1
  have hz1 : 0 ≤ z1 ∧ z1 < 256 := by
    have h9 := hw1
    simp [Lit.wf, IntKind.min, IntKind.max, IntKind.bits, IntKind.signed] at h9
    omega
  have k2 := h2
  have lt2 : ∀ x ∈ q2, x.block < W.heap.size := by obtain ⟨m, hm⟩ := k2; exact DataW.trod_lt m _ _ _ hm
  obtain ⟨m2, hm2⟩ := h2
  obtain ⟨aw2, nw2, cw2, rfl⟩ := okWide_slice Tryd.underlying42 (hval 2 42 v2 rfl rfl)
  obtain ⟨A2, n2, c2, l2, hv2, hx2, hl2⟩ := items_of_trod (v := .slice aw2 nw2 cw2) hm2
  obtain ⟨rfl, rfl, rfl⟩ : aw2 = A2 ∧ nw2 = n2 ∧ cw2 = c2 := by injection hv2 with h1 h2 h3; exact ⟨h1, h2, h3⟩
  clear hA0 hval0
  have hT : TabB W := tabB_of (show laidMet Tryd.prog laidE W from hL)
  refine (walk aw0 nw0 cw0 l0 z1 aw2 nw2 cw2 l2 W hx0 hl0 hz1 hx2 hl2 hT).mono fun e W' ⟨he, bel⟩ => ?_
  subst he
  exact ⟨_, rfl, _, _, _, [], _, [], hW', trodAll_mk1 (shut_bool Tryd.underlying4 _), (trodAll_cons_mk (Below.trod laidOut (by kernel_rfl) (of_decide_eq_true (by kernel_rfl)) k0 bel lt0) (trodAll_cons_mk (shut_int Tryd.underlying5 hw1) (trodAll_cons_mk (Below.trod laidOut (by kernel_rfl) (of_decide_eq_true (by kernel_rfl)) k2 bel lt2) trodAll_mk0))), rfl, bel.frame _, fun h => by cases h⟩

theorem row_holds : Rows.AssemblerBuildsSaid :=
  OpenClaim.holds_of_cond 7 Tryd.f7 rfl rfl rfl rfl rfl rfl rfl ⟨rfl, rfl, rfl, rfl, rfl⟩ rfl rfl rfl rfl rfl (by kernel_rfl) Tryd.func7 (by kernel_rfl)
    (of_decide_eq_true (by kernel_rfl)) (by unfold Func.isWrapper; first | (rw [if_pos (by decide +kernel)]; kernel_rfl) | (rw [if_neg (by decide +kernel)]; exact ⟨rfl, rfl⟩))
    (fun os started H enc _ F0 => by rw [OpenClaim.pre_eq_preRow]; exact lifted os started H enc F0)

theorem card_holds : Rows.AssemblerBuildsCardSaid :=
  Claim7.holds_tied_plain_at .later [] [.data, .data, .data, .sentinel, .sentinel] true (true, "424d4ed5acc8afcf024c8db71c6f7d654622af03ca214787a60bfd3d3576e176") true
    row_holds (fun _ h => by cases h) (by kernel_rfl) (fun _ h => by cases h) assemblerBuilds_row_tie rfl ⟨rfl, rfl⟩ (by kernel_rfl) rfl
    (fun f fn hf hfn => by
      obtain rfl : f = 7 := Option.some.inj ((show Tryd.prog.funcNamed "compactor/compactorlaw16.AssemblerBuilds" = some 7 by kernel_rfl).symm.trans hf) |>.symm
      obtain rfl : fn = Tryd.f7 := (Option.some.inj (Tryd.func7.symm.trans hfn)).symm
      exact ⟨by kernel_rfl, fun j t ht => by
        rw [Tryd.params7] at ht
        rcases j with _ | _ | _ | j
        · obtain rfl : t = 41 := by simpa using ht.symm
          exact (show Tryd.prog.wantsStandIn 41 = false by kernel_rfl)
        · obtain rfl : t = 5 := by simpa using ht.symm
          exact (show Tryd.prog.wantsStandIn 5 = false by kernel_rfl)
        · obtain rfl : t = 42 := by simpa using ht.symm
          exact (show Tryd.prog.wantsStandIn 42 = false by kernel_rfl)
        · simp at ht⟩)
    (by kernel_rfl)
end Go.Proofs.YtlbhggjkcfcobaaDoor.assemblerBuilds

namespace Go.Proofs.YtlbhggjkcfcobaaDoor
theorem assemblerBuilds_holds : Rows.AssemblerBuildsCardSaid := assemblerBuilds.card_holds
#print axioms assemblerBuilds_holds
end Go.Proofs.YtlbhggjkcfcobaaDoor
