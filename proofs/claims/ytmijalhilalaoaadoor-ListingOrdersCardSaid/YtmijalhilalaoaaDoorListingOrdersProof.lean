/- The law 'ListingOrders' of compactorlaw17: the row (its listed tables laid) and the tied card. (The frame: the kit's Derived/Test/DeepOkProofs.lean and ToyasCard.lean, turned.) -/
import Derived.Test.YtmijalhilalaoaaDoorCards
import Derived.Test.YtmijalhilalaoaaDoorTie
import Derived.Test.YtmijalhilalaoaaDoorTp
import Derived.Test.YtmijalhilalaoaaDoorTw
import Derived.Deep.DeepHandedRow
import Derived.Deep.DeepWitnessRowRef
import Derived.ProofKit
import Derived.SizedLaws
import Derived.WalkKit
import Derived.OpenShut
import Derived.ShutString
import Derived.ChangeOld
import Derived.Below
import Derived.SliceStrings
import Derived.SevenTiedAt
namespace Go.Proofs.YtmijalhilalaoaaDoor.listingOrders
open Go.ChangeShapes Go.WideShapes Go.ChangeAt Go.RowKit Go.Lib
open Go.ChangeMaps (open_string shut_string)
set_option linter.unusedVariables false

theorem own : ownKnob Tryd.prog.godebug = none := by kernel_rfl
theorem laidOut : laidOutB Tryd.prog = true := by kernel_rfl
theorem walk (A0 : Option Addr) (n0 c0 : Nat) (L0 : Int) (B0 : Option Addr) (m0 d0 : Nat) (p0 : Prg) (A1 : Option Addr) (n1 c1 : Nat) (L1 : Int) (B1 : Option Addr) (m1 d1 : Nat) (p1 : Prg) (w : World) (hx0 : Progs w A0 n0 c0 L0 B0 m0 d0 p0) (hx1 : Progs w A1 n1 c1 L1 B1 m1 d1 p1) (hT : TabI w) :
    Calls Tryd.prog 6 #[.agg #[.slice A0 n0 c0, .int .i64 L0, .slice B0 m0 d0], .agg #[.slice A1 n1 c1, .int .i64 L1, .slice B1 m1 d1]] w fun e w' => e = .returned (.bool true) ∧ Below w.heap.size w w' := by
  exact listingOrders_any A0 B0 n0 c0 m0 d0 L0 A1 B1 n1 c1 m1 d1 L1 p0 p1 w hx0 hx1 hT

theorem witness_row (os : Os) {H : Type} (enc : TypeId × Value → H) :
    (OpenSpec.ofChange Rows.listingOrdersSpec).preRow enc Tryd.prog Tryd.f6 Rows.listingOrdersRow.domain false Rows.listingOrdersRow.laid ((laidWorldI os).forCall (fun _ _ => 0) ⟨#[], #[.agg #[.slice none 0 0, .int .i64 0, .slice none 0 0], .agg #[.slice none 0 0, .int .i64 0, .slice none 0 0]], []⟩).memory #[.agg #[.slice none 0 0, .int .i64 0, .slice none 0 0], .agg #[.slice none 0 0, .int .i64 0, .slice none 0 0]] := by
  have hw : (DataW.whole enc Tryd.prog ((laidWorldI os).forCall (fun _ _ => 0) ⟨#[], #[.agg #[.slice none 0 0, .int .i64 0, .slice none 0 0], .agg #[.slice none 0 0, .int .i64 0, .slice none 0 0]], []⟩).memory Tryd.f6.params.toList (OpenSpec.ofChange Rows.listingOrdersSpec).vars false (#[.agg #[.slice none 0 0, .int .i64 0, .slice none 0 0], .agg #[.slice none 0 0, .int .i64 0, .slice none 0 0]] : Array Value).toList 8).map (fun x => (x.1, x.2.1)) =
      some ([.agg [.nil, .lit (.int .i64 0), .nil], .agg [.nil, .lit (.int .i64 0), .nil]], []) := by kernel_rfl
  obtain ⟨⟨x1, x2, x3⟩, hx, hx1⟩ := Option.map_eq_some_iff.1 hw
  simp only [Prod.mk.injEq] at hx1
  obtain ⟨rfl, rfl⟩ := hx1
  exact OpenSpec.preRow_of_cond 8 hx (by kernel_rfl) (fun k hk => by cases hk) (by kernel_rfl) (laid_metI os _)

set_option maxRecDepth 100000 in
set_option maxHeartbeats 2000000 in
theorem lifted (os : Os) (started : os.Started) (H : Type) (enc : TypeId × Value → H) (F : Stop.Interp) :
    ReturnsInHanded {} Tryd.checked os 6 .any ((OpenSpec.ofChange Rows.listingOrdersSpec).preRow enc Tryd.prog Tryd.f6 Rows.listingOrdersRow.domain false Rows.listingOrdersRow.laid) (((OpenSpec.ofChange Rows.listingOrdersSpec).at F).post enc Tryd.prog Tryd.f6 false true false false) := by
  refine returnsInHanded_of_row (C := Tryd.checked) (s := OpenSpec.ofChange Rows.listingOrdersSpec) own started (by kernel_rfl) Tryd.func6
    (witness_row_atRef (enc := enc) (C := Tryd.checked) false (laidWorldI os) #[.agg #[.slice none 0 0, .int .i64 0, .slice none 0 0], .agg #[.slice none 0 0, .int .i64 0, .slice none 0 0]] rfl (by kernel_rfl) (by kernel_rfl) (by kernel_rfl) (witness_row os enc)) ?_
  intro W base args ds gs before hval0 hW _ _ _ hL hSh _
  have hval : ∀ (j : Nat) t v, Tryd.f6.params[j]? = some t → args[j]? = some v → Value.okWide Tryd.prog W .any base t v := hval0
  have hW' := hW
  obtain ⟨p, q, hA0, hV, rfl, _, _⟩ := hW
  have hA : DataW.TrodAll enc Tryd.prog W 0 (fun _ => true) true Tryd.f6.params.toList args.toList ds p := hA0
  rw [Tryd.params6] at hA hval
  obtain ⟨v0, vs0, e0, ds0, q0, r0, hargs, rfl, rfl, h0, t0⟩ := trodAll_cons hA
  obtain ⟨v1, vs1, e1, ds1, q1, r1, rfl, rfl, rfl, h1, t1⟩ := trodAll_cons t0
  obtain ⟨rfl, rfl, rfl⟩ := trodAll_nil t1
  obtain rfl : args = #[v0, v1] := by cases args; simp_all
  obtain ⟨rfl, rfl⟩ := trodVars_none hV
  have k0 := h0
  have lt0 : ∀ x ∈ q0, x.block < W.heap.size := by obtain ⟨m, hm⟩ := k0; exact DataW.trod_lt m _ _ _ hm
  obtain ⟨A0, n0, c0, L0, B0, m0, d0, p0, rfl, hx0⟩ := progs_of_trod (hval 0 25 v0 rfl rfl) h0
  have k1 := h1
  have lt1 : ∀ x ∈ q1, x.block < W.heap.size := by obtain ⟨m, hm⟩ := k1; exact DataW.trod_lt m _ _ _ hm
  obtain ⟨A1, n1, c1, L1, B1, m1, d1, p1, rfl, hx1⟩ := progs_of_trod (hval 1 25 v1 rfl rfl) h1
  clear hA0 hval0
  have hT : TabI W := tabI_of (show laidMet Tryd.prog laidI W from hL)
  refine (walk A0 n0 c0 L0 B0 m0 d0 p0 A1 n1 c1 L1 B1 m1 d1 p1 W hx0 hx1 hT).mono fun e W' ⟨he, bel⟩ => ?_
  subst he
  exact ⟨_, rfl, _, _, _, [], _, [], hW', trodAll_mk1 (shut_bool Tryd.underlying4 _), (trodAll_cons_mk (Below.trod laidOut (by kernel_rfl) (of_decide_eq_true (by kernel_rfl)) k0 bel lt0) (trodAll_cons_mk (Below.trod laidOut (by kernel_rfl) (of_decide_eq_true (by kernel_rfl)) k1 bel lt1) trodAll_mk0)), rfl, bel.frame _, fun h => by cases h⟩

theorem row_holds : Rows.ListingOrdersSaid :=
  OpenClaim.holds_of_cond 6 Tryd.f6 rfl rfl rfl rfl rfl rfl rfl ⟨rfl, rfl, rfl, rfl, rfl⟩ rfl rfl rfl rfl rfl (by kernel_rfl) Tryd.func6 (by kernel_rfl)
    (of_decide_eq_true (by kernel_rfl)) (by unfold Func.isWrapper; first | (rw [if_pos (by decide +kernel)]; kernel_rfl) | (rw [if_neg (by decide +kernel)]; exact ⟨rfl, rfl⟩))
    (fun os started H enc _ F0 => by rw [OpenClaim.pre_eq_preRow]; exact lifted os started H enc F0)

theorem card_holds : Rows.ListingOrdersCardSaid :=
  Claim7.holds_tied_plain_at .later [] [.data, .data, .data] true (true, "799c3c47551f81f41022e26d926050359f28c608a8a01daaa7ebd55409e3d299") false
    row_holds (fun _ h => by cases h) (by kernel_rfl) (fun _ h => by cases h) listingOrders_row_tie rfl ⟨rfl, rfl⟩ (by kernel_rfl) rfl
    (fun f fn hf hfn => by
      obtain rfl : f = 6 := Option.some.inj ((show Tryd.prog.funcNamed "compactor/compactorlaw17.ListingOrders" = some 6 by kernel_rfl).symm.trans hf) |>.symm
      obtain rfl : fn = Tryd.f6 := (Option.some.inj (Tryd.func6.symm.trans hfn)).symm
      exact ⟨by kernel_rfl, fun j t ht => by
        rw [Tryd.params6] at ht
        have h3 : t = 25 ∨ t = 3 := by
          rcases j with _ | _ | j
          · exact .inl (by simpa using ht.symm)
          · exact .inl (by simpa using ht.symm)
          · simp at ht
        rcases h3 with rfl | rfl
        · exact (show Tryd.prog.wantsStandIn 25 = false by kernel_rfl)
        · exact (show Tryd.prog.wantsStandIn 3 = false by kernel_rfl)⟩)
    (by kernel_rfl)
end Go.Proofs.YtmijalhilalaoaaDoor.listingOrders

namespace Go.Proofs.YtmijalhilalaoaaDoor
theorem listingOrders_holds : Rows.ListingOrdersCardSaid := listingOrders.card_holds
#print axioms listingOrders_holds
end Go.Proofs.YtmijalhilalaoaaDoor
