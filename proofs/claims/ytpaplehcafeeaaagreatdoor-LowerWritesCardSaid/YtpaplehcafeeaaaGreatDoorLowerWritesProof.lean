/- The law, its row and its card. -/
import Derived.Test.YtpaplehcafeeaaaGreatDoorCards
import Derived.Test.YtpaplehcafeeaaaGreatDoorTie
import Derived.Test.YtpaplehcafeeaaaGreatDoorLE39
import Derived.Test.YtpaplehcafeeaaaGreatDoorLE40
import Derived.Test.YtpaplehcafeeaaaGreatDoorLE41
import Derived.Deep.DeepHandedRow
import Derived.Deep.DeepWitnessRowRef
import Derived.ProofKit
import Derived.SizedLaws
import Derived.WalkKit
import Derived.OpenShut
import Derived.ShutString
import Derived.ChangeOld
import Derived.Below
import Derived.SliceStrings
import Derived.SevenTiedAt
set_option maxRecDepth 100000
set_option maxHeartbeats 40000000
set_option linter.unusedVariables false
set_option linter.unusedSimpArgs false
namespace Go.Proofs.YtpaplehcafeeaaaGreatDoor.lowerWrites
open Go.ChangeShapes Go.WideShapes Go.ChangeAt Go.RowKit Go.Lib
open Go.ChangeMaps (open_string shut_string)
theorem own:ownKnob Tryz.prog.godebug=none:=by kernel_rfl
theorem laidOut:laidOutB Tryz.prog=true:=by kernel_rfl
theorem walk(A0:Option Addr)(n0 c0:Nat)(L0:Int)(B0:Option Addr)(m0 d0:Nat)(p0:Prg)(w:World)(hx0:Progs w A0 n0 c0 L0 B0 m0 d0 p0)(hT:TabE w) :
  Calls Tryz.prog 6 #[.agg #[.slice A0 n0 c0,.int .i64 L0,.slice B0 m0 d0]] w fun e w'=>e=.returned (.bool true)∧Below w.heap.size w w':=by
 exact writes_any A0 B0 n0 c0 m0 d0 L0 p0 w hx0 hT
theorem witness_row(os:Os){H:Type}(enc:TypeId × Value→H) :
  (OpenSpec.ofChange Rows.lowerWritesSpec).preRow enc Tryz.prog Tryz.f6 Rows.lowerWritesRow.domain false Rows.lowerWritesRow.laid ((laidWorldE os).forCall (fun _ _=>0) ⟨#[],#[.agg #[.slice none 0 0,.int .i64 0,.slice none 0 0]],[]⟩).memory #[.agg #[.slice none 0 0,.int .i64 0,.slice none 0 0]]:=by
 have hw:(DataW.whole enc Tryz.prog ((laidWorldE os).forCall (fun _ _=>0) ⟨#[],#[.agg #[.slice none 0 0,.int .i64 0,.slice none 0 0]],[]⟩).memory Tryz.f6.params.toList (OpenSpec.ofChange Rows.lowerWritesSpec).vars false (#[.agg #[.slice none 0 0,.int .i64 0,.slice none 0 0]]:Array Value).toList 8).map (fun x=>(x.1,x.2.1)) =
   some ([.agg [.nil,.lit (.int .i64 0),.nil]],[]):=by kernel_rfl
 obtain⟨⟨x1,x2,x3⟩,hx,hx1⟩:=Option.map_eq_some_iff.1 hw
 simp only [Prod.mk.injEq] at hx1
 obtain⟨rfl,rfl⟩:=hx1
 exact OpenSpec.preRow_of_cond 8 hx (by kernel_rfl) (fun k hk=>by cases hk) (by kernel_rfl) (laid_metE os _)
theorem lifted(os:Os)(started:os.Started)(H:Type)(enc:TypeId × Value→H)(F:Stop.Interp) :
  ReturnsInHanded {} Tryz.checked os 6 .any ((OpenSpec.ofChange Rows.lowerWritesSpec).preRow enc Tryz.prog Tryz.f6 Rows.lowerWritesRow.domain false Rows.lowerWritesRow.laid) (((OpenSpec.ofChange Rows.lowerWritesSpec).at F).post enc Tryz.prog Tryz.f6 false true false false):=by
 refine returnsInHanded_of_row (C:=Tryz.checked) (s:=OpenSpec.ofChange Rows.lowerWritesSpec) own started (by kernel_rfl) Tryz.func6
  (witness_row_atRef (enc:=enc) (C:=Tryz.checked) false (laidWorldE os) #[.agg #[.slice none 0 0,.int .i64 0,.slice none 0 0]] rfl (by kernel_rfl) (by kernel_rfl) (by kernel_rfl) (witness_row os enc)) ?_
 intro W base args ds gs before hval0 hW _ _ _ hL hSh _
 have hval:∀ (j:Nat) t v,Tryz.f6.params[j]?=some t→args[j]?=some v→Value.okWide Tryz.prog W .any base t v:=hval0
 have hW':=hW
 obtain⟨p,q,hA0,hV,rfl,_,_⟩:=hW
 have hA:DataW.TrodAll enc Tryz.prog W 0 (fun _=>true) true Tryz.f6.params.toList args.toList ds p:=hA0
 rw [Tryz.params6] at hA hval
 obtain⟨v0,vs0,e0,ds0,q0,r0,hargs,rfl,rfl,h0,t0⟩:=trodAll_cons hA
 obtain⟨rfl,rfl,rfl⟩:=trodAll_nil t0
 obtain rfl:args=#[v0]:=by cases args;simp_all
 obtain⟨rfl,rfl⟩:=trodVars_none hV
 have k0:=h0
 have lt0:∀ x∈q0,x.block < W.heap.size:=by obtain⟨m,hm⟩:=k0;exact DataW.trod_lt m _ _ _ hm
 obtain⟨A0,n0,c0,L0,B0,m0,d0,p0,rfl,hx0⟩:=progs_of_trod (hval 0 25 v0 rfl rfl) h0
 clear hA0 hval0
 have hT:TabE W:=tabE_of (show laidMet Tryz.prog laidE W from hL)
 refine (walk A0 n0 c0 L0 B0 m0 d0 p0 W hx0 hT).mono fun e W' ⟨he,bel⟩=>?_
 subst he
 exact⟨_,rfl,_,_,_,[],_,[],hW',trodAll_mk1 (shut_bool Tryz.underlying4 _),(trodAll_cons_mk (Below.trod laidOut (by kernel_rfl) (of_decide_eq_true (by kernel_rfl)) k0 bel lt0) trodAll_mk0),rfl,bel.frame _,fun h=>by cases h⟩
theorem row_holds:Rows.LowerWritesSaid:=
 OpenClaim.holds_of_cond 6 Tryz.f6 rfl rfl rfl rfl rfl rfl rfl ⟨rfl,rfl,rfl,rfl,rfl⟩ rfl rfl rfl rfl rfl (by as_aux_lemma=>kernel_rfl) Tryz.func6 closedT
  (of_decide_eq_true (by as_aux_lemma=>kernel_rfl)) (by unfold Func.isWrapper;first | (rw [if_pos (by as_aux_lemma=>decide +kernel)];as_aux_lemma=>kernel_rfl) | (rw [if_neg (by as_aux_lemma=>decide +kernel)];exact⟨rfl,rfl⟩))
  (fun os started H enc _ F0=>by rw [OpenClaim.pre_eq_preRow];exact lifted os started H enc F0)
theorem card_holds:Rows.LowerWritesCardSaid:=
 Claim7.holds_tied_plain_at .later [] [.data,.data,.data,.sentinel,.sentinel] true (true, "c1d7870a88feca5f0fd918c885a2bd2ca670cf5c2573bcbea95a8df169a0fdca") true
  row_holds (fun _ h=>by cases h) (by as_aux_lemma=>kernel_rfl) (fun _ h=>by cases h) lowerWrites_row_tie rfl ⟨rfl,rfl⟩ (by as_aux_lemma=>kernel_rfl) rfl
  (fun f fn hf hfn=>by
   obtain rfl:f=6:=Option.some.inj ((show Tryz.prog.funcNamed "compactor/compactorlaw23.LowerWrites" = some 6 by as_aux_lemma=>kernel_rfl).symm.trans hf) |>.symm
   obtain rfl:fn=Tryz.f6:=(Option.some.inj (Tryz.func6.symm.trans hfn)).symm
   exact⟨by as_aux_lemma=>kernel_rfl,fun j t ht=>by
    rw [Tryz.params6] at ht
    rcases j with _ | j
    ·obtain rfl:t=25:=by simpa using ht.symm
     exact (show Tryz.prog.wantsStandIn 25=false by kernel_rfl)
    ·simp at ht⟩)
  (by as_aux_lemma=>kernel_rfl)
end Go.Proofs.YtpaplehcafeeaaaGreatDoor.lowerWrites
namespace Go.Proofs.YtpaplehcafeeaaaGreatDoor
theorem lowerWrites_holds:Rows.LowerWritesCardSaid:=lowerWrites.card_holds
end Go.Proofs.YtpaplehcafeeaaaGreatDoor
