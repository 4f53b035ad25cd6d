/- The law, its row and its card. -/
import Derived.Test.YtpaplehcafeeaaaGreatDoorCards
import Derived.Test.YtpaplehcafeeaaaGreatDoorTie
import Derived.Test.YtpaplehcafeeaaaGreatDoorLE39
import Derived.Test.YtpaplehcafeeaaaGreatDoorLE40
import Derived.Test.YtpaplehcafeeaaaGreatDoorLE42
import Derived.Test.YtpaplehcafeeaaaGreatDoorLE41
import Derived.Deep.DeepHandedRow
import Derived.Deep.DeepWitnessRowRef
import Derived.ProofKit
import Derived.SizedLaws
import Derived.WalkKit
import Derived.OpenShut
import Derived.ShutString
import Derived.ChangeOld
import Derived.Below
import Derived.SliceStrings
import Derived.SevenTiedAt
set_option maxRecDepth 100000
set_option maxHeartbeats 40000000
set_option linter.unusedVariables false
set_option linter.unusedSimpArgs false
namespace Go.Proofs.YtpaplehcafeeaaaGreatDoor.lowerCompares
open Go.ChangeShapes Go.WideShapes Go.ChangeAt Go.RowKit Go.Lib
open Go.ChangeMaps (open_string shut_string)
theorem own:ownKnob Tryz.prog.godebug=none:=by kernel_rfl
theorem laidOut:laidOutB Tryz.prog=true:=by kernel_rfl
theorem walk(A0:Option Addr)(n0 c0:Nat)(B0:Option Addr)(m0 d0:Nat)(x0:CC)(A1:Option Addr)(n1 c1:Nat)(B1:Option Addr)(m1 d1:Nat)(x1:CC)(i2:RI)(w:World)(hx0:CodeM w A0 n0 c0 B0 m0 d0 x0)(hx1:CodeM w A1 n1 c1 B1 m1 d1 x1)(hT:TabE w) :
  Calls Tryz.prog 7 #[ccV A0 n0 c0 x0.regs x0.spl B0 m0 d0,ccV A1 n1 c1 x1.regs x1.spl B1 m1 d1,riV i2] w fun e w'=>e=.returned (.bool true)∧Below w.heap.size w w':=by
 exact compares_any A0 B0 n0 c0 m0 d0 A1 B1 n1 c1 m1 d1 x0 x1 i2 w hx0 hx1 hT
theorem witness_row(os:Os){H:Type}(enc:TypeId × Value→H) :
  (OpenSpec.ofChange Rows.lowerComparesSpec).preRow enc Tryz.prog Tryz.f7 Rows.lowerComparesRow.domain false Rows.lowerComparesRow.laid ((laidWorldE os).forCall (fun _ _=>0) ⟨#[],#[.agg #[.slice none 0 0,.int .i64 0,.int .i64 0,.slice none 0 0],.agg #[.slice none 0 0,.int .i64 0,.int .i64 0,.slice none 0 0],.agg #[.int .i64 0,.int .i64 0,.int .i64 0,.int .i64 0,.int .u32 0]],[]⟩).memory #[.agg #[.slice none 0 0,.int .i64 0,.int .i64 0,.slice none 0 0],.agg #[.slice none 0 0,.int .i64 0,.int .i64 0,.slice none 0 0],.agg #[.int .i64 0,.int .i64 0,.int .i64 0,.int .i64 0,.int .u32 0]]:=by
 have hw:(DataW.whole enc Tryz.prog ((laidWorldE os).forCall (fun _ _=>0) ⟨#[],#[.agg #[.slice none 0 0,.int .i64 0,.int .i64 0,.slice none 0 0],.agg #[.slice none 0 0,.int .i64 0,.int .i64 0,.slice none 0 0],.agg #[.int .i64 0,.int .i64 0,.int .i64 0,.int .i64 0,.int .u32 0]],[]⟩).memory Tryz.f7.params.toList (OpenSpec.ofChange Rows.lowerComparesSpec).vars false (#[.agg #[.slice none 0 0,.int .i64 0,.int .i64 0,.slice none 0 0],.agg #[.slice none 0 0,.int .i64 0,.int .i64 0,.slice none 0 0],.agg #[.int .i64 0,.int .i64 0,.int .i64 0,.int .i64 0,.int .u32 0]]:Array Value).toList 8).map (fun x=>(x.1,x.2.1)) =
   some ([.agg [.nil,.lit (.int .i64 0),.lit (.int .i64 0),.nil],.agg [.nil,.lit (.int .i64 0),.lit (.int .i64 0),.nil],.agg [.lit (.int .i64 0),.lit (.int .i64 0),.lit (.int .i64 0),.lit (.int .i64 0),.lit (.int .u32 0)]],[]):=by kernel_rfl
 obtain⟨⟨x1,x2,x3⟩,hx,hx1⟩:=Option.map_eq_some_iff.1 hw
 simp only [Prod.mk.injEq] at hx1
 obtain⟨rfl,rfl⟩:=hx1
 exact OpenSpec.preRow_of_cond 8 hx (by kernel_rfl) (fun k hk=>by cases hk) (by kernel_rfl) (laid_metE os _)
theorem lifted(os:Os)(started:os.Started)(H:Type)(enc:TypeId × Value→H)(F:Stop.Interp) :
  ReturnsInHanded {} Tryz.checked os 7 .any ((OpenSpec.ofChange Rows.lowerComparesSpec).preRow enc Tryz.prog Tryz.f7 Rows.lowerComparesRow.domain false Rows.lowerComparesRow.laid) (((OpenSpec.ofChange Rows.lowerComparesSpec).at F).post enc Tryz.prog Tryz.f7 false true false false):=by
 refine returnsInHanded_of_row (C:=Tryz.checked) (s:=OpenSpec.ofChange Rows.lowerComparesSpec) own started (by kernel_rfl) Tryz.func7
  (witness_row_atRef (enc:=enc) (C:=Tryz.checked) false (laidWorldE os) #[.agg #[.slice none 0 0,.int .i64 0,.int .i64 0,.slice none 0 0],.agg #[.slice none 0 0,.int .i64 0,.int .i64 0,.slice none 0 0],.agg #[.int .i64 0,.int .i64 0,.int .i64 0,.int .i64 0,.int .u32 0]] rfl (by kernel_rfl) (by kernel_rfl) (by kernel_rfl) (witness_row os enc)) ?_
 intro W base args ds gs before hval0 hW _ _ _ hL hSh _
 have hval:∀ (j:Nat) t v,Tryz.f7.params[j]?=some t→args[j]?=some v→Value.okWide Tryz.prog W .any base t v:=hval0
 have hW':=hW
 obtain⟨p,q,hA0,hV,rfl,_,_⟩:=hW
 have hA:DataW.TrodAll enc Tryz.prog W 0 (fun _=>true) true Tryz.f7.params.toList args.toList ds p:=hA0
 rw [Tryz.params7] at hA hval
 obtain⟨v0,vs0,e0,ds0,q0,r0,hargs,rfl,rfl,h0,t0⟩:=trodAll_cons hA
 obtain⟨v1,vs1,e1,ds1,q1,r1,rfl,rfl,rfl,h1,t1⟩:=trodAll_cons t0
 obtain⟨v2,vs2,e2,ds2,q2,r2,rfl,rfl,rfl,h2,t2⟩:=trodAll_cons t1
 obtain⟨rfl,rfl,rfl⟩:=trodAll_nil t2
 obtain rfl:args=#[v0,v1,v2]:=by cases args;simp_all
 obtain⟨rfl,rfl⟩:=trodVars_none hV
 have k0:=h0
 have lt0:∀ x∈q0,x.block < W.heap.size:=by obtain⟨m,hm⟩:=k0;exact DataW.trod_lt m _ _ _ hm
 obtain⟨A0,n0,c0,B0,m0,d0,x0,rfl,hx0⟩:=code_of_trod (hval 0 30 v0 rfl rfl) h0
 have k1:=h1
 have lt1:∀ x∈q1,x.block < W.heap.size:=by obtain⟨m,hm⟩:=k1;exact DataW.trod_lt m _ _ _ hm
 obtain⟨A1,n1,c1,B1,m1,d1,x1,rfl,hx1⟩:=code_of_trod (hval 1 30 v1 rfl rfl) h1
 have k2:=h2
 have lt2:∀ x∈q2,x.block < W.heap.size:=by obtain⟨m,hm⟩:=k2;exact DataW.trod_lt m _ _ _ hm
 obtain⟨i2,rfl⟩:=ri_of_trod (hval 2 47 v2 rfl rfl) h2
 clear hA0 hval0
 have hT:TabE W:=tabE_of (show laidMet Tryz.prog laidE W from hL)
 refine (walk A0 n0 c0 B0 m0 d0 x0 A1 n1 c1 B1 m1 d1 x1 i2 W hx0 hx1 hT).mono fun e W' ⟨he,bel⟩=>?_
 subst he
 exact⟨_,rfl,_,_,_,[],_,[],hW',trodAll_mk1 (shut_bool Tryz.underlying4 _),(trodAll_cons_mk (Below.trod laidOut (by kernel_rfl) (of_decide_eq_true (by kernel_rfl)) k0 bel lt0) (trodAll_cons_mk (Below.trod laidOut (by kernel_rfl) (of_decide_eq_true (by kernel_rfl)) k1 bel lt1) (trodAll_cons_mk (Below.trod laidOut (by kernel_rfl) (of_decide_eq_true (by kernel_rfl)) k2 bel lt2) trodAll_mk0))),rfl,bel.frame _,fun h=>by cases h⟩
theorem row_holds:Rows.LowerComparesSaid:=
 OpenClaim.holds_of_cond 7 Tryz.f7 rfl rfl rfl rfl rfl rfl rfl ⟨rfl,rfl,rfl,rfl,rfl⟩ rfl rfl rfl rfl rfl (by as_aux_lemma=>kernel_rfl) Tryz.func7 closedT
  (of_decide_eq_true (by as_aux_lemma=>kernel_rfl)) (by unfold Func.isWrapper;first | (rw [if_pos (by as_aux_lemma=>decide +kernel)];as_aux_lemma=>kernel_rfl) | (rw [if_neg (by as_aux_lemma=>decide +kernel)];exact⟨rfl,rfl⟩))
  (fun os started H enc _ F0=>by rw [OpenClaim.pre_eq_preRow];exact lifted os started H enc F0)
theorem card_holds:Rows.LowerComparesCardSaid:=
 Claim7.holds_tied_plain_at .later [] [.data,.data,.data,.sentinel,.sentinel] true (true, "c1d7870a88feca5f0fd918c885a2bd2ca670cf5c2573bcbea95a8df169a0fdca") true
  row_holds (fun _ h=>by cases h) (by as_aux_lemma=>kernel_rfl) (fun _ h=>by cases h) lowerCompares_row_tie rfl ⟨rfl,rfl⟩ (by as_aux_lemma=>kernel_rfl) rfl
  (fun f fn hf hfn=>by
   obtain rfl:f=7:=Option.some.inj ((show Tryz.prog.funcNamed "compactor/compactorlaw23.LowerCompares" = some 7 by as_aux_lemma=>kernel_rfl).symm.trans hf) |>.symm
   obtain rfl:fn=Tryz.f7:=(Option.some.inj (Tryz.func7.symm.trans hfn)).symm
   exact⟨by as_aux_lemma=>kernel_rfl,fun j t ht=>by
    rw [Tryz.params7] at ht
    rcases j with _ | _ | _ | j
    ·obtain rfl:t=30:=by simpa using ht.symm
     exact (show Tryz.prog.wantsStandIn 30=false by kernel_rfl)
    ·obtain rfl:t=30:=by simpa using ht.symm
     exact (show Tryz.prog.wantsStandIn 30=false by kernel_rfl)
    ·obtain rfl:t=47:=by simpa using ht.symm
     exact (show Tryz.prog.wantsStandIn 47=false by kernel_rfl)
    ·simp at ht⟩)
  (by as_aux_lemma=>kernel_rfl)
end Go.Proofs.YtpaplehcafeeaaaGreatDoor.lowerCompares
namespace Go.Proofs.YtpaplehcafeeaaaGreatDoor
theorem lowerCompares_holds:Rows.LowerComparesCardSaid:=lowerCompares.card_holds
end Go.Proofs.YtpaplehcafeeaaaGreatDoor
