/- Vk Vl Vm Vn Vo Vs Vp Vx. -/
import Derived.Test.YtepoclhdklgnhaaGreatDoorRC20
set_option maxRecDepth 100000
set_option maxHeartbeats 40000000
set_option linter.unusedVariables false
set_option linter.unusedSimpArgs false
namespace Go.Proofs.YtepoclhdklgnhaaGreatDoor
open Go.RowKit Go.Proofs
theorem uMcb:Tryz.prog.underlying 279=some (.map 3 277):=by kernel_rfl
theorem uMr:Tryz.prog.underlying 255=some (.map 3 253):=by kernel_rfl
theorem wf64{a:Int}(h1:-9223372036854775808≤a)(h2:a≤9223372036854775807):(Lit.int .i64 a).wf=true:=by
 simp [Lit.wf,IntKind.min,IntKind.max,IntKind.bits,IntKind.signed];omega
theorem combos_at{op:Int}(h1:8≤op)(h2:op≤20):∃ id,combosF op=some (.func (.func id) #[] #[])∧(∀ (args:Array Value) (W:World),(callFunc id args).run Tryz.prog W=.ok (.enter id args) W)∧∀ (a b:Nat) (w:World),a < 4294967296→b < 4294967296→(b≠0∨(op≠11∧op≠12))→Calls Tryz.prog id #[.int .u32 a,.int .u32 b] w fun e w'=>e=.returned (.int .u32 (arN op a b:Nat))∧w'=w:=by
 have hc:op=8∨op=9∨op=10∨op=11∨op=12∨op=13∨op=14∨op=15∨op=16∨op=17∨op=18∨op=19∨op=20:=by omega
 rcases hc with rfl | rfl | rfl | rfl | rfl | rfl | rfl | rfl | rfl | rfl | rfl | rfl | rfl
 ·exact⟨_,rfl,fun _ _=>by kernel_rfl,fun a b w ha hb h0=>f_1 a b ha hb w⟩
 ·exact⟨_,rfl,fun _ _=>by kernel_rfl,fun a b w ha hb h0=>f_2 a b ha hb w⟩
 ·exact⟨_,rfl,fun _ _=>by kernel_rfl,fun a b w ha hb h0=>f_3 a b ha hb w⟩
 ·exact⟨_,rfl,fun _ _=>by kernel_rfl,fun a b w ha hb h0=>f_4 a b ha hb (by omega) w⟩
 ·exact⟨_,rfl,fun _ _=>by kernel_rfl,fun a b w ha hb h0=>f_5 a b ha hb (by omega) w⟩
 ·exact⟨_,rfl,fun _ _=>by kernel_rfl,fun a b w ha hb h0=>f_6 a b ha hb w⟩
 ·exact⟨_,rfl,fun _ _=>by kernel_rfl,fun a b w ha hb h0=>f_7 a b ha hb w⟩
 ·exact⟨_,rfl,fun _ _=>by kernel_rfl,fun a b w ha hb h0=>f_8 a b ha hb w⟩
 ·exact⟨_,rfl,fun _ _=>by kernel_rfl,fun a b w ha hb h0=>f_9 a b ha hb w⟩
 ·exact⟨_,rfl,fun _ _=>by kernel_rfl,fun a b w ha hb h0=>f_10 a b ha hb w⟩
 ·exact⟨_,rfl,fun _ _=>by kernel_rfl,fun a b w ha hb h0=>f_11 a b ha hb w⟩
 ·exact⟨_,rfl,fun _ _=>by kernel_rfl,fun a b w ha hb h0=>f_12 a b ha hb w⟩
 ·exact⟨_,rfl,fun _ _=>by kernel_rfl,fun a b w ha hb h0=>hash_any a b ha hb w⟩
theorem rules_at{op:Int}(h1:8≤op)(h2:op≤20):∃ id,rulesF op=some (.func (.func id) #[] #[])∧(∀ (args:Array Value) (W:World),(callFunc id args).run Tryz.prog W=.ok (.enter id args) W)∧∀ (a b c d:Int) (w:World),0≤a→a≤b→b≤4294967295→0≤c→c≤d→d≤4294967295→(c≠0∨(op≠11∧op≠12))→Calls Tryz.prog id #[.agg #[.int .i64 a,.int .i64 b,.int .i64 c,.int .i64 d]] w fun e w'=>e=.returned (ivV (ruleI op a b c d))∧Below w.heap.size w w':=by
 have hc:op=8∨op=9∨op=10∨op=11∨op=12∨op=13∨op=14∨op=15∨op=16∨op=17∨op=18∨op=19∨op=20:=by omega
 rcases hc with rfl | rfl | rfl | rfl | rfl | rfl | rfl | rfl | rfl | rfl | rfl | rfl | rfl
 ·exact⟨_,rfl,fun _ _=>by kernel_rfl,fun a b c d w k1 k2 k3 k4 k5 k6 h0=>m_add a b c d k1 k2 k3 k4 k5 k6 w⟩
 ·exact⟨_,rfl,fun _ _=>by kernel_rfl,fun a b c d w k1 k2 k3 k4 k5 k6 h0=>m_sub a b c d k1 k2 k3 k4 k5 k6 w⟩
 ·exact⟨_,rfl,fun _ _=>by kernel_rfl,fun a b c d w k1 k2 k3 k4 k5 k6 h0=>m_mul a b c d k1 k2 k3 k4 k5 k6 w⟩
 ·exact⟨_,rfl,fun _ _=>by kernel_rfl,fun a b c d w k1 k2 k3 k4 k5 k6 h0=>m_div a b c d k1 k2 k3 k4 k5 k6 (by omega) w⟩
 ·exact⟨_,rfl,fun _ _=>by kernel_rfl,fun a b c d w k1 k2 k3 k4 k5 k6 h0=>m_mod a b c d k1 k2 k3 k4 k5 k6 (by omega) w⟩
 ·exact⟨_,rfl,fun _ _=>by kernel_rfl,fun a b c d w k1 k2 k3 k4 k5 k6 h0=>m_and a b c d k1 k2 k3 k4 k5 k6 w⟩
 ·exact⟨_,rfl,fun _ _=>by kernel_rfl,fun a b c d w k1 k2 k3 k4 k5 k6 h0=>m_or a b c d k1 k2 k3 k4 k5 k6 w⟩
 ·exact⟨_,rfl,fun _ _=>by kernel_rfl,fun a b c d w k1 k2 k3 k4 k5 k6 h0=>m_xor a b c d k1 k2 k3 k4 k5 k6 w⟩
 ·exact⟨_,rfl,fun _ _=>by kernel_rfl,fun a b c d w k1 k2 k3 k4 k5 k6 h0=>m_shl a b c d k1 k2 k3 k4 k5 k6 w⟩
 ·exact⟨_,rfl,fun _ _=>by kernel_rfl,fun a b c d w k1 k2 k3 k4 k5 k6 h0=>m_shr a b c d k1 k2 k3 k4 k5 k6 w⟩
 ·exact⟨_,rfl,fun _ _=>by kernel_rfl,fun a b c d w k1 k2 k3 k4 k5 k6 h0=>m_least a b c d k1 k2 k3 k4 k5 k6 w⟩
 ·exact⟨_,rfl,fun _ _=>by kernel_rfl,fun a b c d w k1 k2 k3 k4 k5 k6 h0=>m_greatest a b c d k1 k2 k3 k4 k5 k6 w⟩
 ·exact⟨_,rfl,fun _ _=>by kernel_rfl,fun a b c d w k1 k2 k3 k4 k5 k6 h0=>m_hash a b c d k1 k2 k3 k4 k5 k6 w⟩
theorem applyN_any(op:Int)(a b:Nat)(h1:8≤op)(h2:op≤20)(ha:a < 4294967296)(hb:b < 4294967296)(h0:b≠0∨(op≠11∧op≠12))(w:World) :
  Calls Tryz.prog 167 #[.int .i64 op,.int .u32 a,.int .u32 b] w fun e w'=>e=.returned (.tuple #[.int .u32 (arN op a b:Nat),.int .i64 0])∧Below w.heap.size w w':=by
 obtain⟨id,hid,hcf,hf⟩:=combos_at h1 h2
 have hwf:=wf64 (a:=op) (by omega) (by omega)
 have hz:∀ W:World,(zeroValue 277).run Tryz.prog W=.ok .nilFunc W:=fun W=>by kernel_rfl
 have Hf:=Lib.hid (fun W=>hf a b W ha hb h0)
 obtain⟨v,hv⟩:∃ v,v=arN op a b:=⟨_,rfl⟩
 rw [←hv] at Hf ⊢
 clear hv hf
 by_cases hb0:b=0
 ·subst hb0
  have Hf0:Hid (∀ W,Calls Tryz.prog id #[.int .u32 a,.int .u32 0] W fun e w'=>e=.returned (.int .u32 (v:Int))∧w'=W):=Hf.out
  clear Hf
  have d1:(op==11)=false:=by simp;omega
  have d2:(op==12)=false:=by simp;omega
  go_enter Tryz.func167,Tryz.ntmps167
  go_wp2_with fail
  refine (combos_any _).mono ?_
  rintro e w1 ⟨m,rfl,hm,hb1⟩
  have hlk:=hm.look (t:=279) uInt uMcb (hz w1) op hwf
  rw [hid] at hlk
  clear hm
  go_wp2_with fail
  refine (Hf0.out _).mono ?_
  rintro e w2 ⟨rfl,hw2⟩
  obtain rfl:=hw2.symm
  go_wp2_with fail
  go_ret2
  exact⟨rfl,hb1⟩
 ·have d0:((b:Int)==0)=false:=by simp;omega
  go_enter Tryz.func167,Tryz.ntmps167
  go_wp2_with fail
  refine (combos_any _).mono ?_
  rintro e w1 ⟨m,rfl,hm,hb1⟩
  have hlk:=hm.look (t:=279) uInt uMcb (hz w1) op hwf
  rw [hid] at hlk
  clear hm
  go_wp2_with fail
  refine (Hf.out _).mono ?_
  rintro e w2 ⟨rfl,hw2⟩
  obtain rfl:=hw2.symm
  go_wp2_with fail
  go_ret2
  exact⟨rfl,hb1⟩
def resI(x:Option Iv):Value:=match x with
 | none=>.tuple #[.agg #[.int .i64 0,.int .i64 0],.int .i64 17]
 | some z=>.tuple #[ivV z,.int .i64 0]
theorem slice_world{w w0:World}{a b c d:Int}(hs:w0.heap.size=w.heap.size+1+1+1)(g0:Below w.heap.size w w0)(r1:rowV w0 w.heap.size 55 #[.int .i64 a,.int .i64 b])(r2:rowV w0 (w.heap.size+1) 55 #[.int .i64 c,.int .i64 d])(r3:rowV w0 (w.heap.size+1+1) 55 #[.int .i64 0,.int .i64 0]) :
  ∃ w2,w2=w0.alloc (.cells #[.int .i64 a,.int .i64 b,.int .i64 c,.int .i64 d] 55)∧Below w.heap.size w w2∧rowV w2 w.heap.size 55 #[.int .i64 a,.int .i64 b]∧rowV w2 (w.heap.size+1) 55 #[.int .i64 c,.int .i64 d]∧rowV w2 (w.heap.size+1+1) 55 #[.int .i64 0,.int .i64 0]∧rowV w2 (w.heap.size+1+1+1) 55 #[.int .i64 a,.int .i64 b,.int .i64 c,.int .i64 d]:=by
 have k:=balloc (Below.refl _ w0) (.cells #[.int .i64 a,.int .i64 b,.int .i64 c,.int .i64 d] 55)
 have r4:=rowV.new w0 55 #[.int .i64 a,.int .i64 b,.int .i64 c,.int .i64 d]
 rw [hs] at r4
 exact⟨_,rfl,g0.trans (k.mono g0.size),r1.below k r1.lt,r2.below k r2.lt,r3.below k r3.lt,r4⟩
theorem applyI_any(op:Int)(x y:Iv)(h1:8≤op)(h2:op≤20)(hx:ivOk x=true)(hy:ivOk y=true)(w:World) :
  Calls Tryz.prog 141 #[.int .i64 op,.agg #[.int .i64 x.lo,.int .i64 x.hi],.agg #[.int .i64 y.lo,.int .i64 y.hi]] w fun e w'=>e=.returned (resI (apI op x y))∧Below w.heap.size w w':=by
 have hX:=Lib.hid (fun W=>by have:=checkI_any x W;rw [ivE_iff.2 hx] at this;exact this)
 have hY:=Lib.hid (fun W=>by have:=checkI_any y W;rw [ivE_iff.2 hy] at this;exact this)
 obtain⟨id,hid,hcf,hf⟩:=rules_at h1 h2
 have hwf:=wf64 (a:=op) (by omega) (by omega)
 have hz:∀ W:World,(zeroValue 253).run Tryz.prog W=.ok .nilFunc W:=fun W=>by kernel_rfl
 obtain⟨w0,hw0,g0,r1,r2,r3⟩:=boxes3 w x.lo x.hi y.lo y.hi 0 0
 rw [ivOk_iff] at hx hy
 obtain⟨a,b⟩:=x
 obtain⟨c,d⟩:=y
 dsimp only at hX hY hx hy hw0 r1 r2 ⊢
 obtain⟨ha,hab,hb⟩:=hx
 obtain⟨hc,hcd,hd⟩:=hy
 have hs0:w0.heap.size=w.heap.size+1+1+1:=by rw [hw0];simp
 have hw:=Lib.hid hw0;clear hw0
 have hE:apI op ⟨a,b⟩ ⟨c,d⟩=if c=0∧(op=11∨op=12) then none else if a=b∧c=d then some ⟨(arN op a.toNat c.toNat:Nat),(arN op a.toNat c.toNat:Nat)⟩ else some (ruleI op a b c d):=rfl
 have HE:=Lib.hid hE;clear hE
 have dA:decide (op < 21)=true:=decide_eq_true (by omega)
 have dB:decide (26 < op)=false:=decide_eq_false (by omega)
 by_cases hz0:c=0∧(op=11∨op=12)
 ·rw [HE.out,if_pos hz0]
  obtain⟨rfl,hop⟩:=hz0
  obtain⟨p1,hp1⟩:∃ p,(op==11)=p:=⟨_,rfl⟩
  cases p1 with
  | true=>
   obtain rfl:op=11:=by simpa using hp1
   go_enter Tryz.func141,Tryz.ntmps141
   go_wp2_with fail
   rw [←hw.out]
   obtain⟨w2,hw2,g2,s1,s2,s3,s4⟩:=slice_world hs0 g0 r1 r2 r3
   rw [←hw2]
   clear hw2 hw g0 r1 r2 r3 hs0
   obtain⟨e1,e2,e3,e4⟩:=four_cellsV s4
   refine wp_loop_rounds 3 ?_
   rw [rounds_succ]
   go_wp2_with fail
   refine (hX.out _).mono ?_
   rintro e w3 ⟨rfl,hb3⟩
   have k3:=(balloc (Below.refl _ w2) _).trans (hb3.mono (by simp))
   have g3:=g2.trans (k3.mono g2.size)
   have s1:=s1.below k3 s1.lt;have s2:=s2.below k3 s2.lt;have s3:=s3.below k3 s3.lt;have s4:=s4.below k3 s4.lt
   clear k3 hb3 g2 e1 e2 e3 e4
   obtain⟨e1,e2,e3,e4⟩:=four_cellsV s4
   go_wp2_with fail
   rw [rounds_succ]
   go_wp2_with fail
   refine (hY.out _).mono ?_
   rintro e w4 ⟨rfl,hb4⟩
   have k4:=(balloc (Below.refl _ w3) _).trans (hb4.mono (by simp))
   have g4:=g3.trans (k4.mono g3.size)
   have s1:=s1.below k4 s1.lt;have s2:=s2.below k4 s2.lt;have s3:=s3.below k4 s3.lt
   clear k4 hb4 g3 s4 e1 e2 e3 e4
   go_wp2_with fail
   rw [rounds_succ]
   go_wp2_with fail
   refine (rules_any _).mono ?_
   rintro e w5 ⟨m,rfl,hm,hb5⟩
   have hlk:=hm.look (t:=255) uInt uMr (hz w5) _ hwf
   rw [hid] at hlk
   have g5:=g4.trans (hb5.mono g4.size)
   have s1:=s1.below hb5 s1.lt;have s2:=s2.below hb5 s2.lt;have s3:=s3.below hb5 s3.lt
   clear hm hb5 g4 hX hY
   obtain⟨e1,e2⟩:=two_cellsV s1
   obtain⟨e3,e4⟩:=two_cellsV s2
   have Hr:=Lib.hid s3
   go_wp2_with (refine wpList_store_row rfl 55 (.tmp 6) (.tmp 64) rfl _ #[.int .i64 0,.int .i64 0] rfl rfl _ _ Hr.out (hI2 _ _) rfl (hA2 _ _) ?_)
   obtain⟨z1,z2⟩:=two_cellsV (setRow_heap w5 (w.heap.size+1+1) _ #[.int .i64 0,.int .i64 0] _ _ Hr.out)
   refine bodyPost_ret (v:=.tuple #[.agg #[.int .i64 0,.int .i64 0],.int .i64 17]) (by simp [results,Tryz.results141,go_sem,z1,z2]) rfl ⟨rfl,belowRow g5 (by omega) _⟩
  | false=>
   obtain rfl:op=12:=by simp at hp1;omega
   go_enter Tryz.func141,Tryz.ntmps141
   go_wp2_with fail
   rw [←hw.out]
   obtain⟨w2,hw2,g2,s1,s2,s3,s4⟩:=slice_world hs0 g0 r1 r2 r3
   rw [←hw2]
   clear hw2 hw g0 r1 r2 r3 hs0
   obtain⟨e1,e2,e3,e4⟩:=four_cellsV s4
   refine wp_loop_rounds 3 ?_
   rw [rounds_succ]
   go_wp2_with fail
   refine (hX.out _).mono ?_
   rintro e w3 ⟨rfl,hb3⟩
   have k3:=(balloc (Below.refl _ w2) _).trans (hb3.mono (by simp))
   have g3:=g2.trans (k3.mono g2.size)
   have s1:=s1.below k3 s1.lt;have s2:=s2.below k3 s2.lt;have s3:=s3.below k3 s3.lt;have s4:=s4.below k3 s4.lt
   clear k3 hb3 g2 e1 e2 e3 e4
   obtain⟨e1,e2,e3,e4⟩:=four_cellsV s4
   go_wp2_with fail
   rw [rounds_succ]
   go_wp2_with fail
   refine (hY.out _).mono ?_
   rintro e w4 ⟨rfl,hb4⟩
   have k4:=(balloc (Below.refl _ w3) _).trans (hb4.mono (by simp))
   have g4:=g3.trans (k4.mono g3.size)
   have s1:=s1.below k4 s1.lt;have s2:=s2.below k4 s2.lt;have s3:=s3.below k4 s3.lt
   clear k4 hb4 g3 s4 e1 e2 e3 e4
   go_wp2_with fail
   rw [rounds_succ]
   go_wp2_with fail
   refine (rules_any _).mono ?_
   rintro e w5 ⟨m,rfl,hm,hb5⟩
   have hlk:=hm.look (t:=255) uInt uMr (hz w5) _ hwf
   rw [hid] at hlk
   have g5:=g4.trans (hb5.mono g4.size)
   have s1:=s1.below hb5 s1.lt;have s2:=s2.below hb5 s2.lt;have s3:=s3.below hb5 s3.lt
   clear hm hb5 g4 hX hY
   obtain⟨e1,e2⟩:=two_cellsV s1
   obtain⟨e3,e4⟩:=two_cellsV s2
   have Hr:=Lib.hid s3
   go_wp2_with (refine wpList_store_row rfl 55 (.tmp 6) (.tmp 64) rfl _ #[.int .i64 0,.int .i64 0] rfl rfl _ _ Hr.out (hI2 _ _) rfl (hA2 _ _) ?_)
   obtain⟨z1,z2⟩:=two_cellsV (setRow_heap w5 (w.heap.size+1+1) _ #[.int .i64 0,.int .i64 0] _ _ Hr.out)
   refine bodyPost_ret (v:=.tuple #[.agg #[.int .i64 0,.int .i64 0],.int .i64 17]) (by simp [results,Tryz.results141,go_sem,z1,z2]) rfl ⟨rfl,belowRow g5 (by omega) _⟩
 rw [HE.out,if_neg hz0]
 clear HE
 have hq:(c==0)=false∨c=0∧(op==11)=false∧(op==12)=false:=by
  by_cases h:c=0
  ·right;simp;omega
  ·left;simpa using h
 by_cases hex:a=b∧c=d
 ·rw [if_pos hex]
  obtain⟨rfl,rfl⟩:=hex
  have t1:(a==a)=true:=by simp
  have t2:(c==c)=true:=by simp
  obtain⟨n,rfl⟩:∃ n:Nat,a=(n:Int):=⟨a.toNat,by omega⟩
  rw [Int.toNat_natCast]
  have u1:IntKind.u32.wrap (n:Int)=n:=by rw [wrapU];omega
  clear hf
  rcases hq with q1 | ⟨rfl,q2,q3⟩
  ·obtain⟨m',rfl⟩:∃ m:Nat,c=(m:Int):=⟨c.toNat,by omega⟩
   rw [Int.toNat_natCast]
   have hA:=Lib.hid (applyN_any op n m' h1 h2 (by omega) (by omega) (by omega))
   have hlt:=arN_lt (op:=op) (a:=n) (b:=m') (by omega) (by omega) (by omega)
   obtain⟨v,hv⟩:∃ v,v=arN op n m':=⟨_,rfl⟩
   rw [←hv] at hA hlt ⊢
   clear hv
   have u2:IntKind.u32.wrap (m':Int)=m':=by rw [wrapU];omega
   have hXe:=Lib.hid (exact_any v hlt)
   go_enter Tryz.func141,Tryz.ntmps141
   go_wp2_with fail
   rw [←hw.out]
   obtain⟨w2,hw2,g2,s1,s2,s3,s4⟩:=slice_world hs0 g0 r1 r2 r3
   rw [←hw2]
   clear hw2 hw g0 r1 r2 r3 hs0
   obtain⟨e1,e2,e3,e4⟩:=four_cellsV s4
   refine wp_loop_rounds 3 ?_
   rw [rounds_succ]
   go_wp2_with fail
   refine (hX.out _).mono ?_
   rintro e w3 ⟨rfl,hb3⟩
   have k3:=(balloc (Below.refl _ w2) _).trans (hb3.mono (by simp))
   have g3:=g2.trans (k3.mono g2.size)
   have s1:=s1.below k3 s1.lt;have s2:=s2.below k3 s2.lt;have s3:=s3.below k3 s3.lt;have s4:=s4.below k3 s4.lt
   clear k3 hb3 g2 e1 e2 e3 e4
   obtain⟨e1,e2,e3,e4⟩:=four_cellsV s4
   go_wp2_with fail
   rw [rounds_succ]
   go_wp2_with fail
   refine (hY.out _).mono ?_
   rintro e w4 ⟨rfl,hb4⟩
   have k4:=(balloc (Below.refl _ w3) _).trans (hb4.mono (by simp))
   have g4:=g3.trans (k4.mono g3.size)
   have s1:=s1.below k4 s1.lt;have s2:=s2.below k4 s2.lt;have s3:=s3.below k4 s3.lt
   clear k4 hb4 g3 s4 e1 e2 e3 e4
   go_wp2_with fail
   rw [rounds_succ]
   go_wp2_with fail
   refine (rules_any _).mono ?_
   rintro e w5 ⟨m,rfl,hm,hb5⟩
   have hlk:=hm.look (t:=255) uInt uMr (hz w5) _ hwf
   rw [hid] at hlk
   have g5:=g4.trans (hb5.mono g4.size)
   have s1:=s1.below hb5 s1.lt;have s2:=s2.below hb5 s2.lt;have s3:=s3.below hb5 s3.lt
   clear hm hb5 g4 hX hY
   obtain⟨e1,e2⟩:=two_cellsV s1
   obtain⟨e3,e4⟩:=two_cellsV s2
   go_wp2_with fail
   refine (hA.out _).mono ?_
   rintro e w6 ⟨rfl,hb6⟩
   have g6:=g5.trans (hb6.mono g5.size)
   have s3:=s3.below hb6 s3.lt
   clear hb6 g5 e1 e2 e3 e4 s1 s2
   go_wp2_with fail
   refine (hXe.out _).mono ?_
   rintro e w7 ⟨rfl,hb7⟩
   have g7:=g6.trans (hb7.mono g6.size)
   have Hr:=Lib.hid (s3.below hb7 s3.lt)
   go_wp2_with (refine wpList_store_row rfl 55 (.tmp 6) (.tmp 90) rfl _ #[.int .i64 v,.int .i64 v] rfl rfl _ _ Hr.out (hI2 _ _) rfl (hA2 _ _) ?_)
   obtain⟨z1,z2⟩:=two_cellsV (setRow_heap w7 (w.heap.size+1+1) _ #[.int .i64 v,.int .i64 v] _ _ Hr.out)
   refine bodyPost_ret (v:=.tuple #[.agg #[.int .i64 v,.int .i64 v],.int .i64 0]) (by simp [results,Tryz.results141,go_sem,z1,z2]) rfl ⟨rfl,belowRow g7 (by omega) _⟩
  ·have hop:op≠11∧op≠12:=by simp at q2 q3;exact⟨q2,q3⟩
   have hA0:=applyN_any op n 0 h1 h2 (by omega) (by omega) (.inr hop)
   have hlt:=arN_lt (op:=op) (a:=n) (b:=0) (by omega) (by omega) (.inr hop)
   rw [show (0:Int).toNat=0 from rfl]
   obtain⟨v,hv⟩:∃ v,v=arN op n 0:=⟨_,rfl⟩
   rw [←hv] at hA0 hlt ⊢
   clear hv
   have hA:Hid (∀ W,Calls Tryz.prog 167 #[.int .i64 op,.int .u32 n,.int .u32 0] W fun e w'=>e=.returned (.tuple #[.int .u32 (v:Int),.int .i64 0])∧Below W.heap.size W w'):=hA0
   clear hA0
   have u2:IntKind.u32.wrap 0=0:=by decide
   have hXe:=Lib.hid (exact_any v hlt)
   go_enter Tryz.func141,Tryz.ntmps141
   go_wp2_with fail
   rw [←hw.out]
   obtain⟨w2,hw2,g2,s1,s2,s3,s4⟩:=slice_world hs0 g0 r1 r2 r3
   rw [←hw2]
   clear hw2 hw g0 r1 r2 r3 hs0
   obtain⟨e1,e2,e3,e4⟩:=four_cellsV s4
   refine wp_loop_rounds 3 ?_
   rw [rounds_succ]
   go_wp2_with fail
   refine (hX.out _).mono ?_
   rintro e w3 ⟨rfl,hb3⟩
   have k3:=(balloc (Below.refl _ w2) _).trans (hb3.mono (by simp))
   have g3:=g2.trans (k3.mono g2.size)
   have s1:=s1.below k3 s1.lt;have s2:=s2.below k3 s2.lt;have s3:=s3.below k3 s3.lt;have s4:=s4.below k3 s4.lt
   clear k3 hb3 g2 e1 e2 e3 e4
   obtain⟨e1,e2,e3,e4⟩:=four_cellsV s4
   go_wp2_with fail
   rw [rounds_succ]
   go_wp2_with fail
   refine (hY.out _).mono ?_
   rintro e w4 ⟨rfl,hb4⟩
   have k4:=(balloc (Below.refl _ w3) _).trans (hb4.mono (by simp))
   have g4:=g3.trans (k4.mono g3.size)
   have s1:=s1.below k4 s1.lt;have s2:=s2.below k4 s2.lt;have s3:=s3.below k4 s3.lt
   clear k4 hb4 g3 s4 e1 e2 e3 e4
   go_wp2_with fail
   rw [rounds_succ]
   go_wp2_with fail
   refine (rules_any _).mono ?_
   rintro e w5 ⟨m,rfl,hm,hb5⟩
   have hlk:=hm.look (t:=255) uInt uMr (hz w5) _ hwf
   rw [hid] at hlk
   have g5:=g4.trans (hb5.mono g4.size)
   have s1:=s1.below hb5 s1.lt;have s2:=s2.below hb5 s2.lt;have s3:=s3.below hb5 s3.lt
   clear hm hb5 g4 hX hY
   obtain⟨e1,e2⟩:=two_cellsV s1
   obtain⟨e3,e4⟩:=two_cellsV s2
   go_wp2_with fail
   refine (hA.out _).mono ?_
   rintro e w6 ⟨rfl,hb6⟩
   have g6:=g5.trans (hb6.mono g5.size)
   have s3:=s3.below hb6 s3.lt
   clear hb6 g5 e1 e2 e3 e4 s1 s2
   go_wp2_with fail
   refine (hXe.out _).mono ?_
   rintro e w7 ⟨rfl,hb7⟩
   have g7:=g6.trans (hb7.mono g6.size)
   have Hr:=Lib.hid (s3.below hb7 s3.lt)
   go_wp2_with (refine wpList_store_row rfl 55 (.tmp 6) (.tmp 90) rfl _ #[.int .i64 v,.int .i64 v] rfl rfl _ _ Hr.out (hI2 _ _) rfl (hA2 _ _) ?_)
   obtain⟨z1,z2⟩:=two_cellsV (setRow_heap w7 (w.heap.size+1+1) _ #[.int .i64 v,.int .i64 v] _ _ Hr.out)
   refine bodyPost_ret (v:=.tuple #[.agg #[.int .i64 v,.int .i64 v],.int .i64 0]) (by simp [results,Tryz.results141,go_sem,z1,z2]) rfl ⟨rfl,belowRow g7 (by omega) _⟩
 ·rw [if_neg hex]
  have hf:=Lib.hid (fun W=>hf a b c d W ha hab hb hc hcd hd (by omega))
  obtain⟨⟨lo,hi⟩,hv⟩:∃ z,z=ruleI op a b c d:=⟨_,rfl⟩
  rw [←hv] at hf ⊢
  clear hv
  unfold ivV at hf
  dsimp only at hf
  have ht:(a==b)=false∨a=b∧(c==d)=false:=by
   by_cases h:a=b
   ·right;simp;omega
   ·left;simpa using h
  rcases hq with q1 | ⟨rfl,q2,q3⟩
  ·rcases ht with t1 | ⟨rfl,t2⟩
   ·skip
    go_enter Tryz.func141,Tryz.ntmps141
    go_wp2_with fail
    rw [←hw.out]
    obtain⟨w2,hw2,g2,s1,s2,s3,s4⟩:=slice_world hs0 g0 r1 r2 r3
    rw [←hw2]
    clear hw2 hw g0 r1 r2 r3 hs0
    obtain⟨e1,e2,e3,e4⟩:=four_cellsV s4
    refine wp_loop_rounds 3 ?_
    rw [rounds_succ]
    go_wp2_with fail
    refine (hX.out _).mono ?_
    rintro e w3 ⟨rfl,hb3⟩
    have k3:=(balloc (Below.refl _ w2) _).trans (hb3.mono (by simp))
    have g3:=g2.trans (k3.mono g2.size)
    have s1:=s1.below k3 s1.lt;have s2:=s2.below k3 s2.lt;have s3:=s3.below k3 s3.lt;have s4:=s4.below k3 s4.lt
    clear k3 hb3 g2 e1 e2 e3 e4
    obtain⟨e1,e2,e3,e4⟩:=four_cellsV s4
    go_wp2_with fail
    rw [rounds_succ]
    go_wp2_with fail
    refine (hY.out _).mono ?_
    rintro e w4 ⟨rfl,hb4⟩
    have k4:=(balloc (Below.refl _ w3) _).trans (hb4.mono (by simp))
    have g4:=g3.trans (k4.mono g3.size)
    have s1:=s1.below k4 s1.lt;have s2:=s2.below k4 s2.lt;have s3:=s3.below k4 s3.lt
    clear k4 hb4 g3 s4 e1 e2 e3 e4
    go_wp2_with fail
    rw [rounds_succ]
    go_wp2_with fail
    refine (rules_any _).mono ?_
    rintro e w5 ⟨m,rfl,hm,hb5⟩
    have hlk:=hm.look (t:=255) uInt uMr (hz w5) _ hwf
    rw [hid] at hlk
    have g5:=g4.trans (hb5.mono g4.size)
    have s1:=s1.below hb5 s1.lt;have s2:=s2.below hb5 s2.lt;have s3:=s3.below hb5 s3.lt
    clear hm hb5 g4 hX hY
    obtain⟨e1,e2⟩:=two_cellsV s1
    obtain⟨e3,e4⟩:=two_cellsV s2
    go_wp2_with fail
    refine (hf.out _).mono ?_
    rintro e w6 ⟨rfl,hb6⟩
    have g6:=g5.trans (hb6.mono g5.size)
    have s3:=s3.below hb6 s3.lt
    clear hb6 g5 e1 e2 e3 e4 s1 s2
    have Hr:=Lib.hid s3
    go_wp2_with (refine wpList_store_row rfl 55 (.tmp 6) (.tmp 102) rfl _ #[.int .i64 lo,.int .i64 hi] rfl rfl _ _ Hr.out (hI2 _ _) rfl (hA2 _ _) ?_)
    obtain⟨z1,z2⟩:=two_cellsV (setRow_heap w6 (w.heap.size+1+1) _ #[.int .i64 lo,.int .i64 hi] _ _ Hr.out)
    refine bodyPost_ret (v:=.tuple #[.agg #[.int .i64 lo,.int .i64 hi],.int .i64 0]) (by simp [results,Tryz.results141,go_sem,z1,z2]) rfl ⟨rfl,belowRow g6 (by omega) _⟩
   ·skip
    go_enter Tryz.func141,Tryz.ntmps141
    go_wp2_with fail
    rw [←hw.out]
    obtain⟨w2,hw2,g2,s1,s2,s3,s4⟩:=slice_world hs0 g0 r1 r2 r3
    rw [←hw2]
    clear hw2 hw g0 r1 r2 r3 hs0
    obtain⟨e1,e2,e3,e4⟩:=four_cellsV s4
    refine wp_loop_rounds 3 ?_
    rw [rounds_succ]
    go_wp2_with fail
    refine (hX.out _).mono ?_
    rintro e w3 ⟨rfl,hb3⟩
    have k3:=(balloc (Below.refl _ w2) _).trans (hb3.mono (by simp))
    have g3:=g2.trans (k3.mono g2.size)
    have s1:=s1.below k3 s1.lt;have s2:=s2.below k3 s2.lt;have s3:=s3.below k3 s3.lt;have s4:=s4.below k3 s4.lt
    clear k3 hb3 g2 e1 e2 e3 e4
    obtain⟨e1,e2,e3,e4⟩:=four_cellsV s4
    go_wp2_with fail
    rw [rounds_succ]
    go_wp2_with fail
    refine (hY.out _).mono ?_
    rintro e w4 ⟨rfl,hb4⟩
    have k4:=(balloc (Below.refl _ w3) _).trans (hb4.mono (by simp))
    have g4:=g3.trans (k4.mono g3.size)
    have s1:=s1.below k4 s1.lt;have s2:=s2.below k4 s2.lt;have s3:=s3.below k4 s3.lt
    clear k4 hb4 g3 s4 e1 e2 e3 e4
    go_wp2_with fail
    rw [rounds_succ]
    go_wp2_with fail
    refine (rules_any _).mono ?_
    rintro e w5 ⟨m,rfl,hm,hb5⟩
    have hlk:=hm.look (t:=255) uInt uMr (hz w5) _ hwf
    rw [hid] at hlk
    have g5:=g4.trans (hb5.mono g4.size)
    have s1:=s1.below hb5 s1.lt;have s2:=s2.below hb5 s2.lt;have s3:=s3.below hb5 s3.lt
    clear hm hb5 g4 hX hY
    obtain⟨e1,e2⟩:=two_cellsV s1
    obtain⟨e3,e4⟩:=two_cellsV s2
    go_wp2_with fail
    refine (hf.out _).mono ?_
    rintro e w6 ⟨rfl,hb6⟩
    have g6:=g5.trans (hb6.mono g5.size)
    have s3:=s3.below hb6 s3.lt
    clear hb6 g5 e1 e2 e3 e4 s1 s2
    have Hr:=Lib.hid s3
    go_wp2_with (refine wpList_store_row rfl 55 (.tmp 6) (.tmp 102) rfl _ #[.int .i64 lo,.int .i64 hi] rfl rfl _ _ Hr.out (hI2 _ _) rfl (hA2 _ _) ?_)
    obtain⟨z1,z2⟩:=two_cellsV (setRow_heap w6 (w.heap.size+1+1) _ #[.int .i64 lo,.int .i64 hi] _ _ Hr.out)
    refine bodyPost_ret (v:=.tuple #[.agg #[.int .i64 lo,.int .i64 hi],.int .i64 0]) (by simp [results,Tryz.results141,go_sem,z1,z2]) rfl ⟨rfl,belowRow g6 (by omega) _⟩
  ·rcases ht with t1 | ⟨rfl,t2⟩
   ·skip
    go_enter Tryz.func141,Tryz.ntmps141
    go_wp2_with fail
    rw [←hw.out]
    obtain⟨w2,hw2,g2,s1,s2,s3,s4⟩:=slice_world hs0 g0 r1 r2 r3
    rw [←hw2]
    clear hw2 hw g0 r1 r2 r3 hs0
    obtain⟨e1,e2,e3,e4⟩:=four_cellsV s4
    refine wp_loop_rounds 3 ?_
    rw [rounds_succ]
    go_wp2_with fail
    refine (hX.out _).mono ?_
    rintro e w3 ⟨rfl,hb3⟩
    have k3:=(balloc (Below.refl _ w2) _).trans (hb3.mono (by simp))
    have g3:=g2.trans (k3.mono g2.size)
    have s1:=s1.below k3 s1.lt;have s2:=s2.below k3 s2.lt;have s3:=s3.below k3 s3.lt;have s4:=s4.below k3 s4.lt
    clear k3 hb3 g2 e1 e2 e3 e4
    obtain⟨e1,e2,e3,e4⟩:=four_cellsV s4
    go_wp2_with fail
    rw [rounds_succ]
    go_wp2_with fail
    refine (hY.out _).mono ?_
    rintro e w4 ⟨rfl,hb4⟩
    have k4:=(balloc (Below.refl _ w3) _).trans (hb4.mono (by simp))
    have g4:=g3.trans (k4.mono g3.size)
    have s1:=s1.below k4 s1.lt;have s2:=s2.below k4 s2.lt;have s3:=s3.below k4 s3.lt
    clear k4 hb4 g3 s4 e1 e2 e3 e4
    go_wp2_with fail
    rw [rounds_succ]
    go_wp2_with fail
    refine (rules_any _).mono ?_
    rintro e w5 ⟨m,rfl,hm,hb5⟩
    have hlk:=hm.look (t:=255) uInt uMr (hz w5) _ hwf
    rw [hid] at hlk
    have g5:=g4.trans (hb5.mono g4.size)
    have s1:=s1.below hb5 s1.lt;have s2:=s2.below hb5 s2.lt;have s3:=s3.below hb5 s3.lt
    clear hm hb5 g4 hX hY
    obtain⟨e1,e2⟩:=two_cellsV s1
    obtain⟨e3,e4⟩:=two_cellsV s2
    go_wp2_with fail
    refine (hf.out _).mono ?_
    rintro e w6 ⟨rfl,hb6⟩
    have g6:=g5.trans (hb6.mono g5.size)
    have s3:=s3.below hb6 s3.lt
    clear hb6 g5 e1 e2 e3 e4 s1 s2
    have Hr:=Lib.hid s3
    go_wp2_with (refine wpList_store_row rfl 55 (.tmp 6) (.tmp 102) rfl _ #[.int .i64 lo,.int .i64 hi] rfl rfl _ _ Hr.out (hI2 _ _) rfl (hA2 _ _) ?_)
    obtain⟨z1,z2⟩:=two_cellsV (setRow_heap w6 (w.heap.size+1+1) _ #[.int .i64 lo,.int .i64 hi] _ _ Hr.out)
    refine bodyPost_ret (v:=.tuple #[.agg #[.int .i64 lo,.int .i64 hi],.int .i64 0]) (by simp [results,Tryz.results141,go_sem,z1,z2]) rfl ⟨rfl,belowRow g6 (by omega) _⟩
   ·skip
    go_enter Tryz.func141,Tryz.ntmps141
    go_wp2_with fail
    rw [←hw.out]
    obtain⟨w2,hw2,g2,s1,s2,s3,s4⟩:=slice_world hs0 g0 r1 r2 r3
    rw [←hw2]
    clear hw2 hw g0 r1 r2 r3 hs0
    obtain⟨e1,e2,e3,e4⟩:=four_cellsV s4
    refine wp_loop_rounds 3 ?_
    rw [rounds_succ]
    go_wp2_with fail
    refine (hX.out _).mono ?_
    rintro e w3 ⟨rfl,hb3⟩
    have k3:=(balloc (Below.refl _ w2) _).trans (hb3.mono (by simp))
    have g3:=g2.trans (k3.mono g2.size)
    have s1:=s1.below k3 s1.lt;have s2:=s2.below k3 s2.lt;have s3:=s3.below k3 s3.lt;have s4:=s4.below k3 s4.lt
    clear k3 hb3 g2 e1 e2 e3 e4
    obtain⟨e1,e2,e3,e4⟩:=four_cellsV s4
    go_wp2_with fail
    rw [rounds_succ]
    go_wp2_with fail
    refine (hY.out _).mono ?_
    rintro e w4 ⟨rfl,hb4⟩
    have k4:=(balloc (Below.refl _ w3) _).trans (hb4.mono (by simp))
    have g4:=g3.trans (k4.mono g3.size)
    have s1:=s1.below k4 s1.lt;have s2:=s2.below k4 s2.lt;have s3:=s3.below k4 s3.lt
    clear k4 hb4 g3 s4 e1 e2 e3 e4
    go_wp2_with fail
    rw [rounds_succ]
    go_wp2_with fail
    refine (rules_any _).mono ?_
    rintro e w5 ⟨m,rfl,hm,hb5⟩
    have hlk:=hm.look (t:=255) uInt uMr (hz w5) _ hwf
    rw [hid] at hlk
    have g5:=g4.trans (hb5.mono g4.size)
    have s1:=s1.below hb5 s1.lt;have s2:=s2.below hb5 s2.lt;have s3:=s3.below hb5 s3.lt
    clear hm hb5 g4 hX hY
    obtain⟨e1,e2⟩:=two_cellsV s1
    obtain⟨e3,e4⟩:=two_cellsV s2
    go_wp2_with fail
    refine (hf.out _).mono ?_
    rintro e w6 ⟨rfl,hb6⟩
    have g6:=g5.trans (hb6.mono g5.size)
    have s3:=s3.below hb6 s3.lt
    clear hb6 g5 e1 e2 e3 e4 s1 s2
    have Hr:=Lib.hid s3
    go_wp2_with (refine wpList_store_row rfl 55 (.tmp 6) (.tmp 102) rfl _ #[.int .i64 lo,.int .i64 hi] rfl rfl _ _ Hr.out (hI2 _ _) rfl (hA2 _ _) ?_)
    obtain⟨z1,z2⟩:=two_cellsV (setRow_heap w6 (w.heap.size+1+1) _ #[.int .i64 lo,.int .i64 hi] _ _ Hr.out)
    refine bodyPost_ret (v:=.tuple #[.agg #[.int .i64 lo,.int .i64 hi],.int .i64 0]) (by simp [results,Tryz.results141,go_sem,z1,z2]) rfl ⟨rfl,belowRow g6 (by omega) _⟩



theorem effect_any(op:Int)(w:World):Calls Tryz.prog 137 #[.int .i64 op] w fun e w'=>e=.returned (.tuple #[.string (strB (opX op).pops),.string (strB (opX op).pushes),.bool (okX op)])∧Below w.heap.size w w':=by
 have H:=Lib.hid (known_any op w)
 obtain⟨x,hx⟩:∃ x,x=opX op:=⟨_,rfl⟩
 obtain⟨o,ho⟩:∃ o,o=okX op:=⟨_,rfl⟩
 rw [←hx,←ho] at H ⊢
 unfold aggO at H
 clear hx ho
 go_enter Tryz.func137,Tryz.ntmps137
 go_wp2_with fail
 refine H.out.mono ?_
 rintro e w1 ⟨rfl,hb1⟩
 go_wp2_with fail
 go_quiet (fail)
 go_wp2_with fail
 go_ret3
 exact⟨rfl,bdrew (balloc hb1 _) _⟩
def failW(at_ e:Int):Value:=.iface 127 (.agg #[.int .i64 at_,.int .i64 e])
theorem failW_any(a e:Int)(w:World):Calls Tryz.prog 65 #[.int .i64 a,.int .i64 e] w fun en w'=>en=.panicked [{ v:=failW a e,recovered:=false }]∧w'=w:=by
 go_enter Tryz.func65,Tryz.ntmps65
 go_wp2_with fail
 exact⟨rfl,rfl,rfl⟩
theorem demandW_ok(a e:Int)(w:World):Calls Tryz.prog 34 #[.bool true,.int .i64 a,.int .i64 e] w fun en w'=>en=.returned (.tuple #[])∧w'=w:=by
 go_enter Tryz.func34,Tryz.ntmps34
 go_wp2_with fail
 exact⟨rfl,_,results_none rfl _ _ _,rfl,rfl⟩
theorem demandW_bad(a e:Int)(w:World):Calls Tryz.prog 34 #[.bool false,.int .i64 a,.int .i64 e] w fun en w'=>en=.panicked [{ v:=failW a e,recovered:=false }]∧w'=w:=by
 go_enter Tryz.func34,Tryz.ntmps34
 go_wp2_with fail
 refine (failW_any _ _ _).mono ?_
 rintro en w1 ⟨rfl,hw1⟩
 subst hw1
 exact⟨rfl,rfl,rfl⟩
theorem numeric_any(lo hi:Int)(w:World):Calls Tryz.prog 139 #[.agg #[.int .i64 lo,.int .i64 hi]] w fun e w'=>e=.returned (.agg #[.bool false,.int .i64 lo,.int .i64 hi])∧Below w.heap.size w w':=by
 go_enter Tryz.func139,Tryz.ntmps139
 go_wp2_with fail
 refine bodyPost_ret (v:=.agg #[.bool false,.int .i64 lo,.int .i64 hi]) (by simp [results,Tryz.results139,go_sem]) rfl ⟨rfl,balloc (balloc (Below.refl _ _) _) _⟩
theorem plus_any(a b c d:Int)(ha:0≤a∧a≤281474976710657)(hb:0≤b∧b≤281474976710657)(hc:0≤c∧c≤281474976710657)(hd:0≤d∧d≤281474976710657)(w:World):Calls Tryz.prog 102 #[.agg #[.int .i64 a,.int .i64 b],.agg #[.int .i64 c,.int .i64 d]] w fun e w'=>e=.returned (.agg #[.int .i64 (capS a c),.int .i64 (capS b d)])∧Below w.heap.size w w':=by
 unfold capS tooMany
 go_enter Tryz.func102,Tryz.ntmps102
 go_wp2_with fail
 refine bodyPost_ret (v:=.agg #[.int .i64 (min (a+c) 281474976710657),.int .i64 (min (b+d) 281474976710657)]) (by simp [results,Tryz.results102,go_sem]) rfl ⟨rfl,balloc (balloc (balloc (Below.refl _ _) _) _) _⟩
theorem product_any(x n:Int)(pb:Nat)(hx:0≤x∧x≤281474976710657)(hn:0≤n∧n≤65536)(w:World)(hb:w.cell? ⟨pb,0,none⟩=some (.int .i64 n)):Calls Tryz.prog 165 #[.int .i64 x,.pointer (some ⟨pb,0,none⟩)] w fun e w'=>e=.returned (.int .i64 (prodS x n))∧w'=w:=by
 have hE:Hid (prodS x n=if 0 < n∧281474976710657 / n < x then 281474976710657 else min (x * n) 281474976710657):=rfl
 have t1:Int.tdiv 281474976710657 n=281474976710657 / n:=Int.tdiv_eq_ediv_of_nonneg (by omega)
 have u1:=Int.ediv_nonneg (by omega:(0:Int)≤281474976710657) hn.1
 have u2:=Int.ediv_le_self n (by omega:(0:Int)≤281474976710657)
 by_cases h1:0 < n
 ·have d1:decide (0 < n)=true:=decide_eq_true h1
  have q1:(n==0)=false:=by simp;omega
  have q3:n≠0:=by omega
  by_cases h2:281474976710657 / n < x
  ·have d2:decide (281474976710657 / n < x)=true:=decide_eq_true h2
   rw [if_pos ⟨h1,h2⟩] at hE
   rw [hE.out]
   go_enter Tryz.func165,Tryz.ntmps165
   go_wp2_with fail
   go_ret
   exact⟨rfl,rfl⟩
  ·have d2:decide (281474976710657 / n < x)=false:=decide_eq_false h2
   rw [if_neg (by omega)] at hE
   rw [hE.out]
   have k1:x≤281474976710657 / n:=by omega
   have k2:=Int.mul_le_mul_of_nonneg_right k1 (Int.le_of_lt h1)
   have k3:=Int.ediv_mul_le 281474976710657 (by omega:n≠0)
   have k4:x * n≤281474976710657:=Int.le_trans k2 k3
   have k5:0≤x * n:=Int.mul_nonneg hx.1 hn.1
   clear k2 k3
   go_enter Tryz.func165,Tryz.ntmps165
   go_wp2_with fail
   go_ret
   exact⟨rfl,rfl⟩
 ·have d1:decide (0 < n)=false:=decide_eq_false h1
  obtain rfl:n=0:=by omega
  rw [if_neg (by omega)] at hE
  rw [hE.out]
  go_enter Tryz.func165,Tryz.ntmps165
  go_wp2_with fail
  go_ret
  exact⟨by simp,rfl⟩
structure BkV where
 op:Int
 fr:Int
 tt:Int
 bA:Option Addr
 bn:Nat
 bc:Nat
 oA:Option Addr
 on:Nat
 oc:Nat
def encBk(x:BkV):List Value:=[.int .i64 x.op,.int .i64 x.fr,.int .i64 x.tt,.slice x.bA x.bn x.bc,.slice x.oA x.on x.oc]
def encZ(x:Int):List Value:=[.int .i64 x]
theorem encBk_one(x:BkV):∀ u∈encBk x,u.oneCell'=true:=by
 intro u hu
 simp only [encBk,List.mem_cons,List.not_mem_nil,or_false] at hu
 rcases hu with h | h | h | h | h <;> rw [h] <;> rfl
theorem encZ_one(x:Int):∀ u∈encZ x,u.oneCell'=true:=by
 intro u hu
 simp only [encZ,List.mem_singleton] at hu
 rw [hu];rfl
theorem uBk:Tryz.prog.underlying 61=some (.slice 104):=by kernel_rfl
theorem uIs:Tryz.prog.underlying 57=some (.slice 3):=by kernel_rfl
theorem infoBk:(Tryz.prog.info? 104).map (fun i=>(i.zero,i.size,i.bytes))=some (some (.agg #[.int .i64 0,.int .i64 0,.int .i64 0,.slice none 0 0,.slice none 0 0]),5,72):=by kernel_rfl
theorem infoZ:(Tryz.prog.info? 3).map (fun i=>(i.zero,i.size,i.bytes))=some (some (.int .i64 0),1,8):=by kernel_rfl
abbrev OutB(w:World)(B:Nat)(A:Option Addr)(n c:Nat)(xs:List BkV):Prop:=OwnS encBk 5 w B 104 A n c xs
def gBk(xs:List BkV)(k:Nat):BkV:=xs.getD k ⟨0,0,0,none,0,0,none,0,0⟩
theorem flat_set5(v:Int):∀ (xs:List BkV) (i:Nat),i < xs.length→(xs.flatMap encBk).set (i * 5+2) (.int .i64 v)=(xs.set i { gBk xs i with tt:=v }).flatMap encBk:=by
 intro xs
 induction xs with
 | nil=>intro i h;cases h
 | cons x xs ih=>
  intro i h
  cases i with
  | zero=>rfl
  | succ i=>
   have h1:=ih i (by simpa using h)
   have h2:gBk (x :: xs) (i+1)=gBk xs i:=rfl
   rw [h2,List.set_cons_succ,List.flatMap_cons,List.flatMap_cons,←h1]
   show (encBk x++xs.flatMap encBk).set ((i+1) * 5+2) _=_
   rw [List.set_append_right _ _ (by simp [encBk];omega)]
   congr 2
   simp [encBk];omega
structure LV where
 lb:Nat
 A:Option Addr
 n:Nat
 c:Nat
 L:List Int
def lvPtr:Option LV→Value
 | none=>.pointer none
 | some v=>.pointer (some ⟨v.lb,0,none⟩)
structure LvAt (B pb:Nat) (w:World) (v:LV):Prop where
 le:B≤v.lb
 box:rowV w v.lb 57 #[.slice v.A v.n v.c]
 own:OwnS encZ 1 w B 3 v.A v.n v.c v.L
 ne:∀ b,(Value.slice v.A v.n v.c).ownBlock=some b→b≠pb
def LvOk(B pb:Nat)(w:World):Option LV→Prop
 | none=>True
 | some v=>LvAt B pb w v
def LvExt(c:List Ins)(p m:Nat):Option LV→Option LV→Prop
 | none,v=>v=none
 | some v,u=>∃ v' X,u=some v'∧v'.lb=v.lb∧v'.L=v.L++X∧(∀ x∈X,∃ k:Nat,x=(k:Int)∧p≤k∧k < m∧oI c k=30)∧v'.n+p≤v.n+m
def LvFew:Option LV→Nat→Prop
 | none,_=>True
 | some v,p=>v.n≤p
def LvBlk:Option LV→Nat→Prop
 | none,_=>False
 | some v,k=>k=v.lb∨(Value.slice v.A v.n v.c).ownBlock=some k
structure KX (B g pb:Nat) (lv lv':Option LV) (w w':World):Prop where
 below:Below B w w'
 keep:∀ k,k < w.heap.size→k≠g→k≠pb→¬ LvBlk lv k→w'.heap[k]?=w.heap[k]?
 fresh:∀ k,LvBlk lv' k→LvBlk lv k∨w.heap.size≤k
structure FR (w0:World) (g pb:Nat) (w:World) (A:Option Addr) (n cc:Nat) (at_:Nat) (P:List Int):Prop where
 row:rowV w g 163 #[.slice A n cc,.int .i64 at_,.slice (some ⟨pb,0,none⟩) n n]
 prt:Row (Value.int .i64) w pb 3 P
 len:P.length=n
 base:Below w0.heap.size w0 w
 hg:w0.heap.size≤g
 hp:w0.heap.size≤pb
def failF(at_ e:Int):Value:=.iface 159 (.agg #[.int .i64 at_,.int .i64 e])
def DoesF(w0:World)(g pb:Nat)(w:World)(A:Option Addr)(n cc:Nat)(c:List Ins)(p:Nat)(P:List Int)(lv:Option LV)(Res:Ending→World→Prop)(r:PR)(e:Ending)(w':World):Prop:=match r with
 | .bad q=>e=.panicked [{ v:=failF q 15,recovered:=false }]∧Below w0.heap.size w w'
 | .ok t m=>Res e w'∧∃ P' lv',FR w0 g pb w' A n cc m P'∧(∀ k,k < p∨m≤k→gi P' k=gi P k)∧PartOk P' p t∧LvOk w0.heap.size pb w' lv'∧LvExt c p m lv lv'∧KX w0.heap.size g pb lv lv' w w'
def ResL(w:World)(e:Ending)(w':World):Prop:=∃ A n c,e=.returned (.slice A n c)
def ResB(w:World)(e:Ending)(w':World):Prop:=∃ x:BkV,e=.returned (.agg #[.int .i64 x.op,.int .i64 x.fr,.int .i64 x.tt,.slice x.bA x.bn x.bc,.slice x.oA x.on x.oc])
theorem LvExt.refl(c:List Ins)(p:Nat)(lv:Option LV):LvExt c p p lv lv:=by
 cases lv with
 | none=>rfl
 | some v=>exact⟨v,[],rfl,rfl,by simp,fun x hx=>absurd hx List.not_mem_nil,Nat.le_refl _⟩
theorem LvFew.ext{c:List Ins}{p m:Nat}{a b:Option LV}(h:LvFew a p)(he:LvExt c p m a b):LvFew b m:=by
 cases a with
 | none=>have he:b=none:=he;subst he;trivial
 | some v=>
  obtain⟨v',X,rfl,-,-,-,h2⟩:=he
  have h:v.n≤p:=h
  show v'.n≤m
  omega
theorem LvExt.trans{c:List Ins}{p m q:Nat}{a b d:Option LV}(h:LvExt c p m a b)(h':LvExt c m q b d)(h1:p≤m)(h2:m≤q):LvExt c p q a d:=by
 cases a with
 | none=>
  have h:b=none:=h
  subst h
  exact h'
 | some v=>
  obtain⟨v',X,rfl,e1,e2,e3,e4⟩:=h
  obtain⟨v'',Y,rfl,f1,f2,f3,f4⟩:=h'
  refine⟨v'',X++Y,rfl,f1.trans e1,by rw [f2,e2,List.append_assoc],fun x hx=>?_,by omega⟩
  rcases List.mem_append.1 hx with hx | hx
  ·obtain⟨k,a,b,d,f⟩:=e3 x hx;exact⟨k,a,b,by omega,f⟩
  ·obtain⟨k,a,b,d,f⟩:=f3 x hx;exact⟨k,a,by omega,d,f⟩
theorem LvExt.some{c:List Ins}{p m:Nat}{a b:Option LV}(h:LvExt c p m a b):a.isSome=b.isSome:=by
 cases a with
 | none=>have h:b=none:=h;rw [h]
 | some v=>obtain⟨v',X,rfl,-⟩:=h;rfl
theorem LvExt.ptr{c:List Ins}{p m:Nat}{a b:Option LV}(h:LvExt c p m a b):lvPtr b=lvPtr a:=by
 cases a with
 | none=>have h:b=none:=h;rw [h]
 | some v=>obtain⟨v',X,rfl,e,-⟩:=h;simp [lvPtr,e]
theorem KX.refl(B g pb:Nat)(lv:Option LV)(w:World):KX B g pb lv lv w w:=⟨Below.refl _ _,fun _ _ _ _ _=>rfl,fun k h=>.inl h⟩
theorem KX.trans{B g pb:Nat}{a b d:Option LV}{w w1 w2:World}(h:KX B g pb a b w w1)(h':KX B g pb b d w1 w2):KX B g pb a d w w2:=
 ⟨h.below.trans h'.below,fun k hk h1 h2 h3=>(h'.keep k (Nat.lt_of_lt_of_le hk h.below.size) h1 h2 (fun hb=>by
  rcases h.fresh k hb with h4 | h4
  ·exact h3 h4
  ·omega)).trans (h.keep k hk h1 h2 h3),fun k hk=>by
  rcases h'.fresh k hk with h1 | h1
  ·exact h.fresh k h1
  ·have:=h.below.size;omega⟩
theorem FR.codes{w0 w:World}{g pb:Nat}{A:Option Addr}{n cc at_:Nat}{P:List Int}(h:FR w0 g pb w A n cc at_ P){c:List Ins}(hc:Codes w0 A n cc c):Codes w A n cc c:=hc.below h.base
theorem demandF_ok(a e:Int)(w:World):Calls Tryz.prog 82 #[.bool true,.int .i64 a,.int .i64 e] w fun en w'=>en=.returned (.tuple #[])∧w'=w:=by
 go_enter Tryz.func82,Tryz.ntmps82
 go_wp2_with fail
 exact⟨rfl,_,results_none rfl _ _ _,rfl,rfl⟩
theorem demandF_bad(a e:Int)(w:World):Calls Tryz.prog 82 #[.bool false,.int .i64 a,.int .i64 e] w fun en w'=>en=.panicked [{ v:=failF a e,recovered:=false }]∧w'=w:=by
 go_enter Tryz.func82,Tryz.ntmps82
 go_wp2_with fail
 exact⟨rfl,rfl,rfl⟩
theorem opens_any(op:Int)(w:World):Calls Tryz.prog 115 #[.int .i64 op] w fun e w'=>e=.returned (.bool (decide (op=27∨op=29)))∧w'=w:=by
 by_cases h1:op=27
 ·subst h1
  go_enter Tryz.func115,Tryz.ntmps115
  go_wp2_with fail
  go_ret
  exact⟨rfl,rfl⟩
 have q1:(op==27)=false:=by simpa using h1
 by_cases h2:op=29
 ·subst h2
  go_enter Tryz.func115,Tryz.ntmps115
  go_wp2_with fail
  go_ret
  exact⟨rfl,rfl⟩
 have q2:(op==29)=false:=by simpa using h2
 rw [decide_eq_false (by omega)]
 go_enter Tryz.func115,Tryz.ntmps115
 go_wp2_with fail
 go_ret
 exact⟨rfl,rfl⟩
def blkP(c:List Ins)(f d:Nat)(b:Bool)(p:Nat):PR:=
 if 8≤d then .bad p
 else (lst c f (d+1) (b || decide (oI c p=29)) (p+1)).bind fun a m=>
  if m < c.length∧oI c p=27∧oI c m=28 then
   (lst c f (d+1) b (m+1)).bind fun e q=>if q < c.length∧oI c q=31 then .ok (.ife a e .nil) (q+1) else .bad q
  else if m < c.length∧oI c m=31 then .ok (if oI c p=27 then .ift a .nil else .lp a .nil) (m+1) else .bad m
theorem lst_block{c:List Ins}{f d p:Nat}{b:Bool}(hp:p < c.length)(ho:oI c p=27∨oI c p=29):lst c (f+1) d b p=(blkP c f d b p).bind fun t m=>(lst c f d b m).pre t:=by
 conv=>lhs;unfold lst
 unfold blkP
 rw [if_pos hp,if_neg (by omega),if_pos ho]
 by_cases h8:8≤d
 ·rw [if_pos h8,if_pos h8];rfl
 rw [if_neg h8,if_neg h8]
 cases lst c f (d+1) (b || decide (oI c p=29)) (p+1) with
 | bad q=>rfl
 | ok a m=>
  simp only [PR.bind]
  by_cases h1:m < c.length∧oI c p=27∧oI c m=28
  ·rw [if_pos h1,if_pos h1]
   cases lst c f (d+1) b (m+1) with
   | bad q=>rfl
   | ok e q=>
    simp only []
    by_cases h2:q < c.length∧oI c q=31
    ·rw [if_pos h2,if_pos h2]
     show (lst c f d b (q+1)).map _=(lst c f d b (q+1)).pre _;cases lst c f d b (q+1) <;> rfl
    ·rw [if_neg h2,if_neg h2]
  ·rw [if_neg h1,if_neg h1]
   by_cases h2:m < c.length∧oI c m=31
   ·rw [if_pos h2,if_pos h2]
    by_cases h3:oI c p=27
    ·rw [if_pos h3,if_pos h3]
     show (lst c f d b (m+1)).map _=(lst c f d b (m+1)).pre _;cases lst c f d b (m+1) <;> rfl
    ·rw [if_neg h3,if_neg h3]
     show (lst c f d b (m+1)).map _=(lst c f d b (m+1)).pre _;cases lst c f d b (m+1) <;> rfl
   ·rw [if_neg h2,if_neg h2]
theorem blkP_ok{c:List Ins}{f d p:Nat}{b:Bool}{t:Tr}{m:Nat}(hp:p < c.length)(ho:oI c p=27∨oI c p=29)(h:blkP c f d b p=.ok t m):m=p+t.size∧m≤c.length∧Fit c b p t∧p < m:=by
 have hl:lst c (f+1) d b p=(blkP c f d b p).bind fun t m=>(lst c f d b m).pre t:=lst_block hp ho
 unfold blkP at h
 split at h
 ·cases h
 obtain⟨a,k,h1,h2⟩:=PR.bind_ok h
 obtain⟨fa,ka,la,-,-⟩:=lst_ok h1
 split at h2
 ·rename_i hk
  obtain⟨e,q,h3,h4⟩:=PR.bind_ok h2
  obtain⟨fe,ke,le,-,-⟩:=lst_ok h3
  split at h4
  ·rename_i hq
   cases h4
   subst ka ke
   have h29:decide (oI c p=29)=false:=by simp;omega
   rw [h29,Bool.or_false] at fa
   refine⟨by simp only [Tr.size];omega,by omega,⟨hk.2.1,fa,hk.2.2,?_,?_,trivial⟩,by omega⟩
   ·rw [show p+2+a.size=p+1+a.size+1 by omega];exact fe
   ·rw [show p+2+a.size+e.size=p+1+a.size+1+e.size by omega];exact hq.2
  ·cases h4
 ·split at h2
  ·rename_i hm
   cases h2
   subst ka
   by_cases h27:oI c p=27
   ·have h29:decide (oI c p=29)=false:=by simp;omega
    rw [h29,Bool.or_false] at fa
    rw [if_pos h27]
    exact⟨by simp only [Tr.size];omega,by omega,⟨h27,fa,hm.2,trivial⟩,by omega⟩
   ·have h29':decide (oI c p=29)=true:=by simp;omega
    rw [h29',Bool.or_true] at fa
    rw [if_neg h27]
    exact⟨by simp only [Tr.size];omega,by omega,⟨by omega,fa,hm.2,trivial⟩,by omega⟩
  ·cases h2
theorem PR.pre_nil(x:PR):x.pre .nil=x:=by cases x <;> rfl
theorem PR.pre_pre(x:PR)(s t:Tr):(x.pre t).pre s=x.pre (s.app t):=by
 cases x with
 | bad p=>rfl
 | ok u m=>simp only [PR.pre,Tr.app_assoc]
theorem hIb(a b:Int):(Tryz.prog.info? 136).map (·.size)=some (#[Value.int .i64 a,.int .i64 b]:Array Value).size:=by kernel_rfl
theorem times_boxes(w:World)(s e n:Int):∃ w3,w3=((w.alloc (.cells #[.int .i64 s,.int .i64 e] 136)).alloc (.cells #[.int .i64 n] 3)).alloc (.cells #[.int .i64 0,.int .i64 0] 136)∧Below w.heap.size w w3∧rowV w3 w.heap.size 136 #[.int .i64 s,.int .i64 e]∧rowV w3 (w.heap.size+1) 3 #[.int .i64 n]∧rowV w3 (w.heap.size+1+1) 136 #[.int .i64 0,.int .i64 0]:=by
 have r1:=rowV.new w 136 #[.int .i64 s,.int .i64 e]
 have r2:=rowV.new (w.alloc (.cells #[.int .i64 s,.int .i64 e] 136)) 3 #[.int .i64 n]
 have r3:=rowV.new ((w.alloc (.cells #[.int .i64 s,.int .i64 e] 136)).alloc (.cells #[.int .i64 n] 3)) 136 #[.int .i64 0,.int .i64 0]
 have k1:=balloc (Below.refl _ (w.alloc (.cells #[.int .i64 s,.int .i64 e] 136))) (.cells #[.int .i64 n] 3)
 have k2:=balloc (Below.refl _ ((w.alloc (.cells #[.int .i64 s,.int .i64 e] 136)).alloc (.cells #[.int .i64 n] 3))) (.cells #[.int .i64 0,.int .i64 0] 136)
 have e1:(w.alloc (.cells #[.int .i64 s,.int .i64 e] 136)).heap.size=w.heap.size+1:=by simp
 have e2:((w.alloc (.cells #[.int .i64 s,.int .i64 e] 136)).alloc (.cells #[.int .i64 n] 3)).heap.size=w.heap.size+1+1:=by simp
 have q1:=r1.below k1 r1.lt
 rw [e1] at r2
 rw [e2] at r3
 exact⟨_,rfl,balloc (balloc (balloc (Below.refl _ _) _) _) _,q1.below k2 q1.lt,r2.below k2 r2.lt,r3⟩
theorem times_any(s e n:Int)(hs:0≤s∧s≤281474976710657)(he:0≤e∧e≤281474976710657)(hn:0≤n∧n≤65536)(w:World) :
  Calls Tryz.prog 135 #[.agg #[.int .i64 s,.int .i64 e],.int .i64 n] w fun en w'=>en=.returned (.agg #[.int .i64 (prodS (capS s 1) n),.int .i64 (prodS e n)])∧Below w.heap.size w w':=by
 obtain⟨w3,hw3,g3,r1,r2,r3⟩:=times_boxes w s e n
 obtain⟨a1,a2⟩:=two_cellsV r1
 have b1:=cell_rowV r2 (j:=0) rfl
 have hw:=Lib.hid hw3
 clear hw3
 have hc:min (s+1) 281474976710657=capS s 1:=rfl
 have hcb:0≤capS s 1∧capS s 1≤281474976710657:=by unfold capS tooMany;omega
 have H1:=Lib.hid (fun q=>product_any (capS s 1) n (w.heap.size+1) hcb hn (w3.drewN q) b1)
 have H2:=Lib.hid (fun q=>product_any e n (w.heap.size+1) he hn (w3.drewN q) b1)
 obtain⟨x,hx⟩:∃ x,x=capS s 1:=⟨_,rfl⟩
 rw [←hx] at H1 hc hcb ⊢
 clear hx
 obtain⟨P1,hP1⟩:∃ z,z=prodS x n:=⟨_,rfl⟩
 obtain⟨P2,hP2⟩:∃ z,z=prodS e n:=⟨_,rfl⟩
 rw [←hP1] at H1 ⊢
 rw [←hP2] at H2 ⊢
 clear hP1 hP2
 go_enter Tryz.func135,Tryz.ntmps135
 go_wp2_with fail
 rw [←hw.out]
 refine wp_region_quiet_tail 11 (by kernel_rfl) (by kernel_rfl) ?_
 simp only [List.take_succ_cons,List.take_zero,List.drop_succ_cons,List.drop_zero]
 repeat (go_big_quiet_step (first | (go_at_call_of 165 (Value.int .i64 x);exact (H1.out _).mono fun e w2 h=>⟨h.1,_,h.2⟩) | (go_at_call_of 165 (Value.int .i64 e);exact (H2.out _).mono fun e w2 h=>⟨h.1,_,h.2⟩)))
 refine wpQuiet_nil ?_
 intro _ hw'
 obtain⟨nr,hw''⟩:=hw'
 subst hw''
 have Hr:=Lib.hid (show rowV (w3.drewN nr) (w.heap.size+1+1) 136 #[.int .i64 0,.int .i64 0] from r3)
 go_wp2_with (refine wpList_store_row rfl 136 (.tmp 4) (.tmp 17) rfl _ #[.int .i64 P1,.int .i64 P2] rfl rfl _ _ Hr.out (hIb _ _) rfl (hA2 _ _) ?_)
 obtain⟨z1,z2⟩:=two_cellsV (setRow_heap (w3.drewN nr) (w.heap.size+1+1) _ #[.int .i64 P1,.int .i64 P2] _ _ Hr.out)
 refine bodyPost_ret (v:=.agg #[.int .i64 P1,.int .i64 P2]) (by simp [results,Tryz.results135,go_sem,z1,z2]) rfl ⟨rfl,belowRow (bdrew g3 nr) (by omega) _⟩
end Go.Proofs.YtepoclhdklgnhaaGreatDoor
