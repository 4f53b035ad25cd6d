/- Xk Xl Xm Xn Vy. -/
import Derived.Test.YtpaplehcafeeaaaGreatDoorLC27
import Derived.Test.YtpaplehcafeeaaaGreatDoorLC28
import Derived.Deep.RegionHeld3
import Derived.Test.YtpaplehcafeeaaaGreatDoorLC29
import Derived.Test.YtpaplehcafeeaaaGreatDoorLC26
set_option maxRecDepth 100000
set_option maxHeartbeats 40000000
set_option linter.unusedVariables false
set_option linter.unusedSimpArgs false
set_option linter.unusedSectionVars false
namespace Go.Proofs.YtpaplehcafeeaaaGreatDoor
open Go.RowKit Go.Proofs
variable [Inhabited ArgB]
theorem plain_arith(wB:World)(g mb:Nat)(v:WV)(d:WD)(st:St)(w:World)(p:Prg)(P:List Int)(hk:PK wB v p P)(hb:Below wB.heap.size wB w)(h:WK wB.heap.size g mb v w st d)(n:Nat)(hn:p.locs=(n:Int))(hs:StOk n st)(lo base:Nat)(hlo:lo < p.code.length)(hba:base≤1000)(op:Int)(h8:8≤op)(h20:op≤20)(ho:oI p.code lo=op) :
  Calls Tryz.prog 112 #[.pointer (some ⟨g,0,none⟩),.int .i64 (lo:Int),.int .i64 (base:Int)] w (AnaR wB.heap.size g mb v d w 0 (plA p lo base st)):=by
 have hpp:(opX op).pops=[110,110]∧(opX op).pushes=[110]:=by
  have hall:∀ k:Fin 21,8≤k.val→(opX (k.val:Int)).pops=[110,110]∧(opX (k.val:Int)).pushes=[110]:=by decide +kernel
  have h1:=hall ⟨op.toNat,by omega⟩ (by show 8≤op.toNat;omega)
  rw [show (((⟨op.toNat,by omega⟩:Fin 21).val:Nat):Int)=op by show ((op.toNat:Nat):Int)=op;omega] at h1
  exact h1
 have hpl:(opX op).pops.length=2:=by rw [hpp.1];rfl
 have Hpp:=Lib.hid hpp
 clear hpp
 have q0:(op==0)=false:=by simp;omega
 have q1:(op==1)=false:=by simp;omega
 have q2:(op==2)=false:=by simp;omega
 have q3:(op==3)=false:=by simp;omega
 have q4:(op==4)=false:=by simp;omega
 have q5:(op==5)=false:=by simp;omega
 have q7:(op==7)=false:=by simp;omega
 have q6:(op==6)=false:=by simp;omega
 have q35:(op==35)=false:=by simp;omega
 have q34:(op==34)=false:=by simp;omega
 have q32:(op==32)=false:=by simp;omega
 have q26:(op==26)=false:=by simp;omega
 obtain⟨cb,off,hcA,hcb,hx1,hx2⟩:=hk.ins hb hlo
 obtain⟨e0,e1,e2,-,-,-,-,-,-,-,-⟩:=h.cells
 have hgl:=h.row.lt
 rw [hcA] at e2
 have hcn:=hk.cn
 have hlo2:lo < v.cn:=by omega
 have hlo3:lo≤1024:=by have:=hk.ok.len;omega
 obtain⟨cn,hcn'⟩:∃ c,c=v.cn:=⟨_,rfl⟩
 rw [←hcn'] at e2 hlo2
 rw [ho] at hx1
 have Hb:=Lib.hid hb
 have HW:=Lib.hid h
 have HK:=Lib.hid hk
 have Hlo:=Lib.hid hlo
 have HS:=Lib.hid hs
 have Hn:=Lib.hid hn
 have Harg:=Lib.hid (hk.ok.ins lo hlo)
 have Ho:=Lib.hid ho
 obtain⟨ar,har⟩:∃ a,a=(gI p.code lo).arg:=⟨_,rfl⟩
 rw [←har] at hx2
 have Har:=Lib.hid har
 clear hcn' hcn hlo hb h hk hs hn ho hcA har e0 e1
 obtain⟨w1,hw1,g1,r6,r7,s1⟩:=plain_boxes w op ar
 have HW1:=Lib.hid (HW.out.below g1)
 have Hw1:=Lib.hid hw1
 have HR1:=Lib.hid (And.intro r6 (And.intro r7 (And.intro g1 s1)))
 have y7:=(two_cellsV r7).1
 have HE:=Lib.hid (effect_any op w1)
 have Hpl:Hid (plA p lo base st=match popA st.stk base (opX op).pops with
  | .error e=>.bad lo e
  | .ok (rest,l)=>(match apI op (gV l 0).iv (gV l 1).iv with | none=>.bad lo 17 | some x=>pushA lo { st with stk:=rest } [numV x] 0)):=by
  show _=_
  unfold plA
  rw [Ho.out]
  try rw [Har.out]
  cases popA st.stk base (opX op).pops with
  | error e=>rfl
  | ok rl=>
   obtain⟨r0,l0⟩:=rl
   show (if op=0 then _ else _)=_
   rw [if_neg (by omega),if_neg (by omega),if_neg (by omega),if_neg (by omega),if_neg (by omega),if_neg (by omega),if_neg (by omega),if_neg (by omega),if_neg (by omega),if_neg (by omega),if_neg (by omega),if_neg (by rw [Hpp.out.2];decide)]
   rfl
 clear hw1 r6 r7 g1 s1
 go_enter Tryz.func112,Tryz.ntmps112
 go_wp2_with fail
 rw [←Hw1.out]
 clear hcb hx1 hx2 hgl e2 hlo2
 refine HE.out.mono ?_
 rintro e w2 ⟨rfl,hb2⟩
 have HW2:=Lib.hid (HW1.out.below hb2)
 have HV2:=Lib.hid (KV.of_below (B:=wB.heap.size) (g:=g) (mb:=mb) (d:=d) (HR1.out.2.2.1.trans (hb2.mono HR1.out.2.2.1.size)) HW.out.hB)
 have HPop:=Lib.hid (popW_any wB.heap.size g mb v d st w2 HW2.out lo base (opX op).pops (by rw [hpl];decide) HS.out.len hba)
 have r6:=HR1.out.1.below hb2 HR1.out.1.lt
 have r7:=HR1.out.2.1.below hb2 HR1.out.2.1.lt
 have y7:=(two_cellsV r7).1
 have HR2:=Lib.hid (And.intro r6 r7)
 clear r6 r7 hb2 HE
 go_wp2_with fail
 refine HPop.out.mono ?_
 intro e w3 hr
 clear HPop
 cases hpop:popA st.stk base (opX op).pops with
 | error x=>
  rw [hpop] at hr
  obtain⟨rfl,hb3⟩:=hr
  refine⟨rfl,?_⟩
  have h1:=Hpl.out
  rw [hpop] at h1
  rw [h1]
  exact⟨rfl,HV2.out.kw.ki.below.trans hb3⟩
 | ok rl=>
  obtain⟨rest,l⟩:=rl
  rw [hpop] at hr
  obtain⟨A3,c3,rfl,hl3,hK3,hV3⟩:=hr
  have HV3:=Lib.hid (HV2.out.trans hV3)
  have r6:=hV3.row HR2.out.1 (HW.out.fresh (Nat.le_refl _))
  have r7:=hV3.row HR2.out.2 (HW.out.fresh (Nat.le_succ _))
  have HR3:=Lib.hid (And.intro r6 r7)
  have HL3:=Lib.hid hl3
  have HK3:=Lib.hid hK3
  have Hpop:=Lib.hid (popA_rest HS.out hpop)
  have Hpl2:Hid (plA p lo base st=(match apI op (gV l 0).iv (gV l 1).iv with | none=>.bad lo 17 | some x=>pushA lo { st with stk:=rest } [numV x] 0)):=by show _=_;rw [Hpl.out,hpop]
  obtain⟨w4,hw4⟩:∃ w4,w4=w3.alloc (.cells #[.int .i64 1,.int .i64 0] 151):=⟨_,rfl⟩
  have hb4:Below w3.heap.size w3 w4:=by rw [hw4];exact balloc (Below.refl _ _) _
  have r12:rowV w4 w3.heap.size 151 #[.int .i64 1,.int .i64 0]:=by rw [hw4];exact rowV.new w3 _ _
  have HK4:=Lib.hid (hK3.below hb4)
  have HV4:=Lib.hid (HV3.out.trans (KV.of_below (g:=g) (mb:=mb) (d:={ d with sn:=rest.length }) hb4 hK3.hB))
  have HL4:=Lib.hid (hl3.below hb4)
  have q6:=r6.below hb4 r6.lt
  have q7:=r7.below hb4 r7.lt
  obtain⟨y7,y8⟩:=two_cellsV q7
  have l7:=q7.lt
  have HR4:=Lib.hid (And.intro q6 (And.intro q7 r12))
  have Hw4:=Lib.hid hw4
  have hs3:w.heap.size≤w3.heap.size:=Nat.le_of_lt r6.lt
  have hs3':=r6.lt
  clear hl3 hK3 hV3 r6 r7 hpop Hpl HV2 HR2 HW2 HL3 HK3 HV3 HR3 hw4 hb4 r12 q6 q7
  go_upto_region 5 with fail
  rw [←Hw4.out]
  have hpl2:=hpl
  obtain⟨x0,x1,hx0⟩:∃ x y,l=[x,y]:=by
   have h:=Hpop.out.2.2.1.trans hpl
   match l,h with
   | [x,y],_=>exact⟨x,y,rfl⟩
  subst hx0
  obtain⟨ob,hob,-,hob2,hoc⟩:=HL4.out.get (fun _=>rfl) (by decide) ⟨false,⟨0,0⟩⟩ (by rw [hpl];exact Nat.two_pos)
  subst hob
  have x00:w4.cell? ⟨ob,0,none⟩=some (.bool x0.tr):=hoc 0 0 _ (by rw [hpl];exact Nat.two_pos) rfl
  have x01:w4.cell? ⟨ob,1,none⟩=some (.int .i64 x0.iv.lo):=hoc 0 1 _ (by rw [hpl];exact Nat.two_pos) rfl
  have x02:w4.cell? ⟨ob,2,none⟩=some (.int .i64 x0.iv.hi):=hoc 0 2 _ (by rw [hpl];exact Nat.two_pos) rfl
  have x10:w4.cell? ⟨ob,3,none⟩=some (.bool x1.tr):=hoc 1 0 _ (by rw [hpl];decide) rfl
  have x11:w4.cell? ⟨ob,4,none⟩=some (.int .i64 x1.iv.lo):=hoc 1 1 _ (by rw [hpl];decide) rfl
  have x12:w4.cell? ⟨ob,5,none⟩=some (.int .i64 x1.iv.hi):=hoc 1 2 _ (by rw [hpl];decide) rfl
  clear hoc
  have hps:=Hpp.out.2
  have hzs:strB [110]=⟨#[110]⟩:=rfl
  rw [hps]
  have Hpl2:Hid (plA p lo base st=match apI op x0.iv x1.iv with
   | none=>.bad lo 17
   | some x=>pushA lo { st with stk:=rest } [numV x] 0):=Hpl2
  have hiv:=Hpop.out.2.1
  have HAp:=Lib.hid (applyI_any op x0.iv x1.iv h8 h20 (hiv x0 (List.mem_cons_self ..)) (hiv x1 (List.mem_cons_of_mem _ (List.mem_cons_self ..))))
  clear hiv
  obtain⟨b0,⟨xl,xh⟩⟩:=x0
  obtain⟨b1,⟨yl,yh⟩⟩:=x1
  simp only [] at x00 x01 x02 x10 x11 x12 HAp Hpl2
  go_upto_region 8 with fail
  obtain⟨zl,zh,er,hz,her⟩:∃ zl zh er,resI (apI op ⟨xl,xh⟩ ⟨yl,yh⟩)=.tuple #[.agg #[.int .i64 zl,.int .i64 zh],.int .i64 er]∧((er=0∧apI op ⟨xl,xh⟩ ⟨yl,yh⟩=some ⟨zl,zh⟩)∨(er=17∧apI op ⟨xl,xh⟩ ⟨yl,yh⟩=none)):=by
   cases apI op ⟨xl,xh⟩ ⟨yl,yh⟩ with
   | none=>exact⟨0,0,17,rfl,.inr ⟨rfl,rfl⟩⟩
   | some z=>exact⟨z.lo,z.hi,0,rfl,.inl ⟨rfl,rfl⟩⟩
  rw [hz] at HAp
  have Her:=Lib.hid her
  clear hz her
  have hobl:ob < w4.heap.size:=hob2
  go_region_held3 (fun W=>W.cell? ⟨w.heap.size+1,0,none⟩=some (.int .i64 op)∧W.cell? ⟨ob,1,none⟩=some (.int .i64 xl)∧W.cell? ⟨ob,2,none⟩=some (.int .i64 xh)∧W.cell? ⟨ob,4,none⟩=some (.int .i64 yl)∧W.cell? ⟨ob,5,none⟩=some (.int .i64 yh))
   (first | go_keep | exact⟨v0,v1,v2,v4,v5⟩ | exact⟨a0,a1,a2,a4,a5⟩ | exact⟨b0,b1,b2,b4,b5⟩)
   (first
    | (go_at_call 149;refine (HAp.out _).mono ?_;rintro e w5 ⟨rfl,hb5'⟩;have hb5:Below w4.heap.size w4 w5:=(bdrew (balloc (Below.refl _ w4) _) 1).trans (hb5'.mono (by simp));have r5:=(show rowV (w4.alloc (.cells #[.int .i64 0,.int .i64 0] 148)).drew w4.heap.size _ _ from rowV.new w4 _ _).below hb5' (by simp);have u0:=(two_cellsV r5).1;have u1:=(two_cellsV r5).2;have z0:=frozen_rowV' r5 0;have z1:=frozen_rowV' r5 1;have v0:=(hb5.cell (p:=⟨w.heap.size+1,0,none⟩) l7).trans y7;have v1:=(hb5.cell (p:=⟨ob,1,none⟩) hobl).trans x01;have v2:=(hb5.cell (p:=⟨ob,2,none⟩) hobl).trans x02;have v4:=(hb5.cell (p:=⟨ob,4,none⟩) hobl).trans x11;have v5:=(hb5.cell (p:=⟨ob,5,none⟩) hobl).trans x12;have l75:=Nat.lt_of_lt_of_le l7 hb5.size;have obl5:=Nat.lt_of_lt_of_le hobl hb5.size;have hb6a:Below w4.heap.size w4 (w5.setCell ⟨w4.heap.size,0,none⟩ (.int .i64 zl)):=belowCell hb5 (Nat.le_refl _) _;have hb6b:Below w4.heap.size w4 ((w5.setCell ⟨w4.heap.size,0,none⟩ (.int .i64 zl)).setCell ⟨w4.heap.size,1,none⟩ (.int .i64 zh)):=belowCell hb6a (Nat.le_refl _) _;have a0:=(hb6a.cell (p:=⟨w.heap.size+1,0,none⟩) l7).trans y7;have a1:=(hb6a.cell (p:=⟨ob,1,none⟩) hobl).trans x01;have a2:=(hb6a.cell (p:=⟨ob,2,none⟩) hobl).trans x02;have a4:=(hb6a.cell (p:=⟨ob,4,none⟩) hobl).trans x11;have a5:=(hb6a.cell (p:=⟨ob,5,none⟩) hobl).trans x12;have b0:=(hb6b.cell (p:=⟨w.heap.size+1,0,none⟩) l7).trans y7;have b1:=(hb6b.cell (p:=⟨ob,1,none⟩) hobl).trans x01;have b2:=(hb6b.cell (p:=⟨ob,2,none⟩) hobl).trans x02;have b4:=(hb6b.cell (p:=⟨ob,4,none⟩) hobl).trans x11;have b5:=(hb6b.cell (p:=⟨ob,5,none⟩) hobl).trans x12)
    | (go_at_call 149;refine (HAp.out _).mono ?_;rintro e w5 ⟨rfl,hb5'⟩;have hb5:Below w4.heap.size w4 w5:=(bdrew (Below.refl _ w4) 1).trans hb5';have v0:=(hb5.cell (p:=⟨w.heap.size+1,0,none⟩) l7).trans y7;have v1:=(hb5.cell (p:=⟨ob,1,none⟩) hobl).trans x01;have v2:=(hb5.cell (p:=⟨ob,2,none⟩) hobl).trans x02;have v4:=(hb5.cell (p:=⟨ob,4,none⟩) hobl).trans x11;have v5:=(hb5.cell (p:=⟨ob,5,none⟩) hobl).trans x12;have l75:=Nat.lt_of_lt_of_le l7 hb5.size;have obl5:=Nat.lt_of_lt_of_le hobl hb5.size))
  all_goals
   rename_i hHeld
   clear hHeld
  all_goals
   first
    | (obtain⟨w6,hw6⟩:∃ w6,w6=(w5.setCell ⟨w4.heap.size,0,none⟩ (.int .i64 zl)).setCell ⟨w4.heap.size,1,none⟩ (.int .i64 zh):=⟨_,rfl⟩;rw [←hw6];have hb6:Below w4.heap.size w4 w6:=(by rw [hw6];exact belowCell (belowCell hb5 (Nat.le_refl _) _) (Nat.le_refl _) _);have r13:rowV w6 w4.heap.size 148 #[.int .i64 zl,.int .i64 zh]:=(by rw [hw6];exact (r5.set 0 _).set 1 _))
    | (obtain⟨w6,hw6⟩:∃ w6,w6=w5.alloc (.cells #[.int .i64 zl,.int .i64 zh] 148):=⟨_,rfl⟩;rw [←hw6];have hb6:Below w4.heap.size w4 w6:=(by rw [hw6];exact balloc hb5 _);have r13:rowV w6 w5.heap.size 148 #[.int .i64 zl,.int .i64 zh]:=(by rw [hw6];exact rowV.new w5 _ _))
    | (obtain⟨w6,hw6⟩:∃ w6,w6=(w5.alloc (.cells #[.int .i64 zl,.int .i64 zh] 148)).drew:=⟨_,rfl⟩;rw [←hw6];have hb6:Below w4.heap.size w4 w6:=(by rw [hw6];exact bdrew (balloc hb5 _) 1);have r13:rowV w6 w5.heap.size 148 #[.int .i64 zl,.int .i64 zh]:=(by rw [hw6];exact rowV.new w5 _ _))
  all_goals
   obtain⟨t1,t2⟩:=two_cellsV r13
   have HK6:=Lib.hid (HK4.out.below hb6)
   have HV6:=Lib.hid (HV4.out.trans (KV.of_below (g:=g) (mb:=mb) (d:={ d with sn:=rest.length }) hb6 HK4.out.hB))
   have HR6:=Lib.hid (And.intro (HR4.out.1.below hb6 HR4.out.1.lt) (HR4.out.2.2.below hb6 HR4.out.2.2.lt))
   clear hb6 hb5 hw6 r13 v0 v1 v2 v4 v5
   rcases Her.out with ⟨rfl,hap⟩ | ⟨rfl,hap⟩
   rotate_left 1
   ·have Hpl2:Hid (plA p lo base st=.bad lo 17):=by show _=_;rw [Hpl2.out,hap]
    clear hap
    go_wp2_with fail
    refine (demandW_bad _ _ _).mono ?_
    rintro e w9 ⟨rfl,hw9⟩
    obtain rfl:=hw9.symm
    refine⟨rfl,?_⟩
    rw [Hpl2.out]
    exact⟨rfl,HV6.out.kw.ki.below⟩
   ·have Hpl2:Hid (plA p lo base st=pushA lo { st with stk:=rest } [numV ⟨zl,zh⟩] 0):=by show _=_;rw [Hpl2.out,hap]
    clear hap
    go_wp2_with fail
    refine (demandW_ok _ _ _).mono ?_
    rintro e w9 ⟨rfl,hw9⟩
    obtain rfl:=hw9.symm
    have HXn:=Lib.hid (numeric_any zl zh w6)
    go_wp2_with fail
    refine HXn.out.mono ?_
    rintro e wn ⟨rfl,hbn⟩
    have HKn:=Lib.hid (HK6.out.below hbn)
    have HVn:=Lib.hid (HV6.out.trans (KV.of_below (g:=g) (mb:=mb) (d:={ d with sn:=rest.length }) hbn HK6.out.hB))
    have HRn:=Lib.hid (And.intro ((HR6.out.1).below hbn (HR6.out.1).lt) ((HR6.out.2).below hbn (HR6.out.2).lt))
    clear hbn HXn
    have hb7:Below wn.heap.size wn (wn.alloc (.cells #[.bool false,.int .i64 zl,.int .i64 zh] 242)):=balloc (Below.refl _ _) _
    have HK7:=Lib.hid (HKn.out.below hb7)
    have HV7:=Lib.hid (HVn.out.trans (KV.of_below (g:=g) (mb:=mb) (d:={ d with sn:=rest.length }) hb7 HKn.out.hB))
    have HR7:=Lib.hid (And.intro ((HRn.out.1).below hb7 (HRn.out.1).lt) ((HRn.out.2).below hb7 (HRn.out.2).lt))
    have HPu:=Lib.hid (pushW_any wB.heap.size g mb v { d with sn:=rest.length } { st with stk:=rest } _ HK7.out lo ⟨wn.heap.size,0,none⟩ 1 1 [numV ⟨zl,zh⟩] (vls_one wn _) (by decide) Hpop.out.1.len Hpop.out.1.hgt 0)
    clear hb7
    go_wp2_with fail
    refine HPu.out.mono ?_
    intro e w8 hr
    clear HPu
    cases hpu:pushA lo { st with stk:=rest } [numV ⟨zl,zh⟩] 0 with
    | bad a x=>
     rw [hpu] at hr
     obtain⟨rfl,hb8⟩:=hr
     refine⟨rfl,?_⟩
     rw [Hpl2.out,hpu]
     exact⟨rfl,HV7.out.kw.ki.below.trans hb8⟩
    | stuck=>rw [hpu] at hr;exact hr.elim
    | ok st8 s8 e8=>
     rw [hpu] at hr
     obtain⟨rfl,d8,hK8,hV8,hm8⟩:=hr
     obtain⟨rfl,rfl,-⟩:=pushA_one hpu
     have HR8:=Lib.hid (And.intro (hV8.row HR7.out.1 (HK7.out.ne_box HR7.out.1 (by decide) (by decide) (by decide))) (hV8.row HR7.out.2 (HK7.out.ne_box HR7.out.2 (by decide) (by decide) (by decide))))
     have HK8:=Lib.hid hK8
     have HV8:=Lib.hid (HV7.out.trans hV8)
     have Hpl3:Hid (plA p lo base st=.ok st8 1 0):=by show _=_;rw [Hpl2.out,hpu]
     clear hK8 hV8 HK7 HV7 HR7 hpu
     go_wp2_with (first | refine wpList_load_row rfl 151 (.tmp 12) rfl _ rfl _ _ _ _ HR8.out.2 Tryz.underlying151 rfl (hIbd _ _) ?_ | refine wpList_store_row rfl 151 (.tmp 6) (.tmp 183) rfl _ #[.int .i64 1,.int .i64 0] rfl rfl _ _ HR8.out.1 (hIbd _ _) rfl (hA2 _ _) ?_)
     obtain⟨k1,k2⟩:=two_cellsV (setRow_heap w8 w.heap.size _ #[.int .i64 1,.int .i64 0] _ _ HR8.out.1)
     refine bodyPost_ret (v:=.agg #[.int .i64 1,.int .i64 0]) (by simp [results,Tryz.results112,go_sem,k1,k2]) rfl ?_
     rw [Hpl3.out]
     exact⟨rfl,_,HK8.out.boxG HR8.out.1 (by decide) (by decide) (by decide) (by decide) HW.out.hB (grownBy_setRow3 _ _ _),HV8.out.boxG (Nat.le_refl _) HW.out.hB (grownBy_setRow3 _ _ _),Nat.le_of_eq hm8⟩
end Go.Proofs.YtpaplehcafeeaaaGreatDoor
namespace Go.Proofs.YtpaplehcafeeaaaGreatDoor
open Go.RowKit Go.Proofs
variable [Inhabited ArgB]
theorem WK.storeL{B g mb:Nat}{v:WV}{w w5:World}{st:St}{d:WD}(h:WK B g mb v w st d)(hb:Below w.heap.size w w5){ab c5:Nat}(ho:OwnS encIv 2 w5 w.heap.size 148 (some ⟨ab,0,none⟩) d.ln c5 st.locs){i:Nat}(hi:i < d.ln)(z:Iv){w7:World}(hw7:w7=((w5.setCell ⟨g,6,none⟩ (.slice (some ⟨ab,0,none⟩) d.ln c5)).setCell ⟨ab,i * 2,none⟩ (.int .i64 z.lo)).setCell ⟨ab,i * 2+1,none⟩ (.int .i64 z.hi)) :
  WK B g mb v w7 { st with locs:=st.locs.set i z } { d with lA:=some ⟨ab,0,none⟩,lc:=c5 }∧KV B g mb d { d with lA:=some ⟨ab,0,none⟩,lc:=c5 } w w7:=by
 have hab:=ho.blk (b:=ab) (by unfold Value.ownBlock;rfl)
 have h5:=h.below hb
 have hgl:=h.row.lt
 have g6:w5.grownBy (w5.setCell ⟨g,6,none⟩ (.slice (some ⟨ab,0,none⟩) d.ln c5)) (some g):=grownBy.setCell' (World.grownBy.refl _ _) _
 have ho6:OwnS encIv 2 (w5.setCell ⟨g,6,none⟩ (.slice (some ⟨ab,0,none⟩) d.ln c5)) w.heap.size 148 (some ⟨ab,0,none⟩) d.ln c5 st.locs:=ho.grown g6 (ho.ne_row h5.row (by decide))
 obtain⟨ho7,g7⟩:=ho6.setIv i hi z
 rw [←hw7] at ho7 g7
 have hk7:∀ k,k < w.heap.size→k≠g→w7.heap[k]?=w.heap[k]?:=fun k hk hne=>((g7.block k (by have:=hb.size;have:=g6.size;omega) (fun e=>by injection e with e;have:=hab.2.1;omega)).trans (g6.block k (by have:=hb.size;omega) (fun e=>hne (by injection e)))).trans (hb.block k hk)
 have hbl:Below B w w7:=(((hb.mono h.hB).grown g6 (Nat.le_trans h.hB hb.size) (fun k hk=>by injection hk with hk;rw [←hk];exact h.hg))).grown g7 (Nat.le_trans h.hB (Nat.le_trans hb.size g6.size)) (fun k hk=>by injection hk with hk;have:=hab.2.1;have:=h.hB;omega)
 have hki:KI B w w7:=⟨hbl,fun k cs fr hk=>hk7 k (lt_of_heap hk) (fun e=>by
  have h1:=h.row
  unfold rowV at h1
  rw [←e] at h1
  exact ne_of_cells h1 (by decide) hk)⟩
 have hrow:rowV w7 g 145 (rowK v { d with lA:=some ⟨ab,0,none⟩,lc:=c5 } (st.hgt:Int) mb):=by
  have h6:=h5.row.set 6 (.slice (some ⟨ab,0,none⟩) d.ln c5)
  exact (g7.block g h6.lt (fun e=>by injection e with e;have:=hab.2.1;omega)).trans h6
 have hkeepO:∀ (b:Nat),b < w.heap.size→b≠g→w7.heap[b]?=w.heap[b]?:=hk7
 obtain⟨f,m1,m2⟩:=h.map
 have hst:StkS w7 B d.sA d.sn d.sc st.stk:=by
  have h1:=(h5.stk.grown g6 (h5.stk.ne_row h5.row (by decide)))
  exact h1.grown g7 (fun b hb2 e=>by injection e with e;have:=(h.stk.blk hb2).1;have:=hab.2.1;omega)
 have hlv:LvsS w7 B d.vA d.vn d.vc d.X:=by
  have h1:=(h5.lvs.grown g6 (h5.lvs.ne_row h5.row (by decide)))
  exact h1.grown g7 (fun b hb2 e=>by injection e with e;have:=(h.lvs.blk hb2).1;have:=hab.2.1;omega)
 refine⟨⟨hrow,h.hg,Nat.le_trans h.hB hbl.size,IvK.of_own ho7,hst,hlv,h.lvl,fun i hi=>(h.lvi i hi).keep hki,h.hm,f,m1.same (hk7 mb m1.lt h.ne_map),m2.keep hki⟩,⟨⟨hki,fun k cs fr hk hne=>hk7 k (lt_of_heap hk) (fun e=>?_),fun k hk=>.inl hk⟩,fun k h0 h1 _ _ _=>hk7 k h0 h1,fun k hk=>.inl hk⟩⟩
 have h1:=h.row
 unfold rowV at h1
 rw [←e] at h1
 exact ne_of_cells h1 (by decide) hk
theorem plain_store(wB:World)(g mb:Nat)(v:WV)(d:WD)(st:St)(w:World)(p:Prg)(P:List Int)(hk:PK wB v p P)(hb:Below wB.heap.size wB w)(h:WK wB.heap.size g mb v w st d)(n:Nat)(hn:p.locs=(n:Int))(hs:StOk n st)(lo base:Nat)(hlo:lo < p.code.length)(hba:base≤1000)(ho:oI p.code lo=2) :
  Calls Tryz.prog 112 #[.pointer (some ⟨g,0,none⟩),.int .i64 (lo:Int),.int .i64 (base:Int)] w (AnaR wB.heap.size g mb v d w 0 (plA p lo base st)):=by
 obtain⟨cb,off,hcA,hcb,hx1,hx2⟩:=hk.ins hb hlo
 obtain⟨e0,e1,e2,-,-,-,-,-,-,-,-⟩:=h.cells
 have hgl:=h.row.lt
 rw [hcA] at e2
 have hcn:=hk.cn
 have hlo2:lo < v.cn:=by omega
 have hlo3:lo≤1024:=by have:=hk.ok.len;omega
 obtain⟨cn,hcn'⟩:∃ c,c=v.cn:=⟨_,rfl⟩
 rw [←hcn'] at e2 hlo2
 rw [ho] at hx1
 have Hb:=Lib.hid hb
 have HW:=Lib.hid h
 have HK:=Lib.hid hk
 have Hlo:=Lib.hid hlo
 have HS:=Lib.hid hs
 have Hn:=Lib.hid hn
 have Harg:=Lib.hid (hk.ok.ins lo hlo)
 have Ho:=Lib.hid ho
 obtain⟨ar,har⟩:∃ a,a=(gI p.code lo).arg:=⟨_,rfl⟩
 rw [←har] at hx2
 have Har:=Lib.hid har
 clear hcn' hcn hlo hb h hk hs hn ho hcA har e0 e1
 obtain⟨w1,hw1,g1,r6,r7,s1⟩:=plain_boxes w 2 ar
 have HW1:=Lib.hid (HW.out.below g1)
 have Hw1:=Lib.hid hw1
 have HR1:=Lib.hid (And.intro r6 (And.intro r7 (And.intro g1 s1)))
 have y7:=(two_cellsV r7).1
 have HE:=Lib.hid (effect_any 2 w1)
 have Hpl:Hid (plA p lo base st=match popA st.stk base (opX 2).pops with
  | .error e=>.bad lo e
  | .ok (rest,l)=>.ok { st with stk:=rest,locs:=st.locs.set ar.toNat (gV l 0).iv } 1 0):=by
  show _=_
  unfold plA
  rw [Ho.out]
  try rw [Har.out]
  cases popA st.stk base (opX 2).pops <;> rfl
 clear hw1 r6 r7 g1 s1
 go_enter Tryz.func112,Tryz.ntmps112
 go_wp2_with fail
 rw [←Hw1.out]
 clear hcb hx1 hx2 hgl e2 hlo2
 refine HE.out.mono ?_
 rintro e w2 ⟨rfl,hb2⟩
 have HW2:=Lib.hid (HW1.out.below hb2)
 have HV2:=Lib.hid (KV.of_below (B:=wB.heap.size) (g:=g) (mb:=mb) (d:=d) (HR1.out.2.2.1.trans (hb2.mono HR1.out.2.2.1.size)) HW.out.hB)
 have HPop:=Lib.hid (popW_any wB.heap.size g mb v d st w2 HW2.out lo base (opX 2).pops (by decide) HS.out.len hba)
 have r6:=HR1.out.1.below hb2 HR1.out.1.lt
 have r7:=HR1.out.2.1.below hb2 HR1.out.2.1.lt
 have y7:=(two_cellsV r7).1
 have HR2:=Lib.hid (And.intro r6 r7)
 clear r6 r7 hb2 HE
 go_wp2_with fail
 refine HPop.out.mono ?_
 intro e w3 hr
 clear HPop
 cases hpop:popA st.stk base (opX 2).pops with
 | error x=>
  rw [hpop] at hr
  obtain⟨rfl,hb3⟩:=hr
  refine⟨rfl,?_⟩
  have h1:=Hpl.out
  rw [hpop] at h1
  rw [h1]
  exact⟨rfl,HV2.out.kw.ki.below.trans hb3⟩
 | ok rl=>
  obtain⟨rest,l⟩:=rl
  rw [hpop] at hr
  obtain⟨A3,c3,rfl,hl3,hK3,hV3⟩:=hr
  have HV3:=Lib.hid (HV2.out.trans hV3)
  have r6:=hV3.row HR2.out.1 (HW.out.fresh (Nat.le_refl _))
  have r7:=hV3.row HR2.out.2 (HW.out.fresh (Nat.le_succ _))
  have HR3:=Lib.hid (And.intro r6 r7)
  have HL3:=Lib.hid hl3
  have HK3:=Lib.hid hK3
  have Hpop:=Lib.hid (popA_rest HS.out hpop)
  have Hpl2:Hid (plA p lo base st=.ok { st with stk:=rest,locs:=st.locs.set ar.toNat (gV l 0).iv } 1 0):=by show _=_;rw [Hpl.out,hpop]
  obtain⟨w4,hw4⟩:∃ w4,w4=w3.alloc (.cells #[.int .i64 1,.int .i64 0] 151):=⟨_,rfl⟩
  have hb4:Below w3.heap.size w3 w4:=by rw [hw4];exact balloc (Below.refl _ _) _
  have r12:rowV w4 w3.heap.size 151 #[.int .i64 1,.int .i64 0]:=by rw [hw4];exact rowV.new w3 _ _
  have HK4:=Lib.hid (hK3.below hb4)
  have HV4:=Lib.hid (HV3.out.trans (KV.of_below (g:=g) (mb:=mb) (d:={ d with sn:=rest.length }) hb4 hK3.hB))
  have HL4:=Lib.hid (hl3.below hb4)
  have q6:=r6.below hb4 r6.lt
  have q7:=r7.below hb4 r7.lt
  obtain⟨y7,y8⟩:=two_cellsV q7
  have l7:=q7.lt
  have HR4:=Lib.hid (And.intro q6 (And.intro q7 r12))
  have Hw4:=Lib.hid hw4
  have hs3:w.heap.size≤w3.heap.size:=Nat.le_of_lt r6.lt
  have hs3':=r6.lt
  clear hl3 hK3 hV3 r6 r7 hpop Hpl HV2 HR2 HW2 HL3 HK3 HV3 HR3 hw4 hb4 r12 q6 q7
  go_upto_region 5 with fail
  rw [←Hw4.out]
  have hpl:(opX 2).pops.length=1:=by decide
  obtain⟨x0,hx0⟩:∃ x,l=[x]:=List.length_eq_one_iff.1 (Hpop.out.2.2.1.trans hpl)
  subst hx0
  obtain⟨ob,hob,-,hob2,hoc⟩:=HL4.out.get (fun _=>rfl) (by decide) ⟨false,⟨0,0⟩⟩ (by rw [hpl];exact Nat.one_pos)
  subst hob
  have x00:w4.cell? ⟨ob,0,none⟩=some (.bool x0.tr):=hoc 0 0 _ (by rw [hpl];exact Nat.one_pos) rfl
  have x01:w4.cell? ⟨ob,1,none⟩=some (.int .i64 x0.iv.lo):=hoc 0 1 _ (by rw [hpl];exact Nat.one_pos) rfl
  have x02:w4.cell? ⟨ob,2,none⟩=some (.int .i64 x0.iv.hi):=hoc 0 2 _ (by rw [hpl];exact Nat.one_pos) rfl
  clear hoc
  have harg:0≤ar∧ar < (n:Int):=by have h1:=Harg.out;have h2:=Har.out;have h3:=HK.out.ok.loc lo Hlo.out (.inr Ho.out);have h4:=Hn.out;omega
  obtain⟨an,han⟩:∃ an:Nat,ar=(an:Int):=⟨ar.toNat,by omega⟩
  subst han
  have han:an < n:=by omega
  have hn16:n≤16:=by have h1:=HK.out.ok.locs;have h4:=Hn.out;omega
  obtain⟨-,-,-,-,-,-,e6,-,-,-,-⟩:=HK4.out.cells
  have f6:=HK4.out.frozen 6
  simp only [] at e6
  have hln:d.ln=n:=(HW.out.ln).trans HS.out.locs.1
  have Hln:=Lib.hid hln
  have hiv:=HK4.out.locs.1
  have HC:=Lib.hid (cloneIv_any d.lA d.ln d.lc st.locs w4 hiv (by omega))
  rw [hln] at HC e6
  have Hpl2:Hid (plA p lo base st=.ok { st with stk:=rest,locs:=st.locs.set an x0.iv } 1 0):=by show _=_;rw [Hpl2.out,Int.toNat_natCast];rfl
  have hgl:=HK4.out.row.lt
  have hobl:=hob2
  clear hln hiv harg
  go_wp2_with fail
  refine HC.out.mono ?_
  rintro e w5 ⟨A5,c5,rfl,ho5,hb5⟩
  obtain⟨ab,hA5,hab1,hab2,hoc5⟩:=ho5.get (fun _=>rfl) (by decide) ⟨0,0⟩ (by omega)
  subst hA5
  have a0:w5.cell? ⟨ab,an * 2,none⟩=some (.int .i64 (gL st.locs an).lo):=hoc5 an 0 _ han rfl
  have a1:w5.cell? ⟨ab,an * 2+1,none⟩=some (.int .i64 (gL st.locs an).hi):=hoc5 an 1 _ han rfl
  have z0:=World.ownsRow.frozenAt ho5 (an * 2)
  have z1:=World.ownsRow.frozenAt ho5 (an * 2+1)
  have r5:=HK4.out.row.below hb5 hgl
  have t6:=cell_rowV r5 (j:=6) rfl
  have ft6:=frozen_rowV' r5 6
  have b1:=(hb5.cell (p:=⟨ob,1,none⟩) hobl).trans x01
  have b2:=(hb5.cell (p:=⟨ob,2,none⟩) hobl).trans x02
  have b8:=(hb5.cell (p:=⟨w.heap.size+1,1,none⟩) l7).trans y8
  have ngb:g≠ab:=by omega
  have ngo:g≠ob:=fun e=>HL4.out.ne_row HK4.out.row (by decide) ob rfl (by rw [e])
  have nao:ab≠ob:=by omega
  have ng7:g≠w.heap.size+1:=by have h1:=HW.out.row.lt;omega
  have na7:ab≠w.heap.size+1:=by omega
  have HO5:=Lib.hid (And.intro ho5 hb5)
  clear ho5 hb5 hoc5 r5 HC e6 f6
  go_wp2_with fail
  go_region
  obtain⟨w7,hw7⟩:∃ w7,w7=((w5.setCell ⟨g,6,none⟩ (.slice (some ⟨ab,0,none⟩) n c5)).setCell ⟨ab,an * 2,none⟩ (.int .i64 x0.iv.lo)).setCell ⟨ab,an * 2+1,none⟩ (.int .i64 x0.iv.hi):=⟨_,rfl⟩
  have hst:=HK4.out.storeL HO5.out.2 (ab:=ab) (c5:=c5) (show OwnS encIv 2 w5 w4.heap.size 148 (some ⟨ab,0,none⟩) d.ln c5 st.locs by rw [Hln.out];exact HO5.out.1) (i:=an) (by show an < d.ln;rw [Hln.out];exact han) x0.iv (w7:=w7) (by show w7=((w5.setCell ⟨g,6,none⟩ (.slice (some ⟨ab,0,none⟩) d.ln c5)).setCell _ _).setCell _ _;rw [Hln.out];exact hw7)
  obtain⟨w8,hw8⟩:∃ w8,w8=w7.drew:=⟨_,rfl⟩
  have HK8:Hid (WK wB.heap.size g mb v w8 { st with stk:=rest,locs:=st.locs.set an x0.iv } { d with sn:=rest.length,lA:=some ⟨ab,0,none⟩,lc:=c5 }):=by rw [hw8];exact hst.1.drewN 1
  have HV8:Hid (KV wB.heap.size g mb d { d with sn:=rest.length,lA:=some ⟨ab,0,none⟩,lc:=c5 } w w8):=by rw [hw8];exact (HV4.out.trans hst.2).drewN 1
  have HR8:Hid (rowV w8 w.heap.size 151 #[.int .i64 0,.int .i64 0]∧rowV w8 w3.heap.size 151 #[.int .i64 1,.int .i64 0]):=by
   rw [hw8]
   exact And.intro (hst.2.row HR4.out.1 (HK4.out.ne_box HR4.out.1 (by decide) (by decide) (by decide))) (hst.2.row HR4.out.2.2 (HK4.out.ne_box HR4.out.2.2 (by decide) (by decide) (by decide)))
  rw [←hw7,←hw8]
  clear hst hw7 hw8 a0 a1 z0 z1 t6 ft6 b1 b2 b8
  go_wp2_with (first | refine wpList_load_row rfl 151 (.tmp 12) rfl _ rfl _ _ _ _ HR8.out.2 Tryz.underlying151 rfl (hIbd _ _) ?_ | refine wpList_store_row rfl 151 (.tmp 6) (.tmp 183) rfl _ #[.int .i64 1,.int .i64 0] rfl rfl _ _ HR8.out.1 (hIbd _ _) rfl (hA2 _ _) ?_)
  obtain⟨k1,k2⟩:=two_cellsV (setRow_heap w8 w.heap.size _ #[.int .i64 1,.int .i64 0] _ _ HR8.out.1)
  refine bodyPost_ret (v:=.agg #[.int .i64 1,.int .i64 0]) (by simp [results,Tryz.results112,go_sem,k1,k2]) rfl ?_
  rw [Hpl2.out]
  exact⟨rfl,_,HK8.out.boxG HR8.out.1 (by decide) (by decide) (by decide) (by decide) HW.out.hB (grownBy_setRow3 _ _ _),HV8.out.boxG (Nat.le_refl _) HW.out.hB (grownBy_setRow3 _ _ _),Nat.le_refl _⟩
end Go.Proofs.YtpaplehcafeeaaaGreatDoor
namespace Go.Proofs.YtpaplehcafeeaaaGreatDoor
open Go.RowKit Go.Proofs
variable [Inhabited ArgB]
theorem plainW_any(wB:World)(g mb:Nat)(v:WV)(d:WD)(st:St)(w:World)(p:Prg)(P:List Int)(hk:PK wB v p P)(hb:Below wB.heap.size wB w)(h:WK wB.heap.size g mb v w st d)(n:Nat)(hn:p.locs=(n:Int))(hs:StOk n st)(lo base:Nat)(hlo:lo < p.code.length)(hba:base≤1000)(h27:oI p.code lo≠27)(h28:oI p.code lo≠28)(h29:oI p.code lo≠29)(h30:oI p.code lo≠30)(h31:oI p.code lo≠31) :
  Calls Tryz.prog 112 #[.pointer (some ⟨g,0,none⟩),.int .i64 (lo:Int),.int .i64 (base:Int)] w (AnaR wB.heap.size g mb v d w 0 (plA p lo base st)):=by
 have ho:=hk.ok.ins lo hlo
 by_cases h8:8≤oI p.code lo∧oI p.code lo≤20
 ·exact plain_arith wB g mb v d st w p P hk hb h n hn hs lo base hlo hba _ h8.1 h8.2 rfl
 have hcs:oI p.code lo=0∨oI p.code lo=1∨oI p.code lo=2∨oI p.code lo=3∨oI p.code lo=4∨oI p.code lo=5∨oI p.code lo=6∨oI p.code lo=7∨oI p.code lo=21∨oI p.code lo=22∨oI p.code lo=23∨oI p.code lo=24∨oI p.code lo=25∨oI p.code lo=26∨oI p.code lo=32∨oI p.code lo=33∨oI p.code lo=34∨oI p.code lo=35:=by omega
 rcases hcs with h0 | h0 | h0 | h0 | h0 | h0 | h0 | h0 | h0 | h0 | h0 | h0 | h0 | h0 | h0 | h0 | h0 | h0
 ·exact plain_push wB g mb v d st w p P hk hb h n hn hs lo base hlo hba h0
 ·exact plain_load wB g mb v d st w p P hk hb h n hn hs lo base hlo hba h0
 ·exact plain_store wB g mb v d st w p P hk hb h n hn hs lo base hlo hba h0
 ·exact plain_get wB g mb v d st w p P hk hb h n hn hs lo base hlo hba h0
 ·exact plain_put wB g mb v d st w p P hk hb h n hn hs lo base hlo hba h0
 ·exact plain_dup wB g mb v d st w p P hk hb h n hn hs lo base hlo hba h0
 ·exact plain_drop wB g mb v d st w p P hk hb h n hn hs lo base hlo hba h0
 ·exact plain_swap wB g mb v d st w p P hk hb h n hn hs lo base hlo hba h0
 ·exact plain_truth21 wB g mb v d st w p P hk hb h n hn hs lo base hlo hba h0
 ·exact plain_truth22 wB g mb v d st w p P hk hb h n hn hs lo base hlo hba h0
 ·exact plain_truth23 wB g mb v d st w p P hk hb h n hn hs lo base hlo hba h0
 ·exact plain_truth24 wB g mb v d st w p P hk hb h n hn hs lo base hlo hba h0
 ·exact plain_truth25 wB g mb v d st w p P hk hb h n hn hs lo base hlo hba h0
 ·exact plain_int wB g mb v d st w p P hk hb h n hn hs lo base hlo hba h0
 ·exact plain_input wB g mb v d st w p P hk hb h n hn hs lo base hlo hba h0
 ·exact plain_truth33 wB g mb v d st w p P hk hb h n hn hs lo base hlo hba h0
 ·exact plain_emit wB g mb v d st w p P hk hb h n hn hs lo base hlo hba h0
 ·exact plain_context wB g mb v d st w p P hk hb h n hn hs lo base hlo hba h0
def choA(p:Prg)(h:Hd)(a:Tr)(dd:Option Tr)(lo base loop:Nat)(st:St):ER:=
 match popA st.stk base [116] with
 | .error x=>.bad lo x
 | .ok (rest,_)=>(anaT p h a (lo+1) rest.length loop { st with stk:=rest } 0 0).bind fun s1 xs xe=>
  if s1.stk.length≠rest.length then .bad (lo+1+a.size) 14
  else match dd with
   | none=>.ok { s1 with locs:=joinL s1.locs st.locs } (capS (max xs 0) 1) (capS (max xe 0) 0)
   | some d=>(anaT p h d (lo+2+a.size) rest.length loop { s1 with locs:=st.locs } 0 0).bind fun s2 ys ye=>
    if s2.stk.length≠rest.length then .bad (lo+2+a.size+d.size) 14
    else .ok { s2 with locs:=joinL s1.locs s2.locs } (capS (max xs ys) 1) (capS (max xe ye) 0)
def repA(p:Prg)(h:Hd)(a:Tr)(lo base:Nat)(st:St):ER:=
 match popA st.stk base [110] with
 | .error x=>.bad lo x
 | .ok (rest,l)=>
  if 65536 < (gV l 0).iv.hi then .bad lo 18
  else match enterA h lo (gV l 0).iv.hi st.locs with
   | .error x=>.bad lo x
   | .ok (head,most)=>
    (passA p.code h lo (lo+1+a.size) rest.length (fun s0=>anaT p h a (lo+1) rest.length rest.length s0 0 0) PASSES 1 head { st with stk:=rest }).bind fun s1 xs xe=>
     .ok { s1 with locs:=s1.lvs.foldl joinL s1.locs,lvs:=st.lvs,inv:=noteI s1.inv ⟨(lo:Int),most,s1.locs⟩ } (capS (prodS (capS xs 1) most) 1) (capS (prodS xe most) 0)
theorem ER.bind_assoc(x:ER)(f g:St→Int→Int→ER):(x.bind f).bind g=x.bind fun st s e=>(f st s e).bind g:=by cases x <;> rfl
theorem anaT_ift(p:Prg)(h:Hd)(a r:Tr)(lo base loop:Nat)(st:St)(s e:Int):anaT p h (.ift a r) lo base loop st s e=(choA p h a none lo base loop st).bind fun st' s' e'=>anaT p h r (lo+2+a.size) base loop st' (capS s s') (capS e e'):=by
 unfold choA
 conv=>lhs;unfold anaT
 cases popA st.stk base [116] with
 | error x=>rfl
 | ok rl=>
  obtain⟨rest,l⟩:=rl
  simp only []
  rw [ER.bind_assoc]
  congr 1
  funext s1 xs xe
  split <;> rfl
theorem anaT_ife(p:Prg)(h:Hd)(a d r:Tr)(lo base loop:Nat)(st:St)(s e:Int):anaT p h (.ife a d r) lo base loop st s e=(choA p h a (some d) lo base loop st).bind fun st' s' e'=>anaT p h r (lo+3+a.size+d.size) base loop st' (capS s s') (capS e e'):=by
 unfold choA
 conv=>lhs;unfold anaT
 cases popA st.stk base [116] with
 | error x=>rfl
 | ok rl=>
  obtain⟨rest,l⟩:=rl
  simp only []
  rw [ER.bind_assoc]
  congr 1
  funext s1 xs xe
  split
  ·rfl
  ·rw [ER.bind_assoc]
   congr 1
   funext s2 ys ye
   split <;> rfl
theorem anaT_lp(p:Prg)(h:Hd)(a r:Tr)(lo base loop:Nat)(st:St)(s e:Int):anaT p h (.lp a r) lo base loop st s e=(repA p h a lo base st).bind fun st' s' e'=>anaT p h r (lo+2+a.size) base loop st' (capS s s') (capS e e'):=by
 unfold repA
 conv=>lhs;unfold anaT
 cases popA st.stk base [110] with
 | error x=>rfl
 | ok rl=>
  obtain⟨rest,l⟩:=rl
  simp only []
  split
  ·rfl
  ·cases enterA h lo (gV l 0).iv.hi st.locs with
   | error x=>rfl
   | ok hm=>
    obtain⟨head,most⟩:=hm
    simp only []
    rw [ER.bind_assoc]
    rfl
theorem pushA_lvs{lo:Nat}{st st':St}{l:List Vl}{e s' e':Int}(h:pushA lo st l e=.ok st' s' e'):st'.lvs=st.lvs:=(pushA_hgt h).2.2.2.2
theorem plA_lvs{p:Prg}{lo base:Nat}{st st':St}{s e:Int}(h:plA p lo base st=.ok st' s e):st'.lvs=st.lvs:=by
 unfold plA at h
 cases hp:popA st.stk base (opX (oI p.code lo)).pops with
 | error x=>rw [hp] at h;cases h
 | ok rl=>
  obtain⟨rest,l⟩:=rl
  rw [hp] at h
  simp only [] at h
  generalize oI p.code lo=op at h
  by_cases ho0:op=0
  ·rw [if_pos ho0] at h;exact pushA_lvs (st:={ st with stk:=rest }) h
  rw [if_neg ho0] at h
  by_cases ho1:op=1
  ·rw [if_pos ho1] at h;exact pushA_lvs (st:={ st with stk:=rest }) h
  rw [if_neg ho1] at h
  by_cases ho2:op=2
  ·rw [if_pos ho2] at h;injection h with h1;rw [←h1]
  rw [if_neg ho2] at h
  by_cases ho3:op=3
  ·rw [if_pos ho3] at h
   split at h
   ·cases h
   ·exact pushA_lvs (st:={ st with stk:=rest }) h
  rw [if_neg ho3] at h
  by_cases ho4:op=4
  ·rw [if_pos ho4] at h
   split at h
   ·cases h
   ·injection h with h1;rw [←h1]
  rw [if_neg ho4] at h
  by_cases ho5:op=5
  ·rw [if_pos ho5] at h;exact pushA_lvs (st:={ st with stk:=rest }) h
  rw [if_neg ho5] at h
  by_cases ho7:op=7
  ·rw [if_pos ho7] at h;exact pushA_lvs (st:={ st with stk:=rest }) h
  rw [if_neg ho7] at h
  by_cases ho6:op=6∨op=35
  ·rw [if_pos ho6] at h;injection h with h1;rw [←h1]
  rw [if_neg ho6] at h
  by_cases ho34:op=34
  ·rw [if_pos ho34] at h;injection h with h1;rw [←h1]
  rw [if_neg ho34] at h
  by_cases ho32:op=32
  ·rw [if_pos ho32] at h;exact pushA_lvs (st:={ st with stk:=rest }) h
  rw [if_neg ho32] at h
  by_cases ho26:op=26
  ·rw [if_pos ho26] at h;exact pushA_lvs (st:={ st with stk:=rest }) h
  rw [if_neg ho26] at h
  by_cases hot:(opX op).pushes=[116]
  ·rw [if_pos hot] at h;exact pushA_lvs (st:={ st with stk:=rest }) h
  rw [if_neg hot] at h
  cases ha:apI op (gV l 0).iv (gV l 1).iv with
  | none=>rw [ha] at h;cases h
  | some x=>rw [ha] at h;exact pushA_lvs (st:={ st with stk:=rest }) h
theorem anaT_lvs{p:Prg}{h:Hd}:∀ (t:Tr) (lo base loop:Nat) (st st':St) (s e s' e':Int),anaT p h t lo base loop st s e=.ok st' s' e'→st'.lvs.length≤st.lvs.length+t.size:=by
 intro t
 induction t with
 | nil=>intro lo base loop st st' s e s' e' hr;cases hr;exact Nat.le_refl _
 | ins r ih=>
  intro lo base loop st st' s e s' e' hr
  rw [anaT_ins] at hr
  obtain⟨s1,x,y,h1,h2⟩:=ER.bind_ok hr
  have h3:=ih _ _ _ _ _ _ _ _ _ h2
  have h4:s1.lvs.length≤st.lvs.length+1:=by
   unfold insA at h1
   by_cases h30:oI p.code lo=30
   ·rw [if_pos h30] at h1
    cases hp:popA st.stk base [116] with
    | error x=>rw [hp] at h1;cases h1
    | ok rl=>
     obtain⟨rest,l⟩:=rl
     rw [hp] at h1
     simp only [] at h1
     split at h1
     ·cases h1
     ·injection h1 with h1 _ _
      subst h1
      simp
   ·rw [if_neg h30] at h1;rw [plA_lvs h1];omega
  simp only [Tr.size]
  omega
 | ift a r iha ih=>
  intro lo base loop st st' s e s' e' hr
  unfold anaT at hr
  cases hp:popA st.stk base [116] with
  | error x=>rw [hp] at hr;cases hr
  | ok rl=>
   obtain⟨rest,l⟩:=rl
   rw [hp] at hr
   simp only [] at hr
   obtain⟨s1,x,y,h1,h2⟩:=ER.bind_ok hr
   have h3:=iha _ _ _ _ _ _ _ _ _ h1
   split at h2
   ·cases h2
   ·have h4:=ih _ _ _ _ _ _ _ _ _ h2
    simp only [Tr.size] at h3 h4 ⊢
    omega
 | ife a d r iha ihd ih=>
  intro lo base loop st st' s e s' e' hr
  unfold anaT at hr
  cases hp:popA st.stk base [116] with
  | error x=>rw [hp] at hr;cases hr
  | ok rl=>
   obtain⟨rest,l⟩:=rl
   rw [hp] at hr
   simp only [] at hr
   obtain⟨s1,x,y,h1,h2⟩:=ER.bind_ok hr
   have h3:=iha _ _ _ _ _ _ _ _ _ h1
   split at h2
   ·cases h2
   ·obtain⟨s2,x2,y2,h5,h6⟩:=ER.bind_ok h2
    have h7:=ihd _ _ _ _ _ _ _ _ _ h5
    split at h6
    ·cases h6
    ·have h4:=ih _ _ _ _ _ _ _ _ _ h6
     simp only [Tr.size] at h3 h4 h7 ⊢
     omega
 | lp a r iha ih=>
  intro lo base loop st st' s e s' e' hr
  unfold anaT at hr
  cases hp:popA st.stk base [110] with
  | error x=>rw [hp] at hr;cases hr
  | ok rl=>
   obtain⟨rest,l⟩:=rl
   rw [hp] at hr
   simp only [] at hr
   split at hr
   ·cases hr
   ·split at hr
    ·cases hr
    ·obtain⟨s1,x,y,h1,h2⟩:=ER.bind_ok hr
     have h4:=ih _ _ _ _ _ _ _ _ _ h2
     simp only [Tr.size] at h4 ⊢
     omega
def cT:Tr→Nat
 | .nil=>0
 | .ins r=>cT r
 | .ift a r=>cT a+cT r
 | .ife a d r=>cT a+cT d+cT r
 | .lp a r=>6 * cT a+1+cT r
theorem cT_le:∀ t:Tr,cT t≤t.size * 7 ^ t.dep:=by
 intro t
 induction t with
 | nil=>exact Nat.le_refl _
 | ins r ih=>
  simp only [cT,Tr.size,Tr.dep]
  have:r.size * 7 ^ r.dep≤(r.size+1) * 7 ^ r.dep:=Nat.mul_le_mul_right _ (by omega)
  omega
 | ift a r iha ih=>
  simp only [cT,Tr.size,Tr.dep]
  have h1:a.size * 7 ^ a.dep≤a.size * 7 ^ (max (a.dep+1) r.dep):=Nat.mul_le_mul_left _ (Nat.pow_le_pow_right (by omega) (by omega))
  have h2:r.size * 7 ^ r.dep≤r.size * 7 ^ (max (a.dep+1) r.dep):=Nat.mul_le_mul_left _ (Nat.pow_le_pow_right (by omega) (by omega))
  rw [Nat.add_mul,Nat.add_mul]
  omega
 | ife a d r iha ihd ih=>
  simp only [cT,Tr.size,Tr.dep]
  have h1:a.size * 7 ^ a.dep≤a.size * 7 ^ (max (max a.dep d.dep+1) r.dep):=Nat.mul_le_mul_left _ (Nat.pow_le_pow_right (by omega) (by omega))
  have h3:d.size * 7 ^ d.dep≤d.size * 7 ^ (max (max a.dep d.dep+1) r.dep):=Nat.mul_le_mul_left _ (Nat.pow_le_pow_right (by omega) (by omega))
  have h2:r.size * 7 ^ r.dep≤r.size * 7 ^ (max (max a.dep d.dep+1) r.dep):=Nat.mul_le_mul_left _ (Nat.pow_le_pow_right (by omega) (by omega))
  rw [Nat.add_mul,Nat.add_mul,Nat.add_mul]
  omega
 | lp a r iha ih=>
  simp only [cT,Tr.size,Tr.dep]
  have h1:7 * (a.size * 7 ^ a.dep)≤a.size * 7 ^ (max (a.dep+1) r.dep):=by
   have h3:7 ^ (a.dep+1)≤7 ^ (max (a.dep+1) r.dep):=Nat.pow_le_pow_right (by omega) (by omega)
   have h4:a.size * 7 ^ (a.dep+1)≤a.size * 7 ^ (max (a.dep+1) r.dep):=Nat.mul_le_mul_left _ h3
   rw [Nat.pow_succ] at h4
   have h5:a.size * (7 ^ a.dep * 7)=7 * (a.size * 7 ^ a.dep):=by rw [←Nat.mul_assoc,Nat.mul_comm]
   omega
  have h2:r.size * 7 ^ r.dep≤r.size * 7 ^ (max (a.dep+1) r.dep):=Nat.mul_le_mul_left _ (Nat.pow_le_pow_right (by omega) (by omega))
  have h6:1≤7 ^ (max (a.dep+1) r.dep):=Nat.pow_pos (by omega)
  rw [Nat.add_mul,Nat.add_mul]
  omega
def NOTES:Nat:=1000000000000
def CodeC(wB:World)(g mb:Nat)(v:WV)(p:Prg)(P:List Int)(n:Nat)(h:Hd)(N:Nat):Prop:=∀ (t:Tr) (lo base loop:Nat) (st:St) (d:WD) (w:World) (b:Bool),t.size < N→Fit p.code b lo t→PartOk P lo t→lo+t.size≤p.code.length→Below wB.heap.size wB w→WK wB.heap.size g mb v w st d→StOk n st→base≤32→loop≤32→d.mn+cT t≤NOTES→st.lvs.length≤lo →
 Calls Tryz.prog 77 #[.pointer (some ⟨g,0,none⟩),.int .i64 (lo:Int),.int .i64 ((lo+t.size:Nat):Int),.int .i64 (base:Int),.int .i64 (loop:Int)] w (AnaR wB.heap.size g mb v d w (cT t) (anaT p h t lo base loop st 0 0))
def BlkR(B g mb:Nat)(v:WV)(d:WD)(w:World)(N hi:Nat)(r:ER)(e:Ending)(w':World):Prop:=match r with
 | .bad a x=>e=.panicked [{ v:=failW a x,recovered:=false }]∧Below B w w'
 | .ok st' s x=>e=.returned (.tuple #[.agg #[.int .i64 s,.int .i64 x],.int .i64 (hi:Int)])∧∃ d',WK B g mb v w' st' d'∧KV B g mb d d' w w'∧d'.mn≤d.mn+N
 | .stuck=>False
end Go.Proofs.YtpaplehcafeeaaaGreatDoor
namespace Go.Proofs.YtpaplehcafeeaaaGreatDoor
open Go.RowKit Go.Proofs
variable [Inhabited ArgB]
theorem PK.part{wB w:World}{v:WV}{p:Prg}{P:List Int}(h:PK wB v p P)(hb:Below wB.heap.size wB w)(hP:P.length=p.code.length){lo:Nat}(hlo:lo < p.code.length):lo < v.pn∧∃ pb poff,v.pA=some ⟨pb,poff,none⟩∧pb < w.heap.size∧w.cell? ⟨pb,poff+lo,none⟩=some (.int .i64 (gi P lo)):=by
 have h1:=h.prt.1
 obtain⟨pb,poff,h2,h3,h4⟩:=(h.prt.below hb).get (k:=lo) (by omega)
 exact⟨by omega,pb,poff,h2,h3,h4 lo (by omega)⟩
theorem two_boxes(w:World)(a b c d:Int):∃ w2,w2=(w.alloc (.cells #[.int .i64 a,.int .i64 b] 151)).alloc (.cells #[.int .i64 c,.int .i64 d] 151)∧Below w.heap.size w w2∧rowV w2 w.heap.size 151 #[.int .i64 a,.int .i64 b]∧rowV w2 (w.heap.size+1) 151 #[.int .i64 c,.int .i64 d]∧w2.heap.size=w.heap.size+1+1:=by
 have r1:=rowV.new w 151 #[.int .i64 a,.int .i64 b]
 have r2:=rowV.new (w.alloc (.cells #[.int .i64 a,.int .i64 b] 151)) 151 #[.int .i64 c,.int .i64 d]
 have k1:=balloc (Below.refl _ (w.alloc (.cells #[.int .i64 a,.int .i64 b] 151))) (.cells #[.int .i64 c,.int .i64 d] 151)
 have e1:(w.alloc (.cells #[.int .i64 a,.int .i64 b] 151)).heap.size=w.heap.size+1:=by simp
 rw [e1] at r2
 exact⟨_,rfl,balloc (balloc (Below.refl _ _) _) _,r1.below k1 r1.lt,r2,by simp⟩
theorem choice_one(wB:World)(g mb:Nat)(v:WV)(p:Prg)(P:List Int)(n:Nat)(h:Hd)(N:Nat)(hC:CodeC wB g mb v p P n h N)(hk:PK wB v p P)(hP:P.length=p.code.length)(hn:p.locs=(n:Int))(hh:HdOk n h)(a:Tr)(lo base loop:Nat)(st:St)(d:WD)(w:World)(b:Bool)(haN:a.size < N)(hf:Fit p.code b (lo+1) a)(hpo:PartOk P (lo+1) a)(h31:oI p.code (lo+1+a.size)=31)(hpl:gi P lo=(lo+1+a.size:Nat))(hlen:lo+2+a.size≤p.code.length)(hb:Below wB.heap.size wB w)(hW:WK wB.heap.size g mb v w st d)(hs:StOk n st)(hba:base≤32)(hlp:loop≤32)(hmn:d.mn+cT a≤NOTES)(hlvs:st.lvs.length≤lo) :
  Calls Tryz.prog 109 #[.pointer (some ⟨g,0,none⟩),.int .i64 (lo:Int),.int .i64 (base:Int),.int .i64 (loop:Int)] w (BlkR wB.heap.size g mb v d w (cT a) (lo+1+a.size) (choA p h a none lo base loop st)):=by
 obtain⟨w0,hw0⟩:∃ w0,w0=w.alloc (.cells #[.int .i64 0,.int .i64 0] 151):=⟨_,rfl⟩
 have g0:Below w.heap.size w w0:=by rw [hw0];exact balloc (Below.refl _ _) _
 have r8:rowV w0 w.heap.size 151 #[.int .i64 0,.int .i64 0]:=by rw [hw0];exact rowV.new w _ _
 have HW:=Lib.hid hW
 have HB:=Lib.hid hb
 have HK:=Lib.hid hk
 have HS:=Lib.hid hs
 have Hn:=Lib.hid hn
 have HC:=Lib.hid hC
 have Hf:=Lib.hid hf
 have Hpo:=Lib.hid hpo
 have H31:=Lib.hid h31
 have Hpl:=Lib.hid hpl
 have HP:=Lib.hid hP
 have Hlen:=Lib.hid hlen
 have Hmn:=Lib.hid hmn
 have Hlvs:=Lib.hid hlvs
 have HN:=Lib.hid haN
 have HH:=Lib.hid hh
 have hl1:lo+2+a.size≤1024:=by have:=hk.ok.len;omega
 have Hw0:=Lib.hid hw0
 have HW0:=Lib.hid (hW.below g0)
 have HR0:=Lib.hid (And.intro r8 g0)
 have HPop:=Lib.hid (popW_any wB.heap.size g mb v d st w0 HW0.out lo base [116] (by decide) hs.len (by omega))
 have hE:Hid (choA p h a none lo base loop st=match popA st.stk base [116] with
  | .error x=>.bad lo x
  | .ok (rest,_)=>(anaT p h a (lo+1) rest.length loop { st with stk:=rest } 0 0).bind fun s1 xs xe=>
   if s1.stk.length≠rest.length then .bad (lo+1+a.size) 14
   else .ok { s1 with locs:=joinL s1.locs st.locs } (capS (max xs 0) 1) (capS (max xe 0) 0)):=rfl
 have hzs:strB [116]=⟨#[116]⟩:=rfl
 rw [hzs] at HPop
 clear hW hb hk hs hn hC hf hpo h31 hpl hP hlen hmn haN hw0 g0 r8 hzs hh hlvs
 go_enter Tryz.func109,Tryz.ntmps109
 go_wp2_with fail
 rw [←Hw0.out]
 refine HPop.out.mono ?_
 intro e w1 hr
 clear HPop
 cases hpop:popA st.stk base [116] with
 | error x=>
  rw [hpop] at hr hE
  obtain⟨rfl,hb1⟩:=hr
  refine⟨rfl,?_⟩
  rw [hE.out]
  exact⟨rfl,(HR0.out.2.mono HW.out.hB).trans hb1⟩
 | ok rl=>
  obtain⟨rest,l⟩:=rl
  rw [hpop] at hr hE
  obtain⟨A1,c1,rfl,-,hK1,hV1⟩:=hr
  obtain⟨hS1,-,-,hrl⟩:=popA_rest HS.out hpop
  have hV01:KV wB.heap.size g mb d { d with sn:=rest.length } w w1:=(KV.of_below HR0.out.2 HW.out.hB).trans hV1
  have r8:=hV1.row HR0.out.1 (HW.out.fresh (Nat.le_refl _))
  have hb1:=HB.out.trans hV01.kw.ki.below
  obtain⟨hpn,pb,poff,hpA,hpb,hpc⟩:=HK.out.part hb1 HP.out (lo:=lo) (by have:=Hlen.out;omega)
  rw [Hpl.out] at hpc
  obtain⟨-,-,-,e3,-,-,e6,e7,-,-,-⟩:=hK1.cells
  have hrest:rest.length≤32:=hS1.len
  have HK1:=Lib.hid hK1
  have HV1:=Lib.hid hV01
  have HS1:=Lib.hid hS1
  have HR1:=Lib.hid r8
  have Hb1:=Lib.hid hb1
  have hgl:=hK1.row.lt
  simp only [] at e6 e7
  rw [hpA] at e3
  obtain⟨pn,hpn'⟩:∃ x,x=v.pn:=⟨_,rfl⟩
  rw [←hpn'] at e3 hpn
  clear hpn' hpA hK1 hV1 hV01 hS1 r8 hb1 hrl hpop
  go_upto_region 4 with fail
  go_quiet (fail)
  obtain⟨w2,hw2⟩:∃ w2,w2=w1.drewN nq:=⟨_,rfl⟩
  have HK2:Hid (WK wB.heap.size g mb v w2 { st with stk:=rest } { d with sn:=rest.length }):=by rw [hw2];exact HK1.out.drewN nq
  have HV2:Hid (KV wB.heap.size g mb d { d with sn:=rest.length } w w2):=by rw [hw2];exact HV1.out.drewN nq
  have HR2:Hid (rowV w2 w.heap.size 151 #[.int .i64 0,.int .i64 0]):=by rw [hw2];exact HR1.out
  rw [←hw2]
  clear hw2 HK1 HV1 HR1 e3 e6 e7 hpc hpb hgl Hb1
  have HCd:=Lib.hid (HC.out a (lo+1) rest.length loop { st with stk:=rest } { d with sn:=rest.length } w2 b HN.out Hf.out Hpo.out (by have:=Hlen.out;omega) (HB.out.trans HV2.out.kw.ki.below) HK2.out HS1.out hrest hlp Hmn.out (Nat.le_succ_of_le Hlvs.out))
  go_wp2_with fail
  refine HCd.out.mono ?_
  intro e w3 hr
  clear HCd
  cases hana:anaT p h a (lo+1) rest.length loop { st with stk:=rest } 0 0 with
  | stuck=>rw [hana] at hr;exact hr.elim
  | bad q x=>
   rw [hana] at hr
   obtain⟨rfl,hb3⟩:=hr
   refine⟨rfl,?_⟩
   rw [hE.out,hana]
   exact⟨rfl,HV2.out.kw.ki.below.trans hb3⟩
  | ok s1 xs xe=>
   rw [hana] at hr
   obtain⟨rfl,d3,hK3,hV3,hm3⟩:=hr
   have hgood:=anaT_good HK.out.ok Hn.out HH.out a (lo+1) rest.length loop { st with stk:=rest } 0 0 b Hf.out (by have:=Hlen.out;omega) HS1.out (by omega) (by omega) (by unfold tooMany;omega)
   rw [hana] at hgood
   obtain⟨hS3,hxe,hxs,hxt,-⟩:=hgood
   have r8:=hV3.row HR2.out (HK2.out.ne_box HR2.out (by decide) (by decide) (by decide))
   obtain⟨w4,hw4,g4,r14,r15,s4⟩:=two_boxes w3 xs xe 0 0
   have hE2:Hid (choA p h a none lo base loop st=if s1.stk.length≠rest.length then .bad (lo+1+a.size) 14 else .ok { s1 with locs:=joinL s1.locs st.locs } (capS (max xs 0) 1) (capS (max xe 0) 0)):=by show _=_;rw [hE.out,hana];rfl
   have HK4:=Lib.hid (hK3.below g4)
   have HV4:=Lib.hid ((HV2.out.trans hV3).trans (KV.of_below (g:=g) (mb:=mb) (d:=d3) g4 hK3.hB))
   have q8:=r8.below g4 r8.lt
   have HR4:=Lib.hid (And.intro q8 (And.intro r14 r15))
   have HS3:=Lib.hid hS3
   have Hw4:=Lib.hid hw4
   have Hm3:=Lib.hid hm3
   have Hs4:=Lib.hid (And.intro (Nat.le_trans (Nat.le_of_lt r8.lt) (Nat.le_refl w3.heap.size)) r8.lt)
   unfold tooMany at hxt
   clear hana hK3 hV3 hm3 hS3 r8 hw4 g4 r14 r15 q8 hE s4
   by_cases hlv:s1.stk.length=rest.length
   ·have HLv:=Lib.hid (levelW_ok wB.heap.size g mb v d3 s1 w4 HK4.out (lo+1+a.size) rest.length hlv)
    have hE3:Hid (choA p h a none lo base loop st=.ok { s1 with locs:=joinL s1.locs st.locs } (capS (max xs 0) 1) (capS (max xe 0) 0)):=by show _=_;rw [hE2.out,if_neg (by simpa using hlv)]
    have Hlv:=Lib.hid hlv
    clear hlv
    go_upto_region 6 with fail
    rw [←Hw4.out]
    go_wp2_with fail
    refine HLv.out.mono ?_
    rintro e w5 ⟨rfl,hw5⟩
    obtain rfl:=hw5.symm
    clear hw5 HLv
    have hln3:d3.ln=n:=HK4.out.ln.trans HS3.out.locs.1
    have hln:d.ln=n:=HW.out.ln.trans HS.out.locs.1
    have hn16:n≤16:=by have h1:=HK.out.ok.locs;have h4:=Hn.out;omega
    obtain⟨-,-,e2,-,-,-,e6,-,-,-,-⟩:=HK4.out.cells
    have f6:=HK4.out.frozen 6
    have hloc:IvK wB.heap.size w4 d.lA d.ln d.lc st.locs:=HW.out.locs.keep HV4.out.kw.ki
    have hK5:=HK4.out.set 6 (.slice d.lA d.ln d.lc) (d':={ d3 with lA:=d.lA,ln:=d.ln,lc:=d.lc }) (st':={ s1 with locs:=st.locs }) rfl hloc HK4.out.stk HK4.out.lvs HK4.out.lvl HK4.out.lvi rfl rfl
    have hV5:KV wB.heap.size g mb d { d3 with lA:=d.lA,ln:=d.ln,lc:=d.lc } w (w4.setCell ⟨g,6,none⟩ (.slice d.lA d.ln d.lc)):=HV4.out.trans (KV.setG HK4.out 6 _ rfl rfl)
    obtain⟨w5,hw5⟩:∃ w5,w5=w4.setCell ⟨g,6,none⟩ (.slice d.lA d.ln d.lc):=⟨_,rfl⟩
    have ngb:∀ {r:Nat} {cs:Array Value},rowV w4 r 151 cs→g≠r:=fun hr=>(HK4.out.ne_box hr (by decide) (by decide) (by decide)).1.symm
    have q8:=HR4.out.1.setFar (p:=⟨g,6,none⟩) (ngb HR4.out.1).symm (.slice d.lA d.ln d.lc)
    have q14:=HR4.out.2.1.setFar (p:=⟨g,6,none⟩) (ngb HR4.out.2.1).symm (.slice d.lA d.ln d.lc)
    have q15:=HR4.out.2.2.setFar (p:=⟨g,6,none⟩) (ngb HR4.out.2.2).symm (.slice d.lA d.ln d.lc)
    rw [←hw5] at hK5 hV5 q8 q14 q15
    have hloc3:IvK wB.heap.size w5 d3.lA d3.ln d3.lc s1.locs:=by rw [hw5];exact HK4.out.locs.keep (KW.setG HK4.out 6 _ none).ki
    have HJ:=Lib.hid (joinW_any d3.lA d.lA n d3.lc d.lc s1.locs st.locs w5 (by have:=hloc3.1;rw [hln3] at this;exact this) (by have:=hK5.locs.1;simp only [] at this;rw [hln] at this;exact this) (by omega))
    obtain⟨cb,off,hcA,hcb,hx1,hx2⟩:=HK.out.ins (HB.out.trans hV5.kw.ki.below) (lo:=lo+1+a.size) (by have:=Hlen.out;omega)
    rw [H31.out] at hx1
    have hcn:=HK.out.cn
    have hlo2:lo+1+a.size < v.cn:=by have:=Hlen.out;omega
    obtain⟨cn,hcn'⟩:∃ c,c=v.cn:=⟨_,rfl⟩
    rw [←hcn'] at hlo2
    have e2':w5.cell? ⟨g,2,none⟩=some (.slice (some ⟨cb,off,none⟩) cn v.cc):=by rw [hcn',←hcA];exact hK5.cells.2.2.1
    have e6':w5.cell? ⟨g,6,none⟩=some (.slice d.lA n d.lc):=by rw [←hln];exact hK5.cells.2.2.2.2.2.2.1
    rw [hln3] at e6
    rw [hln] at hw5
    have Hw5:=Lib.hid hw5
    have HK5:=Lib.hid hK5
    have HV5:=Lib.hid hV5
    have HR5:=Lib.hid (And.intro q8 (And.intro q14 q15))
    have Hln:=Lib.hid (And.intro hln hln3)
    have hgl:=hK5.row.lt
    clear hloc hK5 hV5 ngb q8 q14 q15 hloc3 hx2 hcn hcn' hw5 hln3 HS1
    rw [hln]
    clear hln
    go_upto_region 9 with fail
    rw [←Hw5.out]
    clear e2 e6 f6
    go_wp2_with fail
    refine HJ.out.mono ?_
    rintro e w6 ⟨A6,c6,rfl,ho6,hb6⟩
    have hK6:=HK5.out.below hb6
    obtain⟨-,-,-,-,-,-,t6,-,-,-,-⟩:=hK6.cells
    simp only [] at t6
    rw [Hln.out.1] at t6
    have f6:=hK6.frozen 6
    have hK7:=hK6.set 6 (.slice A6 n c6) (d':={ d3 with lA:=A6,ln:=n,lc:=c6 }) (st':={ s1 with locs:=joinL s1.locs st.locs }) rfl (IvK.of_own ho6) hK6.stk hK6.lvs hK6.lvl hK6.lvi rfl rfl
    have hV7:KV wB.heap.size g mb d { d3 with lA:=A6,ln:=n,lc:=c6 } w (w6.setCell ⟨g,6,none⟩ (.slice A6 n c6)):=(HV5.out.trans (KV.of_below (g:=g) (mb:=mb) hb6 HK5.out.hB)).trans (KV.setG hK6 6 _ rfl rfl)
    have ngb:∀ {r:Nat} {cs:Array Value},rowV w6 r 151 cs→g≠r:=fun hr=>(hK6.ne_box hr (by decide) (by decide) (by decide)).1.symm
    have p8:=HR5.out.1.below hb6 HR5.out.1.lt
    have p14:=HR5.out.2.1.below hb6 HR5.out.2.1.lt
    have p15:=HR5.out.2.2.below hb6 HR5.out.2.2.lt
    have q8:=p8.setFar (p:=⟨g,6,none⟩) (ngb p8).symm (.slice A6 n c6)
    have q14:=p14.setFar (p:=⟨g,6,none⟩) (ngb p14).symm (.slice A6 n c6)
    have q15:=p15.setFar (p:=⟨g,6,none⟩) (ngb p15).symm (.slice A6 n c6)
    obtain⟨w7,hw7⟩:∃ w7,w7=w6.setCell ⟨g,6,none⟩ (.slice A6 n c6):=⟨_,rfl⟩
    rw [←hw7] at hK7 hV7 q8 q14 q15
    obtain⟨b0,b1⟩:=two_cellsV q14
    obtain⟨c0,c1'⟩:=two_cellsV q15
    obtain⟨m1,hm1⟩:∃ m1,m1=max xs 0:=⟨_,rfl⟩
    obtain⟨m2,hm2⟩:∃ m2,m2=max xe 0:=⟨_,rfl⟩
    obtain⟨w8,hw8⟩:∃ w8,w8=w7.alloc (.cells #[.int .i64 m1,.int .i64 m2] 151):=⟨_,rfl⟩
    have hb8:Below w7.heap.size w7 w8:=by rw [hw8];exact balloc (Below.refl _ _) _
    have r17:rowV w8 w7.heap.size 151 #[.int .i64 m1,.int .i64 m2]:=by rw [hw8];exact rowV.new w7 _ _
    obtain⟨u0,u1⟩:=two_cellsV r17
    have HK8:=Lib.hid (hK7.below hb8)
    have HV8:=Lib.hid (hV7.trans (KV.of_below (g:=g) (mb:=mb) hb8 hK7.hB))
    have HR8:=Lib.hid (q8.below hb8 q8.lt)
    have hmb:(0≤m1∧m1≤281474976710657)∧(0≤m2∧m2≤281474976710657):=by omega
    have HPl:=Lib.hid (plus_any m1 m2 1 0 hmb.1 hmb.2 (by omega) (by omega) w8)
    have Hw7:=Lib.hid hw7
    have Hw8:=Lib.hid hw8
    have Hm12:=Lib.hid (And.intro hm1 hm2)
    rw [hm1,hm2] at hw8
    have Hw8':=Lib.hid hw8
    have hgl6:=hK6.row.lt
    clear hK6 hK7 hV7 ngb p8 p14 p15 q8 q14 q15 hw7 hw8 hb8 r17 ho6 hb6 hm1 hm2 hmb hx1 e2' e6'
    go_upto_region 14 with fail
    rw [←Hw7.out]
    clear t6 f6
    go_upto_region 15 with fail
    rw [←Hw8'.out]
    clear b0 b1 c0 c1'
    go_wp2_with fail
    refine HPl.out.mono ?_
    rintro e w9 ⟨rfl,hb9⟩
    have Hr9:=Lib.hid (HR8.out.below hb9 HR8.out.lt)
    have HK9:=Lib.hid (HK8.out.below hb9)
    have HV9:=Lib.hid (HV8.out.trans (KV.of_below (g:=g) (mb:=mb) hb9 HK8.out.hB))
    clear hb9
    go_wp2_with (refine wpList_store_row rfl 151 (.tmp 8) (.tmp 109) rfl _ #[.int .i64 (capS m1 1),.int .i64 (capS m2 0)] rfl rfl _ _ Hr9.out (hIbd _ _) rfl (hA2 _ _) ?_)
    obtain⟨k1,k2⟩:=two_cellsV (setRow_heap w9 w.heap.size _ #[.int .i64 (capS m1 1),.int .i64 (capS m2 0)] _ _ Hr9.out)
    refine bodyPost_ret (v:=.tuple #[.agg #[.int .i64 (capS m1 1),.int .i64 (capS m2 0)],.int .i64 ((lo+1+a.size:Nat):Int)]) (by simp [results,Tryz.results109,go_sem,k1,k2]) rfl ?_
    rw [hE3.out,←Hm12.out.1,←Hm12.out.2]
    exact⟨rfl,_,HK9.out.boxG Hr9.out (by decide) (by decide) (by decide) (by decide) HW.out.hB (grownBy_setRow3 _ _ _),HV9.out.boxG (Nat.le_refl _) HW.out.hB (grownBy_setRow3 _ _ _),Hm3.out⟩
   ·have HLv:=Lib.hid (levelW_bad wB.heap.size g mb v d3 s1 w4 HK4.out (lo+1+a.size) rest.length hlv)
    have hE3:Hid (choA p h a none lo base loop st=.bad (lo+1+a.size) 14):=by show _=_;rw [hE2.out,if_pos (by simpa using hlv)]
    clear hlv
    go_upto_region 6 with fail
    rw [←Hw4.out]
    go_wp2_with fail
    refine HLv.out.mono ?_
    rintro e w5 ⟨rfl,hw5⟩
    obtain rfl:=hw5.symm
    refine⟨rfl,?_⟩
    rw [hE3.out]
    exact⟨rfl,HV4.out.kw.ki.below⟩
end Go.Proofs.YtpaplehcafeeaaaGreatDoor
namespace Go.Proofs.YtpaplehcafeeaaaGreatDoor
open Go.RowKit Go.Proofs
def encBo(x:Bool):List Value:=[.bool x]
theorem encBo_one(x:Bool):∀ u∈encBo x,u.oneCell'=true:=by
 intro u hu
 simp only [encBo,List.mem_singleton] at hu
 rw [hu];rfl
theorem uBo:Tryz.prog.underlying 51=some (.slice 4):=by kernel_rfl
theorem infoBo:(Tryz.prog.info? 4).map (fun i=>(i.zero,i.size,i.bytes))=some (some (.bool false),1,1):=by kernel_rfl
theorem shallow_any(A:Option Addr)(n cc:Nat)(c:List Ins)(w:World)(hc:Codes w A n cc c)(hn:n≤1000000) :
  Calls Tryz.prog 25 #[.slice A n cc] w fun e w'=>(∃ b,e=.returned (.bool b))∧Below w.heap.size w w':=by
 have HC:=Lib.hid hc
 clear hc
 go_enter Tryz.func25,Tryz.ntmps25
 go_wp2_with fail
 go_loopw [3,4,5,6] (fun o l i _ wr=>∃ (k:Nat) (L:Int) (A':Option Addr) (m' c':Nat) (bs:List Bool),k≤n∧i=.int .i64 (k:Int)∧l=.int .i64 L∧(-(k:Int)≤L∧L≤k)∧o=.slice A' m' c'∧m'≤k∧Hid (OwnS encBo 1 wr w.heap.size 4 A' m' c' bs∧Below w.heap.size w wr)) (fun _ _ i _ _=>n-(intOf i).toNat)
 case atStart=>exact⟨0,0,none,0,0,[],Nat.zero_le _,rfl,rfl,by omega,rfl,Nat.le_refl _,Lib.hid ⟨OwnS.nil _ _ _ _ _,Below.refl _ _⟩⟩
 case round=>
  obtain⟨k,L,A',m',c',bs,hk,rfl,rfl,hL,rfl,hm,HR⟩:=hrel
  by_cases hlt:k < n
  ·have d0:decide ((k:Int) < (n:Int))=true:=by simp;omega
   have d0':decide (k < n)=true:=by simp;omega
   by_cases h3:L≤3
   ·have d3:decide (L≤3)=true:=decide_eq_true h3
    obtain⟨cb,off,rfl,hcb,hcell⟩:=HC.out.get hlt
    have x0:wr.cell? ⟨cb,off+k * 2,none⟩=some (.int .i64 (oI c k)):=(HR.out.2.cell (p:=⟨cb,off+k * 2,none⟩) hcb).trans (hcell k hlt).1
    clear hcell
    obtain⟨op,hop⟩:∃ op,op=oI c k:=⟨_,rfl⟩
    rw [←hop] at x0
    clear hop
    have HB:=Lib.hid HR.out.2.size
    have hml:=Lib.hid (show m'+1≤maxLen∧(m'+1) * 1≤140737488355328 by unfold maxLen;omega)
    by_cases h29:op=29
    ·subst h29
     go_wp2_with (at_builtin;refine wpList_pushT (enc:=encBo) rfl (.tmp 24) (.tmp 25) rfl uBo infoBo encBo_one rfl (fun _=>rfl) (by decide) rfl HR.out.1 HB.out true _ rfl rfl hml.out.1 hml.out.2 ?_;intro A8 c8 w8 ho8 hb8 hg8 hf8)
     have HN:=Lib.hid (And.intro ho8 (HR.out.2.trans hb8))
     clear ho8 hb8 hg8 hf8
     go_roundw
     case rel=>exact⟨k+1,L+1,A8,m'+1,c8,_,by omega,by go_num,rfl,by omega,rfl,by omega,HN⟩
     case measure=>(simp [intOf]) <;> omega
    have q29:(op==29)=false:=by simpa using h29
    by_cases h27:op=27
    ·subst h27
     go_wp2_with (at_builtin;refine wpList_pushT (enc:=encBo) rfl (.tmp 31) (.tmp 32) rfl uBo infoBo encBo_one rfl (fun _=>rfl) (by decide) rfl HR.out.1 HB.out false _ rfl rfl hml.out.1 hml.out.2 ?_;intro A8 c8 w8 ho8 hb8 hg8 hf8)
     have HN:=Lib.hid (And.intro ho8 (HR.out.2.trans hb8))
     clear ho8 hb8 hg8 hf8
     go_roundw
     case rel=>exact⟨k+1,L,A8,m'+1,c8,_,by omega,by go_num,rfl,by omega,rfl,by omega,HN⟩
     case measure=>(simp [intOf]) <;> omega
    have q27:(op==27)=false:=by simpa using h27
    by_cases h31:op=31
    ·subst h31
     by_cases hm0:0 < m'
     ·obtain⟨j,rfl⟩:∃ j,m'=j+1:=⟨m'-1,by omega⟩
      obtain⟨ob,rfl,hob1,hob2,hoc⟩:=HR.out.1.get (fun _=>rfl) (by decide) false (by omega)
      have y0:wr.cell? ⟨ob,j,none⟩=some (.bool (bs.getD j false)):=by have:=hoc j 0 _ (by omega) rfl;rw [show j * 1+0=j by omega] at this;exact this
      clear hoc
      obtain⟨z,hz⟩:∃ z,z=bs.getD j false:=⟨_,rfl⟩
      rw [←hz] at y0
      clear hz
      have hcut:=Lib.hid (HR.out.1.cut (fun _=>rfl) (by decide) (k:=j) (by omega))
      have hjc:j+1≤c':=HR.out.1.cap
      have hj1:((j:Int)+1-1)=(j:Int):=by omega
      have dj:decide ((0:Int)≤(j:Int))=true:=decide_eq_true (by omega)
      cases z with
      | true=>
       go_wp2_with fail
       go_roundw
       case rel=>exact⟨k+1,L-1,some ⟨ob,0,none⟩,j,c',bs.take j,by omega,by go_num,by go_num,by omega,rfl,by omega,Lib.hid ⟨hcut.out,HR.out.2⟩⟩
       case measure=>(simp [intOf]) <;> omega
      | false=>
       go_wp2_with fail
       go_roundw
       case rel=>exact⟨k+1,L,some ⟨ob,0,none⟩,j,c',bs.take j,by omega,by go_num,rfl,by omega,rfl,by omega,Lib.hid ⟨hcut.out,HR.out.2⟩⟩
       case measure=>(simp [intOf]) <;> omega
     ·obtain rfl:m'=0:=by omega
      go_wp2_with fail
      go_roundw
      case rel=>exact⟨k+1,L,A',0,c',bs,by omega,by go_num,rfl,by omega,rfl,by omega,HR⟩
      case measure=>(simp [intOf]) <;> omega
    have q31:(op==31)=false:=by simpa using h31
    go_wp2_with fail
    go_roundw
    case rel=>exact⟨k+1,L,A',m',c',bs,by omega,by go_num,rfl,by omega,rfl,by omega,HR⟩
    case measure=>(simp [intOf]) <;> omega
   ·have d3:decide (L≤3)=false:=decide_eq_false h3
    go_wp2_with fail
    go_ret
    first | exact⟨⟨_,rfl⟩,HR.out.2⟩ | exact⟨.inl rfl,HR.out.2⟩ | exact⟨.inr rfl,HR.out.2⟩
  ·have d0:decide ((k:Int) < (n:Int))=false:=by simp;omega
   have d0':decide (k < n)=false:=by simp;omega
   go_wp2_with fail
   go_ret
   first | exact⟨⟨_,rfl⟩,HR.out.2⟩ | exact⟨.inl rfl,HR.out.2⟩ | exact⟨.inr rfl,HR.out.2⟩
end Go.Proofs.YtpaplehcafeeaaaGreatDoor
