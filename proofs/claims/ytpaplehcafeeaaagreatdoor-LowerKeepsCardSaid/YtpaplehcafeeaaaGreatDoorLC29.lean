/- Xi Xj Xt. -/
import Derived.Test.YtpaplehcafeeaaaGreatDoorLC27
import Derived.Test.YtpaplehcafeeaaaGreatDoorLC28
import Derived.Deep.RegionHeld3
import Derived.Test.YtpaplehcafeeaaaGreatDoorLC26
set_option maxRecDepth 100000
set_option maxHeartbeats 40000000
set_option linter.unusedVariables false
set_option linter.unusedSimpArgs false
set_option linter.unusedSectionVars false
namespace Go.Proofs.YtpaplehcafeeaaaGreatDoor
open Go.RowKit Go.Proofs
variable [Inhabited ArgB]
theorem plain_get(wB:World)(g mb:Nat)(v:WV)(d:WD)(st:St)(w:World)(p:Prg)(P:List Int)(hk:PK wB v p P)(hb:Below wB.heap.size wB w)(h:WK wB.heap.size g mb v w st d)(n:Nat)(hn:p.locs=(n:Int))(hs:StOk n st)(lo base:Nat)(hlo:lo < p.code.length)(hba:base≤1000)(ho:oI p.code lo=3) :
  Calls Tryz.prog 112 #[.pointer (some ⟨g,0,none⟩),.int .i64 (lo:Int),.int .i64 (base:Int)] w (AnaR wB.heap.size g mb v d w 0 (plA p lo base st)):=by
 obtain⟨cb,off,hcA,hcb,hx1,hx2⟩:=hk.ins hb hlo
 obtain⟨e0,e1,e2,-,-,-,-,-,-,-,-⟩:=h.cells
 have hgl:=h.row.lt
 rw [hcA] at e2
 have hcn:=hk.cn
 have hlo2:lo < v.cn:=by omega
 have hlo3:lo≤1024:=by have:=hk.ok.len;omega
 obtain⟨cn,hcn'⟩:∃ c,c=v.cn:=⟨_,rfl⟩
 rw [←hcn'] at e2 hlo2
 rw [ho] at hx1
 have Hb:=Lib.hid hb
 have HW:=Lib.hid h
 have HK:=Lib.hid hk
 have Hlo:=Lib.hid hlo
 have HS:=Lib.hid hs
 have Hn:=Lib.hid hn
 have Harg:=Lib.hid (hk.ok.ins lo hlo)
 have Ho:=Lib.hid ho
 obtain⟨ar,har⟩:∃ a,a=(gI p.code lo).arg:=⟨_,rfl⟩
 rw [←har] at hx2
 have Har:=Lib.hid har
 clear hcn' hcn hlo hb h hk hs hn ho hcA har e0 e1
 obtain⟨w1,hw1,g1,r6,r7,s1⟩:=plain_boxes w 3 ar
 have HW1:=Lib.hid (HW.out.below g1)
 have Hw1:=Lib.hid hw1
 have HR1:=Lib.hid (And.intro r6 (And.intro r7 (And.intro g1 s1)))
 have y7:=(two_cellsV r7).1
 have HE:=Lib.hid (effect_any 3 w1)
 have Hpl:Hid (plA p lo base st=match popA st.stk base (opX 3).pops with
  | .error e=>.bad lo e
  | .ok (rest,l)=>(if (gA p.arrs (gI p.code lo).arg.toNat).size≤(gV l 0).iv.hi then .bad lo 16 else pushA lo { st with stk:=rest } [numV (elemI p lo)] 0)):=by
  show _=_
  unfold plA
  rw [Ho.out]
  try rw [Har.out]
  cases popA st.stk base (opX 3).pops <;> rfl
 clear hw1 r6 r7 g1 s1
 go_enter Tryz.func112,Tryz.ntmps112
 go_wp2_with fail
 rw [←Hw1.out]
 clear hcb hx1 hx2 hgl e2 hlo2
 refine HE.out.mono ?_
 rintro e w2 ⟨rfl,hb2⟩
 have HW2:=Lib.hid (HW1.out.below hb2)
 have HV2:=Lib.hid (KV.of_below (B:=wB.heap.size) (g:=g) (mb:=mb) (d:=d) (HR1.out.2.2.1.trans (hb2.mono HR1.out.2.2.1.size)) HW.out.hB)
 have HPop:=Lib.hid (popW_any wB.heap.size g mb v d st w2 HW2.out lo base (opX 3).pops (by decide) HS.out.len hba)
 have r6:=HR1.out.1.below hb2 HR1.out.1.lt
 have r7:=HR1.out.2.1.below hb2 HR1.out.2.1.lt
 have y7:=(two_cellsV r7).1
 have HR2:=Lib.hid (And.intro r6 r7)
 clear r6 r7 hb2 HE
 go_wp2_with fail
 refine HPop.out.mono ?_
 intro e w3 hr
 clear HPop
 cases hpop:popA st.stk base (opX 3).pops with
 | error x=>
  rw [hpop] at hr
  obtain⟨rfl,hb3⟩:=hr
  refine⟨rfl,?_⟩
  have h1:=Hpl.out
  rw [hpop] at h1
  rw [h1]
  exact⟨rfl,HV2.out.kw.ki.below.trans hb3⟩
 | ok rl=>
  obtain⟨rest,l⟩:=rl
  rw [hpop] at hr
  obtain⟨A3,c3,rfl,hl3,hK3,hV3⟩:=hr
  have HV3:=Lib.hid (HV2.out.trans hV3)
  have r6:=hV3.row HR2.out.1 (HW.out.fresh (Nat.le_refl _))
  have r7:=hV3.row HR2.out.2 (HW.out.fresh (Nat.le_succ _))
  have HR3:=Lib.hid (And.intro r6 r7)
  have HL3:=Lib.hid hl3
  have HK3:=Lib.hid hK3
  have Hpop:=Lib.hid (popA_rest HS.out hpop)
  have Hpl2:Hid (plA p lo base st=(if (gA p.arrs (gI p.code lo).arg.toNat).size≤(gV l 0).iv.hi then .bad lo 16 else pushA lo { st with stk:=rest } [numV (elemI p lo)] 0)):=by show _=_;rw [Hpl.out,hpop]
  obtain⟨w4,hw4⟩:∃ w4,w4=w3.alloc (.cells #[.int .i64 1,.int .i64 0] 151):=⟨_,rfl⟩
  have hb4:Below w3.heap.size w3 w4:=by rw [hw4];exact balloc (Below.refl _ _) _
  have r12:rowV w4 w3.heap.size 151 #[.int .i64 1,.int .i64 0]:=by rw [hw4];exact rowV.new w3 _ _
  have HK4:=Lib.hid (hK3.below hb4)
  have HV4:=Lib.hid (HV3.out.trans (KV.of_below (g:=g) (mb:=mb) (d:={ d with sn:=rest.length }) hb4 hK3.hB))
  have HL4:=Lib.hid (hl3.below hb4)
  have q6:=r6.below hb4 r6.lt
  have q7:=r7.below hb4 r7.lt
  obtain⟨y7,y8⟩:=two_cellsV q7
  have l7:=q7.lt
  have HR4:=Lib.hid (And.intro q6 (And.intro q7 r12))
  have Hw4:=Lib.hid hw4
  have hs3:w.heap.size≤w3.heap.size:=Nat.le_of_lt r6.lt
  have hs3':=r6.lt
  clear hl3 hK3 hV3 r6 r7 hpop Hpl HV2 HR2 HW2 HL3 HK3 HV3 HR3 hw4 hb4 r12 q6 q7
  go_upto_region 5 with fail
  rw [←Hw4.out]
  have hpl:(opX 3).pops.length=1:=by decide
  obtain⟨x0,hx0⟩:∃ x,l=[x]:=List.length_eq_one_iff.1 (Hpop.out.2.2.1.trans hpl)
  subst hx0
  obtain⟨ob,hob,-,hob2,hoc⟩:=HL4.out.get (fun _=>rfl) (by decide) ⟨false,⟨0,0⟩⟩ (by rw [hpl];exact Nat.one_pos)
  subst hob
  have x00:w4.cell? ⟨ob,0,none⟩=some (.bool x0.tr):=hoc 0 0 _ (by rw [hpl];exact Nat.one_pos) rfl
  have x01:w4.cell? ⟨ob,1,none⟩=some (.int .i64 x0.iv.lo):=hoc 0 1 _ (by rw [hpl];exact Nat.one_pos) rfl
  have x02:w4.cell? ⟨ob,2,none⟩=some (.int .i64 x0.iv.hi):=hoc 0 2 _ (by rw [hpl];exact Nat.one_pos) rfl
  clear hoc
  have HEl:=Lib.hid (elementW_any wB g mb v { d with sn:=rest.length } { st with stk:=rest } w4 p P HK.out (Hb.out.trans HV4.out.kw.ki.below) HK4.out lo Hlo.out (.inl Ho.out) x0)
  by_cases hsz:(gA p.arrs (gI p.code lo).arg.toNat).size≤x0.iv.hi
  ·have Hsz:=Lib.hid hsz
   clear hsz
   go_wp2_with fail
   refine HEl.out.mono ?_
   rintro e w5 ⟨he,hb5⟩
   simp only [if_pos Hsz.out] at he
   subst he
   refine⟨rfl,?_⟩
   rw [Hpl2.out]
   have h1:(gA p.arrs (gI p.code lo).arg.toNat).size≤(gV [x0] 0).iv.hi:=Hsz.out
   rw [if_pos h1]
   exact⟨rfl,HV4.out.kw.ki.below.trans (hb5.mono HK4.out.hB)⟩
  ·have Hpl2:Hid (plA p lo base st=pushA lo { st with stk:=rest } [numV (elemI p lo)] 0):=by
    show _=_
    have h1:¬ (gA p.arrs (gI p.code lo).arg.toNat).size≤(gV [x0] 0).iv.hi:=hsz
    rw [Hpl2.out,if_neg h1]
   have Hsz:=Lib.hid hsz
   clear hsz
   go_wp2_with fail
   refine HEl.out.mono ?_
   rintro e w5 ⟨he,hb5⟩
   simp only [if_neg (show ¬ (gA p.arrs (gI p.code lo).arg.toNat).size≤x0.iv.hi from by have h9:=Hsz.out;omega)] at he
   subst he
   have HK5:=Lib.hid (HK4.out.below hb5)
   have HV5:=Lib.hid (HV4.out.trans (KV.of_below (g:=g) (mb:=mb) (d:={ d with sn:=rest.length }) hb5 HK4.out.hB))
   have HR5:=Lib.hid (And.intro (HR4.out.1.below hb5 HR4.out.1.lt) (HR4.out.2.2.below hb5 HR4.out.2.2.lt))
   clear hb5 HEl
   obtain⟨⟨xl,xh⟩,hx⟩:∃ x,x=elemI p lo:=⟨_,rfl⟩
   rw [←hx] at Hpl2 ⊢
   clear hx
   simp only []
   have HX6:=Lib.hid (numeric_any xl xh w5)
   go_wp2_with fail
   refine HX6.out.mono ?_
   rintro e w6 ⟨rfl,hb6⟩
   have HK6:=Lib.hid (HK5.out.below hb6)
   have HV6:=Lib.hid (HV5.out.trans (KV.of_below (g:=g) (mb:=mb) (d:={ d with sn:=rest.length }) hb6 HK5.out.hB))
   have HR6:=Lib.hid (And.intro ((HR5.out.1).below hb6 (HR5.out.1).lt) ((HR5.out.2).below hb6 (HR5.out.2).lt))
   clear hb6 HX6
   have hb7:Below w6.heap.size w6 (w6.alloc (.cells #[.bool false,.int .i64 xl,.int .i64 xh] 242)):=balloc (Below.refl _ _) _
   have HK7:=Lib.hid (HK6.out.below hb7)
   have HV7:=Lib.hid (HV6.out.trans (KV.of_below (g:=g) (mb:=mb) (d:={ d with sn:=rest.length }) hb7 HK6.out.hB))
   have HR7:=Lib.hid (And.intro ((HR6.out.1).below hb7 (HR6.out.1).lt) ((HR6.out.2).below hb7 (HR6.out.2).lt))
   have HPu:=Lib.hid (pushW_any wB.heap.size g mb v { d with sn:=rest.length } { st with stk:=rest } _ HK7.out lo ⟨w6.heap.size,0,none⟩ 1 1 [numV ⟨xl,xh⟩] (vls_one w6 _) (by decide) Hpop.out.1.len Hpop.out.1.hgt 0)
   clear hb7
   go_wp2_with fail
   refine HPu.out.mono ?_
   intro e w8 hr
   clear HPu
   cases hpu:pushA lo { st with stk:=rest } [numV ⟨xl,xh⟩] 0 with
   | bad a x=>
    rw [hpu] at hr
    obtain⟨rfl,hb8⟩:=hr
    refine⟨rfl,?_⟩
    rw [Hpl2.out,hpu]
    exact⟨rfl,HV7.out.kw.ki.below.trans hb8⟩
   | stuck=>rw [hpu] at hr;exact hr.elim
   | ok st8 s8 e8=>
    rw [hpu] at hr
    obtain⟨rfl,d8,hK8,hV8,hm8⟩:=hr
    obtain⟨rfl,rfl,-⟩:=pushA_one hpu
    have HR8:=Lib.hid (And.intro (hV8.row HR7.out.1 (HK7.out.ne_box HR7.out.1 (by decide) (by decide) (by decide))) (hV8.row HR7.out.2 (HK7.out.ne_box HR7.out.2 (by decide) (by decide) (by decide))))
    have HK8:=Lib.hid hK8
    have HV8:=Lib.hid (HV7.out.trans hV8)
    have Hpl3:Hid (plA p lo base st=.ok st8 1 0):=by show _=_;rw [Hpl2.out,hpu]
    clear hK8 hV8 HK7 HV7 HR7 hpu
    go_wp2_with (first | refine wpList_load_row rfl 151 (.tmp 12) rfl _ rfl _ _ _ _ HR8.out.2 Tryz.underlying151 rfl (hIbd _ _) ?_ | refine wpList_store_row rfl 151 (.tmp 6) (.tmp 183) rfl _ #[.int .i64 1,.int .i64 0] rfl rfl _ _ HR8.out.1 (hIbd _ _) rfl (hA2 _ _) ?_)
    obtain⟨k1,k2⟩:=two_cellsV (setRow_heap w8 w.heap.size _ #[.int .i64 1,.int .i64 0] _ _ HR8.out.1)
    refine bodyPost_ret (v:=.agg #[.int .i64 1,.int .i64 0]) (by simp [results,Tryz.results112,go_sem,k1,k2]) rfl ?_
    rw [Hpl3.out]
    exact⟨rfl,_,HK8.out.boxG HR8.out.1 (by decide) (by decide) (by decide) (by decide) HW.out.hB (grownBy_setRow3 _ _ _),HV8.out.boxG (Nat.le_refl _) HW.out.hB (grownBy_setRow3 _ _ _),Nat.le_of_eq hm8⟩
theorem plain_put(wB:World)(g mb:Nat)(v:WV)(d:WD)(st:St)(w:World)(p:Prg)(P:List Int)(hk:PK wB v p P)(hb:Below wB.heap.size wB w)(h:WK wB.heap.size g mb v w st d)(n:Nat)(hn:p.locs=(n:Int))(hs:StOk n st)(lo base:Nat)(hlo:lo < p.code.length)(hba:base≤1000)(ho:oI p.code lo=4) :
  Calls Tryz.prog 112 #[.pointer (some ⟨g,0,none⟩),.int .i64 (lo:Int),.int .i64 (base:Int)] w (AnaR wB.heap.size g mb v d w 0 (plA p lo base st)):=by
 obtain⟨cb,off,hcA,hcb,hx1,hx2⟩:=hk.ins hb hlo
 obtain⟨e0,e1,e2,-,-,-,-,-,-,-,-⟩:=h.cells
 have hgl:=h.row.lt
 rw [hcA] at e2
 have hcn:=hk.cn
 have hlo2:lo < v.cn:=by omega
 have hlo3:lo≤1024:=by have:=hk.ok.len;omega
 obtain⟨cn,hcn'⟩:∃ c,c=v.cn:=⟨_,rfl⟩
 rw [←hcn'] at e2 hlo2
 rw [ho] at hx1
 have Hb:=Lib.hid hb
 have HW:=Lib.hid h
 have HK:=Lib.hid hk
 have Hlo:=Lib.hid hlo
 have HS:=Lib.hid hs
 have Hn:=Lib.hid hn
 have Harg:=Lib.hid (hk.ok.ins lo hlo)
 have Ho:=Lib.hid ho
 obtain⟨ar,har⟩:∃ a,a=(gI p.code lo).arg:=⟨_,rfl⟩
 rw [←har] at hx2
 have Har:=Lib.hid har
 clear hcn' hcn hlo hb h hk hs hn ho hcA har e0 e1
 obtain⟨w1,hw1,g1,r6,r7,s1⟩:=plain_boxes w 4 ar
 have HW1:=Lib.hid (HW.out.below g1)
 have Hw1:=Lib.hid hw1
 have HR1:=Lib.hid (And.intro r6 (And.intro r7 (And.intro g1 s1)))
 have y7:=(two_cellsV r7).1
 have HE:=Lib.hid (effect_any 4 w1)
 have Hpl:Hid (plA p lo base st=match popA st.stk base (opX 4).pops with
  | .error e=>.bad lo e
  | .ok (rest,l)=>(if (gA p.arrs (gI p.code lo).arg.toNat).size≤(gV l 0).iv.hi then .bad lo 16 else .ok { st with stk:=rest } 1 0)):=by
  show _=_
  unfold plA
  rw [Ho.out]
  try rw [Har.out]
  cases popA st.stk base (opX 4).pops <;> rfl
 clear hw1 r6 r7 g1 s1
 go_enter Tryz.func112,Tryz.ntmps112
 go_wp2_with fail
 rw [←Hw1.out]
 clear hcb hx1 hx2 hgl e2 hlo2
 refine HE.out.mono ?_
 rintro e w2 ⟨rfl,hb2⟩
 have HW2:=Lib.hid (HW1.out.below hb2)
 have HV2:=Lib.hid (KV.of_below (B:=wB.heap.size) (g:=g) (mb:=mb) (d:=d) (HR1.out.2.2.1.trans (hb2.mono HR1.out.2.2.1.size)) HW.out.hB)
 have HPop:=Lib.hid (popW_any wB.heap.size g mb v d st w2 HW2.out lo base (opX 4).pops (by decide) HS.out.len hba)
 have r6:=HR1.out.1.below hb2 HR1.out.1.lt
 have r7:=HR1.out.2.1.below hb2 HR1.out.2.1.lt
 have y7:=(two_cellsV r7).1
 have HR2:=Lib.hid (And.intro r6 r7)
 clear r6 r7 hb2 HE
 go_wp2_with fail
 refine HPop.out.mono ?_
 intro e w3 hr
 clear HPop
 cases hpop:popA st.stk base (opX 4).pops with
 | error x=>
  rw [hpop] at hr
  obtain⟨rfl,hb3⟩:=hr
  refine⟨rfl,?_⟩
  have h1:=Hpl.out
  rw [hpop] at h1
  rw [h1]
  exact⟨rfl,HV2.out.kw.ki.below.trans hb3⟩
 | ok rl=>
  obtain⟨rest,l⟩:=rl
  rw [hpop] at hr
  obtain⟨A3,c3,rfl,hl3,hK3,hV3⟩:=hr
  have HV3:=Lib.hid (HV2.out.trans hV3)
  have r6:=hV3.row HR2.out.1 (HW.out.fresh (Nat.le_refl _))
  have r7:=hV3.row HR2.out.2 (HW.out.fresh (Nat.le_succ _))
  have HR3:=Lib.hid (And.intro r6 r7)
  have HL3:=Lib.hid hl3
  have HK3:=Lib.hid hK3
  have Hpop:=Lib.hid (popA_rest HS.out hpop)
  have Hpl2:Hid (plA p lo base st=(if (gA p.arrs (gI p.code lo).arg.toNat).size≤(gV l 0).iv.hi then .bad lo 16 else .ok { st with stk:=rest } 1 0)):=by show _=_;rw [Hpl.out,hpop]
  obtain⟨w4,hw4⟩:∃ w4,w4=w3.alloc (.cells #[.int .i64 1,.int .i64 0] 151):=⟨_,rfl⟩
  have hb4:Below w3.heap.size w3 w4:=by rw [hw4];exact balloc (Below.refl _ _) _
  have r12:rowV w4 w3.heap.size 151 #[.int .i64 1,.int .i64 0]:=by rw [hw4];exact rowV.new w3 _ _
  have HK4:=Lib.hid (hK3.below hb4)
  have HV4:=Lib.hid (HV3.out.trans (KV.of_below (g:=g) (mb:=mb) (d:={ d with sn:=rest.length }) hb4 hK3.hB))
  have HL4:=Lib.hid (hl3.below hb4)
  have q6:=r6.below hb4 r6.lt
  have q7:=r7.below hb4 r7.lt
  obtain⟨y7,y8⟩:=two_cellsV q7
  have l7:=q7.lt
  have HR4:=Lib.hid (And.intro q6 (And.intro q7 r12))
  have Hw4:=Lib.hid hw4
  have hs3:w.heap.size≤w3.heap.size:=Nat.le_of_lt r6.lt
  have hs3':=r6.lt
  clear hl3 hK3 hV3 r6 r7 hpop Hpl HV2 HR2 HW2 HL3 HK3 HV3 HR3 hw4 hb4 r12 q6 q7
  go_upto_region 5 with fail
  rw [←Hw4.out]
  have hpl:(opX 4).pops.length=2:=by decide
  obtain⟨x0,x1,hx0⟩:∃ x y,l=[x,y]:=by
   have h:=Hpop.out.2.2.1.trans hpl
   match l,h with
   | [x,y],_=>exact⟨x,y,rfl⟩
  subst hx0
  obtain⟨ob,hob,-,hob2,hoc⟩:=HL4.out.get (fun _=>rfl) (by decide) ⟨false,⟨0,0⟩⟩ (by rw [hpl];exact Nat.two_pos)
  subst hob
  have x00:w4.cell? ⟨ob,0,none⟩=some (.bool x0.tr):=hoc 0 0 _ (by rw [hpl];exact Nat.two_pos) rfl
  have x01:w4.cell? ⟨ob,1,none⟩=some (.int .i64 x0.iv.lo):=hoc 0 1 _ (by rw [hpl];exact Nat.two_pos) rfl
  have x02:w4.cell? ⟨ob,2,none⟩=some (.int .i64 x0.iv.hi):=hoc 0 2 _ (by rw [hpl];exact Nat.two_pos) rfl
  have x10:w4.cell? ⟨ob,3,none⟩=some (.bool x1.tr):=hoc 1 0 _ (by rw [hpl];decide) rfl
  have x11:w4.cell? ⟨ob,4,none⟩=some (.int .i64 x1.iv.lo):=hoc 1 1 _ (by rw [hpl];decide) rfl
  have x12:w4.cell? ⟨ob,5,none⟩=some (.int .i64 x1.iv.hi):=hoc 1 2 _ (by rw [hpl];decide) rfl
  clear hoc
  have HEl:=Lib.hid (elementW_any wB g mb v { d with sn:=rest.length } { st with stk:=rest } w4 p P HK.out (Hb.out.trans HV4.out.kw.ki.below) HK4.out lo Hlo.out (.inr Ho.out) x0)
  by_cases hsz:(gA p.arrs (gI p.code lo).arg.toNat).size≤x0.iv.hi
  ·have Hsz:=Lib.hid hsz
   clear hsz
   go_wp2_with fail
   refine HEl.out.mono ?_
   rintro e w5 ⟨he,hb5⟩
   simp only [if_pos Hsz.out] at he
   subst he
   refine⟨rfl,?_⟩
   rw [Hpl2.out]
   have h1:(gA p.arrs (gI p.code lo).arg.toNat).size≤(gV [x0,x1] 0).iv.hi:=Hsz.out
   rw [if_pos h1]
   exact⟨rfl,HV4.out.kw.ki.below.trans (hb5.mono HK4.out.hB)⟩
  ·have Hpl2:Hid (plA p lo base st=.ok { st with stk:=rest } 1 0):=by
    show _=_
    have h1:¬ (gA p.arrs (gI p.code lo).arg.toNat).size≤(gV [x0,x1] 0).iv.hi:=hsz
    rw [Hpl2.out,if_neg h1]
   have Hsz:=Lib.hid hsz
   clear hsz
   go_wp2_with fail
   refine HEl.out.mono ?_
   rintro e w5 ⟨he,hb5⟩
   simp only [if_neg (show ¬ (gA p.arrs (gI p.code lo).arg.toNat).size≤x0.iv.hi from by have h9:=Hsz.out;omega)] at he
   subst he
   have HK5:=Lib.hid (HK4.out.below hb5)
   have HV5:=Lib.hid (HV4.out.trans (KV.of_below (g:=g) (mb:=mb) (d:={ d with sn:=rest.length }) hb5 HK4.out.hB))
   have HR5:=Lib.hid (And.intro (HR4.out.1.below hb5 HR4.out.1.lt) (HR4.out.2.2.below hb5 HR4.out.2.2.lt))
   clear hb5 HEl
   go_wp2_with (first | refine wpList_load_row rfl 151 (.tmp 12) rfl _ rfl _ _ _ _ HR5.out.2 Tryz.underlying151 rfl (hIbd _ _) ?_ | refine wpList_store_row rfl 151 (.tmp 6) (.tmp 183) rfl _ #[.int .i64 1,.int .i64 0] rfl rfl _ _ HR5.out.1 (hIbd _ _) rfl (hA2 _ _) ?_)
   obtain⟨k1,k2⟩:=two_cellsV (setRow_heap w5 w.heap.size _ #[.int .i64 1,.int .i64 0] _ _ HR5.out.1)
   refine bodyPost_ret (v:=.agg #[.int .i64 1,.int .i64 0]) (by simp [results,Tryz.results112,go_sem,k1,k2]) rfl ?_
   rw [Hpl2.out]
   exact⟨rfl,_,HK5.out.boxG HR5.out.1 (by decide) (by decide) (by decide) (by decide) HW.out.hB (grownBy_setRow3 _ _ _),HV5.out.boxG (Nat.le_refl _) HW.out.hB (grownBy_setRow3 _ _ _),Nat.le_refl _⟩
end Go.Proofs.YtpaplehcafeeaaaGreatDoor
namespace Go.Proofs.YtpaplehcafeeaaaGreatDoor
open Go.RowKit Go.Proofs
variable [Inhabited ArgB]
theorem plain_truth21(wB:World)(g mb:Nat)(v:WV)(d:WD)(st:St)(w:World)(p:Prg)(P:List Int)(hk:PK wB v p P)(hb:Below wB.heap.size wB w)(h:WK wB.heap.size g mb v w st d)(n:Nat)(hn:p.locs=(n:Int))(hs:StOk n st)(lo base:Nat)(hlo:lo < p.code.length)(hba:base≤1000)(ho:oI p.code lo=21) :
  Calls Tryz.prog 112 #[.pointer (some ⟨g,0,none⟩),.int .i64 (lo:Int),.int .i64 (base:Int)] w (AnaR wB.heap.size g mb v d w 0 (plA p lo base st)):=by
 obtain⟨cb,off,hcA,hcb,hx1,hx2⟩:=hk.ins hb hlo
 obtain⟨e0,e1,e2,-,-,-,-,-,-,-,-⟩:=h.cells
 have hgl:=h.row.lt
 rw [hcA] at e2
 have hcn:=hk.cn
 have hlo2:lo < v.cn:=by omega
 have hlo3:lo≤1024:=by have:=hk.ok.len;omega
 obtain⟨cn,hcn'⟩:∃ c,c=v.cn:=⟨_,rfl⟩
 rw [←hcn'] at e2 hlo2
 rw [ho] at hx1
 have Hb:=Lib.hid hb
 have HW:=Lib.hid h
 have HK:=Lib.hid hk
 have Hlo:=Lib.hid hlo
 have HS:=Lib.hid hs
 have Hn:=Lib.hid hn
 have Harg:=Lib.hid (hk.ok.ins lo hlo)
 have Ho:=Lib.hid ho
 obtain⟨ar,har⟩:∃ a,a=(gI p.code lo).arg:=⟨_,rfl⟩
 rw [←har] at hx2
 have Har:=Lib.hid har
 clear hcn' hcn hlo hb h hk hs hn ho hcA har e0 e1
 obtain⟨w1,hw1,g1,r6,r7,s1⟩:=plain_boxes w 21 ar
 have HW1:=Lib.hid (HW.out.below g1)
 have Hw1:=Lib.hid hw1
 have HR1:=Lib.hid (And.intro r6 (And.intro r7 (And.intro g1 s1)))
 have y7:=(two_cellsV r7).1
 have HE:=Lib.hid (effect_any 21 w1)
 have Hpl:Hid (plA p lo base st=match popA st.stk base (opX 21).pops with
  | .error e=>.bad lo e
  | .ok (rest,l)=>pushA lo { st with stk:=rest } [⟨true,⟨0,0⟩⟩] 0):=by
  show _=_
  unfold plA
  rw [Ho.out]
  try rw [Har.out]
  cases popA st.stk base (opX 21).pops <;> rfl
 clear hw1 r6 r7 g1 s1
 go_enter Tryz.func112,Tryz.ntmps112
 go_wp2_with fail
 rw [←Hw1.out]
 clear hcb hx1 hx2 hgl e2 hlo2
 refine HE.out.mono ?_
 rintro e w2 ⟨rfl,hb2⟩
 have HW2:=Lib.hid (HW1.out.below hb2)
 have HV2:=Lib.hid (KV.of_below (B:=wB.heap.size) (g:=g) (mb:=mb) (d:=d) (HR1.out.2.2.1.trans (hb2.mono HR1.out.2.2.1.size)) HW.out.hB)
 have HPop:=Lib.hid (popW_any wB.heap.size g mb v d st w2 HW2.out lo base (opX 21).pops (by decide) HS.out.len hba)
 have r6:=HR1.out.1.below hb2 HR1.out.1.lt
 have r7:=HR1.out.2.1.below hb2 HR1.out.2.1.lt
 have y7:=(two_cellsV r7).1
 have HR2:=Lib.hid (And.intro r6 r7)
 clear r6 r7 hb2 HE
 go_wp2_with fail
 refine HPop.out.mono ?_
 intro e w3 hr
 clear HPop
 cases hpop:popA st.stk base (opX 21).pops with
 | error x=>
  rw [hpop] at hr
  obtain⟨rfl,hb3⟩:=hr
  refine⟨rfl,?_⟩
  have h1:=Hpl.out
  rw [hpop] at h1
  rw [h1]
  exact⟨rfl,HV2.out.kw.ki.below.trans hb3⟩
 | ok rl=>
  obtain⟨rest,l⟩:=rl
  rw [hpop] at hr
  obtain⟨A3,c3,rfl,hl3,hK3,hV3⟩:=hr
  have HV3:=Lib.hid (HV2.out.trans hV3)
  have r6:=hV3.row HR2.out.1 (HW.out.fresh (Nat.le_refl _))
  have r7:=hV3.row HR2.out.2 (HW.out.fresh (Nat.le_succ _))
  have HR3:=Lib.hid (And.intro r6 r7)
  have HL3:=Lib.hid hl3
  have HK3:=Lib.hid hK3
  have Hpop:=Lib.hid (popA_rest HS.out hpop)
  have Hpl2:Hid (plA p lo base st=pushA lo { st with stk:=rest } [⟨true,⟨0,0⟩⟩] 0):=by show _=_;rw [Hpl.out,hpop]
  obtain⟨w4,hw4⟩:∃ w4,w4=w3.alloc (.cells #[.int .i64 1,.int .i64 0] 151):=⟨_,rfl⟩
  have hb4:Below w3.heap.size w3 w4:=by rw [hw4];exact balloc (Below.refl _ _) _
  have r12:rowV w4 w3.heap.size 151 #[.int .i64 1,.int .i64 0]:=by rw [hw4];exact rowV.new w3 _ _
  have HK4:=Lib.hid (hK3.below hb4)
  have HV4:=Lib.hid (HV3.out.trans (KV.of_below (g:=g) (mb:=mb) (d:={ d with sn:=rest.length }) hb4 hK3.hB))
  have HL4:=Lib.hid (hl3.below hb4)
  have q6:=r6.below hb4 r6.lt
  have q7:=r7.below hb4 r7.lt
  obtain⟨y7,y8⟩:=two_cellsV q7
  have l7:=q7.lt
  have HR4:=Lib.hid (And.intro q6 (And.intro q7 r12))
  have Hw4:=Lib.hid hw4
  have hs3:w.heap.size≤w3.heap.size:=Nat.le_of_lt r6.lt
  have hs3':=r6.lt
  clear hl3 hK3 hV3 r6 r7 hpop Hpl HV2 HR2 HW2 HL3 HK3 HV3 HR3 hw4 hb4 r12 q6 q7
  go_upto_region 5 with fail
  rw [←Hw4.out]
  have hps:(opX 21).pushes=[116]:=by decide
  have hzs:strB [116]=⟨#[116]⟩:=rfl
  rw [hps]
  have hb7:Below w4.heap.size w4 (w4.alloc (.cells #[.bool true,.int .i64 0,.int .i64 0] 242)):=balloc (Below.refl _ _) _
  have HK7:=Lib.hid (HK4.out.below hb7)
  have HV7:=Lib.hid (HV4.out.trans (KV.of_below (g:=g) (mb:=mb) (d:={ d with sn:=rest.length }) hb7 HK4.out.hB))
  have HR7:=Lib.hid (And.intro ((HR4.out.1).below hb7 (HR4.out.1).lt) ((HR4.out.2.2).below hb7 (HR4.out.2.2).lt))
  have HPu:=Lib.hid (pushW_any wB.heap.size g mb v { d with sn:=rest.length } { st with stk:=rest } _ HK7.out lo ⟨w4.heap.size,0,none⟩ 1 1 [⟨true,⟨0,0⟩⟩] (vls_one w4 _) (by decide) Hpop.out.1.len Hpop.out.1.hgt 0)
  clear hb7
  go_wp2_with fail
  refine HPu.out.mono ?_
  intro e w8 hr
  clear HPu
  cases hpu:pushA lo { st with stk:=rest } [⟨true,⟨0,0⟩⟩] 0 with
  | bad a x=>
   rw [hpu] at hr
   obtain⟨rfl,hb8⟩:=hr
   refine⟨rfl,?_⟩
   rw [Hpl2.out,hpu]
   exact⟨rfl,HV7.out.kw.ki.below.trans hb8⟩
  | stuck=>rw [hpu] at hr;exact hr.elim
  | ok st8 s8 e8=>
   rw [hpu] at hr
   obtain⟨rfl,d8,hK8,hV8,hm8⟩:=hr
   obtain⟨rfl,rfl,-⟩:=pushA_one hpu
   have HR8:=Lib.hid (And.intro (hV8.row HR7.out.1 (HK7.out.ne_box HR7.out.1 (by decide) (by decide) (by decide))) (hV8.row HR7.out.2 (HK7.out.ne_box HR7.out.2 (by decide) (by decide) (by decide))))
   have HK8:=Lib.hid hK8
   have HV8:=Lib.hid (HV7.out.trans hV8)
   have Hpl3:Hid (plA p lo base st=.ok st8 1 0):=by show _=_;rw [Hpl2.out,hpu]
   clear hK8 hV8 HK7 HV7 HR7 hpu
   go_wp2_with (first | refine wpList_load_row rfl 151 (.tmp 12) rfl _ rfl _ _ _ _ HR8.out.2 Tryz.underlying151 rfl (hIbd _ _) ?_ | refine wpList_store_row rfl 151 (.tmp 6) (.tmp 183) rfl _ #[.int .i64 1,.int .i64 0] rfl rfl _ _ HR8.out.1 (hIbd _ _) rfl (hA2 _ _) ?_)
   obtain⟨k1,k2⟩:=two_cellsV (setRow_heap w8 w.heap.size _ #[.int .i64 1,.int .i64 0] _ _ HR8.out.1)
   refine bodyPost_ret (v:=.agg #[.int .i64 1,.int .i64 0]) (by simp [results,Tryz.results112,go_sem,k1,k2]) rfl ?_
   rw [Hpl3.out]
   exact⟨rfl,_,HK8.out.boxG HR8.out.1 (by decide) (by decide) (by decide) (by decide) HW.out.hB (grownBy_setRow3 _ _ _),HV8.out.boxG (Nat.le_refl _) HW.out.hB (grownBy_setRow3 _ _ _),Nat.le_of_eq hm8⟩
theorem plain_truth22(wB:World)(g mb:Nat)(v:WV)(d:WD)(st:St)(w:World)(p:Prg)(P:List Int)(hk:PK wB v p P)(hb:Below wB.heap.size wB w)(h:WK wB.heap.size g mb v w st d)(n:Nat)(hn:p.locs=(n:Int))(hs:StOk n st)(lo base:Nat)(hlo:lo < p.code.length)(hba:base≤1000)(ho:oI p.code lo=22) :
  Calls Tryz.prog 112 #[.pointer (some ⟨g,0,none⟩),.int .i64 (lo:Int),.int .i64 (base:Int)] w (AnaR wB.heap.size g mb v d w 0 (plA p lo base st)):=by
 obtain⟨cb,off,hcA,hcb,hx1,hx2⟩:=hk.ins hb hlo
 obtain⟨e0,e1,e2,-,-,-,-,-,-,-,-⟩:=h.cells
 have hgl:=h.row.lt
 rw [hcA] at e2
 have hcn:=hk.cn
 have hlo2:lo < v.cn:=by omega
 have hlo3:lo≤1024:=by have:=hk.ok.len;omega
 obtain⟨cn,hcn'⟩:∃ c,c=v.cn:=⟨_,rfl⟩
 rw [←hcn'] at e2 hlo2
 rw [ho] at hx1
 have Hb:=Lib.hid hb
 have HW:=Lib.hid h
 have HK:=Lib.hid hk
 have Hlo:=Lib.hid hlo
 have HS:=Lib.hid hs
 have Hn:=Lib.hid hn
 have Harg:=Lib.hid (hk.ok.ins lo hlo)
 have Ho:=Lib.hid ho
 obtain⟨ar,har⟩:∃ a,a=(gI p.code lo).arg:=⟨_,rfl⟩
 rw [←har] at hx2
 have Har:=Lib.hid har
 clear hcn' hcn hlo hb h hk hs hn ho hcA har e0 e1
 obtain⟨w1,hw1,g1,r6,r7,s1⟩:=plain_boxes w 22 ar
 have HW1:=Lib.hid (HW.out.below g1)
 have Hw1:=Lib.hid hw1
 have HR1:=Lib.hid (And.intro r6 (And.intro r7 (And.intro g1 s1)))
 have y7:=(two_cellsV r7).1
 have HE:=Lib.hid (effect_any 22 w1)
 have Hpl:Hid (plA p lo base st=match popA st.stk base (opX 22).pops with
  | .error e=>.bad lo e
  | .ok (rest,l)=>pushA lo { st with stk:=rest } [⟨true,⟨0,0⟩⟩] 0):=by
  show _=_
  unfold plA
  rw [Ho.out]
  try rw [Har.out]
  cases popA st.stk base (opX 22).pops <;> rfl
 clear hw1 r6 r7 g1 s1
 go_enter Tryz.func112,Tryz.ntmps112
 go_wp2_with fail
 rw [←Hw1.out]
 clear hcb hx1 hx2 hgl e2 hlo2
 refine HE.out.mono ?_
 rintro e w2 ⟨rfl,hb2⟩
 have HW2:=Lib.hid (HW1.out.below hb2)
 have HV2:=Lib.hid (KV.of_below (B:=wB.heap.size) (g:=g) (mb:=mb) (d:=d) (HR1.out.2.2.1.trans (hb2.mono HR1.out.2.2.1.size)) HW.out.hB)
 have HPop:=Lib.hid (popW_any wB.heap.size g mb v d st w2 HW2.out lo base (opX 22).pops (by decide) HS.out.len hba)
 have r6:=HR1.out.1.below hb2 HR1.out.1.lt
 have r7:=HR1.out.2.1.below hb2 HR1.out.2.1.lt
 have y7:=(two_cellsV r7).1
 have HR2:=Lib.hid (And.intro r6 r7)
 clear r6 r7 hb2 HE
 go_wp2_with fail
 refine HPop.out.mono ?_
 intro e w3 hr
 clear HPop
 cases hpop:popA st.stk base (opX 22).pops with
 | error x=>
  rw [hpop] at hr
  obtain⟨rfl,hb3⟩:=hr
  refine⟨rfl,?_⟩
  have h1:=Hpl.out
  rw [hpop] at h1
  rw [h1]
  exact⟨rfl,HV2.out.kw.ki.below.trans hb3⟩
 | ok rl=>
  obtain⟨rest,l⟩:=rl
  rw [hpop] at hr
  obtain⟨A3,c3,rfl,hl3,hK3,hV3⟩:=hr
  have HV3:=Lib.hid (HV2.out.trans hV3)
  have r6:=hV3.row HR2.out.1 (HW.out.fresh (Nat.le_refl _))
  have r7:=hV3.row HR2.out.2 (HW.out.fresh (Nat.le_succ _))
  have HR3:=Lib.hid (And.intro r6 r7)
  have HL3:=Lib.hid hl3
  have HK3:=Lib.hid hK3
  have Hpop:=Lib.hid (popA_rest HS.out hpop)
  have Hpl2:Hid (plA p lo base st=pushA lo { st with stk:=rest } [⟨true,⟨0,0⟩⟩] 0):=by show _=_;rw [Hpl.out,hpop]
  obtain⟨w4,hw4⟩:∃ w4,w4=w3.alloc (.cells #[.int .i64 1,.int .i64 0] 151):=⟨_,rfl⟩
  have hb4:Below w3.heap.size w3 w4:=by rw [hw4];exact balloc (Below.refl _ _) _
  have r12:rowV w4 w3.heap.size 151 #[.int .i64 1,.int .i64 0]:=by rw [hw4];exact rowV.new w3 _ _
  have HK4:=Lib.hid (hK3.below hb4)
  have HV4:=Lib.hid (HV3.out.trans (KV.of_below (g:=g) (mb:=mb) (d:={ d with sn:=rest.length }) hb4 hK3.hB))
  have HL4:=Lib.hid (hl3.below hb4)
  have q6:=r6.below hb4 r6.lt
  have q7:=r7.below hb4 r7.lt
  obtain⟨y7,y8⟩:=two_cellsV q7
  have l7:=q7.lt
  have HR4:=Lib.hid (And.intro q6 (And.intro q7 r12))
  have Hw4:=Lib.hid hw4
  have hs3:w.heap.size≤w3.heap.size:=Nat.le_of_lt r6.lt
  have hs3':=r6.lt
  clear hl3 hK3 hV3 r6 r7 hpop Hpl HV2 HR2 HW2 HL3 HK3 HV3 HR3 hw4 hb4 r12 q6 q7
  go_upto_region 5 with fail
  rw [←Hw4.out]
  have hps:(opX 22).pushes=[116]:=by decide
  have hzs:strB [116]=⟨#[116]⟩:=rfl
  rw [hps]
  have hb7:Below w4.heap.size w4 (w4.alloc (.cells #[.bool true,.int .i64 0,.int .i64 0] 242)):=balloc (Below.refl _ _) _
  have HK7:=Lib.hid (HK4.out.below hb7)
  have HV7:=Lib.hid (HV4.out.trans (KV.of_below (g:=g) (mb:=mb) (d:={ d with sn:=rest.length }) hb7 HK4.out.hB))
  have HR7:=Lib.hid (And.intro ((HR4.out.1).below hb7 (HR4.out.1).lt) ((HR4.out.2.2).below hb7 (HR4.out.2.2).lt))
  have HPu:=Lib.hid (pushW_any wB.heap.size g mb v { d with sn:=rest.length } { st with stk:=rest } _ HK7.out lo ⟨w4.heap.size,0,none⟩ 1 1 [⟨true,⟨0,0⟩⟩] (vls_one w4 _) (by decide) Hpop.out.1.len Hpop.out.1.hgt 0)
  clear hb7
  go_wp2_with fail
  refine HPu.out.mono ?_
  intro e w8 hr
  clear HPu
  cases hpu:pushA lo { st with stk:=rest } [⟨true,⟨0,0⟩⟩] 0 with
  | bad a x=>
   rw [hpu] at hr
   obtain⟨rfl,hb8⟩:=hr
   refine⟨rfl,?_⟩
   rw [Hpl2.out,hpu]
   exact⟨rfl,HV7.out.kw.ki.below.trans hb8⟩
  | stuck=>rw [hpu] at hr;exact hr.elim
  | ok st8 s8 e8=>
   rw [hpu] at hr
   obtain⟨rfl,d8,hK8,hV8,hm8⟩:=hr
   obtain⟨rfl,rfl,-⟩:=pushA_one hpu
   have HR8:=Lib.hid (And.intro (hV8.row HR7.out.1 (HK7.out.ne_box HR7.out.1 (by decide) (by decide) (by decide))) (hV8.row HR7.out.2 (HK7.out.ne_box HR7.out.2 (by decide) (by decide) (by decide))))
   have HK8:=Lib.hid hK8
   have HV8:=Lib.hid (HV7.out.trans hV8)
   have Hpl3:Hid (plA p lo base st=.ok st8 1 0):=by show _=_;rw [Hpl2.out,hpu]
   clear hK8 hV8 HK7 HV7 HR7 hpu
   go_wp2_with (first | refine wpList_load_row rfl 151 (.tmp 12) rfl _ rfl _ _ _ _ HR8.out.2 Tryz.underlying151 rfl (hIbd _ _) ?_ | refine wpList_store_row rfl 151 (.tmp 6) (.tmp 183) rfl _ #[.int .i64 1,.int .i64 0] rfl rfl _ _ HR8.out.1 (hIbd _ _) rfl (hA2 _ _) ?_)
   obtain⟨k1,k2⟩:=two_cellsV (setRow_heap w8 w.heap.size _ #[.int .i64 1,.int .i64 0] _ _ HR8.out.1)
   refine bodyPost_ret (v:=.agg #[.int .i64 1,.int .i64 0]) (by simp [results,Tryz.results112,go_sem,k1,k2]) rfl ?_
   rw [Hpl3.out]
   exact⟨rfl,_,HK8.out.boxG HR8.out.1 (by decide) (by decide) (by decide) (by decide) HW.out.hB (grownBy_setRow3 _ _ _),HV8.out.boxG (Nat.le_refl _) HW.out.hB (grownBy_setRow3 _ _ _),Nat.le_of_eq hm8⟩
theorem plain_truth23(wB:World)(g mb:Nat)(v:WV)(d:WD)(st:St)(w:World)(p:Prg)(P:List Int)(hk:PK wB v p P)(hb:Below wB.heap.size wB w)(h:WK wB.heap.size g mb v w st d)(n:Nat)(hn:p.locs=(n:Int))(hs:StOk n st)(lo base:Nat)(hlo:lo < p.code.length)(hba:base≤1000)(ho:oI p.code lo=23) :
  Calls Tryz.prog 112 #[.pointer (some ⟨g,0,none⟩),.int .i64 (lo:Int),.int .i64 (base:Int)] w (AnaR wB.heap.size g mb v d w 0 (plA p lo base st)):=by
 obtain⟨cb,off,hcA,hcb,hx1,hx2⟩:=hk.ins hb hlo
 obtain⟨e0,e1,e2,-,-,-,-,-,-,-,-⟩:=h.cells
 have hgl:=h.row.lt
 rw [hcA] at e2
 have hcn:=hk.cn
 have hlo2:lo < v.cn:=by omega
 have hlo3:lo≤1024:=by have:=hk.ok.len;omega
 obtain⟨cn,hcn'⟩:∃ c,c=v.cn:=⟨_,rfl⟩
 rw [←hcn'] at e2 hlo2
 rw [ho] at hx1
 have Hb:=Lib.hid hb
 have HW:=Lib.hid h
 have HK:=Lib.hid hk
 have Hlo:=Lib.hid hlo
 have HS:=Lib.hid hs
 have Hn:=Lib.hid hn
 have Harg:=Lib.hid (hk.ok.ins lo hlo)
 have Ho:=Lib.hid ho
 obtain⟨ar,har⟩:∃ a,a=(gI p.code lo).arg:=⟨_,rfl⟩
 rw [←har] at hx2
 have Har:=Lib.hid har
 clear hcn' hcn hlo hb h hk hs hn ho hcA har e0 e1
 obtain⟨w1,hw1,g1,r6,r7,s1⟩:=plain_boxes w 23 ar
 have HW1:=Lib.hid (HW.out.below g1)
 have Hw1:=Lib.hid hw1
 have HR1:=Lib.hid (And.intro r6 (And.intro r7 (And.intro g1 s1)))
 have y7:=(two_cellsV r7).1
 have HE:=Lib.hid (effect_any 23 w1)
 have Hpl:Hid (plA p lo base st=match popA st.stk base (opX 23).pops with
  | .error e=>.bad lo e
  | .ok (rest,l)=>pushA lo { st with stk:=rest } [⟨true,⟨0,0⟩⟩] 0):=by
  show _=_
  unfold plA
  rw [Ho.out]
  try rw [Har.out]
  cases popA st.stk base (opX 23).pops <;> rfl
 clear hw1 r6 r7 g1 s1
 go_enter Tryz.func112,Tryz.ntmps112
 go_wp2_with fail
 rw [←Hw1.out]
 clear hcb hx1 hx2 hgl e2 hlo2
 refine HE.out.mono ?_
 rintro e w2 ⟨rfl,hb2⟩
 have HW2:=Lib.hid (HW1.out.below hb2)
 have HV2:=Lib.hid (KV.of_below (B:=wB.heap.size) (g:=g) (mb:=mb) (d:=d) (HR1.out.2.2.1.trans (hb2.mono HR1.out.2.2.1.size)) HW.out.hB)
 have HPop:=Lib.hid (popW_any wB.heap.size g mb v d st w2 HW2.out lo base (opX 23).pops (by decide) HS.out.len hba)
 have r6:=HR1.out.1.below hb2 HR1.out.1.lt
 have r7:=HR1.out.2.1.below hb2 HR1.out.2.1.lt
 have y7:=(two_cellsV r7).1
 have HR2:=Lib.hid (And.intro r6 r7)
 clear r6 r7 hb2 HE
 go_wp2_with fail
 refine HPop.out.mono ?_
 intro e w3 hr
 clear HPop
 cases hpop:popA st.stk base (opX 23).pops with
 | error x=>
  rw [hpop] at hr
  obtain⟨rfl,hb3⟩:=hr
  refine⟨rfl,?_⟩
  have h1:=Hpl.out
  rw [hpop] at h1
  rw [h1]
  exact⟨rfl,HV2.out.kw.ki.below.trans hb3⟩
 | ok rl=>
  obtain⟨rest,l⟩:=rl
  rw [hpop] at hr
  obtain⟨A3,c3,rfl,hl3,hK3,hV3⟩:=hr
  have HV3:=Lib.hid (HV2.out.trans hV3)
  have r6:=hV3.row HR2.out.1 (HW.out.fresh (Nat.le_refl _))
  have r7:=hV3.row HR2.out.2 (HW.out.fresh (Nat.le_succ _))
  have HR3:=Lib.hid (And.intro r6 r7)
  have HL3:=Lib.hid hl3
  have HK3:=Lib.hid hK3
  have Hpop:=Lib.hid (popA_rest HS.out hpop)
  have Hpl2:Hid (plA p lo base st=pushA lo { st with stk:=rest } [⟨true,⟨0,0⟩⟩] 0):=by show _=_;rw [Hpl.out,hpop]
  obtain⟨w4,hw4⟩:∃ w4,w4=w3.alloc (.cells #[.int .i64 1,.int .i64 0] 151):=⟨_,rfl⟩
  have hb4:Below w3.heap.size w3 w4:=by rw [hw4];exact balloc (Below.refl _ _) _
  have r12:rowV w4 w3.heap.size 151 #[.int .i64 1,.int .i64 0]:=by rw [hw4];exact rowV.new w3 _ _
  have HK4:=Lib.hid (hK3.below hb4)
  have HV4:=Lib.hid (HV3.out.trans (KV.of_below (g:=g) (mb:=mb) (d:={ d with sn:=rest.length }) hb4 hK3.hB))
  have HL4:=Lib.hid (hl3.below hb4)
  have q6:=r6.below hb4 r6.lt
  have q7:=r7.below hb4 r7.lt
  obtain⟨y7,y8⟩:=two_cellsV q7
  have l7:=q7.lt
  have HR4:=Lib.hid (And.intro q6 (And.intro q7 r12))
  have Hw4:=Lib.hid hw4
  have hs3:w.heap.size≤w3.heap.size:=Nat.le_of_lt r6.lt
  have hs3':=r6.lt
  clear hl3 hK3 hV3 r6 r7 hpop Hpl HV2 HR2 HW2 HL3 HK3 HV3 HR3 hw4 hb4 r12 q6 q7
  go_upto_region 5 with fail
  rw [←Hw4.out]
  have hps:(opX 23).pushes=[116]:=by decide
  have hzs:strB [116]=⟨#[116]⟩:=rfl
  rw [hps]
  have hb7:Below w4.heap.size w4 (w4.alloc (.cells #[.bool true,.int .i64 0,.int .i64 0] 242)):=balloc (Below.refl _ _) _
  have HK7:=Lib.hid (HK4.out.below hb7)
  have HV7:=Lib.hid (HV4.out.trans (KV.of_below (g:=g) (mb:=mb) (d:={ d with sn:=rest.length }) hb7 HK4.out.hB))
  have HR7:=Lib.hid (And.intro ((HR4.out.1).below hb7 (HR4.out.1).lt) ((HR4.out.2.2).below hb7 (HR4.out.2.2).lt))
  have HPu:=Lib.hid (pushW_any wB.heap.size g mb v { d with sn:=rest.length } { st with stk:=rest } _ HK7.out lo ⟨w4.heap.size,0,none⟩ 1 1 [⟨true,⟨0,0⟩⟩] (vls_one w4 _) (by decide) Hpop.out.1.len Hpop.out.1.hgt 0)
  clear hb7
  go_wp2_with fail
  refine HPu.out.mono ?_
  intro e w8 hr
  clear HPu
  cases hpu:pushA lo { st with stk:=rest } [⟨true,⟨0,0⟩⟩] 0 with
  | bad a x=>
   rw [hpu] at hr
   obtain⟨rfl,hb8⟩:=hr
   refine⟨rfl,?_⟩
   rw [Hpl2.out,hpu]
   exact⟨rfl,HV7.out.kw.ki.below.trans hb8⟩
  | stuck=>rw [hpu] at hr;exact hr.elim
  | ok st8 s8 e8=>
   rw [hpu] at hr
   obtain⟨rfl,d8,hK8,hV8,hm8⟩:=hr
   obtain⟨rfl,rfl,-⟩:=pushA_one hpu
   have HR8:=Lib.hid (And.intro (hV8.row HR7.out.1 (HK7.out.ne_box HR7.out.1 (by decide) (by decide) (by decide))) (hV8.row HR7.out.2 (HK7.out.ne_box HR7.out.2 (by decide) (by decide) (by decide))))
   have HK8:=Lib.hid hK8
   have HV8:=Lib.hid (HV7.out.trans hV8)
   have Hpl3:Hid (plA p lo base st=.ok st8 1 0):=by show _=_;rw [Hpl2.out,hpu]
   clear hK8 hV8 HK7 HV7 HR7 hpu
   go_wp2_with (first | refine wpList_load_row rfl 151 (.tmp 12) rfl _ rfl _ _ _ _ HR8.out.2 Tryz.underlying151 rfl (hIbd _ _) ?_ | refine wpList_store_row rfl 151 (.tmp 6) (.tmp 183) rfl _ #[.int .i64 1,.int .i64 0] rfl rfl _ _ HR8.out.1 (hIbd _ _) rfl (hA2 _ _) ?_)
   obtain⟨k1,k2⟩:=two_cellsV (setRow_heap w8 w.heap.size _ #[.int .i64 1,.int .i64 0] _ _ HR8.out.1)
   refine bodyPost_ret (v:=.agg #[.int .i64 1,.int .i64 0]) (by simp [results,Tryz.results112,go_sem,k1,k2]) rfl ?_
   rw [Hpl3.out]
   exact⟨rfl,_,HK8.out.boxG HR8.out.1 (by decide) (by decide) (by decide) (by decide) HW.out.hB (grownBy_setRow3 _ _ _),HV8.out.boxG (Nat.le_refl _) HW.out.hB (grownBy_setRow3 _ _ _),Nat.le_of_eq hm8⟩
theorem plain_truth24(wB:World)(g mb:Nat)(v:WV)(d:WD)(st:St)(w:World)(p:Prg)(P:List Int)(hk:PK wB v p P)(hb:Below wB.heap.size wB w)(h:WK wB.heap.size g mb v w st d)(n:Nat)(hn:p.locs=(n:Int))(hs:StOk n st)(lo base:Nat)(hlo:lo < p.code.length)(hba:base≤1000)(ho:oI p.code lo=24) :
  Calls Tryz.prog 112 #[.pointer (some ⟨g,0,none⟩),.int .i64 (lo:Int),.int .i64 (base:Int)] w (AnaR wB.heap.size g mb v d w 0 (plA p lo base st)):=by
 obtain⟨cb,off,hcA,hcb,hx1,hx2⟩:=hk.ins hb hlo
 obtain⟨e0,e1,e2,-,-,-,-,-,-,-,-⟩:=h.cells
 have hgl:=h.row.lt
 rw [hcA] at e2
 have hcn:=hk.cn
 have hlo2:lo < v.cn:=by omega
 have hlo3:lo≤1024:=by have:=hk.ok.len;omega
 obtain⟨cn,hcn'⟩:∃ c,c=v.cn:=⟨_,rfl⟩
 rw [←hcn'] at e2 hlo2
 rw [ho] at hx1
 have Hb:=Lib.hid hb
 have HW:=Lib.hid h
 have HK:=Lib.hid hk
 have Hlo:=Lib.hid hlo
 have HS:=Lib.hid hs
 have Hn:=Lib.hid hn
 have Harg:=Lib.hid (hk.ok.ins lo hlo)
 have Ho:=Lib.hid ho
 obtain⟨ar,har⟩:∃ a,a=(gI p.code lo).arg:=⟨_,rfl⟩
 rw [←har] at hx2
 have Har:=Lib.hid har
 clear hcn' hcn hlo hb h hk hs hn ho hcA har e0 e1
 obtain⟨w1,hw1,g1,r6,r7,s1⟩:=plain_boxes w 24 ar
 have HW1:=Lib.hid (HW.out.below g1)
 have Hw1:=Lib.hid hw1
 have HR1:=Lib.hid (And.intro r6 (And.intro r7 (And.intro g1 s1)))
 have y7:=(two_cellsV r7).1
 have HE:=Lib.hid (effect_any 24 w1)
 have Hpl:Hid (plA p lo base st=match popA st.stk base (opX 24).pops with
  | .error e=>.bad lo e
  | .ok (rest,l)=>pushA lo { st with stk:=rest } [⟨true,⟨0,0⟩⟩] 0):=by
  show _=_
  unfold plA
  rw [Ho.out]
  try rw [Har.out]
  cases popA st.stk base (opX 24).pops <;> rfl
 clear hw1 r6 r7 g1 s1
 go_enter Tryz.func112,Tryz.ntmps112
 go_wp2_with fail
 rw [←Hw1.out]
 clear hcb hx1 hx2 hgl e2 hlo2
 refine HE.out.mono ?_
 rintro e w2 ⟨rfl,hb2⟩
 have HW2:=Lib.hid (HW1.out.below hb2)
 have HV2:=Lib.hid (KV.of_below (B:=wB.heap.size) (g:=g) (mb:=mb) (d:=d) (HR1.out.2.2.1.trans (hb2.mono HR1.out.2.2.1.size)) HW.out.hB)
 have HPop:=Lib.hid (popW_any wB.heap.size g mb v d st w2 HW2.out lo base (opX 24).pops (by decide) HS.out.len hba)
 have r6:=HR1.out.1.below hb2 HR1.out.1.lt
 have r7:=HR1.out.2.1.below hb2 HR1.out.2.1.lt
 have y7:=(two_cellsV r7).1
 have HR2:=Lib.hid (And.intro r6 r7)
 clear r6 r7 hb2 HE
 go_wp2_with fail
 refine HPop.out.mono ?_
 intro e w3 hr
 clear HPop
 cases hpop:popA st.stk base (opX 24).pops with
 | error x=>
  rw [hpop] at hr
  obtain⟨rfl,hb3⟩:=hr
  refine⟨rfl,?_⟩
  have h1:=Hpl.out
  rw [hpop] at h1
  rw [h1]
  exact⟨rfl,HV2.out.kw.ki.below.trans hb3⟩
 | ok rl=>
  obtain⟨rest,l⟩:=rl
  rw [hpop] at hr
  obtain⟨A3,c3,rfl,hl3,hK3,hV3⟩:=hr
  have HV3:=Lib.hid (HV2.out.trans hV3)
  have r6:=hV3.row HR2.out.1 (HW.out.fresh (Nat.le_refl _))
  have r7:=hV3.row HR2.out.2 (HW.out.fresh (Nat.le_succ _))
  have HR3:=Lib.hid (And.intro r6 r7)
  have HL3:=Lib.hid hl3
  have HK3:=Lib.hid hK3
  have Hpop:=Lib.hid (popA_rest HS.out hpop)
  have Hpl2:Hid (plA p lo base st=pushA lo { st with stk:=rest } [⟨true,⟨0,0⟩⟩] 0):=by show _=_;rw [Hpl.out,hpop]
  obtain⟨w4,hw4⟩:∃ w4,w4=w3.alloc (.cells #[.int .i64 1,.int .i64 0] 151):=⟨_,rfl⟩
  have hb4:Below w3.heap.size w3 w4:=by rw [hw4];exact balloc (Below.refl _ _) _
  have r12:rowV w4 w3.heap.size 151 #[.int .i64 1,.int .i64 0]:=by rw [hw4];exact rowV.new w3 _ _
  have HK4:=Lib.hid (hK3.below hb4)
  have HV4:=Lib.hid (HV3.out.trans (KV.of_below (g:=g) (mb:=mb) (d:={ d with sn:=rest.length }) hb4 hK3.hB))
  have HL4:=Lib.hid (hl3.below hb4)
  have q6:=r6.below hb4 r6.lt
  have q7:=r7.below hb4 r7.lt
  obtain⟨y7,y8⟩:=two_cellsV q7
  have l7:=q7.lt
  have HR4:=Lib.hid (And.intro q6 (And.intro q7 r12))
  have Hw4:=Lib.hid hw4
  have hs3:w.heap.size≤w3.heap.size:=Nat.le_of_lt r6.lt
  have hs3':=r6.lt
  clear hl3 hK3 hV3 r6 r7 hpop Hpl HV2 HR2 HW2 HL3 HK3 HV3 HR3 hw4 hb4 r12 q6 q7
  go_upto_region 5 with fail
  rw [←Hw4.out]
  have hps:(opX 24).pushes=[116]:=by decide
  have hzs:strB [116]=⟨#[116]⟩:=rfl
  rw [hps]
  have hb7:Below w4.heap.size w4 (w4.alloc (.cells #[.bool true,.int .i64 0,.int .i64 0] 242)):=balloc (Below.refl _ _) _
  have HK7:=Lib.hid (HK4.out.below hb7)
  have HV7:=Lib.hid (HV4.out.trans (KV.of_below (g:=g) (mb:=mb) (d:={ d with sn:=rest.length }) hb7 HK4.out.hB))
  have HR7:=Lib.hid (And.intro ((HR4.out.1).below hb7 (HR4.out.1).lt) ((HR4.out.2.2).below hb7 (HR4.out.2.2).lt))
  have HPu:=Lib.hid (pushW_any wB.heap.size g mb v { d with sn:=rest.length } { st with stk:=rest } _ HK7.out lo ⟨w4.heap.size,0,none⟩ 1 1 [⟨true,⟨0,0⟩⟩] (vls_one w4 _) (by decide) Hpop.out.1.len Hpop.out.1.hgt 0)
  clear hb7
  go_wp2_with fail
  refine HPu.out.mono ?_
  intro e w8 hr
  clear HPu
  cases hpu:pushA lo { st with stk:=rest } [⟨true,⟨0,0⟩⟩] 0 with
  | bad a x=>
   rw [hpu] at hr
   obtain⟨rfl,hb8⟩:=hr
   refine⟨rfl,?_⟩
   rw [Hpl2.out,hpu]
   exact⟨rfl,HV7.out.kw.ki.below.trans hb8⟩
  | stuck=>rw [hpu] at hr;exact hr.elim
  | ok st8 s8 e8=>
   rw [hpu] at hr
   obtain⟨rfl,d8,hK8,hV8,hm8⟩:=hr
   obtain⟨rfl,rfl,-⟩:=pushA_one hpu
   have HR8:=Lib.hid (And.intro (hV8.row HR7.out.1 (HK7.out.ne_box HR7.out.1 (by decide) (by decide) (by decide))) (hV8.row HR7.out.2 (HK7.out.ne_box HR7.out.2 (by decide) (by decide) (by decide))))
   have HK8:=Lib.hid hK8
   have HV8:=Lib.hid (HV7.out.trans hV8)
   have Hpl3:Hid (plA p lo base st=.ok st8 1 0):=by show _=_;rw [Hpl2.out,hpu]
   clear hK8 hV8 HK7 HV7 HR7 hpu
   go_wp2_with (first | refine wpList_load_row rfl 151 (.tmp 12) rfl _ rfl _ _ _ _ HR8.out.2 Tryz.underlying151 rfl (hIbd _ _) ?_ | refine wpList_store_row rfl 151 (.tmp 6) (.tmp 183) rfl _ #[.int .i64 1,.int .i64 0] rfl rfl _ _ HR8.out.1 (hIbd _ _) rfl (hA2 _ _) ?_)
   obtain⟨k1,k2⟩:=two_cellsV (setRow_heap w8 w.heap.size _ #[.int .i64 1,.int .i64 0] _ _ HR8.out.1)
   refine bodyPost_ret (v:=.agg #[.int .i64 1,.int .i64 0]) (by simp [results,Tryz.results112,go_sem,k1,k2]) rfl ?_
   rw [Hpl3.out]
   exact⟨rfl,_,HK8.out.boxG HR8.out.1 (by decide) (by decide) (by decide) (by decide) HW.out.hB (grownBy_setRow3 _ _ _),HV8.out.boxG (Nat.le_refl _) HW.out.hB (grownBy_setRow3 _ _ _),Nat.le_of_eq hm8⟩
theorem plain_truth25(wB:World)(g mb:Nat)(v:WV)(d:WD)(st:St)(w:World)(p:Prg)(P:List Int)(hk:PK wB v p P)(hb:Below wB.heap.size wB w)(h:WK wB.heap.size g mb v w st d)(n:Nat)(hn:p.locs=(n:Int))(hs:StOk n st)(lo base:Nat)(hlo:lo < p.code.length)(hba:base≤1000)(ho:oI p.code lo=25) :
  Calls Tryz.prog 112 #[.pointer (some ⟨g,0,none⟩),.int .i64 (lo:Int),.int .i64 (base:Int)] w (AnaR wB.heap.size g mb v d w 0 (plA p lo base st)):=by
 obtain⟨cb,off,hcA,hcb,hx1,hx2⟩:=hk.ins hb hlo
 obtain⟨e0,e1,e2,-,-,-,-,-,-,-,-⟩:=h.cells
 have hgl:=h.row.lt
 rw [hcA] at e2
 have hcn:=hk.cn
 have hlo2:lo < v.cn:=by omega
 have hlo3:lo≤1024:=by have:=hk.ok.len;omega
 obtain⟨cn,hcn'⟩:∃ c,c=v.cn:=⟨_,rfl⟩
 rw [←hcn'] at e2 hlo2
 rw [ho] at hx1
 have Hb:=Lib.hid hb
 have HW:=Lib.hid h
 have HK:=Lib.hid hk
 have Hlo:=Lib.hid hlo
 have HS:=Lib.hid hs
 have Hn:=Lib.hid hn
 have Harg:=Lib.hid (hk.ok.ins lo hlo)
 have Ho:=Lib.hid ho
 obtain⟨ar,har⟩:∃ a,a=(gI p.code lo).arg:=⟨_,rfl⟩
 rw [←har] at hx2
 have Har:=Lib.hid har
 clear hcn' hcn hlo hb h hk hs hn ho hcA har e0 e1
 obtain⟨w1,hw1,g1,r6,r7,s1⟩:=plain_boxes w 25 ar
 have HW1:=Lib.hid (HW.out.below g1)
 have Hw1:=Lib.hid hw1
 have HR1:=Lib.hid (And.intro r6 (And.intro r7 (And.intro g1 s1)))
 have y7:=(two_cellsV r7).1
 have HE:=Lib.hid (effect_any 25 w1)
 have Hpl:Hid (plA p lo base st=match popA st.stk base (opX 25).pops with
  | .error e=>.bad lo e
  | .ok (rest,l)=>pushA lo { st with stk:=rest } [⟨true,⟨0,0⟩⟩] 0):=by
  show _=_
  unfold plA
  rw [Ho.out]
  try rw [Har.out]
  cases popA st.stk base (opX 25).pops <;> rfl
 clear hw1 r6 r7 g1 s1
 go_enter Tryz.func112,Tryz.ntmps112
 go_wp2_with fail
 rw [←Hw1.out]
 clear hcb hx1 hx2 hgl e2 hlo2
 refine HE.out.mono ?_
 rintro e w2 ⟨rfl,hb2⟩
 have HW2:=Lib.hid (HW1.out.below hb2)
 have HV2:=Lib.hid (KV.of_below (B:=wB.heap.size) (g:=g) (mb:=mb) (d:=d) (HR1.out.2.2.1.trans (hb2.mono HR1.out.2.2.1.size)) HW.out.hB)
 have HPop:=Lib.hid (popW_any wB.heap.size g mb v d st w2 HW2.out lo base (opX 25).pops (by decide) HS.out.len hba)
 have r6:=HR1.out.1.below hb2 HR1.out.1.lt
 have r7:=HR1.out.2.1.below hb2 HR1.out.2.1.lt
 have y7:=(two_cellsV r7).1
 have HR2:=Lib.hid (And.intro r6 r7)
 clear r6 r7 hb2 HE
 go_wp2_with fail
 refine HPop.out.mono ?_
 intro e w3 hr
 clear HPop
 cases hpop:popA st.stk base (opX 25).pops with
 | error x=>
  rw [hpop] at hr
  obtain⟨rfl,hb3⟩:=hr
  refine⟨rfl,?_⟩
  have h1:=Hpl.out
  rw [hpop] at h1
  rw [h1]
  exact⟨rfl,HV2.out.kw.ki.below.trans hb3⟩
 | ok rl=>
  obtain⟨rest,l⟩:=rl
  rw [hpop] at hr
  obtain⟨A3,c3,rfl,hl3,hK3,hV3⟩:=hr
  have HV3:=Lib.hid (HV2.out.trans hV3)
  have r6:=hV3.row HR2.out.1 (HW.out.fresh (Nat.le_refl _))
  have r7:=hV3.row HR2.out.2 (HW.out.fresh (Nat.le_succ _))
  have HR3:=Lib.hid (And.intro r6 r7)
  have HL3:=Lib.hid hl3
  have HK3:=Lib.hid hK3
  have Hpop:=Lib.hid (popA_rest HS.out hpop)
  have Hpl2:Hid (plA p lo base st=pushA lo { st with stk:=rest } [⟨true,⟨0,0⟩⟩] 0):=by show _=_;rw [Hpl.out,hpop]
  obtain⟨w4,hw4⟩:∃ w4,w4=w3.alloc (.cells #[.int .i64 1,.int .i64 0] 151):=⟨_,rfl⟩
  have hb4:Below w3.heap.size w3 w4:=by rw [hw4];exact balloc (Below.refl _ _) _
  have r12:rowV w4 w3.heap.size 151 #[.int .i64 1,.int .i64 0]:=by rw [hw4];exact rowV.new w3 _ _
  have HK4:=Lib.hid (hK3.below hb4)
  have HV4:=Lib.hid (HV3.out.trans (KV.of_below (g:=g) (mb:=mb) (d:={ d with sn:=rest.length }) hb4 hK3.hB))
  have HL4:=Lib.hid (hl3.below hb4)
  have q6:=r6.below hb4 r6.lt
  have q7:=r7.below hb4 r7.lt
  obtain⟨y7,y8⟩:=two_cellsV q7
  have l7:=q7.lt
  have HR4:=Lib.hid (And.intro q6 (And.intro q7 r12))
  have Hw4:=Lib.hid hw4
  have hs3:w.heap.size≤w3.heap.size:=Nat.le_of_lt r6.lt
  have hs3':=r6.lt
  clear hl3 hK3 hV3 r6 r7 hpop Hpl HV2 HR2 HW2 HL3 HK3 HV3 HR3 hw4 hb4 r12 q6 q7
  go_upto_region 5 with fail
  rw [←Hw4.out]
  have hps:(opX 25).pushes=[116]:=by decide
  have hzs:strB [116]=⟨#[116]⟩:=rfl
  rw [hps]
  have hb7:Below w4.heap.size w4 (w4.alloc (.cells #[.bool true,.int .i64 0,.int .i64 0] 242)):=balloc (Below.refl _ _) _
  have HK7:=Lib.hid (HK4.out.below hb7)
  have HV7:=Lib.hid (HV4.out.trans (KV.of_below (g:=g) (mb:=mb) (d:={ d with sn:=rest.length }) hb7 HK4.out.hB))
  have HR7:=Lib.hid (And.intro ((HR4.out.1).below hb7 (HR4.out.1).lt) ((HR4.out.2.2).below hb7 (HR4.out.2.2).lt))
  have HPu:=Lib.hid (pushW_any wB.heap.size g mb v { d with sn:=rest.length } { st with stk:=rest } _ HK7.out lo ⟨w4.heap.size,0,none⟩ 1 1 [⟨true,⟨0,0⟩⟩] (vls_one w4 _) (by decide) Hpop.out.1.len Hpop.out.1.hgt 0)
  clear hb7
  go_wp2_with fail
  refine HPu.out.mono ?_
  intro e w8 hr
  clear HPu
  cases hpu:pushA lo { st with stk:=rest } [⟨true,⟨0,0⟩⟩] 0 with
  | bad a x=>
   rw [hpu] at hr
   obtain⟨rfl,hb8⟩:=hr
   refine⟨rfl,?_⟩
   rw [Hpl2.out,hpu]
   exact⟨rfl,HV7.out.kw.ki.below.trans hb8⟩
  | stuck=>rw [hpu] at hr;exact hr.elim
  | ok st8 s8 e8=>
   rw [hpu] at hr
   obtain⟨rfl,d8,hK8,hV8,hm8⟩:=hr
   obtain⟨rfl,rfl,-⟩:=pushA_one hpu
   have HR8:=Lib.hid (And.intro (hV8.row HR7.out.1 (HK7.out.ne_box HR7.out.1 (by decide) (by decide) (by decide))) (hV8.row HR7.out.2 (HK7.out.ne_box HR7.out.2 (by decide) (by decide) (by decide))))
   have HK8:=Lib.hid hK8
   have HV8:=Lib.hid (HV7.out.trans hV8)
   have Hpl3:Hid (plA p lo base st=.ok st8 1 0):=by show _=_;rw [Hpl2.out,hpu]
   clear hK8 hV8 HK7 HV7 HR7 hpu
   go_wp2_with (first | refine wpList_load_row rfl 151 (.tmp 12) rfl _ rfl _ _ _ _ HR8.out.2 Tryz.underlying151 rfl (hIbd _ _) ?_ | refine wpList_store_row rfl 151 (.tmp 6) (.tmp 183) rfl _ #[.int .i64 1,.int .i64 0] rfl rfl _ _ HR8.out.1 (hIbd _ _) rfl (hA2 _ _) ?_)
   obtain⟨k1,k2⟩:=two_cellsV (setRow_heap w8 w.heap.size _ #[.int .i64 1,.int .i64 0] _ _ HR8.out.1)
   refine bodyPost_ret (v:=.agg #[.int .i64 1,.int .i64 0]) (by simp [results,Tryz.results112,go_sem,k1,k2]) rfl ?_
   rw [Hpl3.out]
   exact⟨rfl,_,HK8.out.boxG HR8.out.1 (by decide) (by decide) (by decide) (by decide) HW.out.hB (grownBy_setRow3 _ _ _),HV8.out.boxG (Nat.le_refl _) HW.out.hB (grownBy_setRow3 _ _ _),Nat.le_of_eq hm8⟩
theorem plain_truth33(wB:World)(g mb:Nat)(v:WV)(d:WD)(st:St)(w:World)(p:Prg)(P:List Int)(hk:PK wB v p P)(hb:Below wB.heap.size wB w)(h:WK wB.heap.size g mb v w st d)(n:Nat)(hn:p.locs=(n:Int))(hs:StOk n st)(lo base:Nat)(hlo:lo < p.code.length)(hba:base≤1000)(ho:oI p.code lo=33) :
  Calls Tryz.prog 112 #[.pointer (some ⟨g,0,none⟩),.int .i64 (lo:Int),.int .i64 (base:Int)] w (AnaR wB.heap.size g mb v d w 0 (plA p lo base st)):=by
 obtain⟨cb,off,hcA,hcb,hx1,hx2⟩:=hk.ins hb hlo
 obtain⟨e0,e1,e2,-,-,-,-,-,-,-,-⟩:=h.cells
 have hgl:=h.row.lt
 rw [hcA] at e2
 have hcn:=hk.cn
 have hlo2:lo < v.cn:=by omega
 have hlo3:lo≤1024:=by have:=hk.ok.len;omega
 obtain⟨cn,hcn'⟩:∃ c,c=v.cn:=⟨_,rfl⟩
 rw [←hcn'] at e2 hlo2
 rw [ho] at hx1
 have Hb:=Lib.hid hb
 have HW:=Lib.hid h
 have HK:=Lib.hid hk
 have Hlo:=Lib.hid hlo
 have HS:=Lib.hid hs
 have Hn:=Lib.hid hn
 have Harg:=Lib.hid (hk.ok.ins lo hlo)
 have Ho:=Lib.hid ho
 obtain⟨ar,har⟩:∃ a,a=(gI p.code lo).arg:=⟨_,rfl⟩
 rw [←har] at hx2
 have Har:=Lib.hid har
 clear hcn' hcn hlo hb h hk hs hn ho hcA har e0 e1
 obtain⟨w1,hw1,g1,r6,r7,s1⟩:=plain_boxes w 33 ar
 have HW1:=Lib.hid (HW.out.below g1)
 have Hw1:=Lib.hid hw1
 have HR1:=Lib.hid (And.intro r6 (And.intro r7 (And.intro g1 s1)))
 have y7:=(two_cellsV r7).1
 have HE:=Lib.hid (effect_any 33 w1)
 have Hpl:Hid (plA p lo base st=match popA st.stk base (opX 33).pops with
  | .error e=>.bad lo e
  | .ok (rest,l)=>pushA lo { st with stk:=rest } [⟨true,⟨0,0⟩⟩] 0):=by
  show _=_
  unfold plA
  rw [Ho.out]
  try rw [Har.out]
  cases popA st.stk base (opX 33).pops <;> rfl
 clear hw1 r6 r7 g1 s1
 go_enter Tryz.func112,Tryz.ntmps112
 go_wp2_with fail
 rw [←Hw1.out]
 clear hcb hx1 hx2 hgl e2 hlo2
 refine HE.out.mono ?_
 rintro e w2 ⟨rfl,hb2⟩
 have HW2:=Lib.hid (HW1.out.below hb2)
 have HV2:=Lib.hid (KV.of_below (B:=wB.heap.size) (g:=g) (mb:=mb) (d:=d) (HR1.out.2.2.1.trans (hb2.mono HR1.out.2.2.1.size)) HW.out.hB)
 have HPop:=Lib.hid (popW_any wB.heap.size g mb v d st w2 HW2.out lo base (opX 33).pops (by decide) HS.out.len hba)
 have r6:=HR1.out.1.below hb2 HR1.out.1.lt
 have r7:=HR1.out.2.1.below hb2 HR1.out.2.1.lt
 have y7:=(two_cellsV r7).1
 have HR2:=Lib.hid (And.intro r6 r7)
 clear r6 r7 hb2 HE
 go_wp2_with fail
 refine HPop.out.mono ?_
 intro e w3 hr
 clear HPop
 cases hpop:popA st.stk base (opX 33).pops with
 | error x=>
  rw [hpop] at hr
  obtain⟨rfl,hb3⟩:=hr
  refine⟨rfl,?_⟩
  have h1:=Hpl.out
  rw [hpop] at h1
  rw [h1]
  exact⟨rfl,HV2.out.kw.ki.below.trans hb3⟩
 | ok rl=>
  obtain⟨rest,l⟩:=rl
  rw [hpop] at hr
  obtain⟨A3,c3,rfl,hl3,hK3,hV3⟩:=hr
  have HV3:=Lib.hid (HV2.out.trans hV3)
  have r6:=hV3.row HR2.out.1 (HW.out.fresh (Nat.le_refl _))
  have r7:=hV3.row HR2.out.2 (HW.out.fresh (Nat.le_succ _))
  have HR3:=Lib.hid (And.intro r6 r7)
  have HL3:=Lib.hid hl3
  have HK3:=Lib.hid hK3
  have Hpop:=Lib.hid (popA_rest HS.out hpop)
  have Hpl2:Hid (plA p lo base st=pushA lo { st with stk:=rest } [⟨true,⟨0,0⟩⟩] 0):=by show _=_;rw [Hpl.out,hpop]
  obtain⟨w4,hw4⟩:∃ w4,w4=w3.alloc (.cells #[.int .i64 1,.int .i64 0] 151):=⟨_,rfl⟩
  have hb4:Below w3.heap.size w3 w4:=by rw [hw4];exact balloc (Below.refl _ _) _
  have r12:rowV w4 w3.heap.size 151 #[.int .i64 1,.int .i64 0]:=by rw [hw4];exact rowV.new w3 _ _
  have HK4:=Lib.hid (hK3.below hb4)
  have HV4:=Lib.hid (HV3.out.trans (KV.of_below (g:=g) (mb:=mb) (d:={ d with sn:=rest.length }) hb4 hK3.hB))
  have HL4:=Lib.hid (hl3.below hb4)
  have q6:=r6.below hb4 r6.lt
  have q7:=r7.below hb4 r7.lt
  obtain⟨y7,y8⟩:=two_cellsV q7
  have l7:=q7.lt
  have HR4:=Lib.hid (And.intro q6 (And.intro q7 r12))
  have Hw4:=Lib.hid hw4
  have hs3:w.heap.size≤w3.heap.size:=Nat.le_of_lt r6.lt
  have hs3':=r6.lt
  clear hl3 hK3 hV3 r6 r7 hpop Hpl HV2 HR2 HW2 HL3 HK3 HV3 HR3 hw4 hb4 r12 q6 q7
  go_upto_region 5 with fail
  rw [←Hw4.out]
  have hps:(opX 33).pushes=[116]:=by decide
  have hzs:strB [116]=⟨#[116]⟩:=rfl
  rw [hps]
  have hb7:Below w4.heap.size w4 (w4.alloc (.cells #[.bool true,.int .i64 0,.int .i64 0] 242)):=balloc (Below.refl _ _) _
  have HK7:=Lib.hid (HK4.out.below hb7)
  have HV7:=Lib.hid (HV4.out.trans (KV.of_below (g:=g) (mb:=mb) (d:={ d with sn:=rest.length }) hb7 HK4.out.hB))
  have HR7:=Lib.hid (And.intro ((HR4.out.1).below hb7 (HR4.out.1).lt) ((HR4.out.2.2).below hb7 (HR4.out.2.2).lt))
  have HPu:=Lib.hid (pushW_any wB.heap.size g mb v { d with sn:=rest.length } { st with stk:=rest } _ HK7.out lo ⟨w4.heap.size,0,none⟩ 1 1 [⟨true,⟨0,0⟩⟩] (vls_one w4 _) (by decide) Hpop.out.1.len Hpop.out.1.hgt 0)
  clear hb7
  go_wp2_with fail
  refine HPu.out.mono ?_
  intro e w8 hr
  clear HPu
  cases hpu:pushA lo { st with stk:=rest } [⟨true,⟨0,0⟩⟩] 0 with
  | bad a x=>
   rw [hpu] at hr
   obtain⟨rfl,hb8⟩:=hr
   refine⟨rfl,?_⟩
   rw [Hpl2.out,hpu]
   exact⟨rfl,HV7.out.kw.ki.below.trans hb8⟩
  | stuck=>rw [hpu] at hr;exact hr.elim
  | ok st8 s8 e8=>
   rw [hpu] at hr
   obtain⟨rfl,d8,hK8,hV8,hm8⟩:=hr
   obtain⟨rfl,rfl,-⟩:=pushA_one hpu
   have HR8:=Lib.hid (And.intro (hV8.row HR7.out.1 (HK7.out.ne_box HR7.out.1 (by decide) (by decide) (by decide))) (hV8.row HR7.out.2 (HK7.out.ne_box HR7.out.2 (by decide) (by decide) (by decide))))
   have HK8:=Lib.hid hK8
   have HV8:=Lib.hid (HV7.out.trans hV8)
   have Hpl3:Hid (plA p lo base st=.ok st8 1 0):=by show _=_;rw [Hpl2.out,hpu]
   clear hK8 hV8 HK7 HV7 HR7 hpu
   go_wp2_with (first | refine wpList_load_row rfl 151 (.tmp 12) rfl _ rfl _ _ _ _ HR8.out.2 Tryz.underlying151 rfl (hIbd _ _) ?_ | refine wpList_store_row rfl 151 (.tmp 6) (.tmp 183) rfl _ #[.int .i64 1,.int .i64 0] rfl rfl _ _ HR8.out.1 (hIbd _ _) rfl (hA2 _ _) ?_)
   obtain⟨k1,k2⟩:=two_cellsV (setRow_heap w8 w.heap.size _ #[.int .i64 1,.int .i64 0] _ _ HR8.out.1)
   refine bodyPost_ret (v:=.agg #[.int .i64 1,.int .i64 0]) (by simp [results,Tryz.results112,go_sem,k1,k2]) rfl ?_
   rw [Hpl3.out]
   exact⟨rfl,_,HK8.out.boxG HR8.out.1 (by decide) (by decide) (by decide) (by decide) HW.out.hB (grownBy_setRow3 _ _ _),HV8.out.boxG (Nat.le_refl _) HW.out.hB (grownBy_setRow3 _ _ _),Nat.le_of_eq hm8⟩
end Go.Proofs.YtpaplehcafeeaaaGreatDoor
namespace Go.Proofs.YtpaplehcafeeaaaGreatDoor
open Go.RowKit Go.Proofs
variable [Inhabited ArgB]
def gN(l:List Inv)(k:Nat):Inv:=l.getD k ⟨0,0,[]⟩
def Invs(w:World)(A:Option Addr)(n c:Nat)(l:List Inv):Prop:=l.length=n∧n≤c∧(0 < n→∃ b off,A=some ⟨b,off,none⟩∧b < w.heap.size∧∀ i,i < n→w.cell? ⟨b,off+i * 3,none⟩=some (.int .i64 (gN l i).at_)∧w.cell? ⟨b,off+i * 3+1,none⟩=some (.int .i64 (gN l i).most)∧∃ A' c',w.cell? ⟨b,off+i * 3+2,none⟩=some (.slice A' (gN l i).locs.length c')∧Ivs w A' (gN l i).locs.length c' (gN l i).locs)
theorem Invs.below{w w':World}{A:Option Addr}{n c:Nat}{l:List Inv}(h:Invs w A n c l)(hb:Below w.heap.size w w'):Invs w' A n c l:=⟨h.1,h.2.1,fun hn=>by
 obtain⟨b,off,rfl,hlt,hc⟩:=h.2.2 hn
 refine⟨b,off,rfl,Nat.lt_of_lt_of_le hlt hb.size,fun i hi=>?_⟩
 obtain⟨h1,h2,A',c',h3,h4⟩:=hc i hi
 exact⟨(hb.cell (p:=⟨b,off+i * 3,none⟩) hlt).trans h1,(hb.cell (p:=⟨b,off+i * 3+1,none⟩) hlt).trans h2,A',c',(hb.cell (p:=⟨b,off+i * 3+2,none⟩) hlt).trans h3,h4.below hb⟩⟩
theorem Invs.get{w:World}{A:Option Addr}{n c:Nat}{l:List Inv}(h:Invs w A n c l){k:Nat}(hk:k < n):∃ b off,A=some ⟨b,off,none⟩∧b < w.heap.size∧w.cell? ⟨b,off+k * 3,none⟩=some (.int .i64 (gN l k).at_)∧w.cell? ⟨b,off+k * 3+1,none⟩=some (.int .i64 (gN l k).most)∧∃ A' c',w.cell? ⟨b,off+k * 3+2,none⟩=some (.slice A' (gN l k).locs.length c')∧Ivs w A' (gN l k).locs.length c' (gN l k).locs:=by
 obtain⟨b,off,rfl,hlt,hc⟩:=h.2.2 (by omega)
 exact⟨b,off,rfl,hlt,hc k hk⟩
end Go.Proofs.YtpaplehcafeeaaaGreatDoor
