/- Xe Xf Xg Xh. -/
import Derived.Test.YtpaplehcafeeaaaGreatDoorLC27
import Derived.Test.YtpaplehcafeeaaaGreatDoorLC23
import Derived.Deep.RegionHeld3
set_option maxRecDepth 100000
set_option maxHeartbeats 40000000
set_option linter.unusedVariables false
set_option linter.unusedSimpArgs false
set_option linter.unusedSectionVars false
namespace Go.Proofs.YtpaplehcafeeaaaGreatDoor
open Go.RowKit Go.Proofs
variable [Inhabited ArgB]
theorem plain_drop(wB:World)(g mb:Nat)(v:WV)(d:WD)(st:St)(w:World)(p:Prg)(P:List Int)(hk:PK wB v p P)(hb:Below wB.heap.size wB w)(h:WK wB.heap.size g mb v w st d)(n:Nat)(hn:p.locs=(n:Int))(hs:StOk n st)(lo base:Nat)(hlo:lo < p.code.length)(hba:base≤1000)(ho:oI p.code lo=6) :
  Calls Tryz.prog 112 #[.pointer (some ⟨g,0,none⟩),.int .i64 (lo:Int),.int .i64 (base:Int)] w (AnaR wB.heap.size g mb v d w 0 (plA p lo base st)):=by
 obtain⟨cb,off,hcA,hcb,hx1,hx2⟩:=hk.ins hb hlo
 obtain⟨e0,e1,e2,-,-,-,-,-,-,-,-⟩:=h.cells
 have hgl:=h.row.lt
 rw [hcA] at e2
 have hcn:=hk.cn
 have hlo2:lo < v.cn:=by omega
 have hlo3:lo≤1024:=by have:=hk.ok.len;omega
 obtain⟨cn,hcn'⟩:∃ c,c=v.cn:=⟨_,rfl⟩
 rw [←hcn'] at e2 hlo2
 rw [ho] at hx1
 have Hb:=Lib.hid hb
 have HW:=Lib.hid h
 have HK:=Lib.hid hk
 have Hlo:=Lib.hid hlo
 have HS:=Lib.hid hs
 have Hn:=Lib.hid hn
 have Harg:=Lib.hid (hk.ok.ins lo hlo)
 have Ho:=Lib.hid ho
 obtain⟨ar,har⟩:∃ a,a=(gI p.code lo).arg:=⟨_,rfl⟩
 rw [←har] at hx2
 have Har:=Lib.hid har
 clear hcn' hcn hlo hb h hk hs hn ho hcA har e0 e1
 obtain⟨w1,hw1,g1,r6,r7,s1⟩:=plain_boxes w 6 ar
 have HW1:=Lib.hid (HW.out.below g1)
 have Hw1:=Lib.hid hw1
 have HR1:=Lib.hid (And.intro r6 (And.intro r7 (And.intro g1 s1)))
 have y7:=(two_cellsV r7).1
 have HE:=Lib.hid (effect_any 6 w1)
 have Hpl:Hid (plA p lo base st=match popA st.stk base (opX 6).pops with
  | .error e=>.bad lo e
  | .ok (rest,l)=>.ok { st with stk:=rest } 1 0):=by
  show _=_
  unfold plA
  rw [Ho.out]
  try rw [Har.out]
  cases popA st.stk base (opX 6).pops <;> rfl
 clear hw1 r6 r7 g1 s1
 go_enter Tryz.func112,Tryz.ntmps112
 go_wp2_with fail
 rw [←Hw1.out]
 clear hcb hx1 hx2 hgl e2 hlo2
 refine HE.out.mono ?_
 rintro e w2 ⟨rfl,hb2⟩
 have HW2:=Lib.hid (HW1.out.below hb2)
 have HV2:=Lib.hid (KV.of_below (B:=wB.heap.size) (g:=g) (mb:=mb) (d:=d) (HR1.out.2.2.1.trans (hb2.mono HR1.out.2.2.1.size)) HW.out.hB)
 have HPop:=Lib.hid (popW_any wB.heap.size g mb v d st w2 HW2.out lo base (opX 6).pops (by decide) HS.out.len hba)
 have r6:=HR1.out.1.below hb2 HR1.out.1.lt
 have r7:=HR1.out.2.1.below hb2 HR1.out.2.1.lt
 have y7:=(two_cellsV r7).1
 have HR2:=Lib.hid (And.intro r6 r7)
 clear r6 r7 hb2 HE
 go_wp2_with fail
 refine HPop.out.mono ?_
 intro e w3 hr
 clear HPop
 cases hpop:popA st.stk base (opX 6).pops with
 | error x=>
  rw [hpop] at hr
  obtain⟨rfl,hb3⟩:=hr
  refine⟨rfl,?_⟩
  have h1:=Hpl.out
  rw [hpop] at h1
  rw [h1]
  exact⟨rfl,HV2.out.kw.ki.below.trans hb3⟩
 | ok rl=>
  obtain⟨rest,l⟩:=rl
  rw [hpop] at hr
  obtain⟨A3,c3,rfl,hl3,hK3,hV3⟩:=hr
  have HV3:=Lib.hid (HV2.out.trans hV3)
  have r6:=hV3.row HR2.out.1 (HW.out.fresh (Nat.le_refl _))
  have r7:=hV3.row HR2.out.2 (HW.out.fresh (Nat.le_succ _))
  have HR3:=Lib.hid (And.intro r6 r7)
  have HL3:=Lib.hid hl3
  have HK3:=Lib.hid hK3
  have Hpop:=Lib.hid (popA_rest HS.out hpop)
  have Hpl2:Hid (plA p lo base st=.ok { st with stk:=rest } 1 0):=by show _=_;rw [Hpl.out,hpop]
  obtain⟨w4,hw4⟩:∃ w4,w4=w3.alloc (.cells #[.int .i64 1,.int .i64 0] 151):=⟨_,rfl⟩
  have hb4:Below w3.heap.size w3 w4:=by rw [hw4];exact balloc (Below.refl _ _) _
  have r12:rowV w4 w3.heap.size 151 #[.int .i64 1,.int .i64 0]:=by rw [hw4];exact rowV.new w3 _ _
  have HK4:=Lib.hid (hK3.below hb4)
  have HV4:=Lib.hid (HV3.out.trans (KV.of_below (g:=g) (mb:=mb) (d:={ d with sn:=rest.length }) hb4 hK3.hB))
  have HL4:=Lib.hid (hl3.below hb4)
  have q6:=r6.below hb4 r6.lt
  have q7:=r7.below hb4 r7.lt
  obtain⟨y7,y8⟩:=two_cellsV q7
  have l7:=q7.lt
  have HR4:=Lib.hid (And.intro q6 (And.intro q7 r12))
  have Hw4:=Lib.hid hw4
  have hs3:w.heap.size≤w3.heap.size:=Nat.le_of_lt r6.lt
  have hs3':=r6.lt
  clear hl3 hK3 hV3 r6 r7 hpop Hpl HV2 HR2 HW2 HL3 HK3 HV3 HR3 hw4 hb4 r12 q6 q7
  go_upto_region 5 with fail
  rw [←Hw4.out]
  go_wp2_with (first | refine wpList_load_row rfl 151 (.tmp 12) rfl _ rfl _ _ _ _ HR4.out.2.2 Tryz.underlying151 rfl (hIbd _ _) ?_ | refine wpList_store_row rfl 151 (.tmp 6) (.tmp 183) rfl _ #[.int .i64 1,.int .i64 0] rfl rfl _ _ HR4.out.1 (hIbd _ _) rfl (hA2 _ _) ?_)
  obtain⟨k1,k2⟩:=two_cellsV (setRow_heap w4 w.heap.size _ #[.int .i64 1,.int .i64 0] _ _ HR4.out.1)
  refine bodyPost_ret (v:=.agg #[.int .i64 1,.int .i64 0]) (by simp [results,Tryz.results112,go_sem,k1,k2]) rfl ?_
  rw [Hpl2.out]
  exact⟨rfl,_,HK4.out.boxG HR4.out.1 (by decide) (by decide) (by decide) (by decide) HW.out.hB (grownBy_setRow3 _ _ _),HV4.out.boxG (Nat.le_refl _) HW.out.hB (grownBy_setRow3 _ _ _),Nat.le_refl _⟩
theorem plain_context(wB:World)(g mb:Nat)(v:WV)(d:WD)(st:St)(w:World)(p:Prg)(P:List Int)(hk:PK wB v p P)(hb:Below wB.heap.size wB w)(h:WK wB.heap.size g mb v w st d)(n:Nat)(hn:p.locs=(n:Int))(hs:StOk n st)(lo base:Nat)(hlo:lo < p.code.length)(hba:base≤1000)(ho:oI p.code lo=35) :
  Calls Tryz.prog 112 #[.pointer (some ⟨g,0,none⟩),.int .i64 (lo:Int),.int .i64 (base:Int)] w (AnaR wB.heap.size g mb v d w 0 (plA p lo base st)):=by
 obtain⟨cb,off,hcA,hcb,hx1,hx2⟩:=hk.ins hb hlo
 obtain⟨e0,e1,e2,-,-,-,-,-,-,-,-⟩:=h.cells
 have hgl:=h.row.lt
 rw [hcA] at e2
 have hcn:=hk.cn
 have hlo2:lo < v.cn:=by omega
 have hlo3:lo≤1024:=by have:=hk.ok.len;omega
 obtain⟨cn,hcn'⟩:∃ c,c=v.cn:=⟨_,rfl⟩
 rw [←hcn'] at e2 hlo2
 rw [ho] at hx1
 have Hb:=Lib.hid hb
 have HW:=Lib.hid h
 have HK:=Lib.hid hk
 have Hlo:=Lib.hid hlo
 have HS:=Lib.hid hs
 have Hn:=Lib.hid hn
 have Harg:=Lib.hid (hk.ok.ins lo hlo)
 have Ho:=Lib.hid ho
 obtain⟨ar,har⟩:∃ a,a=(gI p.code lo).arg:=⟨_,rfl⟩
 rw [←har] at hx2
 have Har:=Lib.hid har
 clear hcn' hcn hlo hb h hk hs hn ho hcA har e0 e1
 obtain⟨w1,hw1,g1,r6,r7,s1⟩:=plain_boxes w 35 ar
 have HW1:=Lib.hid (HW.out.below g1)
 have Hw1:=Lib.hid hw1
 have HR1:=Lib.hid (And.intro r6 (And.intro r7 (And.intro g1 s1)))
 have y7:=(two_cellsV r7).1
 have HE:=Lib.hid (effect_any 35 w1)
 have Hpl:Hid (plA p lo base st=match popA st.stk base (opX 35).pops with
  | .error e=>.bad lo e
  | .ok (rest,l)=>.ok { st with stk:=rest } 1 0):=by
  show _=_
  unfold plA
  rw [Ho.out]
  try rw [Har.out]
  cases popA st.stk base (opX 35).pops <;> rfl
 clear hw1 r6 r7 g1 s1
 go_enter Tryz.func112,Tryz.ntmps112
 go_wp2_with fail
 rw [←Hw1.out]
 clear hcb hx1 hx2 hgl e2 hlo2
 refine HE.out.mono ?_
 rintro e w2 ⟨rfl,hb2⟩
 have HW2:=Lib.hid (HW1.out.below hb2)
 have HV2:=Lib.hid (KV.of_below (B:=wB.heap.size) (g:=g) (mb:=mb) (d:=d) (HR1.out.2.2.1.trans (hb2.mono HR1.out.2.2.1.size)) HW.out.hB)
 have HPop:=Lib.hid (popW_any wB.heap.size g mb v d st w2 HW2.out lo base (opX 35).pops (by decide) HS.out.len hba)
 have r6:=HR1.out.1.below hb2 HR1.out.1.lt
 have r7:=HR1.out.2.1.below hb2 HR1.out.2.1.lt
 have y7:=(two_cellsV r7).1
 have HR2:=Lib.hid (And.intro r6 r7)
 clear r6 r7 hb2 HE
 go_wp2_with fail
 refine HPop.out.mono ?_
 intro e w3 hr
 clear HPop
 cases hpop:popA st.stk base (opX 35).pops with
 | error x=>
  rw [hpop] at hr
  obtain⟨rfl,hb3⟩:=hr
  refine⟨rfl,?_⟩
  have h1:=Hpl.out
  rw [hpop] at h1
  rw [h1]
  exact⟨rfl,HV2.out.kw.ki.below.trans hb3⟩
 | ok rl=>
  obtain⟨rest,l⟩:=rl
  rw [hpop] at hr
  obtain⟨A3,c3,rfl,hl3,hK3,hV3⟩:=hr
  have HV3:=Lib.hid (HV2.out.trans hV3)
  have r6:=hV3.row HR2.out.1 (HW.out.fresh (Nat.le_refl _))
  have r7:=hV3.row HR2.out.2 (HW.out.fresh (Nat.le_succ _))
  have HR3:=Lib.hid (And.intro r6 r7)
  have HL3:=Lib.hid hl3
  have HK3:=Lib.hid hK3
  have Hpop:=Lib.hid (popA_rest HS.out hpop)
  have Hpl2:Hid (plA p lo base st=.ok { st with stk:=rest } 1 0):=by show _=_;rw [Hpl.out,hpop]
  obtain⟨w4,hw4⟩:∃ w4,w4=w3.alloc (.cells #[.int .i64 1,.int .i64 0] 151):=⟨_,rfl⟩
  have hb4:Below w3.heap.size w3 w4:=by rw [hw4];exact balloc (Below.refl _ _) _
  have r12:rowV w4 w3.heap.size 151 #[.int .i64 1,.int .i64 0]:=by rw [hw4];exact rowV.new w3 _ _
  have HK4:=Lib.hid (hK3.below hb4)
  have HV4:=Lib.hid (HV3.out.trans (KV.of_below (g:=g) (mb:=mb) (d:={ d with sn:=rest.length }) hb4 hK3.hB))
  have HL4:=Lib.hid (hl3.below hb4)
  have q6:=r6.below hb4 r6.lt
  have q7:=r7.below hb4 r7.lt
  obtain⟨y7,y8⟩:=two_cellsV q7
  have l7:=q7.lt
  have HR4:=Lib.hid (And.intro q6 (And.intro q7 r12))
  have Hw4:=Lib.hid hw4
  have hs3:w.heap.size≤w3.heap.size:=Nat.le_of_lt r6.lt
  have hs3':=r6.lt
  clear hl3 hK3 hV3 r6 r7 hpop Hpl HV2 HR2 HW2 HL3 HK3 HV3 HR3 hw4 hb4 r12 q6 q7
  go_upto_region 5 with fail
  rw [←Hw4.out]
  go_wp2_with (first | refine wpList_load_row rfl 151 (.tmp 12) rfl _ rfl _ _ _ _ HR4.out.2.2 Tryz.underlying151 rfl (hIbd _ _) ?_ | refine wpList_store_row rfl 151 (.tmp 6) (.tmp 183) rfl _ #[.int .i64 1,.int .i64 0] rfl rfl _ _ HR4.out.1 (hIbd _ _) rfl (hA2 _ _) ?_)
  obtain⟨k1,k2⟩:=two_cellsV (setRow_heap w4 w.heap.size _ #[.int .i64 1,.int .i64 0] _ _ HR4.out.1)
  refine bodyPost_ret (v:=.agg #[.int .i64 1,.int .i64 0]) (by simp [results,Tryz.results112,go_sem,k1,k2]) rfl ?_
  rw [Hpl2.out]
  exact⟨rfl,_,HK4.out.boxG HR4.out.1 (by decide) (by decide) (by decide) (by decide) HW.out.hB (grownBy_setRow3 _ _ _),HV4.out.boxG (Nat.le_refl _) HW.out.hB (grownBy_setRow3 _ _ _),Nat.le_refl _⟩
end Go.Proofs.YtpaplehcafeeaaaGreatDoor
namespace Go.Proofs.YtpaplehcafeeaaaGreatDoor
open Go.RowKit Go.Proofs
variable [Inhabited ArgB]
theorem plain_emit(wB:World)(g mb:Nat)(v:WV)(d:WD)(st:St)(w:World)(p:Prg)(P:List Int)(hk:PK wB v p P)(hb:Below wB.heap.size wB w)(h:WK wB.heap.size g mb v w st d)(n:Nat)(hn:p.locs=(n:Int))(hs:StOk n st)(lo base:Nat)(hlo:lo < p.code.length)(hba:base≤1000)(ho:oI p.code lo=34) :
  Calls Tryz.prog 112 #[.pointer (some ⟨g,0,none⟩),.int .i64 (lo:Int),.int .i64 (base:Int)] w (AnaR wB.heap.size g mb v d w 0 (plA p lo base st)):=by
 obtain⟨cb,off,hcA,hcb,hx1,hx2⟩:=hk.ins hb hlo
 obtain⟨e0,e1,e2,-,-,-,-,-,-,-,-⟩:=h.cells
 have hgl:=h.row.lt
 rw [hcA] at e2
 have hcn:=hk.cn
 have hlo2:lo < v.cn:=by omega
 have hlo3:lo≤1024:=by have:=hk.ok.len;omega
 obtain⟨cn,hcn'⟩:∃ c,c=v.cn:=⟨_,rfl⟩
 rw [←hcn'] at e2 hlo2
 rw [ho] at hx1
 have Hb:=Lib.hid hb
 have HW:=Lib.hid h
 have HK:=Lib.hid hk
 have Hlo:=Lib.hid hlo
 have HS:=Lib.hid hs
 have Hn:=Lib.hid hn
 have Harg:=Lib.hid (hk.ok.ins lo hlo)
 have Ho:=Lib.hid ho
 obtain⟨ar,har⟩:∃ a,a=(gI p.code lo).arg:=⟨_,rfl⟩
 rw [←har] at hx2
 have Har:=Lib.hid har
 clear hcn' hcn hlo hb h hk hs hn ho hcA har e0 e1
 obtain⟨w1,hw1,g1,r6,r7,s1⟩:=plain_boxes w 34 ar
 have HW1:=Lib.hid (HW.out.below g1)
 have Hw1:=Lib.hid hw1
 have HR1:=Lib.hid (And.intro r6 (And.intro r7 (And.intro g1 s1)))
 have y7:=(two_cellsV r7).1
 have HE:=Lib.hid (effect_any 34 w1)
 have Hpl:Hid (plA p lo base st=match popA st.stk base (opX 34).pops with
  | .error e=>.bad lo e
  | .ok (rest,l)=>.ok { st with stk:=rest } 1 1):=by
  show _=_
  unfold plA
  rw [Ho.out]
  try rw [Har.out]
  cases popA st.stk base (opX 34).pops <;> rfl
 clear hw1 r6 r7 g1 s1
 go_enter Tryz.func112,Tryz.ntmps112
 go_wp2_with fail
 rw [←Hw1.out]
 clear hcb hx1 hx2 hgl e2 hlo2
 refine HE.out.mono ?_
 rintro e w2 ⟨rfl,hb2⟩
 have HW2:=Lib.hid (HW1.out.below hb2)
 have HV2:=Lib.hid (KV.of_below (B:=wB.heap.size) (g:=g) (mb:=mb) (d:=d) (HR1.out.2.2.1.trans (hb2.mono HR1.out.2.2.1.size)) HW.out.hB)
 have HPop:=Lib.hid (popW_any wB.heap.size g mb v d st w2 HW2.out lo base (opX 34).pops (by decide) HS.out.len hba)
 have r6:=HR1.out.1.below hb2 HR1.out.1.lt
 have r7:=HR1.out.2.1.below hb2 HR1.out.2.1.lt
 have y7:=(two_cellsV r7).1
 have HR2:=Lib.hid (And.intro r6 r7)
 clear r6 r7 hb2 HE
 go_wp2_with fail
 refine HPop.out.mono ?_
 intro e w3 hr
 clear HPop
 cases hpop:popA st.stk base (opX 34).pops with
 | error x=>
  rw [hpop] at hr
  obtain⟨rfl,hb3⟩:=hr
  refine⟨rfl,?_⟩
  have h1:=Hpl.out
  rw [hpop] at h1
  rw [h1]
  exact⟨rfl,HV2.out.kw.ki.below.trans hb3⟩
 | ok rl=>
  obtain⟨rest,l⟩:=rl
  rw [hpop] at hr
  obtain⟨A3,c3,rfl,hl3,hK3,hV3⟩:=hr
  have HV3:=Lib.hid (HV2.out.trans hV3)
  have r6:=hV3.row HR2.out.1 (HW.out.fresh (Nat.le_refl _))
  have r7:=hV3.row HR2.out.2 (HW.out.fresh (Nat.le_succ _))
  have HR3:=Lib.hid (And.intro r6 r7)
  have HL3:=Lib.hid hl3
  have HK3:=Lib.hid hK3
  have Hpop:=Lib.hid (popA_rest HS.out hpop)
  have Hpl2:Hid (plA p lo base st=.ok { st with stk:=rest } 1 1):=by show _=_;rw [Hpl.out,hpop]
  obtain⟨w4,hw4⟩:∃ w4,w4=w3.alloc (.cells #[.int .i64 1,.int .i64 0] 151):=⟨_,rfl⟩
  have hb4:Below w3.heap.size w3 w4:=by rw [hw4];exact balloc (Below.refl _ _) _
  have r12:rowV w4 w3.heap.size 151 #[.int .i64 1,.int .i64 0]:=by rw [hw4];exact rowV.new w3 _ _
  have HK4:=Lib.hid (hK3.below hb4)
  have HV4:=Lib.hid (HV3.out.trans (KV.of_below (g:=g) (mb:=mb) (d:={ d with sn:=rest.length }) hb4 hK3.hB))
  have HL4:=Lib.hid (hl3.below hb4)
  have q6:=r6.below hb4 r6.lt
  have q7:=r7.below hb4 r7.lt
  obtain⟨y7,y8⟩:=two_cellsV q7
  have l7:=q7.lt
  have HR4:=Lib.hid (And.intro q6 (And.intro q7 r12))
  have Hw4:=Lib.hid hw4
  have hs3:w.heap.size≤w3.heap.size:=Nat.le_of_lt r6.lt
  have hs3':=r6.lt
  clear hl3 hK3 hV3 r6 r7 hpop Hpl HV2 HR2 HW2 HL3 HK3 HV3 HR3 hw4 hb4 r12 q6 q7
  go_upto_region 5 with fail
  rw [←Hw4.out]
  have x12:=(two_cellsV HR4.out.2.2).2
  have f12:=frozen_rowV' HR4.out.2.2 1
  have g5:w4.grownBy (w4.setCell ⟨w3.heap.size,1,none⟩ (.int .i64 1)) (some w3.heap.size):=grownBy.setCell' (World.grownBy.refl _ _) _
  have hsB:wB.heap.size≤w3.heap.size:=Nat.le_trans HW.out.hB hs3
  have HK5:=Lib.hid (HK4.out.boxG HR4.out.2.2 (by decide) (by decide) (by decide) (by decide) hsB g5)
  have HV5:=Lib.hid (HV4.out.boxG hs3 HW.out.hB g5)
  have hne:w.heap.size≠w3.heap.size:=Nat.ne_of_lt hs3'
  have HR5:=Lib.hid (And.intro (HR4.out.1.setFar (p:=⟨w3.heap.size,1,none⟩) hne (.int .i64 1)) (show rowV (w4.setCell ⟨w3.heap.size,1,none⟩ (.int .i64 1)) w3.heap.size 151 #[.int .i64 1,.int .i64 1] from HR4.out.2.2.set 1 (.int .i64 1)))
  clear g5
  go_wp2_with (first | refine wpList_load_row rfl 151 (.tmp 12) rfl _ rfl _ _ _ _ HR5.out.2 Tryz.underlying151 rfl (hIbd _ _) ?_ | refine wpList_store_row rfl 151 (.tmp 6) (.tmp 183) rfl _ #[.int .i64 1,.int .i64 1] rfl rfl _ _ HR5.out.1 (hIbd _ _) rfl (hA2 _ _) ?_)
  obtain⟨k1,k2⟩:=two_cellsV (setRow_heap (w4.setCell ⟨w3.heap.size,1,none⟩ (.int .i64 1)) w.heap.size _ #[.int .i64 1,.int .i64 1] _ _ HR5.out.1)
  refine bodyPost_ret (v:=.agg #[.int .i64 1,.int .i64 1]) (by simp [results,Tryz.results112,go_sem,k1,k2]) rfl ?_
  rw [Hpl2.out]
  exact⟨rfl,_,HK5.out.boxG HR5.out.1 (by decide) (by decide) (by decide) (by decide) HW.out.hB (grownBy_setRow3 _ _ _),HV5.out.boxG (Nat.le_refl _) HW.out.hB (grownBy_setRow3 _ _ _),Nat.le_refl _⟩
theorem push_two(lo:Nat)(st:St)(l:List Vl)(e:Int):(∃ a x,pushA lo st l e=.bad a x)∨(∃ st8 s8 e8,pushA lo st l e=.ok st8 s8 e8):=by
 unfold pushA
 split
 ·exact .inl ⟨_,_,rfl⟩
 ·exact .inr ⟨_,_,_,rfl⟩
theorem vls_one(w:World)(x:Vl):VlsAt (w.alloc (.cells #[.bool x.tr,.int .i64 x.iv.lo,.int .i64 x.iv.hi] 242)) (some ⟨w.heap.size,0,none⟩) 1 [x]:=by
 obtain⟨h1,h2,h3⟩:=three_cellsV (rowV.new w 242 #[.bool x.tr,.int .i64 x.iv.lo,.int .i64 x.iv.hi])
 refine⟨rfl,fun _=>⟨w.heap.size,0,rfl,by simp,fun i hi=>?_⟩⟩
 obtain rfl:i=0:=by omega
 exact⟨h1,h2,h3⟩
theorem vls_two(w:World)(x y:Vl):VlsAt (w.alloc (.cells #[.bool x.tr,.int .i64 x.iv.lo,.int .i64 x.iv.hi,.bool y.tr,.int .i64 y.iv.lo,.int .i64 y.iv.hi] 242)) (some ⟨w.heap.size,0,none⟩) 2 [x,y]:=by
 have r:=rowV.new w 242 #[.bool x.tr,.int .i64 x.iv.lo,.int .i64 x.iv.hi,.bool y.tr,.int .i64 y.iv.lo,.int .i64 y.iv.hi]
 refine⟨rfl,fun _=>⟨w.heap.size,0,rfl,by simp,fun i hi=>?_⟩⟩
 have h:i=0∨i=1:=by omega
 rcases h with rfl | rfl
 ·exact⟨cell_rowV r rfl,cell_rowV r rfl,cell_rowV r rfl⟩
 ·exact⟨cell_rowV r rfl,cell_rowV r rfl,cell_rowV r rfl⟩
theorem plain_input(wB:World)(g mb:Nat)(v:WV)(d:WD)(st:St)(w:World)(p:Prg)(P:List Int)(hk:PK wB v p P)(hb:Below wB.heap.size wB w)(h:WK wB.heap.size g mb v w st d)(n:Nat)(hn:p.locs=(n:Int))(hs:StOk n st)(lo base:Nat)(hlo:lo < p.code.length)(hba:base≤1000)(ho:oI p.code lo=32) :
  Calls Tryz.prog 112 #[.pointer (some ⟨g,0,none⟩),.int .i64 (lo:Int),.int .i64 (base:Int)] w (AnaR wB.heap.size g mb v d w 0 (plA p lo base st)):=by
 obtain⟨cb,off,hcA,hcb,hx1,hx2⟩:=hk.ins hb hlo
 obtain⟨e0,e1,e2,-,-,-,-,-,-,-,-⟩:=h.cells
 have hgl:=h.row.lt
 rw [hcA] at e2
 have hcn:=hk.cn
 have hlo2:lo < v.cn:=by omega
 have hlo3:lo≤1024:=by have:=hk.ok.len;omega
 obtain⟨cn,hcn'⟩:∃ c,c=v.cn:=⟨_,rfl⟩
 rw [←hcn'] at e2 hlo2
 rw [ho] at hx1
 have Hb:=Lib.hid hb
 have HW:=Lib.hid h
 have HK:=Lib.hid hk
 have Hlo:=Lib.hid hlo
 have HS:=Lib.hid hs
 have Hn:=Lib.hid hn
 have Harg:=Lib.hid (hk.ok.ins lo hlo)
 have Ho:=Lib.hid ho
 obtain⟨ar,har⟩:∃ a,a=(gI p.code lo).arg:=⟨_,rfl⟩
 rw [←har] at hx2
 have Har:=Lib.hid har
 clear hcn' hcn hlo hb h hk hs hn ho hcA har e0 e1
 obtain⟨w1,hw1,g1,r6,r7,s1⟩:=plain_boxes w 32 ar
 have HW1:=Lib.hid (HW.out.below g1)
 have Hw1:=Lib.hid hw1
 have HR1:=Lib.hid (And.intro r6 (And.intro r7 (And.intro g1 s1)))
 have y7:=(two_cellsV r7).1
 have HE:=Lib.hid (effect_any 32 w1)
 have Hpl:Hid (plA p lo base st=match popA st.stk base (opX 32).pops with
  | .error e=>.bad lo e
  | .ok (rest,l)=>pushA lo { st with stk:=rest } [numV ivFull] 0):=by
  show _=_
  unfold plA
  rw [Ho.out]
  try rw [Har.out]
  cases popA st.stk base (opX 32).pops <;> rfl
 clear hw1 r6 r7 g1 s1
 go_enter Tryz.func112,Tryz.ntmps112
 go_wp2_with fail
 rw [←Hw1.out]
 clear hcb hx1 hx2 hgl e2 hlo2
 refine HE.out.mono ?_
 rintro e w2 ⟨rfl,hb2⟩
 have HW2:=Lib.hid (HW1.out.below hb2)
 have HV2:=Lib.hid (KV.of_below (B:=wB.heap.size) (g:=g) (mb:=mb) (d:=d) (HR1.out.2.2.1.trans (hb2.mono HR1.out.2.2.1.size)) HW.out.hB)
 have HPop:=Lib.hid (popW_any wB.heap.size g mb v d st w2 HW2.out lo base (opX 32).pops (by decide) HS.out.len hba)
 have r6:=HR1.out.1.below hb2 HR1.out.1.lt
 have r7:=HR1.out.2.1.below hb2 HR1.out.2.1.lt
 have y7:=(two_cellsV r7).1
 have HR2:=Lib.hid (And.intro r6 r7)
 clear r6 r7 hb2 HE
 go_wp2_with fail
 refine HPop.out.mono ?_
 intro e w3 hr
 clear HPop
 cases hpop:popA st.stk base (opX 32).pops with
 | error x=>
  rw [hpop] at hr
  obtain⟨rfl,hb3⟩:=hr
  refine⟨rfl,?_⟩
  have h1:=Hpl.out
  rw [hpop] at h1
  rw [h1]
  exact⟨rfl,HV2.out.kw.ki.below.trans hb3⟩
 | ok rl=>
  obtain⟨rest,l⟩:=rl
  rw [hpop] at hr
  obtain⟨A3,c3,rfl,hl3,hK3,hV3⟩:=hr
  have HV3:=Lib.hid (HV2.out.trans hV3)
  have r6:=hV3.row HR2.out.1 (HW.out.fresh (Nat.le_refl _))
  have r7:=hV3.row HR2.out.2 (HW.out.fresh (Nat.le_succ _))
  have HR3:=Lib.hid (And.intro r6 r7)
  have HL3:=Lib.hid hl3
  have HK3:=Lib.hid hK3
  have Hpop:=Lib.hid (popA_rest HS.out hpop)
  have Hpl2:Hid (plA p lo base st=pushA lo { st with stk:=rest } [numV ivFull] 0):=by show _=_;rw [Hpl.out,hpop]
  obtain⟨w4,hw4⟩:∃ w4,w4=w3.alloc (.cells #[.int .i64 1,.int .i64 0] 151):=⟨_,rfl⟩
  have hb4:Below w3.heap.size w3 w4:=by rw [hw4];exact balloc (Below.refl _ _) _
  have r12:rowV w4 w3.heap.size 151 #[.int .i64 1,.int .i64 0]:=by rw [hw4];exact rowV.new w3 _ _
  have HK4:=Lib.hid (hK3.below hb4)
  have HV4:=Lib.hid (HV3.out.trans (KV.of_below (g:=g) (mb:=mb) (d:={ d with sn:=rest.length }) hb4 hK3.hB))
  have HL4:=Lib.hid (hl3.below hb4)
  have q6:=r6.below hb4 r6.lt
  have q7:=r7.below hb4 r7.lt
  obtain⟨y7,y8⟩:=two_cellsV q7
  have l7:=q7.lt
  have HR4:=Lib.hid (And.intro q6 (And.intro q7 r12))
  have Hw4:=Lib.hid hw4
  have hs3:w.heap.size≤w3.heap.size:=Nat.le_of_lt r6.lt
  have hs3':=r6.lt
  clear hl3 hK3 hV3 r6 r7 hpop Hpl HV2 HR2 HW2 HL3 HK3 HV3 HR3 hw4 hb4 r12 q6 q7
  go_upto_region 5 with fail
  rw [←Hw4.out]
  have HX5:=Lib.hid (full_any w4)
  go_wp2_with fail
  refine HX5.out.mono ?_
  rintro e w5 ⟨rfl,hb5⟩
  have HK5:=Lib.hid (HK4.out.below hb5)
  have HV5:=Lib.hid (HV4.out.trans (KV.of_below (g:=g) (mb:=mb) (d:={ d with sn:=rest.length }) hb5 HK4.out.hB))
  have HR5:=Lib.hid (And.intro ((HR4.out.1).below hb5 (HR4.out.1).lt) ((HR4.out.2.2).below hb5 (HR4.out.2.2).lt))
  clear hb5 HX5
  have HX6:=Lib.hid (numeric_any 0 4294967295 w5)
  go_wp2_with fail
  refine HX6.out.mono ?_
  rintro e w6 ⟨rfl,hb6⟩
  have HK6:=Lib.hid (HK5.out.below hb6)
  have HV6:=Lib.hid (HV5.out.trans (KV.of_below (g:=g) (mb:=mb) (d:={ d with sn:=rest.length }) hb6 HK5.out.hB))
  have HR6:=Lib.hid (And.intro ((HR5.out.1).below hb6 (HR5.out.1).lt) ((HR5.out.2).below hb6 (HR5.out.2).lt))
  clear hb6 HX6
  have hb7:Below w6.heap.size w6 (w6.alloc (.cells #[.bool false,.int .i64 0,.int .i64 4294967295] 242)):=balloc (Below.refl _ _) _
  have HK7:=Lib.hid (HK6.out.below hb7)
  have HV7:=Lib.hid (HV6.out.trans (KV.of_below (g:=g) (mb:=mb) (d:={ d with sn:=rest.length }) hb7 HK6.out.hB))
  have HR7:=Lib.hid (And.intro ((HR6.out.1).below hb7 (HR6.out.1).lt) ((HR6.out.2).below hb7 (HR6.out.2).lt))
  have HPu:=Lib.hid (pushW_any wB.heap.size g mb v { d with sn:=rest.length } { st with stk:=rest } _ HK7.out lo ⟨w6.heap.size,0,none⟩ 1 1 [numV ivFull] (vls_one w6 _) (by decide) Hpop.out.1.len Hpop.out.1.hgt 0)
  clear hb7
  go_wp2_with fail
  refine HPu.out.mono ?_
  intro e w8 hr
  clear HPu
  cases hpu:pushA lo { st with stk:=rest } [numV ivFull] 0 with
  | bad a x=>
   rw [hpu] at hr
   obtain⟨rfl,hb8⟩:=hr
   refine⟨rfl,?_⟩
   rw [Hpl2.out,hpu]
   exact⟨rfl,HV7.out.kw.ki.below.trans hb8⟩
  | stuck=>rw [hpu] at hr;exact hr.elim
  | ok st8 s8 e8=>
   rw [hpu] at hr
   obtain⟨rfl,d8,hK8,hV8,hm8⟩:=hr
   obtain⟨rfl,rfl,-⟩:=pushA_one hpu
   have HR8:=Lib.hid (And.intro (hV8.row HR7.out.1 (HK7.out.ne_box HR7.out.1 (by decide) (by decide) (by decide))) (hV8.row HR7.out.2 (HK7.out.ne_box HR7.out.2 (by decide) (by decide) (by decide))))
   have HK8:=Lib.hid hK8
   have HV8:=Lib.hid (HV7.out.trans hV8)
   have Hpl3:Hid (plA p lo base st=.ok st8 1 0):=by show _=_;rw [Hpl2.out,hpu]
   clear hK8 hV8 HK7 HV7 HR7 hpu
   go_wp2_with (first | refine wpList_load_row rfl 151 (.tmp 12) rfl _ rfl _ _ _ _ HR8.out.2 Tryz.underlying151 rfl (hIbd _ _) ?_ | refine wpList_store_row rfl 151 (.tmp 6) (.tmp 183) rfl _ #[.int .i64 1,.int .i64 0] rfl rfl _ _ HR8.out.1 (hIbd _ _) rfl (hA2 _ _) ?_)
   obtain⟨k1,k2⟩:=two_cellsV (setRow_heap w8 w.heap.size _ #[.int .i64 1,.int .i64 0] _ _ HR8.out.1)
   refine bodyPost_ret (v:=.agg #[.int .i64 1,.int .i64 0]) (by simp [results,Tryz.results112,go_sem,k1,k2]) rfl ?_
   rw [Hpl3.out]
   exact⟨rfl,_,HK8.out.boxG HR8.out.1 (by decide) (by decide) (by decide) (by decide) HW.out.hB (grownBy_setRow3 _ _ _),HV8.out.boxG (Nat.le_refl _) HW.out.hB (grownBy_setRow3 _ _ _),Nat.le_of_eq hm8⟩
theorem plain_int(wB:World)(g mb:Nat)(v:WV)(d:WD)(st:St)(w:World)(p:Prg)(P:List Int)(hk:PK wB v p P)(hb:Below wB.heap.size wB w)(h:WK wB.heap.size g mb v w st d)(n:Nat)(hn:p.locs=(n:Int))(hs:StOk n st)(lo base:Nat)(hlo:lo < p.code.length)(hba:base≤1000)(ho:oI p.code lo=26) :
  Calls Tryz.prog 112 #[.pointer (some ⟨g,0,none⟩),.int .i64 (lo:Int),.int .i64 (base:Int)] w (AnaR wB.heap.size g mb v d w 0 (plA p lo base st)):=by
 obtain⟨cb,off,hcA,hcb,hx1,hx2⟩:=hk.ins hb hlo
 obtain⟨e0,e1,e2,-,-,-,-,-,-,-,-⟩:=h.cells
 have hgl:=h.row.lt
 rw [hcA] at e2
 have hcn:=hk.cn
 have hlo2:lo < v.cn:=by omega
 have hlo3:lo≤1024:=by have:=hk.ok.len;omega
 obtain⟨cn,hcn'⟩:∃ c,c=v.cn:=⟨_,rfl⟩
 rw [←hcn'] at e2 hlo2
 rw [ho] at hx1
 have Hb:=Lib.hid hb
 have HW:=Lib.hid h
 have HK:=Lib.hid hk
 have Hlo:=Lib.hid hlo
 have HS:=Lib.hid hs
 have Hn:=Lib.hid hn
 have Harg:=Lib.hid (hk.ok.ins lo hlo)
 have Ho:=Lib.hid ho
 obtain⟨ar,har⟩:∃ a,a=(gI p.code lo).arg:=⟨_,rfl⟩
 rw [←har] at hx2
 have Har:=Lib.hid har
 clear hcn' hcn hlo hb h hk hs hn ho hcA har e0 e1
 obtain⟨w1,hw1,g1,r6,r7,s1⟩:=plain_boxes w 26 ar
 have HW1:=Lib.hid (HW.out.below g1)
 have Hw1:=Lib.hid hw1
 have HR1:=Lib.hid (And.intro r6 (And.intro r7 (And.intro g1 s1)))
 have y7:=(two_cellsV r7).1
 have HE:=Lib.hid (effect_any 26 w1)
 have Hpl:Hid (plA p lo base st=match popA st.stk base (opX 26).pops with
  | .error e=>.bad lo e
  | .ok (rest,l)=>pushA lo { st with stk:=rest } [numV ⟨0,1⟩] 0):=by
  show _=_
  unfold plA
  rw [Ho.out]
  try rw [Har.out]
  cases popA st.stk base (opX 26).pops <;> rfl
 clear hw1 r6 r7 g1 s1
 go_enter Tryz.func112,Tryz.ntmps112
 go_wp2_with fail
 rw [←Hw1.out]
 clear hcb hx1 hx2 hgl e2 hlo2
 refine HE.out.mono ?_
 rintro e w2 ⟨rfl,hb2⟩
 have HW2:=Lib.hid (HW1.out.below hb2)
 have HV2:=Lib.hid (KV.of_below (B:=wB.heap.size) (g:=g) (mb:=mb) (d:=d) (HR1.out.2.2.1.trans (hb2.mono HR1.out.2.2.1.size)) HW.out.hB)
 have HPop:=Lib.hid (popW_any wB.heap.size g mb v d st w2 HW2.out lo base (opX 26).pops (by decide) HS.out.len hba)
 have r6:=HR1.out.1.below hb2 HR1.out.1.lt
 have r7:=HR1.out.2.1.below hb2 HR1.out.2.1.lt
 have y7:=(two_cellsV r7).1
 have HR2:=Lib.hid (And.intro r6 r7)
 clear r6 r7 hb2 HE
 go_wp2_with fail
 refine HPop.out.mono ?_
 intro e w3 hr
 clear HPop
 cases hpop:popA st.stk base (opX 26).pops with
 | error x=>
  rw [hpop] at hr
  obtain⟨rfl,hb3⟩:=hr
  refine⟨rfl,?_⟩
  have h1:=Hpl.out
  rw [hpop] at h1
  rw [h1]
  exact⟨rfl,HV2.out.kw.ki.below.trans hb3⟩
 | ok rl=>
  obtain⟨rest,l⟩:=rl
  rw [hpop] at hr
  obtain⟨A3,c3,rfl,hl3,hK3,hV3⟩:=hr
  have HV3:=Lib.hid (HV2.out.trans hV3)
  have r6:=hV3.row HR2.out.1 (HW.out.fresh (Nat.le_refl _))
  have r7:=hV3.row HR2.out.2 (HW.out.fresh (Nat.le_succ _))
  have HR3:=Lib.hid (And.intro r6 r7)
  have HL3:=Lib.hid hl3
  have HK3:=Lib.hid hK3
  have Hpop:=Lib.hid (popA_rest HS.out hpop)
  have Hpl2:Hid (plA p lo base st=pushA lo { st with stk:=rest } [numV ⟨0,1⟩] 0):=by show _=_;rw [Hpl.out,hpop]
  obtain⟨w4,hw4⟩:∃ w4,w4=w3.alloc (.cells #[.int .i64 1,.int .i64 0] 151):=⟨_,rfl⟩
  have hb4:Below w3.heap.size w3 w4:=by rw [hw4];exact balloc (Below.refl _ _) _
  have r12:rowV w4 w3.heap.size 151 #[.int .i64 1,.int .i64 0]:=by rw [hw4];exact rowV.new w3 _ _
  have HK4:=Lib.hid (hK3.below hb4)
  have HV4:=Lib.hid (HV3.out.trans (KV.of_below (g:=g) (mb:=mb) (d:={ d with sn:=rest.length }) hb4 hK3.hB))
  have HL4:=Lib.hid (hl3.below hb4)
  have q6:=r6.below hb4 r6.lt
  have q7:=r7.below hb4 r7.lt
  obtain⟨y7,y8⟩:=two_cellsV q7
  have l7:=q7.lt
  have HR4:=Lib.hid (And.intro q6 (And.intro q7 r12))
  have Hw4:=Lib.hid hw4
  have hs3:w.heap.size≤w3.heap.size:=Nat.le_of_lt r6.lt
  have hs3':=r6.lt
  clear hl3 hK3 hV3 r6 r7 hpop Hpl HV2 HR2 HW2 HL3 HK3 HV3 HR3 hw4 hb4 r12 q6 q7
  go_upto_region 5 with fail
  rw [←Hw4.out]
  have HX6:=Lib.hid (numeric_any 0 1 w4)
  go_wp2_with fail
  refine HX6.out.mono ?_
  rintro e w6 ⟨rfl,hb6⟩
  have HK6:=Lib.hid (HK4.out.below hb6)
  have HV6:=Lib.hid (HV4.out.trans (KV.of_below (g:=g) (mb:=mb) (d:={ d with sn:=rest.length }) hb6 HK4.out.hB))
  have HR6:=Lib.hid (And.intro ((HR4.out.1).below hb6 (HR4.out.1).lt) ((HR4.out.2.2).below hb6 (HR4.out.2.2).lt))
  clear hb6 HX6
  have hb7:Below w6.heap.size w6 (w6.alloc (.cells #[.bool false,.int .i64 0,.int .i64 1] 242)):=balloc (Below.refl _ _) _
  have HK7:=Lib.hid (HK6.out.below hb7)
  have HV7:=Lib.hid (HV6.out.trans (KV.of_below (g:=g) (mb:=mb) (d:={ d with sn:=rest.length }) hb7 HK6.out.hB))
  have HR7:=Lib.hid (And.intro ((HR6.out.1).below hb7 (HR6.out.1).lt) ((HR6.out.2).below hb7 (HR6.out.2).lt))
  have HPu:=Lib.hid (pushW_any wB.heap.size g mb v { d with sn:=rest.length } { st with stk:=rest } _ HK7.out lo ⟨w6.heap.size,0,none⟩ 1 1 [numV ⟨0,1⟩] (vls_one w6 _) (by decide) Hpop.out.1.len Hpop.out.1.hgt 0)
  clear hb7
  go_wp2_with fail
  refine HPu.out.mono ?_
  intro e w8 hr
  clear HPu
  cases hpu:pushA lo { st with stk:=rest } [numV ⟨0,1⟩] 0 with
  | bad a x=>
   rw [hpu] at hr
   obtain⟨rfl,hb8⟩:=hr
   refine⟨rfl,?_⟩
   rw [Hpl2.out,hpu]
   exact⟨rfl,HV7.out.kw.ki.below.trans hb8⟩
  | stuck=>rw [hpu] at hr;exact hr.elim
  | ok st8 s8 e8=>
   rw [hpu] at hr
   obtain⟨rfl,d8,hK8,hV8,hm8⟩:=hr
   obtain⟨rfl,rfl,-⟩:=pushA_one hpu
   have HR8:=Lib.hid (And.intro (hV8.row HR7.out.1 (HK7.out.ne_box HR7.out.1 (by decide) (by decide) (by decide))) (hV8.row HR7.out.2 (HK7.out.ne_box HR7.out.2 (by decide) (by decide) (by decide))))
   have HK8:=Lib.hid hK8
   have HV8:=Lib.hid (HV7.out.trans hV8)
   have Hpl3:Hid (plA p lo base st=.ok st8 1 0):=by show _=_;rw [Hpl2.out,hpu]
   clear hK8 hV8 HK7 HV7 HR7 hpu
   go_wp2_with (first | refine wpList_load_row rfl 151 (.tmp 12) rfl _ rfl _ _ _ _ HR8.out.2 Tryz.underlying151 rfl (hIbd _ _) ?_ | refine wpList_store_row rfl 151 (.tmp 6) (.tmp 183) rfl _ #[.int .i64 1,.int .i64 0] rfl rfl _ _ HR8.out.1 (hIbd _ _) rfl (hA2 _ _) ?_)
   obtain⟨k1,k2⟩:=two_cellsV (setRow_heap w8 w.heap.size _ #[.int .i64 1,.int .i64 0] _ _ HR8.out.1)
   refine bodyPost_ret (v:=.agg #[.int .i64 1,.int .i64 0]) (by simp [results,Tryz.results112,go_sem,k1,k2]) rfl ?_
   rw [Hpl3.out]
   exact⟨rfl,_,HK8.out.boxG HR8.out.1 (by decide) (by decide) (by decide) (by decide) HW.out.hB (grownBy_setRow3 _ _ _),HV8.out.boxG (Nat.le_refl _) HW.out.hB (grownBy_setRow3 _ _ _),Nat.le_of_eq hm8⟩
end Go.Proofs.YtpaplehcafeeaaaGreatDoor
namespace Go.Proofs.YtpaplehcafeeaaaGreatDoor
open Go.RowKit Go.Proofs
variable [Inhabited ArgB]
theorem plain_push(wB:World)(g mb:Nat)(v:WV)(d:WD)(st:St)(w:World)(p:Prg)(P:List Int)(hk:PK wB v p P)(hb:Below wB.heap.size wB w)(h:WK wB.heap.size g mb v w st d)(n:Nat)(hn:p.locs=(n:Int))(hs:StOk n st)(lo base:Nat)(hlo:lo < p.code.length)(hba:base≤1000)(ho:oI p.code lo=0) :
  Calls Tryz.prog 112 #[.pointer (some ⟨g,0,none⟩),.int .i64 (lo:Int),.int .i64 (base:Int)] w (AnaR wB.heap.size g mb v d w 0 (plA p lo base st)):=by
 obtain⟨cb,off,hcA,hcb,hx1,hx2⟩:=hk.ins hb hlo
 obtain⟨e0,e1,e2,-,-,-,-,-,-,-,-⟩:=h.cells
 have hgl:=h.row.lt
 rw [hcA] at e2
 have hcn:=hk.cn
 have hlo2:lo < v.cn:=by omega
 have hlo3:lo≤1024:=by have:=hk.ok.len;omega
 obtain⟨cn,hcn'⟩:∃ c,c=v.cn:=⟨_,rfl⟩
 rw [←hcn'] at e2 hlo2
 rw [ho] at hx1
 have Hb:=Lib.hid hb
 have HW:=Lib.hid h
 have HK:=Lib.hid hk
 have Hlo:=Lib.hid hlo
 have HS:=Lib.hid hs
 have Hn:=Lib.hid hn
 have Harg:=Lib.hid (hk.ok.ins lo hlo)
 have Ho:=Lib.hid ho
 obtain⟨ar,har⟩:∃ a,a=(gI p.code lo).arg:=⟨_,rfl⟩
 rw [←har] at hx2
 have Har:=Lib.hid har
 clear hcn' hcn hlo hb h hk hs hn ho hcA har e0 e1
 obtain⟨w1,hw1,g1,r6,r7,s1⟩:=plain_boxes w 0 ar
 have HW1:=Lib.hid (HW.out.below g1)
 have Hw1:=Lib.hid hw1
 have HR1:=Lib.hid (And.intro r6 (And.intro r7 (And.intro g1 s1)))
 have y7:=(two_cellsV r7).1
 have HE:=Lib.hid (effect_any 0 w1)
 have Hpl:Hid (plA p lo base st=match popA st.stk base (opX 0).pops with
  | .error e=>.bad lo e
  | .ok (rest,l)=>pushA lo { st with stk:=rest } [numV ⟨ar,ar⟩] 0):=by
  show _=_
  unfold plA
  rw [Ho.out]
  try rw [Har.out]
  cases popA st.stk base (opX 0).pops <;> rfl
 clear hw1 r6 r7 g1 s1
 go_enter Tryz.func112,Tryz.ntmps112
 go_wp2_with fail
 rw [←Hw1.out]
 clear hcb hx1 hx2 hgl e2 hlo2
 refine HE.out.mono ?_
 rintro e w2 ⟨rfl,hb2⟩
 have HW2:=Lib.hid (HW1.out.below hb2)
 have HV2:=Lib.hid (KV.of_below (B:=wB.heap.size) (g:=g) (mb:=mb) (d:=d) (HR1.out.2.2.1.trans (hb2.mono HR1.out.2.2.1.size)) HW.out.hB)
 have HPop:=Lib.hid (popW_any wB.heap.size g mb v d st w2 HW2.out lo base (opX 0).pops (by decide) HS.out.len hba)
 have r6:=HR1.out.1.below hb2 HR1.out.1.lt
 have r7:=HR1.out.2.1.below hb2 HR1.out.2.1.lt
 have y7:=(two_cellsV r7).1
 have HR2:=Lib.hid (And.intro r6 r7)
 clear r6 r7 hb2 HE
 go_wp2_with fail
 refine HPop.out.mono ?_
 intro e w3 hr
 clear HPop
 cases hpop:popA st.stk base (opX 0).pops with
 | error x=>
  rw [hpop] at hr
  obtain⟨rfl,hb3⟩:=hr
  refine⟨rfl,?_⟩
  have h1:=Hpl.out
  rw [hpop] at h1
  rw [h1]
  exact⟨rfl,HV2.out.kw.ki.below.trans hb3⟩
 | ok rl=>
  obtain⟨rest,l⟩:=rl
  rw [hpop] at hr
  obtain⟨A3,c3,rfl,hl3,hK3,hV3⟩:=hr
  have HV3:=Lib.hid (HV2.out.trans hV3)
  have r6:=hV3.row HR2.out.1 (HW.out.fresh (Nat.le_refl _))
  have r7:=hV3.row HR2.out.2 (HW.out.fresh (Nat.le_succ _))
  have HR3:=Lib.hid (And.intro r6 r7)
  have HL3:=Lib.hid hl3
  have HK3:=Lib.hid hK3
  have Hpop:=Lib.hid (popA_rest HS.out hpop)
  have Hpl2:Hid (plA p lo base st=pushA lo { st with stk:=rest } [numV ⟨ar,ar⟩] 0):=by show _=_;rw [Hpl.out,hpop]
  obtain⟨w4,hw4⟩:∃ w4,w4=w3.alloc (.cells #[.int .i64 1,.int .i64 0] 151):=⟨_,rfl⟩
  have hb4:Below w3.heap.size w3 w4:=by rw [hw4];exact balloc (Below.refl _ _) _
  have r12:rowV w4 w3.heap.size 151 #[.int .i64 1,.int .i64 0]:=by rw [hw4];exact rowV.new w3 _ _
  have HK4:=Lib.hid (hK3.below hb4)
  have HV4:=Lib.hid (HV3.out.trans (KV.of_below (g:=g) (mb:=mb) (d:={ d with sn:=rest.length }) hb4 hK3.hB))
  have HL4:=Lib.hid (hl3.below hb4)
  have q6:=r6.below hb4 r6.lt
  have q7:=r7.below hb4 r7.lt
  obtain⟨y7,y8⟩:=two_cellsV q7
  have l7:=q7.lt
  have HR4:=Lib.hid (And.intro q6 (And.intro q7 r12))
  have Hw4:=Lib.hid hw4
  have hs3:w.heap.size≤w3.heap.size:=Nat.le_of_lt r6.lt
  have hs3':=r6.lt
  clear hl3 hK3 hV3 r6 r7 hpop Hpl HV2 HR2 HW2 HL3 HK3 HV3 HR3 hw4 hb4 r12 q6 q7
  go_upto_region 5 with fail
  rw [←Hw4.out]
  obtain⟨an,han⟩:∃ an:Nat,ar=(an:Int):=⟨ar.toNat,by have h1:=Harg.out;have h2:=Har.out;omega⟩
  have han2:an < 4294967296:=by have h1:=Harg.out;have h2:=Har.out;omega
  subst han
  have HX5:=Lib.hid (exact_any an han2 w4)
  go_wp2_with fail
  refine HX5.out.mono ?_
  rintro e w5 ⟨rfl,hb5⟩
  have HK5:=Lib.hid (HK4.out.below hb5)
  have HV5:=Lib.hid (HV4.out.trans (KV.of_below (g:=g) (mb:=mb) (d:={ d with sn:=rest.length }) hb5 HK4.out.hB))
  have HR5:=Lib.hid (And.intro ((HR4.out.1).below hb5 (HR4.out.1).lt) ((HR4.out.2.2).below hb5 (HR4.out.2.2).lt))
  clear hb5 HX5
  have HX6:=Lib.hid (numeric_any (an:Int) (an:Int) w5)
  go_wp2_with fail
  refine HX6.out.mono ?_
  rintro e w6 ⟨rfl,hb6⟩
  have HK6:=Lib.hid (HK5.out.below hb6)
  have HV6:=Lib.hid (HV5.out.trans (KV.of_below (g:=g) (mb:=mb) (d:={ d with sn:=rest.length }) hb6 HK5.out.hB))
  have HR6:=Lib.hid (And.intro ((HR5.out.1).below hb6 (HR5.out.1).lt) ((HR5.out.2).below hb6 (HR5.out.2).lt))
  clear hb6 HX6
  have hb7:Below w6.heap.size w6 (w6.alloc (.cells #[.bool false,.int .i64 (an:Int),.int .i64 (an:Int)] 242)):=balloc (Below.refl _ _) _
  have HK7:=Lib.hid (HK6.out.below hb7)
  have HV7:=Lib.hid (HV6.out.trans (KV.of_below (g:=g) (mb:=mb) (d:={ d with sn:=rest.length }) hb7 HK6.out.hB))
  have HR7:=Lib.hid (And.intro ((HR6.out.1).below hb7 (HR6.out.1).lt) ((HR6.out.2).below hb7 (HR6.out.2).lt))
  have HPu:=Lib.hid (pushW_any wB.heap.size g mb v { d with sn:=rest.length } { st with stk:=rest } _ HK7.out lo ⟨w6.heap.size,0,none⟩ 1 1 [numV ⟨(an:Int),(an:Int)⟩] (vls_one w6 _) (by decide) Hpop.out.1.len Hpop.out.1.hgt 0)
  clear hb7
  go_wp2_with fail
  refine HPu.out.mono ?_
  intro e w8 hr
  clear HPu
  cases hpu:pushA lo { st with stk:=rest } [numV ⟨(an:Int),(an:Int)⟩] 0 with
  | bad a x=>
   rw [hpu] at hr
   obtain⟨rfl,hb8⟩:=hr
   refine⟨rfl,?_⟩
   rw [Hpl2.out,hpu]
   exact⟨rfl,HV7.out.kw.ki.below.trans hb8⟩
  | stuck=>rw [hpu] at hr;exact hr.elim
  | ok st8 s8 e8=>
   rw [hpu] at hr
   obtain⟨rfl,d8,hK8,hV8,hm8⟩:=hr
   obtain⟨rfl,rfl,-⟩:=pushA_one hpu
   have HR8:=Lib.hid (And.intro (hV8.row HR7.out.1 (HK7.out.ne_box HR7.out.1 (by decide) (by decide) (by decide))) (hV8.row HR7.out.2 (HK7.out.ne_box HR7.out.2 (by decide) (by decide) (by decide))))
   have HK8:=Lib.hid hK8
   have HV8:=Lib.hid (HV7.out.trans hV8)
   have Hpl3:Hid (plA p lo base st=.ok st8 1 0):=by show _=_;rw [Hpl2.out,hpu]
   clear hK8 hV8 HK7 HV7 HR7 hpu
   go_wp2_with (first | refine wpList_load_row rfl 151 (.tmp 12) rfl _ rfl _ _ _ _ HR8.out.2 Tryz.underlying151 rfl (hIbd _ _) ?_ | refine wpList_store_row rfl 151 (.tmp 6) (.tmp 183) rfl _ #[.int .i64 1,.int .i64 0] rfl rfl _ _ HR8.out.1 (hIbd _ _) rfl (hA2 _ _) ?_)
   obtain⟨k1,k2⟩:=two_cellsV (setRow_heap w8 w.heap.size _ #[.int .i64 1,.int .i64 0] _ _ HR8.out.1)
   refine bodyPost_ret (v:=.agg #[.int .i64 1,.int .i64 0]) (by simp [results,Tryz.results112,go_sem,k1,k2]) rfl ?_
   rw [Hpl3.out]
   exact⟨rfl,_,HK8.out.boxG HR8.out.1 (by decide) (by decide) (by decide) (by decide) HW.out.hB (grownBy_setRow3 _ _ _),HV8.out.boxG (Nat.le_refl _) HW.out.hB (grownBy_setRow3 _ _ _),Nat.le_of_eq hm8⟩
theorem plain_load(wB:World)(g mb:Nat)(v:WV)(d:WD)(st:St)(w:World)(p:Prg)(P:List Int)(hk:PK wB v p P)(hb:Below wB.heap.size wB w)(h:WK wB.heap.size g mb v w st d)(n:Nat)(hn:p.locs=(n:Int))(hs:StOk n st)(lo base:Nat)(hlo:lo < p.code.length)(hba:base≤1000)(ho:oI p.code lo=1) :
  Calls Tryz.prog 112 #[.pointer (some ⟨g,0,none⟩),.int .i64 (lo:Int),.int .i64 (base:Int)] w (AnaR wB.heap.size g mb v d w 0 (plA p lo base st)):=by
 obtain⟨cb,off,hcA,hcb,hx1,hx2⟩:=hk.ins hb hlo
 obtain⟨e0,e1,e2,-,-,-,-,-,-,-,-⟩:=h.cells
 have hgl:=h.row.lt
 rw [hcA] at e2
 have hcn:=hk.cn
 have hlo2:lo < v.cn:=by omega
 have hlo3:lo≤1024:=by have:=hk.ok.len;omega
 obtain⟨cn,hcn'⟩:∃ c,c=v.cn:=⟨_,rfl⟩
 rw [←hcn'] at e2 hlo2
 rw [ho] at hx1
 have Hb:=Lib.hid hb
 have HW:=Lib.hid h
 have HK:=Lib.hid hk
 have Hlo:=Lib.hid hlo
 have HS:=Lib.hid hs
 have Hn:=Lib.hid hn
 have Harg:=Lib.hid (hk.ok.ins lo hlo)
 have Ho:=Lib.hid ho
 obtain⟨ar,har⟩:∃ a,a=(gI p.code lo).arg:=⟨_,rfl⟩
 rw [←har] at hx2
 have Har:=Lib.hid har
 clear hcn' hcn hlo hb h hk hs hn ho hcA har e0 e1
 obtain⟨w1,hw1,g1,r6,r7,s1⟩:=plain_boxes w 1 ar
 have HW1:=Lib.hid (HW.out.below g1)
 have Hw1:=Lib.hid hw1
 have HR1:=Lib.hid (And.intro r6 (And.intro r7 (And.intro g1 s1)))
 have y7:=(two_cellsV r7).1
 have HE:=Lib.hid (effect_any 1 w1)
 have Hpl:Hid (plA p lo base st=match popA st.stk base (opX 1).pops with
  | .error e=>.bad lo e
  | .ok (rest,l)=>pushA lo { st with stk:=rest } [numV (gL st.locs ar.toNat)] 0):=by
  show _=_
  unfold plA
  rw [Ho.out]
  try rw [Har.out]
  cases popA st.stk base (opX 1).pops <;> rfl
 clear hw1 r6 r7 g1 s1
 go_enter Tryz.func112,Tryz.ntmps112
 go_wp2_with fail
 rw [←Hw1.out]
 clear hcb hx1 hx2 hgl e2 hlo2
 refine HE.out.mono ?_
 rintro e w2 ⟨rfl,hb2⟩
 have HW2:=Lib.hid (HW1.out.below hb2)
 have HV2:=Lib.hid (KV.of_below (B:=wB.heap.size) (g:=g) (mb:=mb) (d:=d) (HR1.out.2.2.1.trans (hb2.mono HR1.out.2.2.1.size)) HW.out.hB)
 have HPop:=Lib.hid (popW_any wB.heap.size g mb v d st w2 HW2.out lo base (opX 1).pops (by decide) HS.out.len hba)
 have r6:=HR1.out.1.below hb2 HR1.out.1.lt
 have r7:=HR1.out.2.1.below hb2 HR1.out.2.1.lt
 have y7:=(two_cellsV r7).1
 have HR2:=Lib.hid (And.intro r6 r7)
 clear r6 r7 hb2 HE
 go_wp2_with fail
 refine HPop.out.mono ?_
 intro e w3 hr
 clear HPop
 cases hpop:popA st.stk base (opX 1).pops with
 | error x=>
  rw [hpop] at hr
  obtain⟨rfl,hb3⟩:=hr
  refine⟨rfl,?_⟩
  have h1:=Hpl.out
  rw [hpop] at h1
  rw [h1]
  exact⟨rfl,HV2.out.kw.ki.below.trans hb3⟩
 | ok rl=>
  obtain⟨rest,l⟩:=rl
  rw [hpop] at hr
  obtain⟨A3,c3,rfl,hl3,hK3,hV3⟩:=hr
  have HV3:=Lib.hid (HV2.out.trans hV3)
  have r6:=hV3.row HR2.out.1 (HW.out.fresh (Nat.le_refl _))
  have r7:=hV3.row HR2.out.2 (HW.out.fresh (Nat.le_succ _))
  have HR3:=Lib.hid (And.intro r6 r7)
  have HL3:=Lib.hid hl3
  have HK3:=Lib.hid hK3
  have Hpop:=Lib.hid (popA_rest HS.out hpop)
  have Hpl2:Hid (plA p lo base st=pushA lo { st with stk:=rest } [numV (gL st.locs ar.toNat)] 0):=by show _=_;rw [Hpl.out,hpop]
  obtain⟨w4,hw4⟩:∃ w4,w4=w3.alloc (.cells #[.int .i64 1,.int .i64 0] 151):=⟨_,rfl⟩
  have hb4:Below w3.heap.size w3 w4:=by rw [hw4];exact balloc (Below.refl _ _) _
  have r12:rowV w4 w3.heap.size 151 #[.int .i64 1,.int .i64 0]:=by rw [hw4];exact rowV.new w3 _ _
  have HK4:=Lib.hid (hK3.below hb4)
  have HV4:=Lib.hid (HV3.out.trans (KV.of_below (g:=g) (mb:=mb) (d:={ d with sn:=rest.length }) hb4 hK3.hB))
  have HL4:=Lib.hid (hl3.below hb4)
  have q6:=r6.below hb4 r6.lt
  have q7:=r7.below hb4 r7.lt
  obtain⟨y7,y8⟩:=two_cellsV q7
  have l7:=q7.lt
  have HR4:=Lib.hid (And.intro q6 (And.intro q7 r12))
  have Hw4:=Lib.hid hw4
  have hs3:w.heap.size≤w3.heap.size:=Nat.le_of_lt r6.lt
  have hs3':=r6.lt
  clear hl3 hK3 hV3 r6 r7 hpop Hpl HV2 HR2 HW2 HL3 HK3 HV3 HR3 hw4 hb4 r12 q6 q7
  go_upto_region 5 with fail
  rw [←Hw4.out]
  have harg:0≤ar∧ar < (n:Int):=by have h1:=Harg.out;have h2:=Har.out;have h3:=HK.out.ok.loc lo Hlo.out (.inl Ho.out);have h4:=Hn.out;omega
  obtain⟨an,han⟩:∃ an:Nat,ar=(an:Int):=⟨ar.toNat,by omega⟩
  subst han
  have han:an < n:=by omega
  have hn16:n≤16:=by have h1:=HK.out.ok.locs;have h4:=Hn.out;omega
  obtain⟨-,-,-,-,-,-,e6,-,-,-,-⟩:=HK4.out.cells
  simp only [] at e6
  have hln:d.ln=n:=(HW.out.ln).trans HS.out.locs.1
  rw [hln] at e6
  obtain⟨lb,loff,hlA,hlb,hlc⟩:=HK4.out.locs.1.2.2 (by show 0 < d.ln;omega)
  have hlA:d.lA=_:=hlA
  rw [hlA] at e6
  have z0:w4.cell? ⟨lb,loff+an * 2,none⟩=some (.int .i64 (gL st.locs an).lo):=(hlc an (by show an < d.ln;omega)).1
  have z1:w4.cell? ⟨lb,loff+an * 2+1,none⟩=some (.int .i64 (gL st.locs an).hi):=(hlc an (by show an < d.ln;omega)).2
  clear hlc hlA hln harg
  obtain⟨⟨xl,xh⟩,hx⟩:∃ x,x=gL st.locs an:=⟨_,rfl⟩
  rw [←hx] at z0 z1
  simp only [] at z0 z1
  have Hpl2:Hid (plA p lo base st=pushA lo { st with stk:=rest } [numV ⟨xl,xh⟩] 0):=by show _=_;rw [Hpl2.out,Int.toNat_natCast,←hx]
  clear hx
  go_upto_region 14 with fail
  have HXn:=Lib.hid (numeric_any xl xh w4.drew)
  go_region_with (first | (go_at_call 147;refine HXn.out.mono ?_;rintro e w6 ⟨rfl,hb6⟩;have hK6:=(HK4.out.drewN 1).below hb6;have hV6:=(HV4.out.drewN 1).trans (KV.of_below (g:=g) (mb:=mb) (d:={ d with sn:=rest.length }) hb6 (HK4.out.drewN 1).hB);have hR6:=And.intro (((show rowV w4.drew _ _ _ from HR4.out.1)).below hb6 ((show rowV w4.drew _ _ _ from HR4.out.1)).lt) (((show rowV w4.drew _ _ _ from HR4.out.2.2)).below hb6 ((show rowV w4.drew _ _ _ from HR4.out.2.2)).lt);have HK6:=Lib.hid hK6;have HV6:=Lib.hid hV6;have HR6:=Lib.hid hR6;clear hb6 hK6 hV6 hR6;have hb7:Below w6.heap.size w6 (w6.alloc (.cells #[.bool false,.int .i64 xl,.int .i64 xh] 242)):=balloc (Below.refl _ _) _;have HK7:=Lib.hid (HK6.out.below hb7);have HV7:=Lib.hid (HV6.out.trans (KV.of_below (g:=g) (mb:=mb) (d:={ d with sn:=rest.length }) hb7 HK6.out.hB));have HR7:=Lib.hid (And.intro ((HR6.out.1).below hb7 (HR6.out.1).lt) ((HR6.out.2).below hb7 (HR6.out.2).lt));have HPu:=Lib.hid (pushW_any wB.heap.size g mb v { d with sn:=rest.length } { st with stk:=rest } _ HK7.out lo ⟨w6.heap.size,0,none⟩ 1 1 [numV ⟨xl,xh⟩] (vls_one w6 _) (by decide) Hpop.out.1.len Hpop.out.1.hgt 0);clear hb7) | (go_at_call 146;refine HPu.out.mono ?_;intro e w8 hr;rcases push_two lo { st with stk:=rest } [numV ⟨xl,xh⟩] 0 with ⟨a,x,hpu⟩ | ⟨st8,s8,e8,hpu⟩;(focus (rw [hpu] at hr;obtain⟨rfl,hb8⟩:=hr;refine⟨rfl,?_⟩;rw [Hpl2.out,hpu];exact⟨rfl,HV7.out.kw.ki.below.trans hb8⟩));rw [hpu] at hr;obtain⟨rfl,d8,hK8,hV8,hm8⟩:=hr;obtain⟨rfl,rfl,-⟩:=pushA_one hpu;have Hpu:=Lib.hid hpu;clear hpu))
  all_goals
   have HR8:=Lib.hid (And.intro (hV8.row HR7.out.1 (HK7.out.ne_box HR7.out.1 (by decide) (by decide) (by decide))) (hV8.row HR7.out.2 (HK7.out.ne_box HR7.out.2 (by decide) (by decide) (by decide))))
   have HK8:=Lib.hid hK8
   have HV8:=Lib.hid (HV7.out.trans hV8)
   have Hpl3:Hid (plA p lo base st=.ok st8 1 0):=by show _=_;rw [Hpl2.out,Hpu.out]
   clear hK8 hV8 HK7 HV7 HR7 Hpu
   go_wp2_with (first | refine wpList_load_row rfl 151 (.tmp 12) rfl _ rfl _ _ _ _ HR8.out.2 Tryz.underlying151 rfl (hIbd _ _) ?_ | refine wpList_store_row rfl 151 (.tmp 6) (.tmp 183) rfl _ #[.int .i64 1,.int .i64 0] rfl rfl _ _ HR8.out.1 (hIbd _ _) rfl (hA2 _ _) ?_)
   obtain⟨k1,k2⟩:=two_cellsV (setRow_heap w8 w.heap.size _ #[.int .i64 1,.int .i64 0] _ _ HR8.out.1)
   refine bodyPost_ret (v:=.agg #[.int .i64 1,.int .i64 0]) (by simp [results,Tryz.results112,go_sem,k1,k2]) rfl ?_
   rw [Hpl3.out]
   exact⟨rfl,_,HK8.out.boxG HR8.out.1 (by decide) (by decide) (by decide) (by decide) HW.out.hB (grownBy_setRow3 _ _ _),HV8.out.boxG (Nat.le_refl _) HW.out.hB (grownBy_setRow3 _ _ _),Nat.le_of_eq hm8⟩
end Go.Proofs.YtpaplehcafeeaaaGreatDoor
namespace Go.Proofs.YtpaplehcafeeaaaGreatDoor
open Go.RowKit Go.Proofs
variable [Inhabited ArgB]
theorem plain_dup(wB:World)(g mb:Nat)(v:WV)(d:WD)(st:St)(w:World)(p:Prg)(P:List Int)(hk:PK wB v p P)(hb:Below wB.heap.size wB w)(h:WK wB.heap.size g mb v w st d)(n:Nat)(hn:p.locs=(n:Int))(hs:StOk n st)(lo base:Nat)(hlo:lo < p.code.length)(hba:base≤1000)(ho:oI p.code lo=5) :
  Calls Tryz.prog 112 #[.pointer (some ⟨g,0,none⟩),.int .i64 (lo:Int),.int .i64 (base:Int)] w (AnaR wB.heap.size g mb v d w 0 (plA p lo base st)):=by
 obtain⟨cb,off,hcA,hcb,hx1,hx2⟩:=hk.ins hb hlo
 obtain⟨e0,e1,e2,-,-,-,-,-,-,-,-⟩:=h.cells
 have hgl:=h.row.lt
 rw [hcA] at e2
 have hcn:=hk.cn
 have hlo2:lo < v.cn:=by omega
 have hlo3:lo≤1024:=by have:=hk.ok.len;omega
 obtain⟨cn,hcn'⟩:∃ c,c=v.cn:=⟨_,rfl⟩
 rw [←hcn'] at e2 hlo2
 rw [ho] at hx1
 have Hb:=Lib.hid hb
 have HW:=Lib.hid h
 have HK:=Lib.hid hk
 have Hlo:=Lib.hid hlo
 have HS:=Lib.hid hs
 have Hn:=Lib.hid hn
 have Harg:=Lib.hid (hk.ok.ins lo hlo)
 have Ho:=Lib.hid ho
 obtain⟨ar,har⟩:∃ a,a=(gI p.code lo).arg:=⟨_,rfl⟩
 rw [←har] at hx2
 have Har:=Lib.hid har
 clear hcn' hcn hlo hb h hk hs hn ho hcA har e0 e1
 obtain⟨w1,hw1,g1,r6,r7,s1⟩:=plain_boxes w 5 ar
 have HW1:=Lib.hid (HW.out.below g1)
 have Hw1:=Lib.hid hw1
 have HR1:=Lib.hid (And.intro r6 (And.intro r7 (And.intro g1 s1)))
 have y7:=(two_cellsV r7).1
 have HE:=Lib.hid (effect_any 5 w1)
 have Hpl:Hid (plA p lo base st=match popA st.stk base (opX 5).pops with
  | .error e=>.bad lo e
  | .ok (rest,l)=>pushA lo { st with stk:=rest } [gV l 0,gV l 0] 0):=by
  show _=_
  unfold plA
  rw [Ho.out]
  try rw [Har.out]
  cases popA st.stk base (opX 5).pops <;> rfl
 clear hw1 r6 r7 g1 s1
 go_enter Tryz.func112,Tryz.ntmps112
 go_wp2_with fail
 rw [←Hw1.out]
 clear hcb hx1 hx2 hgl e2 hlo2
 refine HE.out.mono ?_
 rintro e w2 ⟨rfl,hb2⟩
 have HW2:=Lib.hid (HW1.out.below hb2)
 have HV2:=Lib.hid (KV.of_below (B:=wB.heap.size) (g:=g) (mb:=mb) (d:=d) (HR1.out.2.2.1.trans (hb2.mono HR1.out.2.2.1.size)) HW.out.hB)
 have HPop:=Lib.hid (popW_any wB.heap.size g mb v d st w2 HW2.out lo base (opX 5).pops (by decide) HS.out.len hba)
 have r6:=HR1.out.1.below hb2 HR1.out.1.lt
 have r7:=HR1.out.2.1.below hb2 HR1.out.2.1.lt
 have y7:=(two_cellsV r7).1
 have HR2:=Lib.hid (And.intro r6 r7)
 clear r6 r7 hb2 HE
 go_wp2_with fail
 refine HPop.out.mono ?_
 intro e w3 hr
 clear HPop
 cases hpop:popA st.stk base (opX 5).pops with
 | error x=>
  rw [hpop] at hr
  obtain⟨rfl,hb3⟩:=hr
  refine⟨rfl,?_⟩
  have h1:=Hpl.out
  rw [hpop] at h1
  rw [h1]
  exact⟨rfl,HV2.out.kw.ki.below.trans hb3⟩
 | ok rl=>
  obtain⟨rest,l⟩:=rl
  rw [hpop] at hr
  obtain⟨A3,c3,rfl,hl3,hK3,hV3⟩:=hr
  have HV3:=Lib.hid (HV2.out.trans hV3)
  have r6:=hV3.row HR2.out.1 (HW.out.fresh (Nat.le_refl _))
  have r7:=hV3.row HR2.out.2 (HW.out.fresh (Nat.le_succ _))
  have HR3:=Lib.hid (And.intro r6 r7)
  have HL3:=Lib.hid hl3
  have HK3:=Lib.hid hK3
  have Hpop:=Lib.hid (popA_rest HS.out hpop)
  have Hpl2:Hid (plA p lo base st=pushA lo { st with stk:=rest } [gV l 0,gV l 0] 0):=by show _=_;rw [Hpl.out,hpop]
  obtain⟨w4,hw4⟩:∃ w4,w4=w3.alloc (.cells #[.int .i64 1,.int .i64 0] 151):=⟨_,rfl⟩
  have hb4:Below w3.heap.size w3 w4:=by rw [hw4];exact balloc (Below.refl _ _) _
  have r12:rowV w4 w3.heap.size 151 #[.int .i64 1,.int .i64 0]:=by rw [hw4];exact rowV.new w3 _ _
  have HK4:=Lib.hid (hK3.below hb4)
  have HV4:=Lib.hid (HV3.out.trans (KV.of_below (g:=g) (mb:=mb) (d:={ d with sn:=rest.length }) hb4 hK3.hB))
  have HL4:=Lib.hid (hl3.below hb4)
  have q6:=r6.below hb4 r6.lt
  have q7:=r7.below hb4 r7.lt
  obtain⟨y7,y8⟩:=two_cellsV q7
  have l7:=q7.lt
  have HR4:=Lib.hid (And.intro q6 (And.intro q7 r12))
  have Hw4:=Lib.hid hw4
  have hs3:w.heap.size≤w3.heap.size:=Nat.le_of_lt r6.lt
  have hs3':=r6.lt
  clear hl3 hK3 hV3 r6 r7 hpop Hpl HV2 HR2 HW2 HL3 HK3 HV3 HR3 hw4 hb4 r12 q6 q7
  go_upto_region 5 with fail
  rw [←Hw4.out]
  have hpl:(opX 5).pops.length=1:=by decide
  obtain⟨x0,hx0⟩:∃ x,l=[x]:=List.length_eq_one_iff.1 (Hpop.out.2.2.1.trans hpl)
  subst hx0
  obtain⟨ob,hob,-,hob2,hoc⟩:=HL4.out.get (fun _=>rfl) (by decide) ⟨false,⟨0,0⟩⟩ (by rw [hpl];exact Nat.one_pos)
  subst hob
  have x00:w4.cell? ⟨ob,0,none⟩=some (.bool x0.tr):=hoc 0 0 _ (by rw [hpl];exact Nat.one_pos) rfl
  have x01:w4.cell? ⟨ob,1,none⟩=some (.int .i64 x0.iv.lo):=hoc 0 1 _ (by rw [hpl];exact Nat.one_pos) rfl
  have x02:w4.cell? ⟨ob,2,none⟩=some (.int .i64 x0.iv.hi):=hoc 0 2 _ (by rw [hpl];exact Nat.one_pos) rfl
  clear hoc
  have Hpl2:Hid (plA p lo base st=pushA lo { st with stk:=rest } [x0,x0] 0):=Hpl2
  go_upto_region 23 with fail
  have hb7:Below w4.drew.heap.size w4.drew (w4.drew.alloc (.cells #[.bool x0.tr,.int .i64 x0.iv.lo,.int .i64 x0.iv.hi,.bool x0.tr,.int .i64 x0.iv.lo,.int .i64 x0.iv.hi] 242)):=balloc (Below.refl _ _) _
  have HK7:=Lib.hid ((HK4.out.drewN 1).below hb7)
  have HV7:=Lib.hid ((HV4.out.drewN 1).trans (KV.of_below (g:=g) (mb:=mb) (d:={ d with sn:=rest.length }) hb7 (HK4.out.drewN 1).hB))
  have HR7:=Lib.hid (And.intro (((show rowV w4.drew _ _ _ from HR4.out.1)).below hb7 ((show rowV w4.drew _ _ _ from HR4.out.1)).lt) (((show rowV w4.drew _ _ _ from HR4.out.2.2)).below hb7 ((show rowV w4.drew _ _ _ from HR4.out.2.2)).lt))
  have HPu:=Lib.hid (pushW_any wB.heap.size g mb v { d with sn:=rest.length } { st with stk:=rest } _ HK7.out lo ⟨w4.drew.heap.size,0,none⟩ 2 2 [x0,x0] (vls_two w4.drew _ _) (by decide) Hpop.out.1.len Hpop.out.1.hgt 0)
  clear hb7
  go_region_with (first | (go_at_call 146;refine HPu.out.mono ?_;intro e w8 hr;rcases push_two lo { st with stk:=rest } [x0,x0] 0 with ⟨a,x,hpu⟩ | ⟨st8,s8,e8,hpu⟩;(focus (rw [hpu] at hr;obtain⟨rfl,hb8⟩:=hr;refine⟨rfl,?_⟩;rw [Hpl2.out,hpu];exact⟨rfl,HV7.out.kw.ki.below.trans hb8⟩));rw [hpu] at hr;obtain⟨rfl,d8,hK8,hV8,hm8⟩:=hr;obtain⟨rfl,rfl,-⟩:=pushA_one hpu;have Hpu:=Lib.hid hpu;clear hpu))
  all_goals
   have HR8:=Lib.hid (And.intro (hV8.row HR7.out.1 (HK7.out.ne_box HR7.out.1 (by decide) (by decide) (by decide))) (hV8.row HR7.out.2 (HK7.out.ne_box HR7.out.2 (by decide) (by decide) (by decide))))
   have HK8:=Lib.hid hK8
   have HV8:=Lib.hid (HV7.out.trans hV8)
   have Hpl3:Hid (plA p lo base st=.ok st8 1 0):=by show _=_;rw [Hpl2.out,Hpu.out]
   clear hK8 hV8 HK7 HV7 HR7 Hpu
   go_wp2_with (first | refine wpList_load_row rfl 151 (.tmp 12) rfl _ rfl _ _ _ _ HR8.out.2 Tryz.underlying151 rfl (hIbd _ _) ?_ | refine wpList_store_row rfl 151 (.tmp 6) (.tmp 183) rfl _ #[.int .i64 1,.int .i64 0] rfl rfl _ _ HR8.out.1 (hIbd _ _) rfl (hA2 _ _) ?_)
   obtain⟨k1,k2⟩:=two_cellsV (setRow_heap w8 w.heap.size _ #[.int .i64 1,.int .i64 0] _ _ HR8.out.1)
   refine bodyPost_ret (v:=.agg #[.int .i64 1,.int .i64 0]) (by simp [results,Tryz.results112,go_sem,k1,k2]) rfl ?_
   rw [Hpl3.out]
   exact⟨rfl,_,HK8.out.boxG HR8.out.1 (by decide) (by decide) (by decide) (by decide) HW.out.hB (grownBy_setRow3 _ _ _),HV8.out.boxG (Nat.le_refl _) HW.out.hB (grownBy_setRow3 _ _ _),Nat.le_of_eq hm8⟩
theorem plain_swap(wB:World)(g mb:Nat)(v:WV)(d:WD)(st:St)(w:World)(p:Prg)(P:List Int)(hk:PK wB v p P)(hb:Below wB.heap.size wB w)(h:WK wB.heap.size g mb v w st d)(n:Nat)(hn:p.locs=(n:Int))(hs:StOk n st)(lo base:Nat)(hlo:lo < p.code.length)(hba:base≤1000)(ho:oI p.code lo=7) :
  Calls Tryz.prog 112 #[.pointer (some ⟨g,0,none⟩),.int .i64 (lo:Int),.int .i64 (base:Int)] w (AnaR wB.heap.size g mb v d w 0 (plA p lo base st)):=by
 obtain⟨cb,off,hcA,hcb,hx1,hx2⟩:=hk.ins hb hlo
 obtain⟨e0,e1,e2,-,-,-,-,-,-,-,-⟩:=h.cells
 have hgl:=h.row.lt
 rw [hcA] at e2
 have hcn:=hk.cn
 have hlo2:lo < v.cn:=by omega
 have hlo3:lo≤1024:=by have:=hk.ok.len;omega
 obtain⟨cn,hcn'⟩:∃ c,c=v.cn:=⟨_,rfl⟩
 rw [←hcn'] at e2 hlo2
 rw [ho] at hx1
 have Hb:=Lib.hid hb
 have HW:=Lib.hid h
 have HK:=Lib.hid hk
 have Hlo:=Lib.hid hlo
 have HS:=Lib.hid hs
 have Hn:=Lib.hid hn
 have Harg:=Lib.hid (hk.ok.ins lo hlo)
 have Ho:=Lib.hid ho
 obtain⟨ar,har⟩:∃ a,a=(gI p.code lo).arg:=⟨_,rfl⟩
 rw [←har] at hx2
 have Har:=Lib.hid har
 clear hcn' hcn hlo hb h hk hs hn ho hcA har e0 e1
 obtain⟨w1,hw1,g1,r6,r7,s1⟩:=plain_boxes w 7 ar
 have HW1:=Lib.hid (HW.out.below g1)
 have Hw1:=Lib.hid hw1
 have HR1:=Lib.hid (And.intro r6 (And.intro r7 (And.intro g1 s1)))
 have y7:=(two_cellsV r7).1
 have HE:=Lib.hid (effect_any 7 w1)
 have Hpl:Hid (plA p lo base st=match popA st.stk base (opX 7).pops with
  | .error e=>.bad lo e
  | .ok (rest,l)=>pushA lo { st with stk:=rest } [gV l 1,gV l 0] 0):=by
  show _=_
  unfold plA
  rw [Ho.out]
  try rw [Har.out]
  cases popA st.stk base (opX 7).pops <;> rfl
 clear hw1 r6 r7 g1 s1
 go_enter Tryz.func112,Tryz.ntmps112
 go_wp2_with fail
 rw [←Hw1.out]
 clear hcb hx1 hx2 hgl e2 hlo2
 refine HE.out.mono ?_
 rintro e w2 ⟨rfl,hb2⟩
 have HW2:=Lib.hid (HW1.out.below hb2)
 have HV2:=Lib.hid (KV.of_below (B:=wB.heap.size) (g:=g) (mb:=mb) (d:=d) (HR1.out.2.2.1.trans (hb2.mono HR1.out.2.2.1.size)) HW.out.hB)
 have HPop:=Lib.hid (popW_any wB.heap.size g mb v d st w2 HW2.out lo base (opX 7).pops (by decide) HS.out.len hba)
 have r6:=HR1.out.1.below hb2 HR1.out.1.lt
 have r7:=HR1.out.2.1.below hb2 HR1.out.2.1.lt
 have y7:=(two_cellsV r7).1
 have HR2:=Lib.hid (And.intro r6 r7)
 clear r6 r7 hb2 HE
 go_wp2_with fail
 refine HPop.out.mono ?_
 intro e w3 hr
 clear HPop
 cases hpop:popA st.stk base (opX 7).pops with
 | error x=>
  rw [hpop] at hr
  obtain⟨rfl,hb3⟩:=hr
  refine⟨rfl,?_⟩
  have h1:=Hpl.out
  rw [hpop] at h1
  rw [h1]
  exact⟨rfl,HV2.out.kw.ki.below.trans hb3⟩
 | ok rl=>
  obtain⟨rest,l⟩:=rl
  rw [hpop] at hr
  obtain⟨A3,c3,rfl,hl3,hK3,hV3⟩:=hr
  have HV3:=Lib.hid (HV2.out.trans hV3)
  have r6:=hV3.row HR2.out.1 (HW.out.fresh (Nat.le_refl _))
  have r7:=hV3.row HR2.out.2 (HW.out.fresh (Nat.le_succ _))
  have HR3:=Lib.hid (And.intro r6 r7)
  have HL3:=Lib.hid hl3
  have HK3:=Lib.hid hK3
  have Hpop:=Lib.hid (popA_rest HS.out hpop)
  have Hpl2:Hid (plA p lo base st=pushA lo { st with stk:=rest } [gV l 1,gV l 0] 0):=by show _=_;rw [Hpl.out,hpop]
  obtain⟨w4,hw4⟩:∃ w4,w4=w3.alloc (.cells #[.int .i64 1,.int .i64 0] 151):=⟨_,rfl⟩
  have hb4:Below w3.heap.size w3 w4:=by rw [hw4];exact balloc (Below.refl _ _) _
  have r12:rowV w4 w3.heap.size 151 #[.int .i64 1,.int .i64 0]:=by rw [hw4];exact rowV.new w3 _ _
  have HK4:=Lib.hid (hK3.below hb4)
  have HV4:=Lib.hid (HV3.out.trans (KV.of_below (g:=g) (mb:=mb) (d:={ d with sn:=rest.length }) hb4 hK3.hB))
  have HL4:=Lib.hid (hl3.below hb4)
  have q6:=r6.below hb4 r6.lt
  have q7:=r7.below hb4 r7.lt
  obtain⟨y7,y8⟩:=two_cellsV q7
  have l7:=q7.lt
  have HR4:=Lib.hid (And.intro q6 (And.intro q7 r12))
  have Hw4:=Lib.hid hw4
  have hs3:w.heap.size≤w3.heap.size:=Nat.le_of_lt r6.lt
  have hs3':=r6.lt
  clear hl3 hK3 hV3 r6 r7 hpop Hpl HV2 HR2 HW2 HL3 HK3 HV3 HR3 hw4 hb4 r12 q6 q7
  go_upto_region 5 with fail
  rw [←Hw4.out]
  have hpl:(opX 7).pops.length=2:=by decide
  obtain⟨x0,x1,hx0⟩:∃ x y,l=[x,y]:=by
   have h:=Hpop.out.2.2.1.trans hpl
   match l,h with
   | [x,y],_=>exact⟨x,y,rfl⟩
  subst hx0
  obtain⟨ob,hob,-,hob2,hoc⟩:=HL4.out.get (fun _=>rfl) (by decide) ⟨false,⟨0,0⟩⟩ (by rw [hpl];exact Nat.two_pos)
  subst hob
  have x00:w4.cell? ⟨ob,0,none⟩=some (.bool x0.tr):=hoc 0 0 _ (by rw [hpl];exact Nat.two_pos) rfl
  have x01:w4.cell? ⟨ob,1,none⟩=some (.int .i64 x0.iv.lo):=hoc 0 1 _ (by rw [hpl];exact Nat.two_pos) rfl
  have x02:w4.cell? ⟨ob,2,none⟩=some (.int .i64 x0.iv.hi):=hoc 0 2 _ (by rw [hpl];exact Nat.two_pos) rfl
  have x10:w4.cell? ⟨ob,3,none⟩=some (.bool x1.tr):=hoc 1 0 _ (by rw [hpl];decide) rfl
  have x11:w4.cell? ⟨ob,4,none⟩=some (.int .i64 x1.iv.lo):=hoc 1 1 _ (by rw [hpl];decide) rfl
  have x12:w4.cell? ⟨ob,5,none⟩=some (.int .i64 x1.iv.hi):=hoc 1 2 _ (by rw [hpl];decide) rfl
  clear hoc
  have Hpl2:Hid (plA p lo base st=pushA lo { st with stk:=rest } [x1,x0] 0):=Hpl2
  go_upto_region 25 with fail
  have hb7:Below w4.drew.heap.size w4.drew (w4.drew.alloc (.cells #[.bool x1.tr,.int .i64 x1.iv.lo,.int .i64 x1.iv.hi,.bool x0.tr,.int .i64 x0.iv.lo,.int .i64 x0.iv.hi] 242)):=balloc (Below.refl _ _) _
  have HK7:=Lib.hid ((HK4.out.drewN 1).below hb7)
  have HV7:=Lib.hid ((HV4.out.drewN 1).trans (KV.of_below (g:=g) (mb:=mb) (d:={ d with sn:=rest.length }) hb7 (HK4.out.drewN 1).hB))
  have HR7:=Lib.hid (And.intro (((show rowV w4.drew _ _ _ from HR4.out.1)).below hb7 ((show rowV w4.drew _ _ _ from HR4.out.1)).lt) (((show rowV w4.drew _ _ _ from HR4.out.2.2)).below hb7 ((show rowV w4.drew _ _ _ from HR4.out.2.2)).lt))
  have HPu:=Lib.hid (pushW_any wB.heap.size g mb v { d with sn:=rest.length } { st with stk:=rest } _ HK7.out lo ⟨w4.drew.heap.size,0,none⟩ 2 2 [x1,x0] (vls_two w4.drew _ _) (by decide) Hpop.out.1.len Hpop.out.1.hgt 0)
  clear hb7
  go_region_with (first | (go_at_call 146;refine HPu.out.mono ?_;intro e w8 hr;rcases push_two lo { st with stk:=rest } [x1,x0] 0 with ⟨a,x,hpu⟩ | ⟨st8,s8,e8,hpu⟩;(focus (rw [hpu] at hr;obtain⟨rfl,hb8⟩:=hr;refine⟨rfl,?_⟩;rw [Hpl2.out,hpu];exact⟨rfl,HV7.out.kw.ki.below.trans hb8⟩));rw [hpu] at hr;obtain⟨rfl,d8,hK8,hV8,hm8⟩:=hr;obtain⟨rfl,rfl,-⟩:=pushA_one hpu;have Hpu:=Lib.hid hpu;clear hpu))
  all_goals
   have HR8:=Lib.hid (And.intro (hV8.row HR7.out.1 (HK7.out.ne_box HR7.out.1 (by decide) (by decide) (by decide))) (hV8.row HR7.out.2 (HK7.out.ne_box HR7.out.2 (by decide) (by decide) (by decide))))
   have HK8:=Lib.hid hK8
   have HV8:=Lib.hid (HV7.out.trans hV8)
   have Hpl3:Hid (plA p lo base st=.ok st8 1 0):=by show _=_;rw [Hpl2.out,Hpu.out]
   clear hK8 hV8 HK7 HV7 HR7 Hpu
   go_wp2_with (first | refine wpList_load_row rfl 151 (.tmp 12) rfl _ rfl _ _ _ _ HR8.out.2 Tryz.underlying151 rfl (hIbd _ _) ?_ | refine wpList_store_row rfl 151 (.tmp 6) (.tmp 183) rfl _ #[.int .i64 1,.int .i64 0] rfl rfl _ _ HR8.out.1 (hIbd _ _) rfl (hA2 _ _) ?_)
   obtain⟨k1,k2⟩:=two_cellsV (setRow_heap w8 w.heap.size _ #[.int .i64 1,.int .i64 0] _ _ HR8.out.1)
   refine bodyPost_ret (v:=.agg #[.int .i64 1,.int .i64 0]) (by simp [results,Tryz.results112,go_sem,k1,k2]) rfl ?_
   rw [Hpl3.out]
   exact⟨rfl,_,HK8.out.boxG HR8.out.1 (by decide) (by decide) (by decide) (by decide) HW.out.hB (grownBy_setRow3 _ _ _),HV8.out.boxG (Nat.le_refl _) HW.out.hB (grownBy_setRow3 _ _ _),Nat.le_of_eq hm8⟩
end Go.Proofs.YtpaplehcafeeaaaGreatDoor
