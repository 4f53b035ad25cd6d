/- Pw. -/
import Derived.Test.YtpaplehcafeeaaaGreatDoorLE28
import Derived.Test.YtpaplehcafeeaaaGreatDoorLE23
import Derived.Deep.RegionHeld3
set_option maxRecDepth 100000
set_option maxHeartbeats 40000000
set_option linter.unusedVariables false
set_option linter.unusedSimpArgs false
set_option linter.unusedSectionVars false
namespace Go.Proofs.YtpaplehcafeeaaaGreatDoor
open Go.RowKit Go.Proofs
variable [Inhabited ArgB]
theorem opX_len8{op:Int}(h0:0≤op)(h1:op < 36):(opX op).pops.length≤8:=by
 have h:∀ k:Fin 36,(opX (k.1:Int)).pops.length≤8:=by decide +kernel
 have:=h ⟨op.toNat,by omega⟩
 simp only [] at this
 rwa [show ((op.toNat:Nat):Int)=op by omega] at this
theorem plain_ops{op:Int}(h0:0≤op)(h1:op < 36)(h27:op≠27)(h28:op≠28)(h29:op≠29)(h30:op≠30)(h31:op≠31):(8≤op∧op≤20)∨(op=21∨op=22∨op=23∨op=24∨op=25∨op=33)∨op=0∨op=1∨op=2∨op=3∨op=4∨op=5∨op=6∨op=7∨op=26∨op=32∨op=34∨op=35:=by omega
theorem push_two(lo:Nat)(st:St)(l:List Vl)(e:Int):(∃ a x,pushA lo st l e=.bad a x)∨(∃ st8 s8 e8,pushA lo st l e=.ok st8 s8 e8):=by
 unfold pushA
 split
 ·exact .inl ⟨_,_,rfl⟩
 ·exact .inr ⟨_,_,_,rfl⟩
theorem vls_one(w:World)(x:Vl):VlsAt (w.alloc (.cells #[.bool x.tr,.int .i64 x.iv.lo,.int .i64 x.iv.hi] 242)) (some ⟨w.heap.size,0,none⟩) 1 [x]:=by
 obtain⟨h1,h2,h3⟩:=three_cellsV (rowV.new w 242 #[.bool x.tr,.int .i64 x.iv.lo,.int .i64 x.iv.hi])
 refine⟨rfl,fun _=>⟨w.heap.size,0,rfl,by simp,fun i hi=>?_⟩⟩
 obtain rfl:i=0:=by omega
 exact⟨h1,h2,h3⟩
theorem vls_two(w:World)(x y:Vl):VlsAt (w.alloc (.cells #[.bool x.tr,.int .i64 x.iv.lo,.int .i64 x.iv.hi,.bool y.tr,.int .i64 y.iv.lo,.int .i64 y.iv.hi] 242)) (some ⟨w.heap.size,0,none⟩) 2 [x,y]:=by
 have r:=rowV.new w 242 #[.bool x.tr,.int .i64 x.iv.lo,.int .i64 x.iv.hi,.bool y.tr,.int .i64 y.iv.lo,.int .i64 y.iv.hi]
 refine⟨rfl,fun _=>⟨w.heap.size,0,rfl,by simp,fun i hi=>?_⟩⟩
 have h:i=0∨i=1:=by omega
 rcases h with rfl | rfl
 ·exact⟨cell_rowV r rfl,cell_rowV r rfl,cell_rowV r rfl⟩
 ·exact⟨cell_rowV r rfl,cell_rowV r rfl,cell_rowV r rfl⟩
theorem WK.storeL{B g mb:Nat}{v:WV}{w w5:World}{st:St}{d:WD}(h:WK B g mb v w st d)(hb:Below w.heap.size w w5){ab c5:Nat}(ho:OwnS encIv 2 w5 w.heap.size 148 (some ⟨ab,0,none⟩) d.ln c5 st.locs){i:Nat}(hi:i < d.ln)(z:Iv){w7:World}(hw7:w7=((w5.setCell ⟨g,6,none⟩ (.slice (some ⟨ab,0,none⟩) d.ln c5)).setCell ⟨ab,i * 2,none⟩ (.int .i64 z.lo)).setCell ⟨ab,i * 2+1,none⟩ (.int .i64 z.hi)) :
  WK B g mb v w7 { st with locs:=st.locs.set i z } { d with lA:=some ⟨ab,0,none⟩,lc:=c5 }∧KV B g mb d { d with lA:=some ⟨ab,0,none⟩,lc:=c5 } w w7:=by
 have hab:=ho.blk (b:=ab) (by unfold Value.ownBlock;rfl)
 have h5:=h.below hb
 have hgl:=h.row.lt
 have g6:w5.grownBy (w5.setCell ⟨g,6,none⟩ (.slice (some ⟨ab,0,none⟩) d.ln c5)) (some g):=grownBy.setCell' (World.grownBy.refl _ _) _
 have ho6:OwnS encIv 2 (w5.setCell ⟨g,6,none⟩ (.slice (some ⟨ab,0,none⟩) d.ln c5)) w.heap.size 148 (some ⟨ab,0,none⟩) d.ln c5 st.locs:=ho.grown g6 (ho.ne_row h5.row (by decide))
 obtain⟨ho7,g7⟩:=ho6.setIv i hi z
 rw [←hw7] at ho7 g7
 have hk7:∀ k,k < w.heap.size→k≠g→w7.heap[k]?=w.heap[k]?:=fun k hk hne=>((g7.block k (by have:=hb.size;have:=g6.size;omega) (fun e=>by injection e with e;have:=hab.2.1;omega)).trans (g6.block k (by have:=hb.size;omega) (fun e=>hne (by injection e)))).trans (hb.block k hk)
 have hbl:Below B w w7:=(((hb.mono h.hB).grown g6 (Nat.le_trans h.hB hb.size) (fun k hk=>by injection hk with hk;rw [←hk];exact h.hg))).grown g7 (Nat.le_trans h.hB (Nat.le_trans hb.size g6.size)) (fun k hk=>by injection hk with hk;have:=hab.2.1;have:=h.hB;omega)
 have hki:KI B w w7:=⟨hbl,fun k cs fr hk=>hk7 k (lt_of_heap hk) (fun e=>by
  have h1:=h.row
  unfold rowV at h1
  rw [←e] at h1
  exact ne_of_cells h1 (by decide) hk)⟩
 have hrow:rowV w7 g 145 (rowK v { d with lA:=some ⟨ab,0,none⟩,lc:=c5 } (st.hgt:Int) mb):=by
  have h6:=h5.row.set 6 (.slice (some ⟨ab,0,none⟩) d.ln c5)
  exact (g7.block g h6.lt (fun e=>by injection e with e;have:=hab.2.1;omega)).trans h6
 have hkeepO:∀ (b:Nat),b < w.heap.size→b≠g→w7.heap[b]?=w.heap[b]?:=hk7
 obtain⟨f,m1,m2⟩:=h.map
 have hst:StkS w7 B d.sA d.sn d.sc st.stk:=by
  have h1:=(h5.stk.grown g6 (h5.stk.ne_row h5.row (by decide)))
  exact h1.grown g7 (fun b hb2 e=>by injection e with e;have:=(h.stk.blk hb2).1;have:=hab.2.1;omega)
 have hlv:LvsS w7 B d.vA d.vn d.vc d.X:=by
  have h1:=(h5.lvs.grown g6 (h5.lvs.ne_row h5.row (by decide)))
  exact h1.grown g7 (fun b hb2 e=>by injection e with e;have:=(h.lvs.blk hb2).1;have:=hab.2.1;omega)
 refine⟨⟨hrow,h.hg,Nat.le_trans h.hB hbl.size,IvK.of_own ho7,hst,hlv,h.lvl,fun i hi=>(h.lvi i hi).keep hki,h.hm,f,m1.same (hk7 mb m1.lt h.ne_map),m2.keep hki⟩,⟨⟨hki,fun k cs fr hk hne=>hk7 k (lt_of_heap hk) (fun e=>?_),fun k hk=>.inl hk⟩,fun k h0 h1 _ _ _=>hk7 k h0 h1,fun k hk=>.inl hk⟩⟩
 have h1:=h.row
 unfold rowV at h1
 rw [←e] at h1
 exact ne_of_cells h1 (by decide) hk
theorem plainW_any(wB:World)(g mb:Nat)(v:WV)(d:WD)(st:St)(w:World)(p:Prg)(P:List Int)(hk:PK wB v p P)(hb:Below wB.heap.size wB w)(h:WK wB.heap.size g mb v w st d)(n:Nat)(hn:p.locs=(n:Int))(hs:StOk n st)(lo base:Nat)(hlo:lo < p.code.length)(hba:base≤1000)(h27:oI p.code lo≠27)(h28:oI p.code lo≠28)(h29:oI p.code lo≠29)(h30:oI p.code lo≠30)(h31:oI p.code lo≠31) :
  Calls Tryz.prog 112 #[.pointer (some ⟨g,0,none⟩),.int .i64 (lo:Int),.int .i64 (base:Int)] w (AnaR wB.heap.size g mb v d w 0 (plA p lo base st)):=by
 obtain⟨cb,off,hcA,hcb,hx1,hx2⟩:=hk.ins hb hlo
 obtain⟨e0,e1,e2,-,-,-,-,-,-,-,-⟩:=h.cells
 have hgl:=h.row.lt
 rw [hcA] at e2
 have hcn:=hk.cn
 have hlo2:lo < v.cn:=by omega
 have hlo3:lo≤1024:=by have:=hk.ok.len;omega
 obtain⟨cn,hcn'⟩:∃ c,c=v.cn:=⟨_,rfl⟩
 rw [←hcn'] at e2 hlo2
 obtain⟨op,hop⟩:∃ op,op=oI p.code lo:=⟨_,rfl⟩
 rw [←hop] at hx1
 have Hb:=Lib.hid hb
 have HW:=Lib.hid h
 have HK:=Lib.hid hk
 have Hlo:=Lib.hid hlo
 have HS:=Lib.hid hs
 have Hn:=Lib.hid hn
 have Harg:=Lib.hid (hk.ok.ins lo hlo)
 have Ho:=Lib.hid hop.symm
 have hr:=hk.ok.ins lo hlo
 rw [←hop] at hr
 have hty:(opX op).pops.length≤8:=opX_len8 hr.1 hr.2.1
 have hcs:=plain_ops hr.1 hr.2.1 (by rw [hop];exact h27) (by rw [hop];exact h28) (by rw [hop];exact h29) (by rw [hop];exact h30) (by rw [hop];exact h31)
 have Hcs:=Lib.hid hcs
 obtain⟨ar,har⟩:∃ a,a=(gI p.code lo).arg:=⟨_,rfl⟩
 rw [←har] at hx2
 have Har:=Lib.hid har
 clear hcn' hcn hlo hb h hk hs hn hop hcA har e0 e1 hr hcs h27 h28 h29 h30 h31
 obtain⟨w1,hw1,g1,r6,r7,s1⟩:=plain_boxes w op ar
 have HW1:=Lib.hid (HW.out.below g1)
 have Hw1:=Lib.hid hw1
 have HR1:=Lib.hid (And.intro r6 (And.intro r7 (And.intro g1 s1)))
 have y7:=(two_cellsV r7).1
 have HE:=Lib.hid (effect_any op w1)
 clear hw1 r6 r7 g1 s1
 go_enter Tryz.func112,Tryz.ntmps112
 go_wp2_with fail
 rw [←Hw1.out]
 clear hcb hx1 hx2 hgl e2 hlo2
 refine HE.out.mono ?_
 rintro e w2 ⟨rfl,hb2⟩
 have HW2:=Lib.hid (HW1.out.below hb2)
 have HV2:=Lib.hid (KV.of_below (B:=wB.heap.size) (g:=g) (mb:=mb) (d:=d) (HR1.out.2.2.1.trans (hb2.mono HR1.out.2.2.1.size)) HW.out.hB)
 have HPop:=Lib.hid (popW_any wB.heap.size g mb v d st w2 HW2.out lo base (opX op).pops hty HS.out.len hba)
 have r6:=HR1.out.1.below hb2 HR1.out.1.lt
 have r7:=HR1.out.2.1.below hb2 HR1.out.2.1.lt
 have y7:=(two_cellsV r7).1
 have HR2:=Lib.hid (And.intro r6 r7)
 clear r6 r7 hb2 HE
 go_wp2_with fail
 refine HPop.out.mono ?_
 intro e w3 hr
 clear HPop
 cases hpop:popA st.stk base (opX op).pops with
 | error x=>
  rw [hpop] at hr
  obtain⟨rfl,hb3⟩:=hr
  refine⟨rfl,?_⟩
  rw [show plA p lo base st=.bad lo x by unfold plA;rw [Ho.out,hpop]]
  exact⟨rfl,HV2.out.kw.ki.below.trans hb3⟩
 | ok rl=>
  obtain⟨rest,l⟩:=rl
  rw [hpop] at hr
  obtain⟨A3,c3,rfl,hl3,hK3,hV3⟩:=hr
  have HV3:=Lib.hid (HV2.out.trans hV3)
  have r6:=hV3.row HR2.out.1 (HW.out.fresh (Nat.le_refl _))
  have r7:=hV3.row HR2.out.2 (HW.out.fresh (Nat.le_succ _))
  have HR3:=Lib.hid (And.intro r6 r7)
  have HL3:=Lib.hid hl3
  have HK3:=Lib.hid hK3
  have Hpop:=Lib.hid (popA_rest HS.out hpop)
  have Hpo:=Lib.hid hpop
  obtain⟨w4,hw4⟩:∃ w4,w4=w3.alloc (.cells #[.int .i64 1,.int .i64 0] 151):=⟨_,rfl⟩
  have hb4:Below w3.heap.size w3 w4:=by rw [hw4];exact balloc (Below.refl _ _) _
  have r12:rowV w4 w3.heap.size 151 #[.int .i64 1,.int .i64 0]:=by rw [hw4];exact rowV.new w3 _ _
  have HK4:=Lib.hid (hK3.below hb4)
  have HV4:=Lib.hid (HV3.out.trans (KV.of_below (g:=g) (mb:=mb) (d:={ d with sn:=rest.length }) hb4 hK3.hB))
  have HL4:=Lib.hid (hl3.below hb4)
  have q6:=r6.below hb4 r6.lt
  have q7:=r7.below hb4 r7.lt
  obtain⟨y7,y8⟩:=two_cellsV q7
  have l7:=q7.lt
  have HR4:=Lib.hid (And.intro q6 (And.intro q7 r12))
  have Hw4:=Lib.hid hw4
  have hs3:w.heap.size≤w3.heap.size:=Nat.le_of_lt r6.lt
  have hs3':=r6.lt
  clear hty hl3 hK3 hV3 r6 r7 hpop HV2 HR2 HW2 HL3 HK3 HV3 HR3 hw4 hb4 r12 q6 q7
  go_upto_region 5 with fail
  rw [←Hw4.out]
  have hcs:=Hcs.out
  clear Hcs
  rcases hcs with h8 | ht | rfl | rfl | rfl | rfl | rfl | rfl | rfl | rfl | rfl | rfl | rfl | rfl
  ·as_aux_lemma=>
    obtain⟨h8,h20⟩:=h8
    have hpp:(opX op).pops=[110,110]∧(opX op).pushes=[110]:=by
     have hall:∀ k:Fin 21,8≤k.val→(opX (k.val:Int)).pops=[110,110]∧(opX (k.val:Int)).pushes=[110]:=by decide +kernel
     have h1:=hall ⟨op.toNat,by omega⟩ (by show 8≤op.toNat;omega)
     rw [show (((⟨op.toNat,by omega⟩:Fin 21).val:Nat):Int)=op by show ((op.toNat:Nat):Int)=op;omega] at h1
     exact h1
    have hpl:(opX op).pops.length=2:=by rw [hpp.1];rfl
    have Hpp:=Lib.hid hpp
    clear hpp
    have q0:(op==0)=false:=by simp;omega
    have q1:(op==1)=false:=by simp;omega
    have q2:(op==2)=false:=by simp;omega
    have q3:(op==3)=false:=by simp;omega
    have q4:(op==4)=false:=by simp;omega
    have q5:(op==5)=false:=by simp;omega
    have q7:(op==7)=false:=by simp;omega
    have q6:(op==6)=false:=by simp;omega
    have q35:(op==35)=false:=by simp;omega
    have q34:(op==34)=false:=by simp;omega
    have q32:(op==32)=false:=by simp;omega
    have q26:(op==26)=false:=by simp;omega
    have Hpl2:Hid (plA p lo base st=(match apI op (gV l 0).iv (gV l 1).iv with | none=>.bad lo 17 | some x=>pushA lo { st with stk:=rest } [numV x] 0)):=by
     show _=_
     unfold plA
     rw [Ho.out,Hpo.out]
     show (if op=0 then _ else _)=_
     rw [if_neg (by omega),if_neg (by omega),if_neg (by omega),if_neg (by omega),if_neg (by omega),if_neg (by omega),if_neg (by omega),if_neg (by omega),if_neg (by omega),if_neg (by omega),if_neg (by omega),if_neg (by rw [Hpp.out.2];decide)]
     rfl
    have hpl2:=hpl
    obtain⟨x0,x1,hx0⟩:∃ x y,l=[x,y]:=by
     have h:=Hpop.out.2.2.1.trans hpl
     match l,h with
     | [x,y],_=>exact⟨x,y,rfl⟩
    subst hx0
    obtain⟨ob,hob,-,hob2,hoc⟩:=HL4.out.get (fun _=>rfl) (by decide) ⟨false,⟨0,0⟩⟩ (by rw [hpl];exact Nat.two_pos)
    subst hob
    have x00:w4.cell? ⟨ob,0,none⟩=some (.bool x0.tr):=hoc 0 0 _ (by rw [hpl];exact Nat.two_pos) rfl
    have x01:w4.cell? ⟨ob,1,none⟩=some (.int .i64 x0.iv.lo):=hoc 0 1 _ (by rw [hpl];exact Nat.two_pos) rfl
    have x02:w4.cell? ⟨ob,2,none⟩=some (.int .i64 x0.iv.hi):=hoc 0 2 _ (by rw [hpl];exact Nat.two_pos) rfl
    have x10:w4.cell? ⟨ob,3,none⟩=some (.bool x1.tr):=hoc 1 0 _ (by rw [hpl];decide) rfl
    have x11:w4.cell? ⟨ob,4,none⟩=some (.int .i64 x1.iv.lo):=hoc 1 1 _ (by rw [hpl];decide) rfl
    have x12:w4.cell? ⟨ob,5,none⟩=some (.int .i64 x1.iv.hi):=hoc 1 2 _ (by rw [hpl];decide) rfl
    clear hoc
    have hps:=Hpp.out.2
    have hzs:strB [110]=⟨#[110]⟩:=rfl
    rw [hps]
    have Hpl2:Hid (plA p lo base st=match apI op x0.iv x1.iv with
     | none=>.bad lo 17
     | some x=>pushA lo { st with stk:=rest } [numV x] 0):=Hpl2
    have hiv:=Hpop.out.2.1
    have HAp:=Lib.hid (applyI_any op x0.iv x1.iv h8 h20 (hiv x0 (List.mem_cons_self ..)) (hiv x1 (List.mem_cons_of_mem _ (List.mem_cons_self ..))))
    clear hiv
    obtain⟨b0,⟨xl,xh⟩⟩:=x0
    obtain⟨b1,⟨yl,yh⟩⟩:=x1
    simp only [] at x00 x01 x02 x10 x11 x12 HAp Hpl2
    go_upto_region 8 with fail
    obtain⟨zl,zh,er,hz,her⟩:∃ zl zh er,resI (apI op ⟨xl,xh⟩ ⟨yl,yh⟩)=.tuple #[.agg #[.int .i64 zl,.int .i64 zh],.int .i64 er]∧((er=0∧apI op ⟨xl,xh⟩ ⟨yl,yh⟩=some ⟨zl,zh⟩)∨(er=17∧apI op ⟨xl,xh⟩ ⟨yl,yh⟩=none)):=by
     cases apI op ⟨xl,xh⟩ ⟨yl,yh⟩ with
     | none=>exact⟨0,0,17,rfl,.inr ⟨rfl,rfl⟩⟩
     | some z=>exact⟨z.lo,z.hi,0,rfl,.inl ⟨rfl,rfl⟩⟩
    rw [hz] at HAp
    have Her:=Lib.hid her
    clear hz her
    have hobl:ob < w4.heap.size:=hob2
    go_region_held3 (fun W=>W.cell? ⟨w.heap.size+1,0,none⟩=some (.int .i64 op)∧W.cell? ⟨ob,1,none⟩=some (.int .i64 xl)∧W.cell? ⟨ob,2,none⟩=some (.int .i64 xh)∧W.cell? ⟨ob,4,none⟩=some (.int .i64 yl)∧W.cell? ⟨ob,5,none⟩=some (.int .i64 yh))
     (first | go_keep | exact⟨v0,v1,v2,v4,v5⟩ | exact⟨a0,a1,a2,a4,a5⟩ | exact⟨b0,b1,b2,b4,b5⟩)
     (first
      | (go_at_call 149;refine (HAp.out _).mono ?_;rintro e w5 ⟨rfl,hb5'⟩;have hb5:Below w4.heap.size w4 w5:=(bdrew (balloc (Below.refl _ w4) _) 1).trans (hb5'.mono (by simp));have r5:=(show rowV (w4.alloc (.cells #[.int .i64 0,.int .i64 0] 148)).drew w4.heap.size _ _ from rowV.new w4 _ _).below hb5' (by simp);have u0:=(two_cellsV r5).1;have u1:=(two_cellsV r5).2;have z0:=frozen_rowV' r5 0;have z1:=frozen_rowV' r5 1;have v0:=(hb5.cell (p:=⟨w.heap.size+1,0,none⟩) l7).trans y7;have v1:=(hb5.cell (p:=⟨ob,1,none⟩) hobl).trans x01;have v2:=(hb5.cell (p:=⟨ob,2,none⟩) hobl).trans x02;have v4:=(hb5.cell (p:=⟨ob,4,none⟩) hobl).trans x11;have v5:=(hb5.cell (p:=⟨ob,5,none⟩) hobl).trans x12;have l75:=Nat.lt_of_lt_of_le l7 hb5.size;have obl5:=Nat.lt_of_lt_of_le hobl hb5.size;have hb6a:Below w4.heap.size w4 (w5.setCell ⟨w4.heap.size,0,none⟩ (.int .i64 zl)):=belowCell hb5 (Nat.le_refl _) _;have hb6b:Below w4.heap.size w4 ((w5.setCell ⟨w4.heap.size,0,none⟩ (.int .i64 zl)).setCell ⟨w4.heap.size,1,none⟩ (.int .i64 zh)):=belowCell hb6a (Nat.le_refl _) _;have a0:=(hb6a.cell (p:=⟨w.heap.size+1,0,none⟩) l7).trans y7;have a1:=(hb6a.cell (p:=⟨ob,1,none⟩) hobl).trans x01;have a2:=(hb6a.cell (p:=⟨ob,2,none⟩) hobl).trans x02;have a4:=(hb6a.cell (p:=⟨ob,4,none⟩) hobl).trans x11;have a5:=(hb6a.cell (p:=⟨ob,5,none⟩) hobl).trans x12;have b0:=(hb6b.cell (p:=⟨w.heap.size+1,0,none⟩) l7).trans y7;have b1:=(hb6b.cell (p:=⟨ob,1,none⟩) hobl).trans x01;have b2:=(hb6b.cell (p:=⟨ob,2,none⟩) hobl).trans x02;have b4:=(hb6b.cell (p:=⟨ob,4,none⟩) hobl).trans x11;have b5:=(hb6b.cell (p:=⟨ob,5,none⟩) hobl).trans x12)
      | (go_at_call 149;refine (HAp.out _).mono ?_;rintro e w5 ⟨rfl,hb5'⟩;have hb5:Below w4.heap.size w4 w5:=(bdrew (Below.refl _ w4) 1).trans hb5';have v0:=(hb5.cell (p:=⟨w.heap.size+1,0,none⟩) l7).trans y7;have v1:=(hb5.cell (p:=⟨ob,1,none⟩) hobl).trans x01;have v2:=(hb5.cell (p:=⟨ob,2,none⟩) hobl).trans x02;have v4:=(hb5.cell (p:=⟨ob,4,none⟩) hobl).trans x11;have v5:=(hb5.cell (p:=⟨ob,5,none⟩) hobl).trans x12;have l75:=Nat.lt_of_lt_of_le l7 hb5.size;have obl5:=Nat.lt_of_lt_of_le hobl hb5.size))
    all_goals
     rename_i hHeld
     clear hHeld
    all_goals
     first
      | (obtain⟨w6,hw6⟩:∃ w6,w6=(w5.setCell ⟨w4.heap.size,0,none⟩ (.int .i64 zl)).setCell ⟨w4.heap.size,1,none⟩ (.int .i64 zh):=⟨_,rfl⟩;rw [←hw6];have hb6:Below w4.heap.size w4 w6:=(by rw [hw6];exact belowCell (belowCell hb5 (Nat.le_refl _) _) (Nat.le_refl _) _);have r13:rowV w6 w4.heap.size 148 #[.int .i64 zl,.int .i64 zh]:=(by rw [hw6];exact (r5.set 0 _).set 1 _))
      | (obtain⟨w6,hw6⟩:∃ w6,w6=w5.alloc (.cells #[.int .i64 zl,.int .i64 zh] 148):=⟨_,rfl⟩;rw [←hw6];have hb6:Below w4.heap.size w4 w6:=(by rw [hw6];exact balloc hb5 _);have r13:rowV w6 w5.heap.size 148 #[.int .i64 zl,.int .i64 zh]:=(by rw [hw6];exact rowV.new w5 _ _))
      | (obtain⟨w6,hw6⟩:∃ w6,w6=(w5.alloc (.cells #[.int .i64 zl,.int .i64 zh] 148)).drew:=⟨_,rfl⟩;rw [←hw6];have hb6:Below w4.heap.size w4 w6:=(by rw [hw6];exact bdrew (balloc hb5 _) 1);have r13:rowV w6 w5.heap.size 148 #[.int .i64 zl,.int .i64 zh]:=(by rw [hw6];exact rowV.new w5 _ _))
    all_goals
     obtain⟨t1,t2⟩:=two_cellsV r13
     have HK6:=Lib.hid (HK4.out.below hb6)
     have HV6:=Lib.hid (HV4.out.trans (KV.of_below (g:=g) (mb:=mb) (d:={ d with sn:=rest.length }) hb6 HK4.out.hB))
     have HR6:=Lib.hid (And.intro (HR4.out.1.below hb6 HR4.out.1.lt) (HR4.out.2.2.below hb6 HR4.out.2.2.lt))
     clear hb6 hb5 hw6 r13 v0 v1 v2 v4 v5
     rcases Her.out with ⟨rfl,hap⟩ | ⟨rfl,hap⟩
     rotate_left 1
     ·have Hpl2:Hid (plA p lo base st=.bad lo 17):=by show _=_;rw [Hpl2.out,hap]
      clear hap
      go_wp2_with fail
      refine (demandW_bad _ _ _).mono ?_
      rintro e w9 ⟨rfl,hw9⟩
      obtain rfl:=hw9.symm
      refine⟨rfl,?_⟩
      rw [Hpl2.out]
      exact⟨rfl,HV6.out.kw.ki.below⟩
     ·have Hpl2:Hid (plA p lo base st=pushA lo { st with stk:=rest } [numV ⟨zl,zh⟩] 0):=by show _=_;rw [Hpl2.out,hap]
      clear hap
      go_wp2_with fail
      refine (demandW_ok _ _ _).mono ?_
      rintro e w9 ⟨rfl,hw9⟩
      obtain rfl:=hw9.symm
      have HXn:=Lib.hid (numeric_any zl zh w6)
      go_wp2_with fail
      refine HXn.out.mono ?_
      rintro e wn ⟨rfl,hbn⟩
      have HKn:=Lib.hid (HK6.out.below hbn)
      have HVn:=Lib.hid (HV6.out.trans (KV.of_below (g:=g) (mb:=mb) (d:={ d with sn:=rest.length }) hbn HK6.out.hB))
      have HRn:=Lib.hid (And.intro ((HR6.out.1).below hbn (HR6.out.1).lt) ((HR6.out.2).below hbn (HR6.out.2).lt))
      clear hbn HXn
      have hb7:Below wn.heap.size wn (wn.alloc (.cells #[.bool false,.int .i64 zl,.int .i64 zh] 242)):=balloc (Below.refl _ _) _
      have HK7:=Lib.hid (HKn.out.below hb7)
      have HV7:=Lib.hid (HVn.out.trans (KV.of_below (g:=g) (mb:=mb) (d:={ d with sn:=rest.length }) hb7 HKn.out.hB))
      have HR7:=Lib.hid (And.intro ((HRn.out.1).below hb7 (HRn.out.1).lt) ((HRn.out.2).below hb7 (HRn.out.2).lt))
      have HPu:=Lib.hid (pushW_any wB.heap.size g mb v { d with sn:=rest.length } { st with stk:=rest } _ HK7.out lo ⟨wn.heap.size,0,none⟩ 1 1 [numV ⟨zl,zh⟩] (vls_one wn _) (by decide) Hpop.out.1.len Hpop.out.1.hgt 0)
      clear hb7
      go_wp2_with fail
      refine HPu.out.mono ?_
      intro e w8 hr
      clear HPu
      cases hpu:pushA lo { st with stk:=rest } [numV ⟨zl,zh⟩] 0 with
      | bad a x=>
       rw [hpu] at hr
       obtain⟨rfl,hb8⟩:=hr
       refine⟨rfl,?_⟩
       rw [Hpl2.out,hpu]
       exact⟨rfl,HV7.out.kw.ki.below.trans hb8⟩
      | stuck=>rw [hpu] at hr;exact hr.elim
      | ok st8 s8 e8=>
       rw [hpu] at hr
       obtain⟨rfl,d8,hK8,hV8,hm8⟩:=hr
       obtain⟨rfl,rfl,-⟩:=pushA_one hpu
       have HR8:=Lib.hid (And.intro (hV8.row HR7.out.1 (HK7.out.ne_box HR7.out.1 (by decide) (by decide) (by decide))) (hV8.row HR7.out.2 (HK7.out.ne_box HR7.out.2 (by decide) (by decide) (by decide))))
       have HK8:=Lib.hid hK8
       have HV8:=Lib.hid (HV7.out.trans hV8)
       have Hpl3:Hid (plA p lo base st=.ok st8 1 0):=by show _=_;rw [Hpl2.out,hpu]
       clear hK8 hV8 HK7 HV7 HR7 hpu
       go_wp2_with (first | refine wpList_load_row rfl 151 (.tmp 12) rfl _ rfl _ _ _ _ HR8.out.2 Tryz.underlying151 rfl (hIbd _ _) ?_ | refine wpList_store_row rfl 151 (.tmp 6) (.tmp 183) rfl _ #[.int .i64 1,.int .i64 0] rfl rfl _ _ HR8.out.1 (hIbd _ _) rfl (hA2 _ _) ?_)
       obtain⟨k1,k2⟩:=two_cellsV (setRow_heap w8 w.heap.size _ #[.int .i64 1,.int .i64 0] _ _ HR8.out.1)
       refine bodyPost_ret (v:=.agg #[.int .i64 1,.int .i64 0]) (by simp [results,Tryz.results112,go_sem,k1,k2]) rfl ?_
       rw [Hpl3.out]
       exact⟨rfl,_,HK8.out.boxG HR8.out.1 (by decide) (by decide) (by decide) (by decide) HW.out.hB (grownBy_setRow3 _ _ _),HV8.out.boxG (Nat.le_refl _) HW.out.hB (grownBy_setRow3 _ _ _),Nat.le_of_eq hm8⟩
  ·have hps:(opX op).pushes=[116]:=by rcases ht with rfl | rfl | rfl | rfl | rfl | rfl <;> decide
   rcases ht with rfl | rfl | rfl | rfl | rfl | rfl
   all_goals as_aux_lemma=>
    have Hpl2:Hid (plA p lo base st=pushA lo { st with stk:=rest } [⟨true,⟨0,0⟩⟩] 0):=by show _=_;unfold plA;rw [Ho.out,Hpo.out];(try rw [Har.out]);rfl
    have hzs:strB [116]=⟨#[116]⟩:=rfl
    rw [hps]
    have hb7:Below w4.heap.size w4 (w4.alloc (.cells #[.bool true,.int .i64 0,.int .i64 0] 242)):=balloc (Below.refl _ _) _
    have HK7:=Lib.hid (HK4.out.below hb7)
    have HV7:=Lib.hid (HV4.out.trans (KV.of_below (g:=g) (mb:=mb) (d:={ d with sn:=rest.length }) hb7 HK4.out.hB))
    have HR7:=Lib.hid (And.intro ((HR4.out.1).below hb7 (HR4.out.1).lt) ((HR4.out.2.2).below hb7 (HR4.out.2.2).lt))
    have HPu:=Lib.hid (pushW_any wB.heap.size g mb v { d with sn:=rest.length } { st with stk:=rest } _ HK7.out lo ⟨w4.heap.size,0,none⟩ 1 1 [⟨true,⟨0,0⟩⟩] (vls_one w4 _) (by decide) Hpop.out.1.len Hpop.out.1.hgt 0)
    clear hb7
    go_wp2_with fail
    refine HPu.out.mono ?_
    intro e w8 hr
    clear HPu
    cases hpu:pushA lo { st with stk:=rest } [⟨true,⟨0,0⟩⟩] 0 with
    | bad a x=>
     rw [hpu] at hr
     obtain⟨rfl,hb8⟩:=hr
     refine⟨rfl,?_⟩
     rw [Hpl2.out,hpu]
     exact⟨rfl,HV7.out.kw.ki.below.trans hb8⟩
    | stuck=>rw [hpu] at hr;exact hr.elim
    | ok st8 s8 e8=>
     rw [hpu] at hr
     obtain⟨rfl,d8,hK8,hV8,hm8⟩:=hr
     obtain⟨rfl,rfl,-⟩:=pushA_one hpu
     have HR8:=Lib.hid (And.intro (hV8.row HR7.out.1 (HK7.out.ne_box HR7.out.1 (by decide) (by decide) (by decide))) (hV8.row HR7.out.2 (HK7.out.ne_box HR7.out.2 (by decide) (by decide) (by decide))))
     have HK8:=Lib.hid hK8
     have HV8:=Lib.hid (HV7.out.trans hV8)
     have Hpl3:Hid (plA p lo base st=.ok st8 1 0):=by show _=_;rw [Hpl2.out,hpu]
     clear hK8 hV8 HK7 HV7 HR7 hpu
     go_wp2_with (first | refine wpList_load_row rfl 151 (.tmp 12) rfl _ rfl _ _ _ _ HR8.out.2 Tryz.underlying151 rfl (hIbd _ _) ?_ | refine wpList_store_row rfl 151 (.tmp 6) (.tmp 183) rfl _ #[.int .i64 1,.int .i64 0] rfl rfl _ _ HR8.out.1 (hIbd _ _) rfl (hA2 _ _) ?_)
     obtain⟨k1,k2⟩:=two_cellsV (setRow_heap w8 w.heap.size _ #[.int .i64 1,.int .i64 0] _ _ HR8.out.1)
     refine bodyPost_ret (v:=.agg #[.int .i64 1,.int .i64 0]) (by simp [results,Tryz.results112,go_sem,k1,k2]) rfl ?_
     rw [Hpl3.out]
     exact⟨rfl,_,HK8.out.boxG HR8.out.1 (by decide) (by decide) (by decide) (by decide) HW.out.hB (grownBy_setRow3 _ _ _),HV8.out.boxG (Nat.le_refl _) HW.out.hB (grownBy_setRow3 _ _ _),Nat.le_of_eq hm8⟩
  ·as_aux_lemma=>
    have Hpl2:Hid (plA p lo base st=pushA lo { st with stk:=rest } [numV ⟨ar,ar⟩] 0):=by show _=_;unfold plA;rw [Ho.out,Hpo.out];(try rw [Har.out]);rfl
    obtain⟨an,han⟩:∃ an:Nat,ar=(an:Int):=⟨ar.toNat,by have h1:=Harg.out;have h2:=Har.out;omega⟩
    have han2:an < 4294967296:=by have h1:=Harg.out;have h2:=Har.out;omega
    subst han
    have HX5:=Lib.hid (exact_any an han2 w4)
    go_wp2_with fail
    refine HX5.out.mono ?_
    rintro e w5 ⟨rfl,hb5⟩
    have HK5:=Lib.hid (HK4.out.below hb5)
    have HV5:=Lib.hid (HV4.out.trans (KV.of_below (g:=g) (mb:=mb) (d:={ d with sn:=rest.length }) hb5 HK4.out.hB))
    have HR5:=Lib.hid (And.intro ((HR4.out.1).below hb5 (HR4.out.1).lt) ((HR4.out.2.2).below hb5 (HR4.out.2.2).lt))
    clear hb5 HX5
    have HX6:=Lib.hid (numeric_any (an:Int) (an:Int) w5)
    go_wp2_with fail
    refine HX6.out.mono ?_
    rintro e w6 ⟨rfl,hb6⟩
    have HK6:=Lib.hid (HK5.out.below hb6)
    have HV6:=Lib.hid (HV5.out.trans (KV.of_below (g:=g) (mb:=mb) (d:={ d with sn:=rest.length }) hb6 HK5.out.hB))
    have HR6:=Lib.hid (And.intro ((HR5.out.1).below hb6 (HR5.out.1).lt) ((HR5.out.2).below hb6 (HR5.out.2).lt))
    clear hb6 HX6
    have hb7:Below w6.heap.size w6 (w6.alloc (.cells #[.bool false,.int .i64 (an:Int),.int .i64 (an:Int)] 242)):=balloc (Below.refl _ _) _
    have HK7:=Lib.hid (HK6.out.below hb7)
    have HV7:=Lib.hid (HV6.out.trans (KV.of_below (g:=g) (mb:=mb) (d:={ d with sn:=rest.length }) hb7 HK6.out.hB))
    have HR7:=Lib.hid (And.intro ((HR6.out.1).below hb7 (HR6.out.1).lt) ((HR6.out.2).below hb7 (HR6.out.2).lt))
    have HPu:=Lib.hid (pushW_any wB.heap.size g mb v { d with sn:=rest.length } { st with stk:=rest } _ HK7.out lo ⟨w6.heap.size,0,none⟩ 1 1 [numV ⟨(an:Int),(an:Int)⟩] (vls_one w6 _) (by decide) Hpop.out.1.len Hpop.out.1.hgt 0)
    clear hb7
    go_wp2_with fail
    refine HPu.out.mono ?_
    intro e w8 hr
    clear HPu
    cases hpu:pushA lo { st with stk:=rest } [numV ⟨(an:Int),(an:Int)⟩] 0 with
    | bad a x=>
     rw [hpu] at hr
     obtain⟨rfl,hb8⟩:=hr
     refine⟨rfl,?_⟩
     rw [Hpl2.out,hpu]
     exact⟨rfl,HV7.out.kw.ki.below.trans hb8⟩
    | stuck=>rw [hpu] at hr;exact hr.elim
    | ok st8 s8 e8=>
     rw [hpu] at hr
     obtain⟨rfl,d8,hK8,hV8,hm8⟩:=hr
     obtain⟨rfl,rfl,-⟩:=pushA_one hpu
     have HR8:=Lib.hid (And.intro (hV8.row HR7.out.1 (HK7.out.ne_box HR7.out.1 (by decide) (by decide) (by decide))) (hV8.row HR7.out.2 (HK7.out.ne_box HR7.out.2 (by decide) (by decide) (by decide))))
     have HK8:=Lib.hid hK8
     have HV8:=Lib.hid (HV7.out.trans hV8)
     have Hpl3:Hid (plA p lo base st=.ok st8 1 0):=by show _=_;rw [Hpl2.out,hpu]
     clear hK8 hV8 HK7 HV7 HR7 hpu
     go_wp2_with (first | refine wpList_load_row rfl 151 (.tmp 12) rfl _ rfl _ _ _ _ HR8.out.2 Tryz.underlying151 rfl (hIbd _ _) ?_ | refine wpList_store_row rfl 151 (.tmp 6) (.tmp 183) rfl _ #[.int .i64 1,.int .i64 0] rfl rfl _ _ HR8.out.1 (hIbd _ _) rfl (hA2 _ _) ?_)
     obtain⟨k1,k2⟩:=two_cellsV (setRow_heap w8 w.heap.size _ #[.int .i64 1,.int .i64 0] _ _ HR8.out.1)
     refine bodyPost_ret (v:=.agg #[.int .i64 1,.int .i64 0]) (by simp [results,Tryz.results112,go_sem,k1,k2]) rfl ?_
     rw [Hpl3.out]
     exact⟨rfl,_,HK8.out.boxG HR8.out.1 (by decide) (by decide) (by decide) (by decide) HW.out.hB (grownBy_setRow3 _ _ _),HV8.out.boxG (Nat.le_refl _) HW.out.hB (grownBy_setRow3 _ _ _),Nat.le_of_eq hm8⟩
  ·have Hpl2:Hid (plA p lo base st=pushA lo { st with stk:=rest } [numV (gL st.locs ar.toNat)] 0):=by show _=_;unfold plA;rw [Ho.out,Hpo.out];(try rw [Har.out]);rfl
   have harg:0≤ar∧ar < (n:Int):=by have h1:=Harg.out;have h2:=Har.out;have h3:=HK.out.ok.loc lo Hlo.out (.inl Ho.out);have h4:=Hn.out;omega
   obtain⟨an,han⟩:∃ an:Nat,ar=(an:Int):=⟨ar.toNat,by omega⟩
   subst han
   have han:an < n:=by omega
   have hn16:n≤16:=by have h1:=HK.out.ok.locs;have h4:=Hn.out;omega
   obtain⟨-,-,-,-,-,-,e6,-,-,-,-⟩:=HK4.out.cells
   simp only [] at e6
   have hln:d.ln=n:=(HW.out.ln).trans HS.out.locs.1
   rw [hln] at e6
   obtain⟨lb,loff,hlA,hlb,hlc⟩:=HK4.out.locs.1.2.2 (by show 0 < d.ln;omega)
   have hlA:d.lA=_:=hlA
   rw [hlA] at e6
   have z0:w4.cell? ⟨lb,loff+an * 2,none⟩=some (.int .i64 (gL st.locs an).lo):=(hlc an (by show an < d.ln;omega)).1
   have z1:w4.cell? ⟨lb,loff+an * 2+1,none⟩=some (.int .i64 (gL st.locs an).hi):=(hlc an (by show an < d.ln;omega)).2
   clear hlc hlA hln harg
   obtain⟨⟨xl,xh⟩,hx⟩:∃ x,x=gL st.locs an:=⟨_,rfl⟩
   rw [←hx] at z0 z1
   simp only [] at z0 z1
   have Hpl2:Hid (plA p lo base st=pushA lo { st with stk:=rest } [numV ⟨xl,xh⟩] 0):=by show _=_;rw [Hpl2.out,Int.toNat_natCast,←hx]
   clear hx
   go_upto_region 14 with fail
   have HXn:=Lib.hid (numeric_any xl xh w4.drew)
   go_region_with (first | (go_at_call 147;refine HXn.out.mono ?_;rintro e w6 ⟨rfl,hb6⟩;have hK6:=(HK4.out.drewN 1).below hb6;have hV6:=(HV4.out.drewN 1).trans (KV.of_below (g:=g) (mb:=mb) (d:={ d with sn:=rest.length }) hb6 (HK4.out.drewN 1).hB);have hR6:=And.intro (((show rowV w4.drew _ _ _ from HR4.out.1)).below hb6 ((show rowV w4.drew _ _ _ from HR4.out.1)).lt) (((show rowV w4.drew _ _ _ from HR4.out.2.2)).below hb6 ((show rowV w4.drew _ _ _ from HR4.out.2.2)).lt);have HK6:=Lib.hid hK6;have HV6:=Lib.hid hV6;have HR6:=Lib.hid hR6;clear hb6 hK6 hV6 hR6;have hb7:Below w6.heap.size w6 (w6.alloc (.cells #[.bool false,.int .i64 xl,.int .i64 xh] 242)):=balloc (Below.refl _ _) _;have HK7:=Lib.hid (HK6.out.below hb7);have HV7:=Lib.hid (HV6.out.trans (KV.of_below (g:=g) (mb:=mb) (d:={ d with sn:=rest.length }) hb7 HK6.out.hB));have HR7:=Lib.hid (And.intro ((HR6.out.1).below hb7 (HR6.out.1).lt) ((HR6.out.2).below hb7 (HR6.out.2).lt));have HPu:=Lib.hid (pushW_any wB.heap.size g mb v { d with sn:=rest.length } { st with stk:=rest } _ HK7.out lo ⟨w6.heap.size,0,none⟩ 1 1 [numV ⟨xl,xh⟩] (vls_one w6 _) (by decide) Hpop.out.1.len Hpop.out.1.hgt 0);clear hb7) | (go_at_call 146;refine HPu.out.mono ?_;intro e w8 hr;rcases push_two lo { st with stk:=rest } [numV ⟨xl,xh⟩] 0 with ⟨a,x,hpu⟩ | ⟨st8,s8,e8,hpu⟩;(focus (rw [hpu] at hr;obtain⟨rfl,hb8⟩:=hr;refine⟨rfl,?_⟩;rw [Hpl2.out,hpu];exact⟨rfl,HV7.out.kw.ki.below.trans hb8⟩));rw [hpu] at hr;obtain⟨rfl,d8,hK8,hV8,hm8⟩:=hr;obtain⟨rfl,rfl,-⟩:=pushA_one hpu;have Hpu:=Lib.hid hpu;clear hpu))
   all_goals
    have HR8:=Lib.hid (And.intro (hV8.row HR7.out.1 (HK7.out.ne_box HR7.out.1 (by decide) (by decide) (by decide))) (hV8.row HR7.out.2 (HK7.out.ne_box HR7.out.2 (by decide) (by decide) (by decide))))
    have HK8:=Lib.hid hK8
    have HV8:=Lib.hid (HV7.out.trans hV8)
    have Hpl3:Hid (plA p lo base st=.ok st8 1 0):=by show _=_;rw [Hpl2.out,Hpu.out]
    clear hK8 hV8 HK7 HV7 HR7 Hpu
    go_wp2_with (first | refine wpList_load_row rfl 151 (.tmp 12) rfl _ rfl _ _ _ _ HR8.out.2 Tryz.underlying151 rfl (hIbd _ _) ?_ | refine wpList_store_row rfl 151 (.tmp 6) (.tmp 183) rfl _ #[.int .i64 1,.int .i64 0] rfl rfl _ _ HR8.out.1 (hIbd _ _) rfl (hA2 _ _) ?_)
    obtain⟨k1,k2⟩:=two_cellsV (setRow_heap w8 w.heap.size _ #[.int .i64 1,.int .i64 0] _ _ HR8.out.1)
    refine bodyPost_ret (v:=.agg #[.int .i64 1,.int .i64 0]) (by simp [results,Tryz.results112,go_sem,k1,k2]) rfl ?_
    rw [Hpl3.out]
    exact⟨rfl,_,HK8.out.boxG HR8.out.1 (by decide) (by decide) (by decide) (by decide) HW.out.hB (grownBy_setRow3 _ _ _),HV8.out.boxG (Nat.le_refl _) HW.out.hB (grownBy_setRow3 _ _ _),Nat.le_of_eq hm8⟩
  ·as_aux_lemma=>
    have Hpl2:Hid (plA p lo base st=.ok { st with stk:=rest,locs:=st.locs.set ar.toNat (gV l 0).iv } 1 0):=by show _=_;unfold plA;rw [Ho.out,Hpo.out];(try rw [Har.out]);rfl
    have hpl:(opX 2).pops.length=1:=by decide
    obtain⟨x0,hx0⟩:∃ x,l=[x]:=List.length_eq_one_iff.1 (Hpop.out.2.2.1.trans hpl)
    subst hx0
    obtain⟨ob,hob,-,hob2,hoc⟩:=HL4.out.get (fun _=>rfl) (by decide) ⟨false,⟨0,0⟩⟩ (by rw [hpl];exact Nat.one_pos)
    subst hob
    have x00:w4.cell? ⟨ob,0,none⟩=some (.bool x0.tr):=hoc 0 0 _ (by rw [hpl];exact Nat.one_pos) rfl
    have x01:w4.cell? ⟨ob,1,none⟩=some (.int .i64 x0.iv.lo):=hoc 0 1 _ (by rw [hpl];exact Nat.one_pos) rfl
    have x02:w4.cell? ⟨ob,2,none⟩=some (.int .i64 x0.iv.hi):=hoc 0 2 _ (by rw [hpl];exact Nat.one_pos) rfl
    clear hoc
    have harg:0≤ar∧ar < (n:Int):=by have h1:=Harg.out;have h2:=Har.out;have h3:=HK.out.ok.loc lo Hlo.out (.inr Ho.out);have h4:=Hn.out;omega
    obtain⟨an,han⟩:∃ an:Nat,ar=(an:Int):=⟨ar.toNat,by omega⟩
    subst han
    have han:an < n:=by omega
    have hn16:n≤16:=by have h1:=HK.out.ok.locs;have h4:=Hn.out;omega
    obtain⟨-,-,-,-,-,-,e6,-,-,-,-⟩:=HK4.out.cells
    have f6:=HK4.out.frozen 6
    simp only [] at e6
    have hln:d.ln=n:=(HW.out.ln).trans HS.out.locs.1
    have Hln:=Lib.hid hln
    have hiv:=HK4.out.locs.1
    have HC:=Lib.hid (cloneIv_any d.lA d.ln d.lc st.locs w4 hiv (by omega))
    rw [hln] at HC e6
    have Hpl2:Hid (plA p lo base st=.ok { st with stk:=rest,locs:=st.locs.set an x0.iv } 1 0):=by show _=_;rw [Hpl2.out,Int.toNat_natCast];rfl
    have hgl:=HK4.out.row.lt
    have hobl:=hob2
    clear hln hiv harg
    go_wp2_with fail
    refine HC.out.mono ?_
    rintro e w5 ⟨A5,c5,rfl,ho5,hb5⟩
    obtain⟨ab,hA5,hab1,hab2,hoc5⟩:=ho5.get (fun _=>rfl) (by decide) ⟨0,0⟩ (by omega)
    subst hA5
    have a0:w5.cell? ⟨ab,an * 2,none⟩=some (.int .i64 (gL st.locs an).lo):=hoc5 an 0 _ han rfl
    have a1:w5.cell? ⟨ab,an * 2+1,none⟩=some (.int .i64 (gL st.locs an).hi):=hoc5 an 1 _ han rfl
    have z0:=World.ownsRow.frozenAt ho5 (an * 2)
    have z1:=World.ownsRow.frozenAt ho5 (an * 2+1)
    have r5:=HK4.out.row.below hb5 hgl
    have t6:=cell_rowV r5 (j:=6) rfl
    have ft6:=frozen_rowV' r5 6
    have b1:=(hb5.cell (p:=⟨ob,1,none⟩) hobl).trans x01
    have b2:=(hb5.cell (p:=⟨ob,2,none⟩) hobl).trans x02
    have b8:=(hb5.cell (p:=⟨w.heap.size+1,1,none⟩) l7).trans y8
    have ngb:g≠ab:=by omega
    have ngo:g≠ob:=fun e=>HL4.out.ne_row HK4.out.row (by decide) ob rfl (by rw [e])
    have nao:ab≠ob:=by omega
    have ng7:g≠w.heap.size+1:=by have h1:=HW.out.row.lt;omega
    have na7:ab≠w.heap.size+1:=by omega
    have HO5:=Lib.hid (And.intro ho5 hb5)
    clear ho5 hb5 hoc5 r5 HC e6 f6
    go_wp2_with fail
    go_region
    obtain⟨w7,hw7⟩:∃ w7,w7=((w5.setCell ⟨g,6,none⟩ (.slice (some ⟨ab,0,none⟩) n c5)).setCell ⟨ab,an * 2,none⟩ (.int .i64 x0.iv.lo)).setCell ⟨ab,an * 2+1,none⟩ (.int .i64 x0.iv.hi):=⟨_,rfl⟩
    have hst:=HK4.out.storeL HO5.out.2 (ab:=ab) (c5:=c5) (show OwnS encIv 2 w5 w4.heap.size 148 (some ⟨ab,0,none⟩) d.ln c5 st.locs by rw [Hln.out];exact HO5.out.1) (i:=an) (by show an < d.ln;rw [Hln.out];exact han) x0.iv (w7:=w7) (by show w7=((w5.setCell ⟨g,6,none⟩ (.slice (some ⟨ab,0,none⟩) d.ln c5)).setCell _ _).setCell _ _;rw [Hln.out];exact hw7)
    obtain⟨w8,hw8⟩:∃ w8,w8=w7.drew:=⟨_,rfl⟩
    have HK8:Hid (WK wB.heap.size g mb v w8 { st with stk:=rest,locs:=st.locs.set an x0.iv } { d with sn:=rest.length,lA:=some ⟨ab,0,none⟩,lc:=c5 }):=by rw [hw8];exact hst.1.drewN 1
    have HV8:Hid (KV wB.heap.size g mb d { d with sn:=rest.length,lA:=some ⟨ab,0,none⟩,lc:=c5 } w w8):=by rw [hw8];exact (HV4.out.trans hst.2).drewN 1
    have HR8:Hid (rowV w8 w.heap.size 151 #[.int .i64 0,.int .i64 0]∧rowV w8 w3.heap.size 151 #[.int .i64 1,.int .i64 0]):=by
     rw [hw8]
     exact And.intro (hst.2.row HR4.out.1 (HK4.out.ne_box HR4.out.1 (by decide) (by decide) (by decide))) (hst.2.row HR4.out.2.2 (HK4.out.ne_box HR4.out.2.2 (by decide) (by decide) (by decide)))
    rw [←hw7,←hw8]
    clear hst hw7 hw8 a0 a1 z0 z1 t6 ft6 b1 b2 b8
    go_wp2_with (first | refine wpList_load_row rfl 151 (.tmp 12) rfl _ rfl _ _ _ _ HR8.out.2 Tryz.underlying151 rfl (hIbd _ _) ?_ | refine wpList_store_row rfl 151 (.tmp 6) (.tmp 183) rfl _ #[.int .i64 1,.int .i64 0] rfl rfl _ _ HR8.out.1 (hIbd _ _) rfl (hA2 _ _) ?_)
    obtain⟨k1,k2⟩:=two_cellsV (setRow_heap w8 w.heap.size _ #[.int .i64 1,.int .i64 0] _ _ HR8.out.1)
    refine bodyPost_ret (v:=.agg #[.int .i64 1,.int .i64 0]) (by simp [results,Tryz.results112,go_sem,k1,k2]) rfl ?_
    rw [Hpl2.out]
    exact⟨rfl,_,HK8.out.boxG HR8.out.1 (by decide) (by decide) (by decide) (by decide) HW.out.hB (grownBy_setRow3 _ _ _),HV8.out.boxG (Nat.le_refl _) HW.out.hB (grownBy_setRow3 _ _ _),Nat.le_refl _⟩
  ·as_aux_lemma=>
    have Hpl2:Hid (plA p lo base st=(if (gA p.arrs (gI p.code lo).arg.toNat).size≤(gV l 0).iv.hi then .bad lo 16 else pushA lo { st with stk:=rest } [numV (elemI p lo)] 0)):=by show _=_;unfold plA;rw [Ho.out,Hpo.out];(try rw [Har.out]);rfl
    have hpl:(opX 3).pops.length=1:=by decide
    obtain⟨x0,hx0⟩:∃ x,l=[x]:=List.length_eq_one_iff.1 (Hpop.out.2.2.1.trans hpl)
    subst hx0
    obtain⟨ob,hob,-,hob2,hoc⟩:=HL4.out.get (fun _=>rfl) (by decide) ⟨false,⟨0,0⟩⟩ (by rw [hpl];exact Nat.one_pos)
    subst hob
    have x00:w4.cell? ⟨ob,0,none⟩=some (.bool x0.tr):=hoc 0 0 _ (by rw [hpl];exact Nat.one_pos) rfl
    have x01:w4.cell? ⟨ob,1,none⟩=some (.int .i64 x0.iv.lo):=hoc 0 1 _ (by rw [hpl];exact Nat.one_pos) rfl
    have x02:w4.cell? ⟨ob,2,none⟩=some (.int .i64 x0.iv.hi):=hoc 0 2 _ (by rw [hpl];exact Nat.one_pos) rfl
    clear hoc
    have HEl:=Lib.hid (elementW_any wB g mb v { d with sn:=rest.length } { st with stk:=rest } w4 p P HK.out (Hb.out.trans HV4.out.kw.ki.below) HK4.out lo Hlo.out (.inl Ho.out) x0)
    by_cases hsz:(gA p.arrs (gI p.code lo).arg.toNat).size≤x0.iv.hi
    ·have Hsz:=Lib.hid hsz
     clear hsz
     go_wp2_with fail
     refine HEl.out.mono ?_
     rintro e w5 ⟨he,hb5⟩
     simp only [if_pos Hsz.out] at he
     subst he
     refine⟨rfl,?_⟩
     rw [Hpl2.out]
     have h1:(gA p.arrs (gI p.code lo).arg.toNat).size≤(gV [x0] 0).iv.hi:=Hsz.out
     rw [if_pos h1]
     exact⟨rfl,HV4.out.kw.ki.below.trans (hb5.mono HK4.out.hB)⟩
    ·have Hpl2:Hid (plA p lo base st=pushA lo { st with stk:=rest } [numV (elemI p lo)] 0):=by
      show _=_
      have h1:¬ (gA p.arrs (gI p.code lo).arg.toNat).size≤(gV [x0] 0).iv.hi:=hsz
      rw [Hpl2.out,if_neg h1]
     have Hsz:=Lib.hid hsz
     clear hsz
     go_wp2_with fail
     refine HEl.out.mono ?_
     rintro e w5 ⟨he,hb5⟩
     simp only [if_neg (show ¬ (gA p.arrs (gI p.code lo).arg.toNat).size≤x0.iv.hi from by have h9:=Hsz.out;omega)] at he
     subst he
     have HK5:=Lib.hid (HK4.out.below hb5)
     have HV5:=Lib.hid (HV4.out.trans (KV.of_below (g:=g) (mb:=mb) (d:={ d with sn:=rest.length }) hb5 HK4.out.hB))
     have HR5:=Lib.hid (And.intro (HR4.out.1.below hb5 HR4.out.1.lt) (HR4.out.2.2.below hb5 HR4.out.2.2.lt))
     clear hb5 HEl
     obtain⟨⟨xl,xh⟩,hx⟩:∃ x,x=elemI p lo:=⟨_,rfl⟩
     rw [←hx] at Hpl2 ⊢
     clear hx
     simp only []
     have HX6:=Lib.hid (numeric_any xl xh w5)
     go_wp2_with fail
     refine HX6.out.mono ?_
     rintro e w6 ⟨rfl,hb6⟩
     have HK6:=Lib.hid (HK5.out.below hb6)
     have HV6:=Lib.hid (HV5.out.trans (KV.of_below (g:=g) (mb:=mb) (d:={ d with sn:=rest.length }) hb6 HK5.out.hB))
     have HR6:=Lib.hid (And.intro ((HR5.out.1).below hb6 (HR5.out.1).lt) ((HR5.out.2).below hb6 (HR5.out.2).lt))
     clear hb6 HX6
     have hb7:Below w6.heap.size w6 (w6.alloc (.cells #[.bool false,.int .i64 xl,.int .i64 xh] 242)):=balloc (Below.refl _ _) _
     have HK7:=Lib.hid (HK6.out.below hb7)
     have HV7:=Lib.hid (HV6.out.trans (KV.of_below (g:=g) (mb:=mb) (d:={ d with sn:=rest.length }) hb7 HK6.out.hB))
     have HR7:=Lib.hid (And.intro ((HR6.out.1).below hb7 (HR6.out.1).lt) ((HR6.out.2).below hb7 (HR6.out.2).lt))
     have HPu:=Lib.hid (pushW_any wB.heap.size g mb v { d with sn:=rest.length } { st with stk:=rest } _ HK7.out lo ⟨w6.heap.size,0,none⟩ 1 1 [numV ⟨xl,xh⟩] (vls_one w6 _) (by decide) Hpop.out.1.len Hpop.out.1.hgt 0)
     clear hb7
     go_wp2_with fail
     refine HPu.out.mono ?_
     intro e w8 hr
     clear HPu
     cases hpu:pushA lo { st with stk:=rest } [numV ⟨xl,xh⟩] 0 with
     | bad a x=>
      rw [hpu] at hr
      obtain⟨rfl,hb8⟩:=hr
      refine⟨rfl,?_⟩
      rw [Hpl2.out,hpu]
      exact⟨rfl,HV7.out.kw.ki.below.trans hb8⟩
     | stuck=>rw [hpu] at hr;exact hr.elim
     | ok st8 s8 e8=>
      rw [hpu] at hr
      obtain⟨rfl,d8,hK8,hV8,hm8⟩:=hr
      obtain⟨rfl,rfl,-⟩:=pushA_one hpu
      have HR8:=Lib.hid (And.intro (hV8.row HR7.out.1 (HK7.out.ne_box HR7.out.1 (by decide) (by decide) (by decide))) (hV8.row HR7.out.2 (HK7.out.ne_box HR7.out.2 (by decide) (by decide) (by decide))))
      have HK8:=Lib.hid hK8
      have HV8:=Lib.hid (HV7.out.trans hV8)
      have Hpl3:Hid (plA p lo base st=.ok st8 1 0):=by show _=_;rw [Hpl2.out,hpu]
      clear hK8 hV8 HK7 HV7 HR7 hpu
      go_wp2_with (first | refine wpList_load_row rfl 151 (.tmp 12) rfl _ rfl _ _ _ _ HR8.out.2 Tryz.underlying151 rfl (hIbd _ _) ?_ | refine wpList_store_row rfl 151 (.tmp 6) (.tmp 183) rfl _ #[.int .i64 1,.int .i64 0] rfl rfl _ _ HR8.out.1 (hIbd _ _) rfl (hA2 _ _) ?_)
      obtain⟨k1,k2⟩:=two_cellsV (setRow_heap w8 w.heap.size _ #[.int .i64 1,.int .i64 0] _ _ HR8.out.1)
      refine bodyPost_ret (v:=.agg #[.int .i64 1,.int .i64 0]) (by simp [results,Tryz.results112,go_sem,k1,k2]) rfl ?_
      rw [Hpl3.out]
      exact⟨rfl,_,HK8.out.boxG HR8.out.1 (by decide) (by decide) (by decide) (by decide) HW.out.hB (grownBy_setRow3 _ _ _),HV8.out.boxG (Nat.le_refl _) HW.out.hB (grownBy_setRow3 _ _ _),Nat.le_of_eq hm8⟩
  ·as_aux_lemma=>
    have Hpl2:Hid (plA p lo base st=(if (gA p.arrs (gI p.code lo).arg.toNat).size≤(gV l 0).iv.hi then .bad lo 16 else .ok { st with stk:=rest } 1 0)):=by show _=_;unfold plA;rw [Ho.out,Hpo.out];(try rw [Har.out]);rfl
    have hpl:(opX 4).pops.length=2:=by decide
    obtain⟨x0,x1,hx0⟩:∃ x y,l=[x,y]:=by
     have h:=Hpop.out.2.2.1.trans hpl
     match l,h with
     | [x,y],_=>exact⟨x,y,rfl⟩
    subst hx0
    obtain⟨ob,hob,-,hob2,hoc⟩:=HL4.out.get (fun _=>rfl) (by decide) ⟨false,⟨0,0⟩⟩ (by rw [hpl];exact Nat.two_pos)
    subst hob
    have x00:w4.cell? ⟨ob,0,none⟩=some (.bool x0.tr):=hoc 0 0 _ (by rw [hpl];exact Nat.two_pos) rfl
    have x01:w4.cell? ⟨ob,1,none⟩=some (.int .i64 x0.iv.lo):=hoc 0 1 _ (by rw [hpl];exact Nat.two_pos) rfl
    have x02:w4.cell? ⟨ob,2,none⟩=some (.int .i64 x0.iv.hi):=hoc 0 2 _ (by rw [hpl];exact Nat.two_pos) rfl
    have x10:w4.cell? ⟨ob,3,none⟩=some (.bool x1.tr):=hoc 1 0 _ (by rw [hpl];decide) rfl
    have x11:w4.cell? ⟨ob,4,none⟩=some (.int .i64 x1.iv.lo):=hoc 1 1 _ (by rw [hpl];decide) rfl
    have x12:w4.cell? ⟨ob,5,none⟩=some (.int .i64 x1.iv.hi):=hoc 1 2 _ (by rw [hpl];decide) rfl
    clear hoc
    have HEl:=Lib.hid (elementW_any wB g mb v { d with sn:=rest.length } { st with stk:=rest } w4 p P HK.out (Hb.out.trans HV4.out.kw.ki.below) HK4.out lo Hlo.out (.inr Ho.out) x0)
    by_cases hsz:(gA p.arrs (gI p.code lo).arg.toNat).size≤x0.iv.hi
    ·have Hsz:=Lib.hid hsz
     clear hsz
     go_wp2_with fail
     refine HEl.out.mono ?_
     rintro e w5 ⟨he,hb5⟩
     simp only [if_pos Hsz.out] at he
     subst he
     refine⟨rfl,?_⟩
     rw [Hpl2.out]
     have h1:(gA p.arrs (gI p.code lo).arg.toNat).size≤(gV [x0,x1] 0).iv.hi:=Hsz.out
     rw [if_pos h1]
     exact⟨rfl,HV4.out.kw.ki.below.trans (hb5.mono HK4.out.hB)⟩
    ·have Hpl2:Hid (plA p lo base st=.ok { st with stk:=rest } 1 0):=by
      show _=_
      have h1:¬ (gA p.arrs (gI p.code lo).arg.toNat).size≤(gV [x0,x1] 0).iv.hi:=hsz
      rw [Hpl2.out,if_neg h1]
     have Hsz:=Lib.hid hsz
     clear hsz
     go_wp2_with fail
     refine HEl.out.mono ?_
     rintro e w5 ⟨he,hb5⟩
     simp only [if_neg (show ¬ (gA p.arrs (gI p.code lo).arg.toNat).size≤x0.iv.hi from by have h9:=Hsz.out;omega)] at he
     subst he
     have HK5:=Lib.hid (HK4.out.below hb5)
     have HV5:=Lib.hid (HV4.out.trans (KV.of_below (g:=g) (mb:=mb) (d:={ d with sn:=rest.length }) hb5 HK4.out.hB))
     have HR5:=Lib.hid (And.intro (HR4.out.1.below hb5 HR4.out.1.lt) (HR4.out.2.2.below hb5 HR4.out.2.2.lt))
     clear hb5 HEl
     go_wp2_with (first | refine wpList_load_row rfl 151 (.tmp 12) rfl _ rfl _ _ _ _ HR5.out.2 Tryz.underlying151 rfl (hIbd _ _) ?_ | refine wpList_store_row rfl 151 (.tmp 6) (.tmp 183) rfl _ #[.int .i64 1,.int .i64 0] rfl rfl _ _ HR5.out.1 (hIbd _ _) rfl (hA2 _ _) ?_)
     obtain⟨k1,k2⟩:=two_cellsV (setRow_heap w5 w.heap.size _ #[.int .i64 1,.int .i64 0] _ _ HR5.out.1)
     refine bodyPost_ret (v:=.agg #[.int .i64 1,.int .i64 0]) (by simp [results,Tryz.results112,go_sem,k1,k2]) rfl ?_
     rw [Hpl2.out]
     exact⟨rfl,_,HK5.out.boxG HR5.out.1 (by decide) (by decide) (by decide) (by decide) HW.out.hB (grownBy_setRow3 _ _ _),HV5.out.boxG (Nat.le_refl _) HW.out.hB (grownBy_setRow3 _ _ _),Nat.le_refl _⟩
  ·have Hpl2:Hid (plA p lo base st=pushA lo { st with stk:=rest } [gV l 0,gV l 0] 0):=by show _=_;unfold plA;rw [Ho.out,Hpo.out];(try rw [Har.out]);rfl
   have hpl:(opX 5).pops.length=1:=by decide
   obtain⟨x0,hx0⟩:∃ x,l=[x]:=List.length_eq_one_iff.1 (Hpop.out.2.2.1.trans hpl)
   subst hx0
   obtain⟨ob,hob,-,hob2,hoc⟩:=HL4.out.get (fun _=>rfl) (by decide) ⟨false,⟨0,0⟩⟩ (by rw [hpl];exact Nat.one_pos)
   subst hob
   have x00:w4.cell? ⟨ob,0,none⟩=some (.bool x0.tr):=hoc 0 0 _ (by rw [hpl];exact Nat.one_pos) rfl
   have x01:w4.cell? ⟨ob,1,none⟩=some (.int .i64 x0.iv.lo):=hoc 0 1 _ (by rw [hpl];exact Nat.one_pos) rfl
   have x02:w4.cell? ⟨ob,2,none⟩=some (.int .i64 x0.iv.hi):=hoc 0 2 _ (by rw [hpl];exact Nat.one_pos) rfl
   clear hoc
   have Hpl2:Hid (plA p lo base st=pushA lo { st with stk:=rest } [x0,x0] 0):=Hpl2
   go_upto_region 23 with fail
   have hb7:Below w4.drew.heap.size w4.drew (w4.drew.alloc (.cells #[.bool x0.tr,.int .i64 x0.iv.lo,.int .i64 x0.iv.hi,.bool x0.tr,.int .i64 x0.iv.lo,.int .i64 x0.iv.hi] 242)):=balloc (Below.refl _ _) _
   have HK7:=Lib.hid ((HK4.out.drewN 1).below hb7)
   have HV7:=Lib.hid ((HV4.out.drewN 1).trans (KV.of_below (g:=g) (mb:=mb) (d:={ d with sn:=rest.length }) hb7 (HK4.out.drewN 1).hB))
   have HR7:=Lib.hid (And.intro (((show rowV w4.drew _ _ _ from HR4.out.1)).below hb7 ((show rowV w4.drew _ _ _ from HR4.out.1)).lt) (((show rowV w4.drew _ _ _ from HR4.out.2.2)).below hb7 ((show rowV w4.drew _ _ _ from HR4.out.2.2)).lt))
   have HPu:=Lib.hid (pushW_any wB.heap.size g mb v { d with sn:=rest.length } { st with stk:=rest } _ HK7.out lo ⟨w4.drew.heap.size,0,none⟩ 2 2 [x0,x0] (vls_two w4.drew _ _) (by decide) Hpop.out.1.len Hpop.out.1.hgt 0)
   clear hb7
   go_region_with (first | (go_at_call 146;refine HPu.out.mono ?_;intro e w8 hr;rcases push_two lo { st with stk:=rest } [x0,x0] 0 with ⟨a,x,hpu⟩ | ⟨st8,s8,e8,hpu⟩;(focus (rw [hpu] at hr;obtain⟨rfl,hb8⟩:=hr;refine⟨rfl,?_⟩;rw [Hpl2.out,hpu];exact⟨rfl,HV7.out.kw.ki.below.trans hb8⟩));rw [hpu] at hr;obtain⟨rfl,d8,hK8,hV8,hm8⟩:=hr;obtain⟨rfl,rfl,-⟩:=pushA_one hpu;have Hpu:=Lib.hid hpu;clear hpu))
   all_goals
    have HR8:=Lib.hid (And.intro (hV8.row HR7.out.1 (HK7.out.ne_box HR7.out.1 (by decide) (by decide) (by decide))) (hV8.row HR7.out.2 (HK7.out.ne_box HR7.out.2 (by decide) (by decide) (by decide))))
    have HK8:=Lib.hid hK8
    have HV8:=Lib.hid (HV7.out.trans hV8)
    have Hpl3:Hid (plA p lo base st=.ok st8 1 0):=by show _=_;rw [Hpl2.out,Hpu.out]
    clear hK8 hV8 HK7 HV7 HR7 Hpu
    go_wp2_with (first | refine wpList_load_row rfl 151 (.tmp 12) rfl _ rfl _ _ _ _ HR8.out.2 Tryz.underlying151 rfl (hIbd _ _) ?_ | refine wpList_store_row rfl 151 (.tmp 6) (.tmp 183) rfl _ #[.int .i64 1,.int .i64 0] rfl rfl _ _ HR8.out.1 (hIbd _ _) rfl (hA2 _ _) ?_)
    obtain⟨k1,k2⟩:=two_cellsV (setRow_heap w8 w.heap.size _ #[.int .i64 1,.int .i64 0] _ _ HR8.out.1)
    refine bodyPost_ret (v:=.agg #[.int .i64 1,.int .i64 0]) (by simp [results,Tryz.results112,go_sem,k1,k2]) rfl ?_
    rw [Hpl3.out]
    exact⟨rfl,_,HK8.out.boxG HR8.out.1 (by decide) (by decide) (by decide) (by decide) HW.out.hB (grownBy_setRow3 _ _ _),HV8.out.boxG (Nat.le_refl _) HW.out.hB (grownBy_setRow3 _ _ _),Nat.le_of_eq hm8⟩
  ·as_aux_lemma=>
    have Hpl2:Hid (plA p lo base st=.ok { st with stk:=rest } 1 0):=by show _=_;unfold plA;rw [Ho.out,Hpo.out];(try rw [Har.out]);rfl
    go_wp2_with (first | refine wpList_load_row rfl 151 (.tmp 12) rfl _ rfl _ _ _ _ HR4.out.2.2 Tryz.underlying151 rfl (hIbd _ _) ?_ | refine wpList_store_row rfl 151 (.tmp 6) (.tmp 183) rfl _ #[.int .i64 1,.int .i64 0] rfl rfl _ _ HR4.out.1 (hIbd _ _) rfl (hA2 _ _) ?_)
    obtain⟨k1,k2⟩:=two_cellsV (setRow_heap w4 w.heap.size _ #[.int .i64 1,.int .i64 0] _ _ HR4.out.1)
    refine bodyPost_ret (v:=.agg #[.int .i64 1,.int .i64 0]) (by simp [results,Tryz.results112,go_sem,k1,k2]) rfl ?_
    rw [Hpl2.out]
    exact⟨rfl,_,HK4.out.boxG HR4.out.1 (by decide) (by decide) (by decide) (by decide) HW.out.hB (grownBy_setRow3 _ _ _),HV4.out.boxG (Nat.le_refl _) HW.out.hB (grownBy_setRow3 _ _ _),Nat.le_refl _⟩
  ·have Hpl2:Hid (plA p lo base st=pushA lo { st with stk:=rest } [gV l 1,gV l 0] 0):=by show _=_;unfold plA;rw [Ho.out,Hpo.out];(try rw [Har.out]);rfl
   have hpl:(opX 7).pops.length=2:=by decide
   obtain⟨x0,x1,hx0⟩:∃ x y,l=[x,y]:=by
    have h:=Hpop.out.2.2.1.trans hpl
    match l,h with
    | [x,y],_=>exact⟨x,y,rfl⟩
   subst hx0
   obtain⟨ob,hob,-,hob2,hoc⟩:=HL4.out.get (fun _=>rfl) (by decide) ⟨false,⟨0,0⟩⟩ (by rw [hpl];exact Nat.two_pos)
   subst hob
   have x00:w4.cell? ⟨ob,0,none⟩=some (.bool x0.tr):=hoc 0 0 _ (by rw [hpl];exact Nat.two_pos) rfl
   have x01:w4.cell? ⟨ob,1,none⟩=some (.int .i64 x0.iv.lo):=hoc 0 1 _ (by rw [hpl];exact Nat.two_pos) rfl
   have x02:w4.cell? ⟨ob,2,none⟩=some (.int .i64 x0.iv.hi):=hoc 0 2 _ (by rw [hpl];exact Nat.two_pos) rfl
   have x10:w4.cell? ⟨ob,3,none⟩=some (.bool x1.tr):=hoc 1 0 _ (by rw [hpl];decide) rfl
   have x11:w4.cell? ⟨ob,4,none⟩=some (.int .i64 x1.iv.lo):=hoc 1 1 _ (by rw [hpl];decide) rfl
   have x12:w4.cell? ⟨ob,5,none⟩=some (.int .i64 x1.iv.hi):=hoc 1 2 _ (by rw [hpl];decide) rfl
   clear hoc
   have Hpl2:Hid (plA p lo base st=pushA lo { st with stk:=rest } [x1,x0] 0):=Hpl2
   go_upto_region 25 with fail
   have hb7:Below w4.drew.heap.size w4.drew (w4.drew.alloc (.cells #[.bool x1.tr,.int .i64 x1.iv.lo,.int .i64 x1.iv.hi,.bool x0.tr,.int .i64 x0.iv.lo,.int .i64 x0.iv.hi] 242)):=balloc (Below.refl _ _) _
   have HK7:=Lib.hid ((HK4.out.drewN 1).below hb7)
   have HV7:=Lib.hid ((HV4.out.drewN 1).trans (KV.of_below (g:=g) (mb:=mb) (d:={ d with sn:=rest.length }) hb7 (HK4.out.drewN 1).hB))
   have HR7:=Lib.hid (And.intro (((show rowV w4.drew _ _ _ from HR4.out.1)).below hb7 ((show rowV w4.drew _ _ _ from HR4.out.1)).lt) (((show rowV w4.drew _ _ _ from HR4.out.2.2)).below hb7 ((show rowV w4.drew _ _ _ from HR4.out.2.2)).lt))
   have HPu:=Lib.hid (pushW_any wB.heap.size g mb v { d with sn:=rest.length } { st with stk:=rest } _ HK7.out lo ⟨w4.drew.heap.size,0,none⟩ 2 2 [x1,x0] (vls_two w4.drew _ _) (by decide) Hpop.out.1.len Hpop.out.1.hgt 0)
   clear hb7
   go_region_with (first | (go_at_call 146;refine HPu.out.mono ?_;intro e w8 hr;rcases push_two lo { st with stk:=rest } [x1,x0] 0 with ⟨a,x,hpu⟩ | ⟨st8,s8,e8,hpu⟩;(focus (rw [hpu] at hr;obtain⟨rfl,hb8⟩:=hr;refine⟨rfl,?_⟩;rw [Hpl2.out,hpu];exact⟨rfl,HV7.out.kw.ki.below.trans hb8⟩));rw [hpu] at hr;obtain⟨rfl,d8,hK8,hV8,hm8⟩:=hr;obtain⟨rfl,rfl,-⟩:=pushA_one hpu;have Hpu:=Lib.hid hpu;clear hpu))
   all_goals
    have HR8:=Lib.hid (And.intro (hV8.row HR7.out.1 (HK7.out.ne_box HR7.out.1 (by decide) (by decide) (by decide))) (hV8.row HR7.out.2 (HK7.out.ne_box HR7.out.2 (by decide) (by decide) (by decide))))
    have HK8:=Lib.hid hK8
    have HV8:=Lib.hid (HV7.out.trans hV8)
    have Hpl3:Hid (plA p lo base st=.ok st8 1 0):=by show _=_;rw [Hpl2.out,Hpu.out]
    clear hK8 hV8 HK7 HV7 HR7 Hpu
    go_wp2_with (first | refine wpList_load_row rfl 151 (.tmp 12) rfl _ rfl _ _ _ _ HR8.out.2 Tryz.underlying151 rfl (hIbd _ _) ?_ | refine wpList_store_row rfl 151 (.tmp 6) (.tmp 183) rfl _ #[.int .i64 1,.int .i64 0] rfl rfl _ _ HR8.out.1 (hIbd _ _) rfl (hA2 _ _) ?_)
    obtain⟨k1,k2⟩:=two_cellsV (setRow_heap w8 w.heap.size _ #[.int .i64 1,.int .i64 0] _ _ HR8.out.1)
    refine bodyPost_ret (v:=.agg #[.int .i64 1,.int .i64 0]) (by simp [results,Tryz.results112,go_sem,k1,k2]) rfl ?_
    rw [Hpl3.out]
    exact⟨rfl,_,HK8.out.boxG HR8.out.1 (by decide) (by decide) (by decide) (by decide) HW.out.hB (grownBy_setRow3 _ _ _),HV8.out.boxG (Nat.le_refl _) HW.out.hB (grownBy_setRow3 _ _ _),Nat.le_of_eq hm8⟩
  ·as_aux_lemma=>
    have Hpl2:Hid (plA p lo base st=pushA lo { st with stk:=rest } [numV ⟨0,1⟩] 0):=by show _=_;unfold plA;rw [Ho.out,Hpo.out];(try rw [Har.out]);rfl
    have HX6:=Lib.hid (numeric_any 0 1 w4)
    go_wp2_with fail
    refine HX6.out.mono ?_
    rintro e w6 ⟨rfl,hb6⟩
    have HK6:=Lib.hid (HK4.out.below hb6)
    have HV6:=Lib.hid (HV4.out.trans (KV.of_below (g:=g) (mb:=mb) (d:={ d with sn:=rest.length }) hb6 HK4.out.hB))
    have HR6:=Lib.hid (And.intro ((HR4.out.1).below hb6 (HR4.out.1).lt) ((HR4.out.2.2).below hb6 (HR4.out.2.2).lt))
    clear hb6 HX6
    have hb7:Below w6.heap.size w6 (w6.alloc (.cells #[.bool false,.int .i64 0,.int .i64 1] 242)):=balloc (Below.refl _ _) _
    have HK7:=Lib.hid (HK6.out.below hb7)
    have HV7:=Lib.hid (HV6.out.trans (KV.of_below (g:=g) (mb:=mb) (d:={ d with sn:=rest.length }) hb7 HK6.out.hB))
    have HR7:=Lib.hid (And.intro ((HR6.out.1).below hb7 (HR6.out.1).lt) ((HR6.out.2).below hb7 (HR6.out.2).lt))
    have HPu:=Lib.hid (pushW_any wB.heap.size g mb v { d with sn:=rest.length } { st with stk:=rest } _ HK7.out lo ⟨w6.heap.size,0,none⟩ 1 1 [numV ⟨0,1⟩] (vls_one w6 _) (by decide) Hpop.out.1.len Hpop.out.1.hgt 0)
    clear hb7
    go_wp2_with fail
    refine HPu.out.mono ?_
    intro e w8 hr
    clear HPu
    cases hpu:pushA lo { st with stk:=rest } [numV ⟨0,1⟩] 0 with
    | bad a x=>
     rw [hpu] at hr
     obtain⟨rfl,hb8⟩:=hr
     refine⟨rfl,?_⟩
     rw [Hpl2.out,hpu]
     exact⟨rfl,HV7.out.kw.ki.below.trans hb8⟩
    | stuck=>rw [hpu] at hr;exact hr.elim
    | ok st8 s8 e8=>
     rw [hpu] at hr
     obtain⟨rfl,d8,hK8,hV8,hm8⟩:=hr
     obtain⟨rfl,rfl,-⟩:=pushA_one hpu
     have HR8:=Lib.hid (And.intro (hV8.row HR7.out.1 (HK7.out.ne_box HR7.out.1 (by decide) (by decide) (by decide))) (hV8.row HR7.out.2 (HK7.out.ne_box HR7.out.2 (by decide) (by decide) (by decide))))
     have HK8:=Lib.hid hK8
     have HV8:=Lib.hid (HV7.out.trans hV8)
     have Hpl3:Hid (plA p lo base st=.ok st8 1 0):=by show _=_;rw [Hpl2.out,hpu]
     clear hK8 hV8 HK7 HV7 HR7 hpu
     go_wp2_with (first | refine wpList_load_row rfl 151 (.tmp 12) rfl _ rfl _ _ _ _ HR8.out.2 Tryz.underlying151 rfl (hIbd _ _) ?_ | refine wpList_store_row rfl 151 (.tmp 6) (.tmp 183) rfl _ #[.int .i64 1,.int .i64 0] rfl rfl _ _ HR8.out.1 (hIbd _ _) rfl (hA2 _ _) ?_)
     obtain⟨k1,k2⟩:=two_cellsV (setRow_heap w8 w.heap.size _ #[.int .i64 1,.int .i64 0] _ _ HR8.out.1)
     refine bodyPost_ret (v:=.agg #[.int .i64 1,.int .i64 0]) (by simp [results,Tryz.results112,go_sem,k1,k2]) rfl ?_
     rw [Hpl3.out]
     exact⟨rfl,_,HK8.out.boxG HR8.out.1 (by decide) (by decide) (by decide) (by decide) HW.out.hB (grownBy_setRow3 _ _ _),HV8.out.boxG (Nat.le_refl _) HW.out.hB (grownBy_setRow3 _ _ _),Nat.le_of_eq hm8⟩
  ·as_aux_lemma=>
    have Hpl2:Hid (plA p lo base st=pushA lo { st with stk:=rest } [numV ivFull] 0):=by show _=_;unfold plA;rw [Ho.out,Hpo.out];(try rw [Har.out]);rfl
    have HX5:=Lib.hid (full_any w4)
    go_wp2_with fail
    refine HX5.out.mono ?_
    rintro e w5 ⟨rfl,hb5⟩
    have HK5:=Lib.hid (HK4.out.below hb5)
    have HV5:=Lib.hid (HV4.out.trans (KV.of_below (g:=g) (mb:=mb) (d:={ d with sn:=rest.length }) hb5 HK4.out.hB))
    have HR5:=Lib.hid (And.intro ((HR4.out.1).below hb5 (HR4.out.1).lt) ((HR4.out.2.2).below hb5 (HR4.out.2.2).lt))
    clear hb5 HX5
    have HX6:=Lib.hid (numeric_any 0 4294967295 w5)
    go_wp2_with fail
    refine HX6.out.mono ?_
    rintro e w6 ⟨rfl,hb6⟩
    have HK6:=Lib.hid (HK5.out.below hb6)
    have HV6:=Lib.hid (HV5.out.trans (KV.of_below (g:=g) (mb:=mb) (d:={ d with sn:=rest.length }) hb6 HK5.out.hB))
    have HR6:=Lib.hid (And.intro ((HR5.out.1).below hb6 (HR5.out.1).lt) ((HR5.out.2).below hb6 (HR5.out.2).lt))
    clear hb6 HX6
    have hb7:Below w6.heap.size w6 (w6.alloc (.cells #[.bool false,.int .i64 0,.int .i64 4294967295] 242)):=balloc (Below.refl _ _) _
    have HK7:=Lib.hid (HK6.out.below hb7)
    have HV7:=Lib.hid (HV6.out.trans (KV.of_below (g:=g) (mb:=mb) (d:={ d with sn:=rest.length }) hb7 HK6.out.hB))
    have HR7:=Lib.hid (And.intro ((HR6.out.1).below hb7 (HR6.out.1).lt) ((HR6.out.2).below hb7 (HR6.out.2).lt))
    have HPu:=Lib.hid (pushW_any wB.heap.size g mb v { d with sn:=rest.length } { st with stk:=rest } _ HK7.out lo ⟨w6.heap.size,0,none⟩ 1 1 [numV ivFull] (vls_one w6 _) (by decide) Hpop.out.1.len Hpop.out.1.hgt 0)
    clear hb7
    go_wp2_with fail
    refine HPu.out.mono ?_
    intro e w8 hr
    clear HPu
    cases hpu:pushA lo { st with stk:=rest } [numV ivFull] 0 with
    | bad a x=>
     rw [hpu] at hr
     obtain⟨rfl,hb8⟩:=hr
     refine⟨rfl,?_⟩
     rw [Hpl2.out,hpu]
     exact⟨rfl,HV7.out.kw.ki.below.trans hb8⟩
    | stuck=>rw [hpu] at hr;exact hr.elim
    | ok st8 s8 e8=>
     rw [hpu] at hr
     obtain⟨rfl,d8,hK8,hV8,hm8⟩:=hr
     obtain⟨rfl,rfl,-⟩:=pushA_one hpu
     have HR8:=Lib.hid (And.intro (hV8.row HR7.out.1 (HK7.out.ne_box HR7.out.1 (by decide) (by decide) (by decide))) (hV8.row HR7.out.2 (HK7.out.ne_box HR7.out.2 (by decide) (by decide) (by decide))))
     have HK8:=Lib.hid hK8
     have HV8:=Lib.hid (HV7.out.trans hV8)
     have Hpl3:Hid (plA p lo base st=.ok st8 1 0):=by show _=_;rw [Hpl2.out,hpu]
     clear hK8 hV8 HK7 HV7 HR7 hpu
     go_wp2_with (first | refine wpList_load_row rfl 151 (.tmp 12) rfl _ rfl _ _ _ _ HR8.out.2 Tryz.underlying151 rfl (hIbd _ _) ?_ | refine wpList_store_row rfl 151 (.tmp 6) (.tmp 183) rfl _ #[.int .i64 1,.int .i64 0] rfl rfl _ _ HR8.out.1 (hIbd _ _) rfl (hA2 _ _) ?_)
     obtain⟨k1,k2⟩:=two_cellsV (setRow_heap w8 w.heap.size _ #[.int .i64 1,.int .i64 0] _ _ HR8.out.1)
     refine bodyPost_ret (v:=.agg #[.int .i64 1,.int .i64 0]) (by simp [results,Tryz.results112,go_sem,k1,k2]) rfl ?_
     rw [Hpl3.out]
     exact⟨rfl,_,HK8.out.boxG HR8.out.1 (by decide) (by decide) (by decide) (by decide) HW.out.hB (grownBy_setRow3 _ _ _),HV8.out.boxG (Nat.le_refl _) HW.out.hB (grownBy_setRow3 _ _ _),Nat.le_of_eq hm8⟩
  ·as_aux_lemma=>
    have Hpl2:Hid (plA p lo base st=.ok { st with stk:=rest } 1 1):=by show _=_;unfold plA;rw [Ho.out,Hpo.out];(try rw [Har.out]);rfl
    have x12:=(two_cellsV HR4.out.2.2).2
    have f12:=frozen_rowV' HR4.out.2.2 1
    have g5:w4.grownBy (w4.setCell ⟨w3.heap.size,1,none⟩ (.int .i64 1)) (some w3.heap.size):=grownBy.setCell' (World.grownBy.refl _ _) _
    have hsB:wB.heap.size≤w3.heap.size:=Nat.le_trans HW.out.hB hs3
    have HK5:=Lib.hid (HK4.out.boxG HR4.out.2.2 (by decide) (by decide) (by decide) (by decide) hsB g5)
    have HV5:=Lib.hid (HV4.out.boxG hs3 HW.out.hB g5)
    have hne:w.heap.size≠w3.heap.size:=Nat.ne_of_lt hs3'
    have HR5:=Lib.hid (And.intro (HR4.out.1.setFar (p:=⟨w3.heap.size,1,none⟩) hne (.int .i64 1)) (show rowV (w4.setCell ⟨w3.heap.size,1,none⟩ (.int .i64 1)) w3.heap.size 151 #[.int .i64 1,.int .i64 1] from HR4.out.2.2.set 1 (.int .i64 1)))
    clear g5
    go_wp2_with (first | refine wpList_load_row rfl 151 (.tmp 12) rfl _ rfl _ _ _ _ HR5.out.2 Tryz.underlying151 rfl (hIbd _ _) ?_ | refine wpList_store_row rfl 151 (.tmp 6) (.tmp 183) rfl _ #[.int .i64 1,.int .i64 1] rfl rfl _ _ HR5.out.1 (hIbd _ _) rfl (hA2 _ _) ?_)
    obtain⟨k1,k2⟩:=two_cellsV (setRow_heap (w4.setCell ⟨w3.heap.size,1,none⟩ (.int .i64 1)) w.heap.size _ #[.int .i64 1,.int .i64 1] _ _ HR5.out.1)
    refine bodyPost_ret (v:=.agg #[.int .i64 1,.int .i64 1]) (by simp [results,Tryz.results112,go_sem,k1,k2]) rfl ?_
    rw [Hpl2.out]
    exact⟨rfl,_,HK5.out.boxG HR5.out.1 (by decide) (by decide) (by decide) (by decide) HW.out.hB (grownBy_setRow3 _ _ _),HV5.out.boxG (Nat.le_refl _) HW.out.hB (grownBy_setRow3 _ _ _),Nat.le_refl _⟩
  ·as_aux_lemma=>
    have Hpl2:Hid (plA p lo base st=.ok { st with stk:=rest } 1 0):=by show _=_;unfold plA;rw [Ho.out,Hpo.out];(try rw [Har.out]);rfl
    go_wp2_with (first | refine wpList_load_row rfl 151 (.tmp 12) rfl _ rfl _ _ _ _ HR4.out.2.2 Tryz.underlying151 rfl (hIbd _ _) ?_ | refine wpList_store_row rfl 151 (.tmp 6) (.tmp 183) rfl _ #[.int .i64 1,.int .i64 0] rfl rfl _ _ HR4.out.1 (hIbd _ _) rfl (hA2 _ _) ?_)
    obtain⟨k1,k2⟩:=two_cellsV (setRow_heap w4 w.heap.size _ #[.int .i64 1,.int .i64 0] _ _ HR4.out.1)
    refine bodyPost_ret (v:=.agg #[.int .i64 1,.int .i64 0]) (by simp [results,Tryz.results112,go_sem,k1,k2]) rfl ?_
    rw [Hpl2.out]
    exact⟨rfl,_,HK4.out.boxG HR4.out.1 (by decide) (by decide) (by decide) (by decide) HW.out.hB (grownBy_setRow3 _ _ _),HV4.out.boxG (Nat.le_refl _) HW.out.hB (grownBy_setRow3 _ _ _),Nat.le_refl _⟩
end Go.Proofs.YtpaplehcafeeaaaGreatDoor
