/- Mf Mg. -/
import Derived.Test.YtepoclhdklgnhaaGreatDoorRC38
import Derived.Test.YtepoclhdklgnhaaGreatDoorRC39
set_option maxRecDepth 100000
set_option maxHeartbeats 40000000
set_option linter.unusedVariables false
set_option linter.unusedSimpArgs false
namespace Go.Proofs.YtepoclhdklgnhaaGreatDoor
open Go.RowKit Go.Proofs
def sAV:List UInt8:=[108,111,99,97,108,32,105,32,108,111,99,97,108,32,115,32,112,117,115,104,32,49,48,32,108,111,111,112,32,108,111,97,100,32,115,32,108,111,97,100,32,105,32,97,100,100,32,112,117,115,104,32,50,53,53,32,97,110,100,32,115,116,111,114,101,32,115,32,108,111,97,100,32,105,32,112,117,115,104,32,49,32,97,100,100,32,112,117,115,104,32,49,53,32,97,110,100,32,115,116,111,114,101,32,105,32,101,110,100]
def sBV:List UInt8:=[119,111,114,100,115,32,119,32,56,32,112,117,115,104,32,52,32,112,117,115,104,32,48,32,105,110,112,117,116,32,112,117,115,104,32,56,32,109,105,110,32,103,101,116,32,119]
def sCV:List UInt8:=[119,111,114,100,115,32,119,32,56,32,112,117,115,104,32,52,32,112,117,115,104,32,48,32,105,110,112,117,116,32,112,117,115,104,32,55,32,109,105,110,32,103,101,116,32,119]
def sDV:List UInt8:=[105,110,112,117,116,32,108,111,111,112,32,101,110,100]
def okQ:AR→Prg→Bool
 | .bad _ _,_=>false
 | .ok s _,p=>decide (s.arrs=p.arrs) && decide ((s.ln.length:Int)=p.locs) && decide (s.code=p.code)
theorem okQ.eq{r:AR}{p:Prg}(h:okQ r p=true):∃ s q,r=.ok s q∧prgOf s=p:=by
 cases r with
 | bad a e=>simp [okQ] at h
 | ok s q=>
  simp [okQ] at h
  obtain⟨⟨h1,h2⟩,h3⟩:=h
  obtain⟨pa,pl,pc⟩:=p
  simp only [] at h1 h2 h3
  exact⟨s,q,rfl,by unfold prgOf;rw [h1,h2,h3]⟩
def okS(src:List UInt8)(p:Prg):Bool:=okQ (readL src) p && okA src
def badR:RR→Nat→Int→Bool
 | .bad a e,b,f=>decide (a=b) && decide (e=f)
 | _,_,_=>false
theorem badR.eq{r:RR}{b:Nat}{f:Int}(h:badR r b f=true):r=.bad b f:=by
 cases r with
 | bad a e=>simp [badR] at h;rw [h.1,h.2]
 | ok s=>simp [badR] at h
 | stuck=>simp [badR] at h
def okR:RR→Rp→Bool
 | .ok r,s=>decide (r=s)
 | _,_=>false
theorem okR.eq{r:RR}{s:Rp}(h:okR r s=true):r=.ok s:=by
 cases r with
 | bad a e=>simp [okR] at h
 | ok s=>simp [okR] at h;rw [h]
 | stuck=>simp [okR] at h
def exA:Prg:=⟨[],2,[⟨0,10⟩,⟨29,0⟩,⟨1,1⟩,⟨1,0⟩,⟨8,0⟩,⟨0,255⟩,⟨13,0⟩,⟨2,1⟩,⟨1,0⟩,⟨0,1⟩,⟨8,0⟩,⟨0,15⟩,⟨13,0⟩,⟨2,0⟩,⟨31,0⟩]⟩
def exB:Prg:=⟨[⟨true,8⟩],0,[⟨0,4⟩,⟨0,0⟩,⟨32,0⟩,⟨0,8⟩,⟨18,0⟩,⟨3,0⟩]⟩
def exC:Prg:=⟨[⟨true,8⟩],0,[⟨0,4⟩,⟨0,0⟩,⟨32,0⟩,⟨0,7⟩,⟨18,0⟩,⟨3,0⟩]⟩
def exD:Prg:=⟨[],0,[⟨32,0⟩,⟨29,0⟩,⟨31,0⟩]⟩
def rpA:Rp:=⟨132,0,2,[⟨1,10,[⟨0,255⟩,⟨0,255⟩]⟩]⟩
theorem rdxA:okS sAV exA=true:=by decide +kernel
theorem rdxB:okS sBV exB=true:=by decide +kernel
theorem rdxC:okS sCV exC=true:=by decide +kernel
theorem rdxD:okS sDV exD=true:=by decide +kernel
theorem vrA:okR (verP exA) rpA=true:=by decide +kernel
theorem vrB:badR (verP exB) 5 16=true:=by decide +kernel
theorem vrC:badR (verP exC) 6 14=true:=by decide +kernel
theorem vrD:badR (verP exD) 1 18=true:=by decide +kernel
theorem cnA:conP exA rpA=(0,0):=by decide +kernel
theorem asmP_any(src:List UInt8)(p:Prg)(w:World)(hr:okS src p=true)(hs:src.length≤100000000)(hE:ErrR w):Calls Tryz.prog 25 #[.string (strB src)] w fun e w'=>∃ A n c A' n' c',e=.returned (.tuple #[.agg #[.slice A n c,.int .i64 p.locs,.slice A' n' c'],.int .i64 0,.int .i64 0])∧Progs w' A n c p.locs A' n' c' p∧Below w.heap.size w w':=by
 unfold okS at hr
 rw [Bool.and_eq_true] at hr
 have hG:=hr.2
 obtain⟨s,q,hr,hp⟩:=okQ.eq hr.1
 have h:=assemble_good src w hG hE
 rw [hr] at h
 refine h.mono ?_
 rintro e w' ⟨A,n,c,A',n',c',rfl,hpr,hb⟩
 rw [hp] at hpr
 have hl:(s.ln.length:Int)=p.locs:=by rw [←hp];rfl
 rw [hl] at hpr ⊢
 exact⟨A,n,c,A',n',c',rfl,hpr,hb⟩
theorem fails20_any(src:List UInt8)(p:Prg)(a:Nat)(er:Int)(w:World)(hr:okS src p=true)(hv:badR (verP p) a er=true)(hs:src.length≤100000000)(hE:ErrR w):Calls Tryz.prog 26 #[.string (strB src),.int .i64 (a:Int),.int .i64 er] w fun e w'=>e=.returned (.bool true)∧Below w.heap.size w w':=by
 have HR:=Lib.hid (asmP_any src p w hr hs hE)
 have HV:=Lib.hid (badR.eq hv)
 clear hr hv hs hE
 go_enter Tryz.func26,Tryz.ntmps26
 go_wp2_with fail
 refine HR.out.mono ?_
 rintro e w1 ⟨A,n,c,A',n',c',rfl,hp,hb1⟩
 obtain⟨w2,hw2⟩:∃ x,x=w1.alloc (.cells #[.slice A n c,.int .i64 p.locs,.slice A' n' c'] 25):=⟨_,rfl⟩
 have k2:Below w1.heap.size w1 w2:=by rw [hw2];exact balloc (Below.refl _ _) _
 have r2:rowV w2 w1.heap.size 25 #[.slice A n c,.int .i64 p.locs,.slice A' n' c']:=by rw [hw2];exact rowV.new w1 _ _
 obtain⟨c0,c1,c2⟩:=three_cellsV r2
 have HVe:=verifyW_any A A' n c n' c' p.locs p w2 (hp.below k2)
 rw [HV.out] at HVe
 have HVe:=Lib.hid HVe
 have HB:=Lib.hid (hb1.trans (k2.mono hb1.size))
 have Hw2:=Lib.hid hw2
 clear hp k2 r2 hb1 hw2 HR
 go_upto_region 2 with fail
 rw [←Hw2.out]
 go_wp2_with fail
 refine HVe.out.mono ?_
 intro e w3 hr
 obtain⟨rfl,hb3⟩:=hr
 have HN:=Lib.hid (balloc (HB.out.trans (hb3.mono HB.out.size)) (.cells #[.int .i64 0,.int .i64 0,.int .i64 0,.slice none 0 0] 35))
 clear hb3 HVe c0 c1 c2
 go_wp2_with fail
 go_ret
 exact⟨rfl,HN.out⟩
theorem want_any{w:World}{g b c c':Nat}(h1:rowV w g 50 #[.int .i64 1,.int .i64 10,.slice (some ⟨b,0,none⟩) 2 c'])(h2:rowV w b 55 #[.int .i64 0,.int .i64 255,.int .i64 0,.int .i64 255])(hc:1≤c)(hc':2≤c'):Invs w (some ⟨g,0,none⟩) 1 c rpA.inv:=by
 obtain⟨x0,x1,x2⟩:=three_cellsV h1
 obtain⟨y0,y1,y2,y3⟩:=four_cellsV h2
 refine⟨rfl,hc,fun _=>⟨g,0,rfl,h1.lt,fun i hi=>?_⟩⟩
 obtain rfl:i=0:=by omega
 refine⟨x0,x1,some ⟨b,0,none⟩,c',x2,rfl,hc',fun _=>⟨b,0,rfl,h2.lt,fun j hj=>?_⟩⟩
 have hj2:j < 2:=hj
 have h01:j=0∨j=1:=by omega
 rcases h01 with rfl | rfl
 ·exact⟨y0,y1⟩
 ·exact⟨y2,y3⟩
theorem want_boxes(w:World):∃ w1,w1=((w.alloc (.cells #[.int .i64 0,.int .i64 255,.int .i64 0,.int .i64 255] 55)).alloc (.cells #[.int .i64 1,.int .i64 10,.slice (some ⟨w.heap.size,0,none⟩) 2 2] 50)).alloc (.cells #[.int .i64 132,.int .i64 0,.int .i64 2,.slice (some ⟨w.heap.size+1,0,none⟩) 1 1] 35)∧Below w.heap.size w w1∧rowV w1 w.heap.size 55 #[.int .i64 0,.int .i64 255,.int .i64 0,.int .i64 255]∧rowV w1 (w.heap.size+1) 50 #[.int .i64 1,.int .i64 10,.slice (some ⟨w.heap.size,0,none⟩) 2 2]∧rowV w1 (w.heap.size+1+1) 35 #[.int .i64 132,.int .i64 0,.int .i64 2,.slice (some ⟨w.heap.size+1,0,none⟩) 1 1]:=by
 have r1:=rowV.new w 55 #[.int .i64 0,.int .i64 255,.int .i64 0,.int .i64 255]
 have e1:(w.alloc (.cells #[.int .i64 0,.int .i64 255,.int .i64 0,.int .i64 255] 55)).heap.size=w.heap.size+1:=by simp
 obtain⟨wa,hwa⟩:∃ x,x=w.alloc (.cells #[.int .i64 0,.int .i64 255,.int .i64 0,.int .i64 255] 55):=⟨_,rfl⟩
 have k1:Below w.heap.size w wa:=by rw [hwa];exact balloc (Below.refl _ _) _
 rw [←hwa] at r1 e1 ⊢
 have r2:=rowV.new wa 50 #[.int .i64 1,.int .i64 10,.slice (some ⟨w.heap.size,0,none⟩) 2 2]
 have e2:(wa.alloc (.cells #[.int .i64 1,.int .i64 10,.slice (some ⟨w.heap.size,0,none⟩) 2 2] 50)).heap.size=w.heap.size+1+1:=by simp [e1]
 obtain⟨wb,hwb⟩:∃ x,x=wa.alloc (.cells #[.int .i64 1,.int .i64 10,.slice (some ⟨w.heap.size,0,none⟩) 2 2] 50):=⟨_,rfl⟩
 have k2:Below wa.heap.size wa wb:=by rw [hwb];exact balloc (Below.refl _ _) _
 rw [←hwb] at r2 e2 ⊢
 have r3:=rowV.new wb 35 #[.int .i64 132,.int .i64 0,.int .i64 2,.slice (some ⟨w.heap.size+1,0,none⟩) 1 1]
 have k3:Below wb.heap.size wb (wb.alloc (.cells #[.int .i64 132,.int .i64 0,.int .i64 2,.slice (some ⟨w.heap.size+1,0,none⟩) 1 1] 35)):=balloc (Below.refl _ _) _
 rw [e1] at r2
 rw [e2] at r3
 exact⟨_,rfl,(k1.trans (k2.mono k1.size)).trans (k3.mono (by omega)),(r1.below k2 r1.lt).below k3 (r1.below k2 r1.lt).lt,r2.below k3 r2.lt,r3⟩
theorem awake20_any(w:World)(hE:ErrR w):Calls Tryz.prog 11 #[] w fun e w'=>e=.returned (.bool true)∧Below w.heap.size w w':=by
 have HP:=Lib.hid (asmP_any sAV exA w rdxA (by decide) hE)
 have HE:=Lib.hid hE
 have FB:Hid (∀ W:World,ErrR W→Calls Tryz.prog 26 #[.string (strB sBV),.int .i64 5,.int .i64 16] W fun e w'=>e=.returned (.bool true)∧Below W.heap.size W w'):=fun W h=>fails20_any sBV exB 5 16 W rdxB vrB (by decide) h
 have FC:Hid (∀ W:World,ErrR W→Calls Tryz.prog 26 #[.string (strB sCV),.int .i64 6,.int .i64 14] W fun e w'=>e=.returned (.bool true)∧Below W.heap.size W w'):=fun W h=>fails20_any sCV exC 6 14 W rdxC vrC (by decide) h
 have FD:Hid (∀ W:World,ErrR W→Calls Tryz.prog 26 #[.string (strB sDV),.int .i64 1,.int .i64 18] W fun e w'=>e=.returned (.bool true)∧Below W.heap.size W w'):=fun W h=>fails20_any sDV exD 1 18 W rdxD vrD (by decide) h
 clear hE
 go_enter Tryz.func11,Tryz.ntmps11
 go_wp2_with fail
 refine HP.out.mono ?_
 rintro e w1 ⟨A,n,c,A',n',c',rfl,hp,hb1⟩
 obtain⟨w2,hw2⟩:∃ x,x=w1.alloc (.cells #[.slice A n c,.int .i64 2,.slice A' n' c'] 25):=⟨_,rfl⟩
 have k2:Below w1.heap.size w1 w2:=by rw [hw2];exact balloc (Below.refl _ _) _
 have r2:rowV w2 w1.heap.size 25 #[.slice A n c,.int .i64 2,.slice A' n' c']:=by rw [hw2];exact rowV.new w1 _ _
 obtain⟨c0,c1,c2⟩:=three_cellsV r2
 have HV:=verifyW_any A A' n c n' c' 2 exA w2 (hp.below k2)
 rw [okR.eq vrA] at HV
 have HV:Hid (Calls Tryz.prog 14 #[.agg #[.slice A n c,.int .i64 2,.slice A' n' c']] w2 fun e w'=>(∃ A n c,e=.returned (.tuple #[.agg #[.int .i64 132,.int .i64 0,.int .i64 2,.slice A n c],.int .i64 0,.int .i64 0])∧InvT w' A n c rpA.inv)∧Below w2.heap.size w2 w'):=HV
 have H2:=Lib.hid (And.intro r2 (And.intro (hp.below k2) (hb1.trans (k2.mono hb1.size))))
 have Hw2:=Lib.hid hw2
 clear hp k2 r2 hb1 hw2 HP
 go_upto_region 2 with fail
 rw [show exA.locs=2 from rfl,←Hw2.out]
 go_wp2_with fail
 refine HV.out.mono ?_
 rintro e w3 ⟨⟨D,m,d,rfl,hinv⟩,hb3⟩
 obtain rfl:m=1:=hinv.1.symm
 have q2:=H2.out.1.below hb3 H2.out.1.lt
 have p2:=H2.out.2.1.below hb3
 have b3:=H2.out.2.2.trans (hb3.mono H2.out.2.2.size)
 obtain⟨w4,hw4⟩:∃ x,x=w3.alloc (.cells #[.int .i64 132,.int .i64 0,.int .i64 2,.slice D 1 d] 35):=⟨_,rfl⟩
 have k4:Below w3.heap.size w3 w4:=by rw [hw4];exact balloc (Below.refl _ _) _
 have r4:rowV w4 w3.heap.size 35 #[.int .i64 132,.int .i64 0,.int .i64 2,.slice D 1 d]:=by rw [hw4];exact rowV.new w3 _ _
 have s4:w4.heap.size=w3.heap.size+1:=by rw [hw4];simp
 obtain⟨w5,hw5,k5,x1,x2,x3⟩:=want_boxes w4
 have k35:Below w3.heap.size w3 w5:=k4.trans (k5.mono k4.size)
 have q5:=q2.below k35 q2.lt
 have p5:=p2.below k35
 have r5:=r4.below k5 r4.lt
 have i5:=hinv.invs.below k35
 have j5:=want_any x2 x1 (Nat.le_refl 1) (Nat.le_refl 2)
 obtain⟨c0,c1,c2⟩:=three_cellsV q5
 obtain⟨y0,y1,y2,y3⟩:=four_cellsV r5
 have hll:∀ x∈rpA.inv,x.locs.length≤1000:=by decide
 have HC:=confirmW_any A A' D n c n' c' 1 d 2 exA rpA w5 p5 i5 (by omega) hll
 have HC:Hid (Calls Tryz.prog 18 #[.agg #[.slice A n c,.int .i64 2,.slice A' n' c'],.agg #[.int .i64 132,.int .i64 0,.int .i64 2,.slice D 1 d]] w5 (ChkR w5 (conP exA rpA))):=HC
 have H5:=Lib.hid (And.intro r5 (And.intro x3 (And.intro i5 (And.intro j5 (b3.trans (k35.mono b3.size))))))
 have Hw4:=Lib.hid hw4
 have Hw5:=Lib.hid hw5
 have Hs4:=Lib.hid s4
 have Hll:=Lib.hid hll
 clear q2 p2 b3 hw4 k4 r4 s4 hw5 k5 x1 x2 x3 k35 q5 p5 r5 i5 j5 hinv hb3 HV hll
 go_upto_region 3 with fail
 rw [←Hw4.out]
 go_upto_region 4 with fail
 rw [←Hw5.out]
 go_wp2_with fail
 refine HC.out.mono ?_
 intro e w6 hr
 unfold ChkR at hr
 rw [cnA] at hr
 obtain⟨rfl,hb6⟩:=hr
 have r6:=H5.out.1.below hb6 H5.out.1.lt
 have x6:=H5.out.2.1.below hb6 H5.out.2.1.lt
 have HS:=Lib.hid (same20_any D (some ⟨w4.heap.size+1,0,none⟩) 1 d 1 132 0 2 rpA.inv w6 (H5.out.2.2.1.below hb6) (H5.out.2.2.2.1.below hb6) (by omega) Hll.out)
 have HB6:=Lib.hid (H5.out.2.2.2.2.trans (hb6.mono H5.out.2.2.2.2.size))
 obtain⟨z0,z1,z2,z3⟩:=four_cellsV r6
 obtain⟨v0,v1,v2,v3⟩:=four_cellsV x6
 clear r6 x6 hb6 HC H5 c0 c1 c2 y0 y1 y2 y3
 go_wp2_with fail
 refine HS.out.mono ?_
 rintro e w7 ⟨rfl,hb7⟩
 have H7:=Lib.hid (HB6.out.trans (hb7.mono HB6.out.size))
 clear hb7 HS HB6
 go_wp2_with fail
 refine (FB.out w7 (HE.out.below H7.out)).mono ?_
 rintro e w8 ⟨rfl,hb8⟩
 have H8:=Lib.hid (H7.out.trans (hb8.mono H7.out.size))
 clear hb8 H7
 go_wp2_with fail
 refine (FC.out w8 (HE.out.below H8.out)).mono ?_
 rintro e w9 ⟨rfl,hb9⟩
 have H9:=Lib.hid (H8.out.trans (hb9.mono H8.out.size))
 clear hb9 H8
 go_wp2_with fail
 refine (FD.out w9 (HE.out.below H9.out)).mono ?_
 rintro e w10 ⟨rfl,hb10⟩
 have H10:=Lib.hid (H9.out.trans (hb10.mono H9.out.size))
 clear hb10 H9
 go_wp2_with fail
 go_ret
 exact⟨rfl,H10.out⟩
end Go.Proofs.YtepoclhdklgnhaaGreatDoor
