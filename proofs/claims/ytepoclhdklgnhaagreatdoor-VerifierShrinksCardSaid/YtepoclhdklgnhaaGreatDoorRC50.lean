/- Mf Mg Mh Mi Mn. -/
import Derived.Test.YtepoclhdklgnhaaGreatDoorRC38
import Derived.Test.YtepoclhdklgnhaaGreatDoorRC49
import Derived.BigRegion
import Derived.Test.YtepoclhdklgnhaaGreatDoorRC47
import Derived.Test.YtepoclhdklgnhaaGreatDoorRC48
set_option maxRecDepth 100000
set_option maxHeartbeats 40000000
set_option linter.unusedVariables false
set_option linter.unusedSimpArgs false
namespace Go.Proofs.YtepoclhdklgnhaaGreatDoor
open Go.RowKit Go.Proofs
def sAV:List UInt8:=[108,111,99,97,108,32,105,32,108,111,99,97,108,32,115,32,112,117,115,104,32,49,48,32,108,111,111,112,32,108,111,97,100,32,115,32,108,111,97,100,32,105,32,97,100,100,32,112,117,115,104,32,50,53,53,32,97,110,100,32,115,116,111,114,101,32,115,32,108,111,97,100,32,105,32,112,117,115,104,32,49,32,97,100,100,32,112,117,115,104,32,49,53,32,97,110,100,32,115,116,111,114,101,32,105,32,101,110,100]
def sBV:List UInt8:=[119,111,114,100,115,32,119,32,56,32,112,117,115,104,32,52,32,112,117,115,104,32,48,32,105,110,112,117,116,32,112,117,115,104,32,56,32,109,105,110,32,103,101,116,32,119]
def sCV:List UInt8:=[119,111,114,100,115,32,119,32,56,32,112,117,115,104,32,52,32,112,117,115,104,32,48,32,105,110,112,117,116,32,112,117,115,104,32,55,32,109,105,110,32,103,101,116,32,119]
def sDV:List UInt8:=[105,110,112,117,116,32,108,111,111,112,32,101,110,100]
def okQ:AR→Prg→Bool
 | .bad _ _,_=>false
 | .ok s _,p=>decide (s.arrs=p.arrs) && decide ((s.ln.length:Int)=p.locs) && decide (s.code=p.code)
theorem okQ.eq{r:AR}{p:Prg}(h:okQ r p=true):∃ s q,r=.ok s q∧prgOf s=p:=by
 cases r with
 | bad a e=>simp [okQ] at h
 | ok s q=>
  simp [okQ] at h
  obtain⟨⟨h1,h2⟩,h3⟩:=h
  obtain⟨pa,pl,pc⟩:=p
  simp only [] at h1 h2 h3
  exact⟨s,q,rfl,by unfold prgOf;rw [h1,h2,h3]⟩
def okS(src:List UInt8)(p:Prg):Bool:=okQ (readL src) p && okA src
def badR:RR→Nat→Int→Bool
 | .bad a e,b,f=>decide (a=b) && decide (e=f)
 | _,_,_=>false
theorem badR.eq{r:RR}{b:Nat}{f:Int}(h:badR r b f=true):r=.bad b f:=by
 cases r with
 | bad a e=>simp [badR] at h;rw [h.1,h.2]
 | ok s=>simp [badR] at h
 | stuck=>simp [badR] at h
def okR:RR→Rp→Bool
 | .ok r,s=>decide (r=s)
 | _,_=>false
theorem okR.eq{r:RR}{s:Rp}(h:okR r s=true):r=.ok s:=by
 cases r with
 | bad a e=>simp [okR] at h
 | ok s=>simp [okR] at h;rw [h]
 | stuck=>simp [okR] at h
def exA:Prg:=⟨[],2,[⟨0,10⟩,⟨29,0⟩,⟨1,1⟩,⟨1,0⟩,⟨8,0⟩,⟨0,255⟩,⟨13,0⟩,⟨2,1⟩,⟨1,0⟩,⟨0,1⟩,⟨8,0⟩,⟨0,15⟩,⟨13,0⟩,⟨2,0⟩,⟨31,0⟩]⟩
def exB:Prg:=⟨[⟨true,8⟩],0,[⟨0,4⟩,⟨0,0⟩,⟨32,0⟩,⟨0,8⟩,⟨18,0⟩,⟨3,0⟩]⟩
def exC:Prg:=⟨[⟨true,8⟩],0,[⟨0,4⟩,⟨0,0⟩,⟨32,0⟩,⟨0,7⟩,⟨18,0⟩,⟨3,0⟩]⟩
def exD:Prg:=⟨[],0,[⟨32,0⟩,⟨29,0⟩,⟨31,0⟩]⟩
def rpA:Rp:=⟨132,0,2,[⟨1,10,[⟨0,255⟩,⟨0,255⟩]⟩]⟩
theorem rdxA:okS sAV exA=true:=by decide +kernel
theorem rdxB:okS sBV exB=true:=by decide +kernel
theorem rdxC:okS sCV exC=true:=by decide +kernel
theorem rdxD:okS sDV exD=true:=by decide +kernel
theorem vrA:okR (verP exA) rpA=true:=by decide +kernel
theorem vrB:badR (verP exB) 5 16=true:=by decide +kernel
theorem vrC:badR (verP exC) 6 14=true:=by decide +kernel
theorem vrD:badR (verP exD) 1 18=true:=by decide +kernel
theorem cnA:conP exA rpA=(0,0):=by decide +kernel
theorem asmP_any(src:List UInt8)(p:Prg)(w:World)(hr:okS src p=true)(hs:src.length≤100000000)(hE:ErrR w):Calls Tryz.prog 25 #[.string (strB src)] w fun e w'=>∃ A n c A' n' c',e=.returned (.tuple #[.agg #[.slice A n c,.int .i64 p.locs,.slice A' n' c'],.int .i64 0,.int .i64 0])∧Progs w' A n c p.locs A' n' c' p∧Below w.heap.size w w':=by
 unfold okS at hr
 rw [Bool.and_eq_true] at hr
 have hG:=hr.2
 obtain⟨s,q,hr,hp⟩:=okQ.eq hr.1
 have h:=assemble_good src w hG hE
 rw [hr] at h
 refine h.mono ?_
 rintro e w' ⟨A,n,c,A',n',c',rfl,hpr,hb⟩
 rw [hp] at hpr
 have hl:(s.ln.length:Int)=p.locs:=by rw [←hp];rfl
 rw [hl] at hpr ⊢
 exact⟨A,n,c,A',n',c',rfl,hpr,hb⟩
theorem fails20_any(src:List UInt8)(p:Prg)(a:Nat)(er:Int)(w:World)(hr:okS src p=true)(hv:badR (verP p) a er=true)(hs:src.length≤100000000)(hE:ErrR w):Calls Tryz.prog 26 #[.string (strB src),.int .i64 (a:Int),.int .i64 er] w fun e w'=>e=.returned (.bool true)∧Below w.heap.size w w':=by
 have HR:=Lib.hid (asmP_any src p w hr hs hE)
 have HV:=Lib.hid (badR.eq hv)
 clear hr hv hs hE
 go_enter Tryz.func26,Tryz.ntmps26
 go_wp2_with fail
 refine HR.out.mono ?_
 rintro e w1 ⟨A,n,c,A',n',c',rfl,hp,hb1⟩
 obtain⟨w2,hw2⟩:∃ x,x=w1.alloc (.cells #[.slice A n c,.int .i64 p.locs,.slice A' n' c'] 25):=⟨_,rfl⟩
 have k2:Below w1.heap.size w1 w2:=by rw [hw2];exact balloc (Below.refl _ _) _
 have r2:rowV w2 w1.heap.size 25 #[.slice A n c,.int .i64 p.locs,.slice A' n' c']:=by rw [hw2];exact rowV.new w1 _ _
 obtain⟨c0,c1,c2⟩:=three_cellsV r2
 have HVe:=verifyW_any A A' n c n' c' p.locs p w2 (hp.below k2)
 rw [HV.out] at HVe
 have HVe:=Lib.hid HVe
 have HB:=Lib.hid (hb1.trans (k2.mono hb1.size))
 have Hw2:=Lib.hid hw2
 clear hp k2 r2 hb1 hw2 HR
 go_upto_region 2 with fail
 rw [←Hw2.out]
 go_wp2_with fail
 refine HVe.out.mono ?_
 intro e w3 hr
 obtain⟨rfl,hb3⟩:=hr
 have HN:=Lib.hid (balloc (HB.out.trans (hb3.mono HB.out.size)) (.cells #[.int .i64 0,.int .i64 0,.int .i64 0,.slice none 0 0] 35))
 clear hb3 HVe c0 c1 c2
 go_wp2_with fail
 go_ret
 exact⟨rfl,HN.out⟩
theorem want_any{w:World}{g b c c':Nat}(h1:rowV w g 50 #[.int .i64 1,.int .i64 10,.slice (some ⟨b,0,none⟩) 2 c'])(h2:rowV w b 55 #[.int .i64 0,.int .i64 255,.int .i64 0,.int .i64 255])(hc:1≤c)(hc':2≤c'):Invs w (some ⟨g,0,none⟩) 1 c rpA.inv:=by
 obtain⟨x0,x1,x2⟩:=three_cellsV h1
 obtain⟨y0,y1,y2,y3⟩:=four_cellsV h2
 refine⟨rfl,hc,fun _=>⟨g,0,rfl,h1.lt,fun i hi=>?_⟩⟩
 obtain rfl:i=0:=by omega
 refine⟨x0,x1,some ⟨b,0,none⟩,c',x2,rfl,hc',fun _=>⟨b,0,rfl,h2.lt,fun j hj=>?_⟩⟩
 have hj2:j < 2:=hj
 have h01:j=0∨j=1:=by omega
 rcases h01 with rfl | rfl
 ·exact⟨y0,y1⟩
 ·exact⟨y2,y3⟩
theorem want_boxes(w:World):∃ w1,w1=((w.alloc (.cells #[.int .i64 0,.int .i64 255,.int .i64 0,.int .i64 255] 55)).alloc (.cells #[.int .i64 1,.int .i64 10,.slice (some ⟨w.heap.size,0,none⟩) 2 2] 50)).alloc (.cells #[.int .i64 132,.int .i64 0,.int .i64 2,.slice (some ⟨w.heap.size+1,0,none⟩) 1 1] 35)∧Below w.heap.size w w1∧rowV w1 w.heap.size 55 #[.int .i64 0,.int .i64 255,.int .i64 0,.int .i64 255]∧rowV w1 (w.heap.size+1) 50 #[.int .i64 1,.int .i64 10,.slice (some ⟨w.heap.size,0,none⟩) 2 2]∧rowV w1 (w.heap.size+1+1) 35 #[.int .i64 132,.int .i64 0,.int .i64 2,.slice (some ⟨w.heap.size+1,0,none⟩) 1 1]:=by
 have r1:=rowV.new w 55 #[.int .i64 0,.int .i64 255,.int .i64 0,.int .i64 255]
 have e1:(w.alloc (.cells #[.int .i64 0,.int .i64 255,.int .i64 0,.int .i64 255] 55)).heap.size=w.heap.size+1:=by simp
 obtain⟨wa,hwa⟩:∃ x,x=w.alloc (.cells #[.int .i64 0,.int .i64 255,.int .i64 0,.int .i64 255] 55):=⟨_,rfl⟩
 have k1:Below w.heap.size w wa:=by rw [hwa];exact balloc (Below.refl _ _) _
 rw [←hwa] at r1 e1 ⊢
 have r2:=rowV.new wa 50 #[.int .i64 1,.int .i64 10,.slice (some ⟨w.heap.size,0,none⟩) 2 2]
 have e2:(wa.alloc (.cells #[.int .i64 1,.int .i64 10,.slice (some ⟨w.heap.size,0,none⟩) 2 2] 50)).heap.size=w.heap.size+1+1:=by simp [e1]
 obtain⟨wb,hwb⟩:∃ x,x=wa.alloc (.cells #[.int .i64 1,.int .i64 10,.slice (some ⟨w.heap.size,0,none⟩) 2 2] 50):=⟨_,rfl⟩
 have k2:Below wa.heap.size wa wb:=by rw [hwb];exact balloc (Below.refl _ _) _
 rw [←hwb] at r2 e2 ⊢
 have r3:=rowV.new wb 35 #[.int .i64 132,.int .i64 0,.int .i64 2,.slice (some ⟨w.heap.size+1,0,none⟩) 1 1]
 have k3:Below wb.heap.size wb (wb.alloc (.cells #[.int .i64 132,.int .i64 0,.int .i64 2,.slice (some ⟨w.heap.size+1,0,none⟩) 1 1] 35)):=balloc (Below.refl _ _) _
 rw [e1] at r2
 rw [e2] at r3
 exact⟨_,rfl,(k1.trans (k2.mono k1.size)).trans (k3.mono (by omega)),(r1.below k2 r1.lt).below k3 (r1.below k2 r1.lt).lt,r2.below k3 r2.lt,r3⟩
theorem awake20_any(w:World)(hE:ErrR w):Calls Tryz.prog 11 #[] w fun e w'=>e=.returned (.bool true)∧Below w.heap.size w w':=by
 have HP:=Lib.hid (asmP_any sAV exA w rdxA (by decide) hE)
 have HE:=Lib.hid hE
 have FB:Hid (∀ W:World,ErrR W→Calls Tryz.prog 26 #[.string (strB sBV),.int .i64 5,.int .i64 16] W fun e w'=>e=.returned (.bool true)∧Below W.heap.size W w'):=fun W h=>fails20_any sBV exB 5 16 W rdxB vrB (by decide) h
 have FC:Hid (∀ W:World,ErrR W→Calls Tryz.prog 26 #[.string (strB sCV),.int .i64 6,.int .i64 14] W fun e w'=>e=.returned (.bool true)∧Below W.heap.size W w'):=fun W h=>fails20_any sCV exC 6 14 W rdxC vrC (by decide) h
 have FD:Hid (∀ W:World,ErrR W→Calls Tryz.prog 26 #[.string (strB sDV),.int .i64 1,.int .i64 18] W fun e w'=>e=.returned (.bool true)∧Below W.heap.size W w'):=fun W h=>fails20_any sDV exD 1 18 W rdxD vrD (by decide) h
 clear hE
 go_enter Tryz.func11,Tryz.ntmps11
 go_wp2_with fail
 refine HP.out.mono ?_
 rintro e w1 ⟨A,n,c,A',n',c',rfl,hp,hb1⟩
 obtain⟨w2,hw2⟩:∃ x,x=w1.alloc (.cells #[.slice A n c,.int .i64 2,.slice A' n' c'] 25):=⟨_,rfl⟩
 have k2:Below w1.heap.size w1 w2:=by rw [hw2];exact balloc (Below.refl _ _) _
 have r2:rowV w2 w1.heap.size 25 #[.slice A n c,.int .i64 2,.slice A' n' c']:=by rw [hw2];exact rowV.new w1 _ _
 obtain⟨c0,c1,c2⟩:=three_cellsV r2
 have HV:=verifyW_any A A' n c n' c' 2 exA w2 (hp.below k2)
 rw [okR.eq vrA] at HV
 have HV:Hid (Calls Tryz.prog 14 #[.agg #[.slice A n c,.int .i64 2,.slice A' n' c']] w2 fun e w'=>(∃ A n c,e=.returned (.tuple #[.agg #[.int .i64 132,.int .i64 0,.int .i64 2,.slice A n c],.int .i64 0,.int .i64 0])∧InvT w' A n c rpA.inv)∧Below w2.heap.size w2 w'):=HV
 have H2:=Lib.hid (And.intro r2 (And.intro (hp.below k2) (hb1.trans (k2.mono hb1.size))))
 have Hw2:=Lib.hid hw2
 clear hp k2 r2 hb1 hw2 HP
 go_upto_region 2 with fail
 rw [show exA.locs=2 from rfl,←Hw2.out]
 go_wp2_with fail
 refine HV.out.mono ?_
 rintro e w3 ⟨⟨D,m,d,rfl,hinv⟩,hb3⟩
 obtain rfl:m=1:=hinv.1.symm
 have q2:=H2.out.1.below hb3 H2.out.1.lt
 have p2:=H2.out.2.1.below hb3
 have b3:=H2.out.2.2.trans (hb3.mono H2.out.2.2.size)
 obtain⟨w4,hw4⟩:∃ x,x=w3.alloc (.cells #[.int .i64 132,.int .i64 0,.int .i64 2,.slice D 1 d] 35):=⟨_,rfl⟩
 have k4:Below w3.heap.size w3 w4:=by rw [hw4];exact balloc (Below.refl _ _) _
 have r4:rowV w4 w3.heap.size 35 #[.int .i64 132,.int .i64 0,.int .i64 2,.slice D 1 d]:=by rw [hw4];exact rowV.new w3 _ _
 have s4:w4.heap.size=w3.heap.size+1:=by rw [hw4];simp
 obtain⟨w5,hw5,k5,x1,x2,x3⟩:=want_boxes w4
 have k35:Below w3.heap.size w3 w5:=k4.trans (k5.mono k4.size)
 have q5:=q2.below k35 q2.lt
 have p5:=p2.below k35
 have r5:=r4.below k5 r4.lt
 have i5:=hinv.invs.below k35
 have j5:=want_any x2 x1 (Nat.le_refl 1) (Nat.le_refl 2)
 obtain⟨c0,c1,c2⟩:=three_cellsV q5
 obtain⟨y0,y1,y2,y3⟩:=four_cellsV r5
 have hll:∀ x∈rpA.inv,x.locs.length≤1000:=by decide
 have HC:=confirmW_any A A' D n c n' c' 1 d 2 exA rpA w5 p5 i5 (by omega) hll
 have HC:Hid (Calls Tryz.prog 18 #[.agg #[.slice A n c,.int .i64 2,.slice A' n' c'],.agg #[.int .i64 132,.int .i64 0,.int .i64 2,.slice D 1 d]] w5 (ChkR w5 (conP exA rpA))):=HC
 have H5:=Lib.hid (And.intro r5 (And.intro x3 (And.intro i5 (And.intro j5 (b3.trans (k35.mono b3.size))))))
 have Hw4:=Lib.hid hw4
 have Hw5:=Lib.hid hw5
 have Hs4:=Lib.hid s4
 have Hll:=Lib.hid hll
 clear q2 p2 b3 hw4 k4 r4 s4 hw5 k5 x1 x2 x3 k35 q5 p5 r5 i5 j5 hinv hb3 HV hll
 go_upto_region 3 with fail
 rw [←Hw4.out]
 go_upto_region 4 with fail
 rw [←Hw5.out]
 go_wp2_with fail
 refine HC.out.mono ?_
 intro e w6 hr
 unfold ChkR at hr
 rw [cnA] at hr
 obtain⟨rfl,hb6⟩:=hr
 have r6:=H5.out.1.below hb6 H5.out.1.lt
 have x6:=H5.out.2.1.below hb6 H5.out.2.1.lt
 have HS:=Lib.hid (same20_any D (some ⟨w4.heap.size+1,0,none⟩) 1 d 1 132 0 2 rpA.inv w6 (H5.out.2.2.1.below hb6) (H5.out.2.2.2.1.below hb6) (by omega) Hll.out)
 have HB6:=Lib.hid (H5.out.2.2.2.2.trans (hb6.mono H5.out.2.2.2.2.size))
 obtain⟨z0,z1,z2,z3⟩:=four_cellsV r6
 obtain⟨v0,v1,v2,v3⟩:=four_cellsV x6
 clear r6 x6 hb6 HC H5 c0 c1 c2 y0 y1 y2 y3
 go_wp2_with fail
 refine HS.out.mono ?_
 rintro e w7 ⟨rfl,hb7⟩
 have H7:=Lib.hid (HB6.out.trans (hb7.mono HB6.out.size))
 clear hb7 HS HB6
 go_wp2_with fail
 refine (FB.out w7 (HE.out.below H7.out)).mono ?_
 rintro e w8 ⟨rfl,hb8⟩
 have H8:=Lib.hid (H7.out.trans (hb8.mono H7.out.size))
 clear hb8 H7
 go_wp2_with fail
 refine (FC.out w8 (HE.out.below H8.out)).mono ?_
 rintro e w9 ⟨rfl,hb9⟩
 have H9:=Lib.hid (H8.out.trans (hb9.mono H8.out.size))
 clear hb9 H8
 go_wp2_with fail
 refine (FD.out w9 (HE.out.below H9.out)).mono ?_
 rintro e w10 ⟨rfl,hb10⟩
 have H10:=Lib.hid (H9.out.trans (hb10.mono H9.out.size))
 clear hb10 H9
 go_wp2_with fail
 go_ret
 exact⟨rfl,H10.out⟩
theorem chkE_nonneg(i:Ins):0≤chkE i:=by
 unfold chkE
 repeat' split
 all_goals decide
theorem codeE_nonneg:∀ l:List Ins,0≤codeE l:=by
 intro l
 induction l with
 | nil=>exact Int.le_refl _
 | cons i l ih=>
  rw [codeE_step]
  split
  ·exact chkE_nonneg i
  ·exact ih
theorem arrGo_nonneg:∀ (l:List Arr) (n:Int),0≤arrGo n l:=by
 intro l
 induction l with
 | nil=>intro n;exact Int.le_refl _
 | cons x l ih=>
  intro n
  unfold arrGo
  split
  ·decide
  ·exact ih _
theorem formE_nonneg(p:Prg):0≤formE p:=by
 unfold formE arrE
 repeat' split
 all_goals first | decide | exact arrGo_nonneg _ _ | exact codeE_nonneg _
def RetT(w:World)(e:Ending)(w':World):Prop:=e=.returned (.bool true)∧Below w.heap.size w w'
theorem ag_boxes(w:World)(A A':Option Addr)(n c n' c':Nat)(L a b z:Int):∃ w1,w1=(w.alloc (.cells #[.slice A n c,.int .i64 L,.slice A' n' c'] 25)).alloc (.cells #[.int .u8 a,.int .u8 b,.int .u8 z] 45)∧Below w.heap.size w w1∧rowV w1 w.heap.size 25 #[.slice A n c,.int .i64 L,.slice A' n' c']∧rowV w1 (w.heap.size+1) 45 #[.int .u8 a,.int .u8 b,.int .u8 z]:=by
 have r1:=rowV.new w 25 #[.slice A n c,.int .i64 L,.slice A' n' c']
 have e1:(w.alloc (.cells #[.slice A n c,.int .i64 L,.slice A' n' c'] 25)).heap.size=w.heap.size+1:=by simp
 obtain⟨wa,hwa⟩:∃ x,x=w.alloc (.cells #[.slice A n c,.int .i64 L,.slice A' n' c'] 25):=⟨_,rfl⟩
 have k1:Below w.heap.size w wa:=by rw [hwa];exact balloc (Below.refl _ _) _
 rw [←hwa] at r1 e1 ⊢
 have r3:=rowV.new wa 45 #[.int .u8 a,.int .u8 b,.int .u8 z]
 have k3:Below wa.heap.size wa (wa.alloc (.cells #[.int .u8 a,.int .u8 b,.int .u8 z] 45)):=balloc (Below.refl _ _) _
 rw [e1] at r3
 exact⟨_,rfl,k1.trans (k3.mono k1.size),r1.below k3 r1.lt,r3⟩
theorem hIrp(a b c:Int)(D:Option Addr)(m d:Nat):(Tryz.prog.info? 35).map (·.size)=some (#[Value.int .i64 a,.int .i64 b,.int .i64 c,.slice D m d]:Array Value).size:=by kernel_rfl
theorem hA4rp(a b c:Int)(D:Option Addr)(m d:Nat):(#[Value.int .i64 a,.int .i64 b,.int .i64 c,.slice D m d]:Array Value).all (·.oneCell')=true:=by simp [Value.oneCell']
theorem con_ok{p:Prg}{r:Rp}(hwf:∀ x∈p.code,0≤x.arg∧x.arg < 4294967296)(h:verP p=.ok r){s e g:Int}(h1:r.steps≤s)(h2:r.emits≤e)(h3:r.hgt≤g)(h4:s≤281474976710656):conP p ⟨s,e,g,r.inv⟩=(0,0):=by
 rw [confirms_of hwf h,if_pos ⟨h1,h2,h3,h4⟩]
theorem con_less{p:Prg}{r:Rp}(hwf:∀ x∈p.code,0≤x.arg∧x.arg < 4294967296)(h:verP p=.ok r){s e g:Int}(h1:s < r.steps∨e < r.emits∨g < r.hgt):conP p ⟨s,e,g,r.inv⟩=(0,18):=by
 rw [confirms_of hwf h,if_neg (by omega)]
def AgL(w4:World)(D:Option Addr)(m d:Nat)(wr:World):Prop:=Below w4.heap.size w4 wr∧∃ s0 s1 s2:Int,rowV wr w4.heap.size 35 #[.int .i64 s0,.int .i64 s1,.int .i64 s2,.slice D m d]
theorem agrees_any(A A':Option Addr)(n c n' c':Nat)(L:Int)(p:Prg)(ma mb mc:Int)(ha:0≤ma∧ma < 256)(hb:0≤mb∧mb < 256)(hc:0≤mc∧mc < 256)(w:World)(hx:Progs w A n c L A' n' c' p)(hE:ErrR w) :
  Calls Tryz.prog 6 #[.agg #[.slice A n c,.int .i64 L,.slice A' n' c'],.agg #[.int .u8 ma,.int .u8 mb,.int .u8 mc]] w (RetT w):=by
 obtain⟨w0,hw0,g0,r0,ra0⟩:=ag_boxes w A A' n c n' c' L ma mb mc
 have HFw:=Lib.hid (few15_any A A' n c n' c' L p w0 (hx.below g0))
 have hwf:Hid (∀ x∈p.code,0≤x.arg∧x.arg < 4294967296):=fun x h=>⟨(hx.code.2.2.1 x h).1,(hx.code.2.2.1 x h).2.1⟩
 have HE:=Lib.hid hE
 have HX:=Lib.hid hx
 have HG:=Lib.hid (And.intro r0 (And.intro ra0 g0))
 have Hw0:=Lib.hid hw0
 obtain⟨c0,c1,c2⟩:=three_cellsV r0
 clear hx hE g0 r0 ra0 hw0
 go_enter Tryz.func6,Tryz.ntmps6
 go_upto_region 1 with fail
 rw [←Hw0.out]
 go_wp2_with fail
 refine HFw.out.mono ?_
 intro e w1 hr
 obtain⟨⟨b,rfl,hfew⟩,hb1⟩:=hr
 have r1:=HG.out.1.below hb1 HG.out.1.lt
 have ra1:=HG.out.2.1.below hb1 HG.out.2.1.lt
 have g1:=HG.out.2.2.trans (hb1.mono HG.out.2.2.size)
 have H1:=Lib.hid (And.intro r1 (And.intro ra1 g1))
 have Hfew:=Lib.hid hfew
 clear hb1 r1 ra1 g1 hfew HFw c0 c1 c2
 cases b with
 | false=>
  have HA:=Lib.hid (awake20_any w1 (HE.out.below H1.out.2.2))
  go_wp2_with fail
  refine HA.out.mono ?_
  rintro e w2 ⟨rfl,hb2⟩
  have HN:=Lib.hid (H1.out.2.2.trans (hb2.mono H1.out.2.2.size))
  clear hb2 HA
  go_wp2_with fail
  go_ret
  exact⟨rfl,HN.out⟩
 | true=>
  obtain⟨hn,hn'⟩:=Hfew.out rfl
  obtain⟨c0,c1,c2⟩:=three_cellsV H1.out.1
  have HV:=Lib.hid (verifyW_any A A' n c n' c' L p w1 (HX.out.below H1.out.2.2))
  clear Hfew
  go_wp2_with fail
  refine HV.out.mono ?_
  intro e w2 hr
  clear HV
  cases hv:verP p with
  | stuck=>rw [hv] at hr;exact hr.elim
  | bad a x=>
   rw [hv] at hr
   obtain⟨rfl,hb2⟩:=hr
   obtain⟨hal,hx0⟩:=verP_bad hwf.out (formE_nonneg p) hv
   obtain⟨w3,hw3⟩:∃ z,z=w2.alloc (.cells #[.int .i64 0,.int .i64 0,.int .i64 0,.slice none 0 0] 35):=⟨_,rfl⟩
   have k3:Below w2.heap.size w2 w3:=by rw [hw3];exact balloc (Below.refl _ _) _
   have g3:=(H1.out.2.2.trans (hb2.mono H1.out.2.2.size)).trans (k3.mono (H1.out.2.2.trans (hb2.mono H1.out.2.2.size)).size)
   have d1:(x != 0)=true:=by simp;omega
   have HA:=Lib.hid (awake20_any w3 (HE.out.below g3))
   have H3:=Lib.hid g3
   have Hw3:=Lib.hid hw3
   clear hb2 hx0 hal hw3 k3 g3 hv c0 c1 c2 hn hn'
   go_upto_region 5 with fail
   rw [←Hw3.out]
   go_wp2_with fail
   refine HA.out.mono ?_
   rintro e w4 ⟨rfl,hb4⟩
   have HN:=Lib.hid (H3.out.trans (hb4.mono H3.out.size))
   clear hb4 HA
   go_wp2_with fail
   go_ret
   exact⟨rfl,HN.out⟩
  | ok rp=>
   rw [hv] at hr
   obtain⟨⟨D,m,d,rfl,hinv⟩,hb2⟩:=hr
   have HRo:=Lib.hid (reports_of hwf.out hv)
   have Hv:=Lib.hid hv
   have hchk:=(verP_of hv).1
   obtain⟨hok,-,t,ht,-⟩:=prgOk_of hwf.out hchk
   have hlen2:p.code.length≤1024:=hok.len
   have hlo16:p.locs≤16:=hok.locs.2
   obtain⟨⟨rs,re,rh,ri⟩,hrp⟩:∃ z,z=rp:=⟨_,rfl⟩
   subst hrp
   simp only [] at hinv
   obtain⟨w3,hw3⟩:∃ z,z=w2.alloc (.cells #[.int .i64 rs,.int .i64 re,.int .i64 rh,.slice D m d] 35):=⟨_,rfl⟩
   have k3:Below w2.heap.size w2 w3:=by rw [hw3];exact balloc (Below.refl _ _) _
   have r3:rowV w3 w2.heap.size 35 #[.int .i64 rs,.int .i64 re,.int .i64 rh,.slice D m d]:=by rw [hw3];exact rowV.new w2 _ _
   have b2:=H1.out.2.2.trans (hb2.mono H1.out.2.2.size)
   have g3:=b2.trans (k3.mono b2.size)
   have q3:=(H1.out.1.below hb2 H1.out.1.lt).below k3 (H1.out.1.below hb2 H1.out.1.lt).lt
   have qa3:=(H1.out.2.1.below hb2 H1.out.2.1.lt).below k3 (H1.out.2.1.below hb2 H1.out.2.1.lt).lt
   have i3:=hinv.invs.below k3
   have hm:m≤1000:=by
    rw [←i3.1]
    have h2:=congrArg List.length HRo.out.ats
    simp only [List.length_map] at h2
    rw [h2]
    unfold loopsOf
    exact Nat.le_trans (Nat.le_trans (List.length_filter_le _ _) (by rw [List.length_range];exact Nat.le_refl _)) (by have:=HX.out.code.1;omega)
   have hll:∀ x∈ri,x.locs.length≤1000:=fun x hx=>by have:=(HRo.out.inv x hx).2.2.1;omega
   have Hm:=Lib.hid hm
   have Hll:=Lib.hid hll
   have b0:0≤re∧re≤rs:=HRo.out.emits
   have b1:rs≤281474976710656:=HRo.out.steps
   have b4:0≤rh∧rh≤32:=HRo.out.hgt
   obtain⟨b01,b02⟩:=b0
   obtain⟨b41,b42⟩:=b4
   have hCN:∀ (s e g:Int) (W:World),Progs W A n c L A' n' c' p→Invs W D m d ri→Calls Tryz.prog 18 #[.agg #[.slice A n c,.int .i64 L,.slice A' n' c'],.agg #[.int .i64 s,.int .i64 e,.int .i64 g,.slice D m d]] W (ChkR W (conP p ⟨s,e,g,ri⟩)):=fun s e g W h1 h2=>confirmW_any A A' D n c n' c' m d L p ⟨s,e,g,ri⟩ W h1 h2 hm hll
   have HCN:=Lib.hid hCN
   have HC0:=hCN rs re rh w3 (HX.out.below g3) i3
   rw [con_ok hwf.out hv (Int.le_refl _) (Int.le_refl _) (Int.le_refl _) b1] at HC0
   have HC:Hid (Calls Tryz.prog 18 #[.agg #[.slice A n c,.int .i64 L,.slice A' n' c'],.agg #[.int .i64 rs,.int .i64 re,.int .i64 rh,.slice D m d]] w3 fun e w'=>e=.returned (.tuple #[.int .i64 0,.int .i64 0])∧Below w3.heap.size w3 w'):=HC0
   clear HC0
   have H3:=Lib.hid (And.intro r3 (And.intro q3 (And.intro qa3 (And.intro g3 i3))))
   have Hw3:=Lib.hid hw3
   have s3:w.heap.size+1 < w2.heap.size:=(H1.out.2.1.below hb2 H1.out.2.1.lt).lt
   clear hb2 hchk hok ht hw3 k3 r3 g3 q3 qa3 i3 hv hinv c0 c1 c2 hlen2 b2 hm hll hCN hlo16
   as_aux_lemma=>
    go_upto_region 4 with fail
    rw [←Hw3.out]
    obtain⟨c0,c1,c2⟩:=three_cellsV H3.out.2.1
    obtain⟨y0,y1,y2,y3⟩:=four_cellsV H3.out.1
    go_wp2_with fail
    refine HC.out.mono ?_
    rintro e w4 ⟨rfl,hb4⟩
    have r4:=H3.out.1.below hb4 H3.out.1.lt
    have q4:=H3.out.2.1.below hb4 H3.out.2.1.lt
    have qa4:=H3.out.2.2.1.below hb4 H3.out.2.2.1.lt
    have g4:=H3.out.2.2.2.1.trans (hb4.mono H3.out.2.2.2.1.size)
    have H4:=Lib.hid (And.intro r4 (And.intro q4 (And.intro qa4 (And.intro g4 (H3.out.2.2.2.2.below hb4)))))
    have l4:w2.heap.size < w4.heap.size:=r4.lt
    clear c0 c1 c2 y0 y1 y2 y3
    obtain⟨y0,y1,y2,y3⟩:=four_cellsV r4
    obtain⟨z0,z1,z2⟩:=three_cellsV qa4
    clear HC hb4 r4 q4 qa4 g4
    obtain⟨w5,hw5⟩:∃ z,z=w4.alloc (.cells #[.int .i64 rs,.int .i64 re,.int .i64 rh,.slice D m d] 35):=⟨_,rfl⟩
    have k5:Below w4.heap.size w4 w5:=by rw [hw5];exact balloc (Below.refl _ _) _
    have r5:rowV w5 w4.heap.size 35 #[.int .i64 rs,.int .i64 re,.int .i64 rh,.slice D m d]:=by rw [hw5];exact rowV.new w4 _ _
    have Hw5:=Lib.hid hw5
    as_aux_lemma=>
     go_upto_region 10 with fail
     rw [←Hw5.out]
     clear y0 y1 y2 y3 z0 z1 z2
     obtain⟨y0,y1,y2,y3⟩:=four_cellsV (H4.out.1.below k5 H4.out.1.lt)
     obtain⟨z0,z1,z2⟩:=three_cellsV (H4.out.2.2.1.below k5 H4.out.2.2.1.lt)
     obtain⟨x0,x1,x2,x3⟩:=four_cellsV r5
     have f0:=frozen_rowV' r5 0
     have f1:=frozen_rowV' r5 1
     have f2:=frozen_rowV' r5 2
     clear hw5
     go_region
     as_aux_lemma=>
      obtain⟨mn,hmn⟩:∃ z,z=min (rs+ma) 281474976710656:=⟨_,rfl⟩
      rw [←hmn]
      have m1:rs≤mn:=by omega
      have m2:mn≤281474976710656:=by omega
      obtain⟨w6,hw6⟩:∃ z,z=(((w5.setCell ⟨w4.heap.size,0,none⟩ (.int .i64 mn)).setCell ⟨w4.heap.size,1,none⟩ (.int .i64 (re+mb))).setCell ⟨w4.heap.size,2,none⟩ (.int .i64 (rh+mc))).drew:=⟨_,rfl⟩
      rw [←hw6]
      have k6:Below w4.heap.size w4 w6:=by rw [hw6];exact bdrew (belowCell (belowCell (belowCell k5 (Nat.le_refl _) _) (Nat.le_refl _) _) (Nat.le_refl _) _) 1
      have r6:rowV w6 w4.heap.size 35 #[.int .i64 mn,.int .i64 (re+mb),.int .i64 (rh+mc),.slice D m d]:=by rw [hw6];exact ((r5.set 0 _).set 1 _).set 2 _
      have HC0:=HCN.out mn (re+mb) (rh+mc) w6 (HX.out.below (H4.out.2.2.2.1.trans (k6.mono H4.out.2.2.2.1.size))) (H4.out.2.2.2.2.below k6)
      rw [con_ok hwf.out Hv.out (by show rs≤mn;omega) (by show re≤re+mb;omega) (by show rh≤rh+mc;omega) m2] at HC0
      have HC:Hid (Calls Tryz.prog 18 #[.agg #[.slice A n c,.int .i64 L,.slice A' n' c'],.agg #[.int .i64 mn,.int .i64 (re+mb),.int .i64 (rh+mc),.slice D m d]] w6 fun e w'=>e=.returned (.tuple #[.int .i64 0,.int .i64 0])∧Below w6.heap.size w6 w'):=HC0
      clear HC0
      obtain⟨p0,p1,p2⟩:=three_cellsV (H4.out.2.1.below k6 H4.out.2.1.lt)
      obtain⟨u0,u1,u2,u3⟩:=four_cellsV r6
      clear hw6 r5 k5 y0 y1 y2 y3 z0 z1 z2 x0 x1 x2 x3 f0 f1 f2 hmn
      have H6:=Lib.hid (And.intro k6 r6)
      clear k6 r6
      go_wp2_with fail
      refine HC.out.mono ?_
      rintro e w7 ⟨rfl,hb7⟩
      have H7:=Lib.hid (And.intro (H6.out.1.trans (hb7.mono H6.out.1.size)) (H6.out.2.below hb7 H6.out.2.lt))
      clear hb7 HC p0 p1 p2 u0 u1 u2 u3
      go_wp2_with fail
      have HST:∀ (s e g:Int) (W:World),Below w4.heap.size w4 W→(s < rs∨e < re∨g < rh)→Hid (Calls Tryz.prog 18 #[.agg #[.slice A n c,.int .i64 L,.slice A' n' c'],.agg #[.int .i64 s,.int .i64 e,.int .i64 g,.slice D m d]] W fun e w'=>e=.returned (.tuple #[.int .i64 0,.int .i64 18])∧Below W.heap.size W w'):=by
       intro s e g W hW hlt
       have h1:=HCN.out s e g W (HX.out.below (H4.out.2.2.2.1.trans (hW.mono H4.out.2.2.2.1.size))) (H4.out.2.2.2.2.below hW)
       rw [con_less hwf.out Hv.out hlt] at h1
       exact h1
      have HB0:Hid (AgL w4 D m d w7):=⟨H7.out.1,_,_,_,H7.out.2⟩
      clear H7
      refine wp_loop_rounds 4 ?_
      as_aux_lemma=>
       rw [rounds_succ]
       as_aux_lemma=>
        obtain⟨hB1,s0,s1,s2,hR⟩:=HB0.out
        obtain⟨W,hW⟩:∃ W,W=w7.setRow w4.heap.size #[.int .i64 rs,.int .i64 re,.int .i64 rh,.slice D m d]:=⟨_,rfl⟩
        have hBW:Below w4.heap.size w4 W:=by rw [hW];exact hB1.grown (grownBy_setRow3 _ _ _) hB1.size (fun k hk=>by injection hk with hk;rw [←hk];exact Nat.le_refl _)
        have hRW:rowV W w4.heap.size 35 #[.int .i64 rs,.int .i64 re,.int .i64 rh,.slice D m d]:=by rw [hW];exact setRow_heap w7 w4.heap.size _ _ _ _ hR
        obtain⟨y0,y1,y2,y3⟩:=four_cellsV (H4.out.1.below hB1 H4.out.1.lt)
        have HRr:=Lib.hid hR
        have HW:=Lib.hid hW
        clear hW hR hB1
        go_upto_region 18 with (first | refine wpList_store_row rfl 35 (.tmp 10) (.tmp 76) rfl _ #[.int .i64 rs,.int .i64 re,.int .i64 rh,.slice D m d] rfl rfl _ _ HRr.out (hIrp _ _ _ _ _ _) rfl (hA4rp _ _ _ _ _ _) ?_)
        rw [←HW.out]
        clear y0 y1 y2 y3 HRr HW
        obtain⟨u0,u1,u2,u3⟩:=four_cellsV hRW
        have f0:=frozen_rowV' hRW 0
        go_upto_region 24 with fail
        obtain⟨W2,hW2⟩:∃ z,z=W.setCell ⟨w4.heap.size,0,none⟩ (.int .i64 (rs-1)):=⟨_,rfl⟩
        rw [←hW2]
        have kW2:Below w4.heap.size w4 W2:=by rw [hW2];exact belowCell hBW (Nat.le_refl _) _
        have rW2:rowV W2 w4.heap.size 35 #[.int .i64 (rs-1),.int .i64 (re),.int .i64 (rh),.slice D m d]:=by rw [hW2];exact hRW.set 0 _
        have HC:=HST (rs-1) (re) (rh) W2 kW2 (.inl (by omega))
        clear u0 u1 u2 u3 f0 hW2 hBW hRW
        obtain⟨p0,p1,p2⟩:=three_cellsV (H4.out.2.1.below kW2 H4.out.2.1.lt)
        obtain⟨u0,u1,u2,u3⟩:=four_cellsV rW2
        have HK:=Lib.hid (And.intro kW2 rW2)
        clear kW2 rW2
        go_wp2_with fail
        refine HC.out.mono ?_
        rintro e w8 ⟨rfl,hb8⟩
        have HB1:Hid (AgL w4 D m d w8):=⟨HK.out.1.trans (hb8.mono HK.out.1.size),_,_,_,HK.out.2.below hb8 HK.out.2.lt⟩
        clear hb8 HC p0 p1 p2 u0 u1 u2 u3 HK HB0
        go_wp2_with fail
        rw [rounds_succ]
        as_aux_lemma=>
         obtain⟨hB1,s0,s1,s2,hR⟩:=HB1.out
         obtain⟨W,hW⟩:∃ W,W=w8.setRow w4.heap.size #[.int .i64 rs,.int .i64 re,.int .i64 rh,.slice D m d]:=⟨_,rfl⟩
         have hBW:Below w4.heap.size w4 W:=by rw [hW];exact hB1.grown (grownBy_setRow3 _ _ _) hB1.size (fun k hk=>by injection hk with hk;rw [←hk];exact Nat.le_refl _)
         have hRW:rowV W w4.heap.size 35 #[.int .i64 rs,.int .i64 re,.int .i64 rh,.slice D m d]:=by rw [hW];exact setRow_heap w8 w4.heap.size _ _ _ _ hR
         obtain⟨y0,y1,y2,y3⟩:=four_cellsV (H4.out.1.below hB1 H4.out.1.lt)
         have HRr:=Lib.hid hR
         have HW:=Lib.hid hW
         clear hW hR hB1
         go_upto_region 18 with (first | refine wpList_store_row rfl 35 (.tmp 10) (.tmp 76) rfl _ #[.int .i64 rs,.int .i64 re,.int .i64 rh,.slice D m d] rfl rfl _ _ HRr.out (hIrp _ _ _ _ _ _) rfl (hA4rp _ _ _ _ _ _) ?_)
         rw [←HW.out]
         clear y0 y1 y2 y3 HRr HW
         obtain⟨u0,u1,u2,u3⟩:=four_cellsV hRW
         have f1:=frozen_rowV' hRW 1
         go_upto_region 24 with fail
         obtain⟨W2,hW2⟩:∃ z,z=W.setCell ⟨w4.heap.size,1,none⟩ (.int .i64 (re-1)):=⟨_,rfl⟩
         rw [←hW2]
         have kW2:Below w4.heap.size w4 W2:=by rw [hW2];exact belowCell hBW (Nat.le_refl _) _
         have rW2:rowV W2 w4.heap.size 35 #[.int .i64 (rs),.int .i64 (re-1),.int .i64 (rh),.slice D m d]:=by rw [hW2];exact hRW.set 1 _
         have HC:=HST (rs) (re-1) (rh) W2 kW2 (.inr (.inl (by omega)))
         clear u0 u1 u2 u3 f1 hW2 hBW hRW
         obtain⟨p0,p1,p2⟩:=three_cellsV (H4.out.2.1.below kW2 H4.out.2.1.lt)
         obtain⟨u0,u1,u2,u3⟩:=four_cellsV rW2
         have HK:=Lib.hid (And.intro kW2 rW2)
         clear kW2 rW2
         go_wp2_with fail
         refine HC.out.mono ?_
         rintro e w9 ⟨rfl,hb8⟩
         have HB2:Hid (AgL w4 D m d w9):=⟨HK.out.1.trans (hb8.mono HK.out.1.size),_,_,_,HK.out.2.below hb8 HK.out.2.lt⟩
         clear hb8 HC p0 p1 p2 u0 u1 u2 u3 HK HB1
         go_wp2_with fail
         rw [rounds_succ]
         as_aux_lemma=>
          obtain⟨hB1,s0,s1,s2,hR⟩:=HB2.out
          obtain⟨W,hW⟩:∃ W,W=w9.setRow w4.heap.size #[.int .i64 rs,.int .i64 re,.int .i64 rh,.slice D m d]:=⟨_,rfl⟩
          have hBW:Below w4.heap.size w4 W:=by rw [hW];exact hB1.grown (grownBy_setRow3 _ _ _) hB1.size (fun k hk=>by injection hk with hk;rw [←hk];exact Nat.le_refl _)
          have hRW:rowV W w4.heap.size 35 #[.int .i64 rs,.int .i64 re,.int .i64 rh,.slice D m d]:=by rw [hW];exact setRow_heap w9 w4.heap.size _ _ _ _ hR
          obtain⟨y0,y1,y2,y3⟩:=four_cellsV (H4.out.1.below hB1 H4.out.1.lt)
          have HRr:=Lib.hid hR
          have HW:=Lib.hid hW
          clear hW hR hB1
          go_upto_region 18 with (first | refine wpList_store_row rfl 35 (.tmp 10) (.tmp 76) rfl _ #[.int .i64 rs,.int .i64 re,.int .i64 rh,.slice D m d] rfl rfl _ _ HRr.out (hIrp _ _ _ _ _ _) rfl (hA4rp _ _ _ _ _ _) ?_)
          rw [←HW.out]
          clear y0 y1 y2 y3 HRr HW
          obtain⟨u0,u1,u2,u3⟩:=four_cellsV hRW
          have f2:=frozen_rowV' hRW 2
          go_upto_region 24 with fail
          obtain⟨W2,hW2⟩:∃ z,z=W.setCell ⟨w4.heap.size,2,none⟩ (.int .i64 (rh-1)):=⟨_,rfl⟩
          rw [←hW2]
          have kW2:Below w4.heap.size w4 W2:=by rw [hW2];exact belowCell hBW (Nat.le_refl _) _
          have rW2:rowV W2 w4.heap.size 35 #[.int .i64 (rs),.int .i64 (re),.int .i64 (rh-1),.slice D m d]:=by rw [hW2];exact hRW.set 2 _
          have HC:=HST (rs) (re) (rh-1) W2 kW2 (.inr (.inr (by omega)))
          clear u0 u1 u2 u3 f2 hW2 hBW hRW
          obtain⟨p0,p1,p2⟩:=three_cellsV (H4.out.2.1.below kW2 H4.out.2.1.lt)
          obtain⟨u0,u1,u2,u3⟩:=four_cellsV rW2
          have HK:=Lib.hid (And.intro kW2 rW2)
          clear kW2 rW2
          go_wp2_with fail
          refine HC.out.mono ?_
          rintro e w10 ⟨rfl,hb8⟩
          have HB3:Hid (AgL w4 D m d w10):=⟨HK.out.1.trans (hb8.mono HK.out.1.size),_,_,_,HK.out.2.below hb8 HK.out.2.lt⟩
          clear hb8 HC p0 p1 p2 u0 u1 u2 u3 HK HB2
          go_wp2_with fail
          rw [rounds_succ]
          as_aux_lemma=>
           have g10:=H4.out.2.2.2.1.trans (HB3.out.1.mono H4.out.2.2.2.1.size)
           have HA:=Lib.hid (awake20_any w10 (HE.out.below g10))
           have HN:=Lib.hid g10
           clear g10
           go_wp2_with fail
           refine HA.out.mono ?_
           rintro e w11 ⟨rfl,hb8⟩
           have HM:=Lib.hid (HN.out.trans (hb8.mono HN.out.size))
           clear hb8 HA
           go_wp2_with fail
           go_ret
           exact⟨rfl,HM.out⟩
theorem sh_boxes(w:World)(A A':Option Addr)(n c n' c':Nat)(L a b:Int):∃ w1,w1=(w.alloc (.cells #[.slice A n c,.int .i64 L,.slice A' n' c'] 25)).alloc (.cells #[.int .u8 a,.int .u8 b] 47)∧Below w.heap.size w w1∧rowV w1 w.heap.size 25 #[.slice A n c,.int .i64 L,.slice A' n' c']∧rowV w1 (w.heap.size+1) 47 #[.int .u8 a,.int .u8 b]:=by
 have r1:=rowV.new w 25 #[.slice A n c,.int .i64 L,.slice A' n' c']
 have e1:(w.alloc (.cells #[.slice A n c,.int .i64 L,.slice A' n' c'] 25)).heap.size=w.heap.size+1:=by simp
 obtain⟨wa,hwa⟩:∃ x,x=w.alloc (.cells #[.slice A n c,.int .i64 L,.slice A' n' c'] 25):=⟨_,rfl⟩
 have k1:Below w.heap.size w wa:=by rw [hwa];exact balloc (Below.refl _ _) _
 rw [←hwa] at r1 e1 ⊢
 have r3:=rowV.new wa 47 #[.int .u8 a,.int .u8 b]
 have k3:Below wa.heap.size wa (wa.alloc (.cells #[.int .u8 a,.int .u8 b] 47)):=balloc (Below.refl _ _) _
 rw [e1] at r3
 exact⟨_,rfl,k1.trans (k3.mono k1.size),r1.below k3 r1.lt,r3⟩
theorem Ivs.src{w:World}{A:Option Addr}{n c:Nat}{l:List Iv}(h:Ivs w A n c l):SrcS encIv w A n l:=⟨h.1,fun hm=>by
 obtain⟨b,off,rfl,h1,h2⟩:=h.2.2 hm
 refine⟨b,off,rfl,h1,fun j u hu=>?_⟩
 obtain⟨i,hi,hc⟩:=flat_iv l j u hu
 rw [h.1] at hi
 rcases hc with ⟨rfl,rfl⟩ | ⟨rfl,rfl⟩
 ·exact (h2 i hi).1
 ·exact (h2 i hi).2⟩
theorem shrinks_any(A A':Option Addr)(n c n' c':Nat)(L:Int)(p:Prg)(ma mb:Int)(ha:0≤ma∧ma < 256)(hb:0≤mb∧mb < 256)(w:World)(hx:Progs w A n c L A' n' c' p)(hE:ErrR w) :
  Calls Tryz.prog 7 #[.agg #[.slice A n c,.int .i64 L,.slice A' n' c'],.agg #[.int .u8 ma,.int .u8 mb]] w (RetT w):=by
 obtain⟨w0,hw0,g0,r0,ra0⟩:=sh_boxes w A A' n c n' c' L ma mb
 have HFw:=Lib.hid (few15_any A A' n c n' c' L p w0 (hx.below g0))
 have hwf:Hid (∀ x∈p.code,0≤x.arg∧x.arg < 4294967296):=fun x h=>⟨(hx.code.2.2.1 x h).1,(hx.code.2.2.1 x h).2.1⟩
 have HE:=Lib.hid hE
 have HX:=Lib.hid hx
 have HG:=Lib.hid (And.intro r0 (And.intro ra0 g0))
 have Hw0:=Lib.hid hw0
 obtain⟨c0,c1,c2⟩:=three_cellsV r0
 clear hx hE g0 r0 ra0 hw0
 go_enter Tryz.func7,Tryz.ntmps7
 go_upto_region 1 with fail
 rw [←Hw0.out]
 go_wp2_with fail
 refine HFw.out.mono ?_
 intro e w1 hr
 obtain⟨⟨b,rfl,hfew⟩,hb1⟩:=hr
 have r1:=HG.out.1.below hb1 HG.out.1.lt
 have ra1:=HG.out.2.1.below hb1 HG.out.2.1.lt
 have g1:=HG.out.2.2.trans (hb1.mono HG.out.2.2.size)
 have H1:=Lib.hid (And.intro r1 (And.intro ra1 g1))
 have Hfew:=Lib.hid hfew
 clear hb1 r1 ra1 g1 hfew HFw c0 c1 c2
 cases b with
 | false=>
  have HA:=Lib.hid (awake20_any w1 (HE.out.below H1.out.2.2))
  go_wp2_with fail
  refine HA.out.mono ?_
  rintro e w2 ⟨rfl,hb2⟩
  have HN:=Lib.hid (H1.out.2.2.trans (hb2.mono H1.out.2.2.size))
  clear hb2 HA
  go_wp2_with fail
  go_ret
  exact⟨rfl,HN.out⟩
 | true=>
  obtain⟨hn,hn'⟩:=Hfew.out rfl
  obtain⟨c0,c1,c2⟩:=three_cellsV H1.out.1
  have HV:=Lib.hid (verifyW_any A A' n c n' c' L p w1 (HX.out.below H1.out.2.2))
  clear Hfew
  go_wp2_with fail
  refine HV.out.mono ?_
  intro e w2 hr
  clear HV
  cases hv:verP p with
  | stuck=>rw [hv] at hr;exact hr.elim
  | bad a x=>
   rw [hv] at hr
   obtain⟨rfl,hb2⟩:=hr
   obtain⟨hal,hx0⟩:=verP_bad hwf.out (formE_nonneg p) hv
   obtain⟨w3,hw3⟩:∃ z,z=w2.alloc (.cells #[.int .i64 0,.int .i64 0,.int .i64 0,.slice none 0 0] 35):=⟨_,rfl⟩
   have k3:Below w2.heap.size w2 w3:=by rw [hw3];exact balloc (Below.refl _ _) _
   have g3:=(H1.out.2.2.trans (hb2.mono H1.out.2.2.size)).trans (k3.mono (H1.out.2.2.trans (hb2.mono H1.out.2.2.size)).size)
   have d1:(x != 0)=true:=by simp;omega
   have HA:=Lib.hid (awake20_any w3 (HE.out.below g3))
   have H3:=Lib.hid g3
   have Hw3:=Lib.hid hw3
   clear hb2 hx0 hal hw3 k3 g3 hv c0 c1 c2 hn hn'
   go_upto_region 5 with fail
   rw [←Hw3.out]
   go_wp2_with fail
   refine HA.out.mono ?_
   rintro e w4 ⟨rfl,hb4⟩
   have HN:=Lib.hid (H3.out.trans (hb4.mono H3.out.size))
   clear hb4 HA
   go_wp2_with fail
   go_ret
   exact⟨rfl,HN.out⟩
  | ok rp=>
   rw [hv] at hr
   obtain⟨⟨D,m,d,rfl,hinv⟩,hb2⟩:=hr
   have HRo:=Lib.hid (reports_of hwf.out hv)
   have hchk:=(verP_of hv).1
   obtain⟨hok,-,-,-,-⟩:=prgOk_of hwf.out hchk
   have hlo16:p.locs≤16:=hok.locs.2
   obtain⟨⟨rs,re,rh,ri⟩,hrp⟩:∃ z,z=rp:=⟨_,rfl⟩
   subst hrp
   simp only [] at hinv
   have Hv:=Lib.hid hv
   obtain⟨w3,hw3⟩:∃ z,z=w2.alloc (.cells #[.int .i64 rs,.int .i64 re,.int .i64 rh,.slice D m d] 35):=⟨_,rfl⟩
   have k3:Below w2.heap.size w2 w3:=by rw [hw3];exact balloc (Below.refl _ _) _
   have r3:rowV w3 w2.heap.size 35 #[.int .i64 rs,.int .i64 re,.int .i64 rh,.slice D m d]:=by rw [hw3];exact rowV.new w2 _ _
   have b2:=H1.out.2.2.trans (hb2.mono H1.out.2.2.size)
   have g3:=b2.trans (k3.mono b2.size)
   have q3:=(H1.out.1.below hb2 H1.out.1.lt).below k3 (H1.out.1.below hb2 H1.out.1.lt).lt
   have qa3:=(H1.out.2.1.below hb2 H1.out.2.1.lt).below k3 (H1.out.2.1.below hb2 H1.out.2.1.lt).lt
   have i3:=hinv.invs.below k3
   have hm:m≤1000:=by
    rw [←i3.1]
    have h2:=congrArg List.length HRo.out.ats
    simp only [List.length_map] at h2
    rw [h2]
    unfold loopsOf
    exact Nat.le_trans (Nat.le_trans (List.length_filter_le _ _) (by rw [List.length_range];exact Nat.le_refl _)) (by have:=HX.out.code.1;omega)
   have hll:∀ x∈ri,x.locs.length≤1000:=fun x hx=>by have:=(HRo.out.inv x hx).2.2.1;omega
   have Hm:=Lib.hid (And.intro hm hll)
   have H3:=Lib.hid (And.intro r3 (And.intro q3 (And.intro qa3 (And.intro g3 i3))))
   have Hw3:=Lib.hid hw3
   have HLo:=Lib.hid (And.intro hlo16 HX.out.locs)
   clear hb2 hchk hok hw3 k3 r3 g3 q3 qa3 i3 hv hinv c0 c1 c2 b2 hm hll hlo16
   go_upto_region 4 with fail
   rw [←Hw3.out]
   obtain⟨c0,c1,c2⟩:=three_cellsV H3.out.2.1
   obtain⟨y0,y1,y2,y3⟩:=four_cellsV H3.out.1
   by_cases hm0:m=0
   ·have dm:((m:Int)==0)=true:=by simp [hm0]
    have dm':(m==0)=true:=by simp [hm0]
    have HA:=Lib.hid (awake20_any w3 (HE.out.below H3.out.2.2.2.1))
    have HN0:=Lib.hid H3.out.2.2.2.1
    clear hm0
    go_wp2_with fail
    refine HA.out.mono ?_
    rintro e w4 ⟨rfl,hb4⟩
    have HN:=Lib.hid (HN0.out.trans (hb4.mono HN0.out.size))
    clear hb4 HA c0 c1 c2 y0 y1 y2 y3
    go_wp2_with fail
    go_ret
    exact⟨rfl,HN.out⟩
   have dm:((m:Int)==0)=false:=by simp [hm0]
   have dm':(m==0)=false:=by simp [hm0]
   by_cases hL1:L < 1
   ·have dL:decide (L < 1)=true:=by simp;omega
    have HA:=Lib.hid (awake20_any w3 (HE.out.below H3.out.2.2.2.1))
    have HN0:=Lib.hid H3.out.2.2.2.1
    clear hm0 hL1
    go_wp2_with fail
    refine HA.out.mono ?_
    rintro e w4 ⟨rfl,hb4⟩
    have HN:=Lib.hid (HN0.out.trans (hb4.mono HN0.out.size))
    clear hb4 HA c0 c1 c2 y0 y1 y2 y3
    go_wp2_with fail
    go_ret
    exact⟨rfl,HN.out⟩
   have dL:decide (L < 1)=false:=by simp;omega
   have dL0:¬ L=0:=by omega
   have hil:ri.length=m:=H3.out.2.2.2.2.1
   obtain⟨x,R,hri⟩:∃ x R,ri=x :: R:=by
    cases ri with
    | nil=>exact absurd hil.symm hm0
    | cons x R=>exact⟨x,R,rfl⟩
   subst hri
   obtain⟨xa,xm,xl⟩:=x
   obtain⟨xn,hxn⟩:∃ xn:Nat,xa=(xn:Int):=by
    have h1:xa∈(loopsOf p.code).map (fun (k:Nat)=>(k:Int)):=by rw [←HRo.out.ats];exact List.mem_cons_self ..
    obtain⟨j,-,hj⟩:=List.mem_map.1 h1
    exact⟨j,hj.symm⟩
   subst hxn
   have hxi:=HRo.out.inv ⟨xn,xm,xl⟩ (List.mem_cons_self ..)
   obtain⟨hx1,hx2,hx3,hx4⟩:=hxi
   simp only [] at hx1 hx2 hx3 hx4
   obtain⟨kk,hkk⟩:∃ kk:Nat,mb % L=kk:=⟨(mb % L).toNat,by have:=Int.emod_nonneg mb dL0;omega⟩
   have hkL:(kk:Int) < L:=by rw [←hkk];exact Int.emod_lt_of_pos _ (by omega)
   obtain⟨Ln,hLn⟩:∃ Ln,Ln=xl.length:=⟨_,rfl⟩
   have hLL:(Ln:Int)=L:=by rw [hLn,hx3,HLo.out.2]
   have hkn:kk < Ln:=by omega
   have hL16:Ln≤16:=by have h1:=HLo.out.1;have h2:=HLo.out.2;omega
   have HS:=Lib.hid (fun (hst:∀ j:Nat,j < p.code.length→(j:Int) < (xn:Int)→oI p.code j≠2)=>shrinks_of (k:=kk) (lo:=1+ma) hwf.out Hv.out rfl hst (by rw [←HLo.out.2];exact hkL) (by omega))
   obtain⟨db,doff,rfl,hdb,xx0,xx1,A2,c2',xx2,hiv0⟩:=H3.out.2.2.2.2.get (k:=0) (by omega)
   have x0:w3.cell? ⟨db,doff,none⟩=some (.int .i64 (xn:Int)):=by rw [Nat.zero_mul,Nat.add_zero] at xx0;exact xx0
   have x1:w3.cell? ⟨db,doff+1,none⟩=some (.int .i64 xm):=by rw [Nat.zero_mul,Nat.add_zero] at xx1;exact xx1
   have x2:w3.cell? ⟨db,doff+2,none⟩=some (.slice A2 Ln c2'):=by rw [Nat.zero_mul,Nat.add_zero] at xx2;rw [hLn];exact xx2
   have hiv:Ivs w3 A2 Ln c2' xl:=by rw [hLn];exact hiv0
   obtain⟨w4,hw4⟩:∃ z,z=w3.alloc (.cells #[.int .i64 (xn:Int),.int .i64 xm,.slice A2 Ln c2'] 50):=⟨_,rfl⟩
   have k4:Below w3.heap.size w3 w4:=by rw [hw4];exact balloc (Below.refl _ _) _
   have r4:rowV w4 w3.heap.size 50 #[.int .i64 (xn:Int),.int .i64 xm,.slice A2 Ln c2']:=by rw [hw4];exact rowV.new w3 _ _
   have dm0:decide ((0:Int) < (m:Int))=true:=by simp;omega
   have dm0':decide (0 < m)=true:=by simp;omega
   have m0:0 < m:=by omega
   have dLL:((Ln:Int) != L)=false:=by simp [hLL]
   have z1:=(two_cellsV H3.out.2.2.1).2
   have Hx:=Lib.hid (And.intro hx3 (And.intro hLn hil))
   have Hk:=Lib.hid (And.intro hkL (And.intro hkn hLL))
   have Hw4:=Lib.hid hw4
   have Hkk:=Lib.hid hkk
   have g4:=H3.out.2.2.2.1.trans (k4.mono H3.out.2.2.2.1.size)
   have H4:=Lib.hid (And.intro r4 (And.intro k4 (And.intro (hiv.below k4) g4)))
   clear hx1 hx2 hx3 hx4 hLn hil hkL hkn hLL hw4 hkk r4 k4 hiv hm0 hL1 xx0 xx1 xx2 hiv0 g4
   go_upto_region 7 with fail
   rw [Hkk.out]
   go_upto_region 8 with fail
   rw [←Hw4.out]
   clear c0 c1 c2 y0 y1 y2 y3 x0 x1 x2 z1 dL0
   obtain⟨c0,c1,c2⟩:=three_cellsV (H3.out.2.1.below H4.out.2.1 H3.out.2.1.lt)
   obtain⟨v0,v1,v2⟩:=three_cellsV H4.out.1
   go_wp2_with fail
   go_loop [10] (fun i=>∃ k:Nat,k≤n'∧k≤xn∧i=.int .i64 (k:Int)∧Hid (∀ j,j < k→oI p.code j≠2)) (fun i=>n'-(intOf i).toNat)
   case atStart=>exact⟨0,Nat.zero_le _,Nat.zero_le _,rfl,fun j hj=>absurd hj (Nat.not_lt_zero _)⟩
   case round=>
    obtain⟨k,hk,hkx,rfl,HJ⟩:=hrel
    by_cases hlt:k < xn∧k < n'
    ·obtain⟨hl1,hl2⟩:=hlt
     have e1:decide ((k:Int) < (xn:Int))=true:=by simp;omega
     have e1':decide (k < xn)=true:=by simp;omega
     have e2:decide ((k:Int) < (n':Int))=true:=by simp;omega
     have e2':decide (k < n')=true:=by simp;omega
     obtain⟨cb,off,rfl,hcb,hcell⟩:=(HX.out.code.below H4.out.2.2.2).get hl2
     have x0:w4.cell? ⟨cb,off+k * 2,none⟩=some (.int .i64 (oI p.code k)):=(hcell k hl2).1
     obtain⟨op,hop⟩:∃ op,op=oI p.code k:=⟨_,rfl⟩
     rw [←hop] at x0
     have Hop:=Lib.hid hop
     clear hcell hop
     by_cases h2:op=2
     ·subst h2
      have HA:=Lib.hid (awake20_any w4 (HE.out.below H4.out.2.2.2))
      go_wp2_with fail
      refine HA.out.mono ?_
      rintro e w5 ⟨rfl,hb5⟩
      have HN:=Lib.hid (H4.out.2.2.2.trans (hb5.mono H4.out.2.2.2.size))
      clear hb5 HA c0 c1 c2 v0 v1 v2 x0
      go_wp2_with fail
      go_ret
      exact⟨rfl,HN.out⟩
     ·have q2:(op==2)=false:=by simpa using h2
      have HJ2:Hid (∀ j,j < k+1→oI p.code j≠2):=fun j hj=>by
       rcases Nat.lt_succ_iff_lt_or_eq.1 hj with h | rfl
       ·exact HJ.out j h
       ·rw [←Hop.out];exact h2
      clear h2
      go_wp2_with fail
      go_round
      case rel=>exact⟨k+1,by omega,by omega,by go_num,HJ2⟩
      case measure=>(simp [intOf]) <;> omega
    ·have hst:∀ j:Nat,j < p.code.length→(j:Int) < (xn:Int)→oI p.code j≠2:=fun j h1 h2=>HJ.out j (by have:=HX.out.code.1;omega)
     obtain⟨-,hz9,hcon⟩:=HS.out hst
     have hz0:(gL xl kk).lo=0:=hz9
     have Hcon:=Lib.hid hcon
     obtain⟨ib,io,rfl,hib,hic⟩:=H4.out.2.2.1.2.2 (by have:=Hk.out.2.1;omega)
     have i0:w4.cell? ⟨ib,io+kk * 2,none⟩=some (.int .i64 0):=by rw [(hic kk Hk.out.2.1).1];show some (Value.int .i64 (gL xl kk).lo)=_;rw [hz0]
     have hkn:kk < Ln:=Hk.out.2.1
     have hcase:(decide ((k:Int) < (xn:Int))=false∧decide (k < xn)=false)∨(decide ((k:Int) < (xn:Int))=true∧decide (k < xn)=true∧decide ((k:Int) < (n':Int))=false∧decide (k < n')=false):=by
      rcases Nat.lt_or_ge k xn with h1 | h1
      ·have:¬ k < n':=fun h=>hlt ⟨h1,h⟩
       exact .inr ⟨by simp;omega,by simp;omega,by simp;omega,by simp;omega⟩
      ·exact .inl ⟨by simp;omega,by simp;omega⟩
     have hL16:Ln≤16:=hL16
     clear hcon hst hlt hic hz0 hz9 HJ HS hk hkx
     obtain⟨W5,hW5⟩:∃ z,z=w4.alloc (.cells #[] 55):=⟨_,rfl⟩
     have k5:Below w4.heap.size w4 W5:=by rw [hW5];exact balloc (Below.refl _ _) _
     have hs5:W5.heap.size=w4.heap.size+1:=by rw [hW5];simp
     have ho5:OwnS encIv 2 W5 w4.heap.size 55 (some ⟨w4.heap.size,0,none⟩) 0 0 []:=by rw [hW5];exact OwnS.lit [] #[] rfl (fun _=>rfl) (Nat.le_refl _) (Nat.zero_le _)
     have hsr5:=(H4.out.2.2.1.below k5).src
     have HO5:=Lib.hid (And.intro ho5 (And.intro hsr5 (show w4.heap.size≤W5.heap.size by omega)))
     have HW5:=Lib.hid hW5
     have HK5:=Lib.hid k5
     have hml:=Lib.hid (show (0+Ln≤maxLen∧(0+Ln) * 16≤140737488355328) by unfold maxLen;omega)
     have hl34:=H4.out.1.lt
     clear k5 hs5 ho5 hsr5 hW5
     obtain⟨zs0,hnv,hsrc0⟩:=H3.out.2.2.2.2.nvs
     cases zs0 with
     | nil=>exact absurd hnv.1 (by simp)
     | cons z0s zs=>
     have hmd:m≤d:=H3.out.2.2.2.2.2.1
     have hsrcT:=SrcS.tail (enc:=encNV) (sz:=3) (fun _=>rfl) hsrc0
     obtain⟨A9s,hA9⟩:∃ z,z=if d=1 then (some ⟨db,doff,none⟩:Option Addr) else (some ⟨db,doff,none⟩:Option Addr).map (·.add (1 * 3)):=⟨_,rfl⟩
     have qc:∀ W:World,(Instr.slice 33 (.slice (some ⟨db,doff,none⟩) m d) (some (.int .i64 1)) none none).run Tryz.prog W=.ok (.slice A9s (m-1) (d-1)) W:=fun W=>by rw [hA9];exact cutNv_l _ m d 1 (by omega) (by omega) W
     have hsrcA:SrcS encNV w3 A9s (m-1) zs:=by
      rw [hA9]
      split
      ·exact⟨hsrcT.1,fun h=>absurd h (by omega)⟩
      ·exact hsrcT
     obtain⟨mr,hmr⟩:∃ mr,mr=m-1:=⟨_,rfl⟩
     obtain⟨dr,hdr⟩:∃ dr,dr=d-1:=⟨_,rfl⟩
     rw [←hmr,←hdr] at qc
     rw [←hmr] at hsrcA
     have HNV:=Lib.hid (And.intro hnv.tail (And.intro hsrcA (show 1+mr≤1000 by have:=Hm.out.1;omega)))
     have hm5:=Lib.hid (show (1+mr≤maxLen∧(1+mr) * 40≤140737488355328) by have:=Hm.out.1;unfold maxLen;omega)
     have one_m:decide ((1:Int)≤(m:Int))=true:=by simp;omega
     clear hnv hsrc0 hmd hsrcT hA9 hsrcA hmr hdr
     rcases hcase with ⟨e1,e1'⟩ | ⟨e1,e1',e2,e2'⟩
     all_goals
      go_wp2_with (at_builtin;rw [←HW5.out];refine wpList_appS (enc:=encIv) rfl (.tmp 83) (.tmp 85) rfl uIvs infoIv encIv_one rfl (fun _=>rfl) (by decide) rfl HO5.out.1 HO5.out.2.2 (some ⟨ib,io,none⟩) Ln c2' xl HO5.out.2.1 rfl hml.out.1 hml.out.2 ?_;intro A6 c6 w6 ho6 hb6 hg6 hf6;rw [Nat.zero_add] at ho6 ⊢;rw [List.nil_append] at ho6;obtain⟨ab,rfl,hab1,hab2,hoc⟩:=ho6.get (fun _=>rfl) (by decide) ⟨0,0⟩ (by omega);have a0:w6.cell? ⟨ab,kk * 2,none⟩=some (.int .i64 (gL xl kk).lo):=hoc kk 0 _ hkn rfl;have a1:w6.cell? ⟨ab,kk * 2+1,none⟩=some (.int .i64 (gL xl kk).hi):=hoc kk 1 _ hkn rfl;have z0:=World.ownsRow.frozenAt ho6 (kk * 2);have z1:=World.ownsRow.frozenAt ho6 (kk * 2+1);have b6:Below w4.heap.size w4 w6:=HK5.out.trans hb6;have q0:=(b6.cell (p:=⟨w.heap.size+1,0,none⟩) (Nat.lt_of_lt_of_le H3.out.2.2.1.lt H4.out.2.1.size)).trans (two_cellsV (H3.out.2.2.1.below H4.out.2.1 H3.out.2.2.1.lt)).1;have r5:=(H3.out.1.below H4.out.2.1 H3.out.1.lt).below b6 (H3.out.1.below H4.out.2.1 H3.out.1.lt).lt;obtain⟨y0,y1,y2,y3⟩:=four_cellsV r5;have hne:ab≠w2.heap.size:=(by have:=(H3.out.1.below H4.out.2.1 H3.out.1.lt).lt;omega);have R5:=Lib.hid r5;have B6:=Lib.hid b6;have O6:=Lib.hid ho6;clear hb6 hg6 hf6 ho6 b6 r5 hoc c0 c1 c2 v0 v1 v2 i0)
      obtain⟨w7,hw7⟩:∃ z,z=(w6.setCell ⟨ab,kk * 2,none⟩ (.int .i64 (1+ma))).setCell ⟨ab,kk * 2+1,none⟩ (.int .i64 300):=⟨_,rfl⟩
      obtain⟨ho7,hg7⟩:=O6.out.setIv kk hkn ⟨1+ma,300⟩
      rw [←hw7] at ho7 hg7
      have b7:Below w4.heap.size w4 w7:=B6.out.grown hg7 B6.out.size (fun k hk=>by injection hk with hk;omega)
      obtain⟨w8,hw8⟩:∃ z,z=w7.alloc (.cells #[.int .i64 rs,.int .i64 re,.int .i64 rh,.slice (some ⟨db,doff,none⟩) m d] 35):=⟨_,rfl⟩
      have k8:Below w7.heap.size w7 w8:=by rw [hw8];exact balloc (Below.refl _ _) _
      have r8:rowV w8 w7.heap.size 35 #[.int .i64 rs,.int .i64 re,.int .i64 rh,.slice (some ⟨db,doff,none⟩) m d]:=by rw [hw8];exact rowV.new w7 _ _
      have hs67:w7.heap.size=w6.heap.size:=by rw [hw7];simp
      have HS67:=Lib.hid hs67
      rw [hs67] at r8
      have HW7:=Lib.hid hw7
      have HW8:=Lib.hid hw8
      have HO7:=Lib.hid (And.intro ho7 b7)
      have H8:=Lib.hid (And.intro k8 r8)
      rw [←hw7,←hw8]
      clear ho7 hg7 b7 hw7 hw8 k8 r8 hs67 a0 a1 z0 z1 q0 y0 y1 y2 y3 R5 O6 B6 HO5 HK5 HW5
      have b78:Below w4.heap.size w4 w8:=HO7.out.2.trans (H8.out.1.mono HO7.out.2.size)
      have r9:=H4.out.1.below b78 H4.out.1.lt
      have r5:=(H3.out.1.below H4.out.2.1 H3.out.1.lt).below b78 (H3.out.1.below H4.out.2.1 H3.out.1.lt).lt
      obtain⟨v0,v1,v2⟩:=three_cellsV r9
      obtain⟨y0,y1,y2,y3⟩:=four_cellsV r5
      have l9:=r9.lt
      have l5:=r5.lt
      have l78:=H8.out.2.lt
      have ho9:OwnS encNV 3 (w8.drew.alloc (.cells #[.int .i64 (xn:Int),.int .i64 xm,.slice (some ⟨ab,0,none⟩) Ln c6] 50)) w8.heap.size 50 (some ⟨w8.heap.size,0,none⟩) 1 1 [⟨(xn:Int),xm,some ⟨ab,0,none⟩,Ln,c6⟩]:=OwnS.lit (w:=w8.drew) (enc:=encNV) (sz:=3) [(⟨(xn:Int),xm,some ⟨ab,0,none⟩,Ln,c6⟩:NV)] _ rfl (fun _=>rfl) (Nat.le_refl _) (by simp [maxLen])
      have k9:Below w8.heap.size w8 (w8.drew.alloc (.cells #[.int .i64 (xn:Int),.int .i64 xm,.slice (some ⟨ab,0,none⟩) Ln c6] 50)):=(show Below w8.heap.size w8 w8.drew from bdrew (Below.refl _ w8) 1).trans (show Below w8.heap.size w8.drew _ from balloc (w:=w8.drew) (Below.refl _ _) _)
      have hsr9:SrcS encNV (w8.drew.alloc (.cells #[.int .i64 (xn:Int),.int .i64 xm,.slice (some ⟨ab,0,none⟩) Ln c6] 50)) A9s mr zs:=HNV.out.2.1.below ((H4.out.2.1.trans (b78.mono H4.out.2.1.size)).trans (k9.mono (Nat.le_trans H4.out.2.1.size b78.size)))
      have r12:=H8.out.2.below k9 l78
      have HO9:=Lib.hid (And.intro ho9 (And.intro k9 (And.intro hsr9 (And.intro r12 k9.size))))
      have hB78:=Lib.hid b78
      clear ho9 k9 hsr9 r12 r9 r5 b78
      go_cut [] (fun wx=>∃ (A9:Option Addr) (c9:Nat),Hid (rowV wx w6.heap.size 35 #[.int .i64 rs,.int .i64 re,.int .i64 rh,.slice A9 (1+mr) c9]∧OwnS encNV 3 wx w8.heap.size 50 A9 (1+mr) c9 (⟨(xn:Int),xm,some ⟨ab,0,none⟩,Ln,c6⟩ :: zs)∧Below w6.heap.size w7 wx))
      case first=>
       go_region_law (first | (refine step_appS (enc:=encNV) rfl (.tmp 102) (.tmp 105) rfl uNvs infoNV encNV_one rfl (fun _=>rfl) (by decide) rfl HO9.out.1 HO9.out.2.2.2.2 A9s mr dr zs HO9.out.2.2.1 rfl hm5.out.1 hm5.out.2 ?_;intro A9 c9 w9 ho9 hb9 hg9 hf9;have r12:=HO9.out.2.2.2.1.grown hg9 (fun e=>by injection e with e;have e:w6.heap.size=w8.heap.size:=e;omega);have b3:=cell_rowV r12 (j:=3) rfl;have f3:=frozen_rowV' r12 3))
       all_goals
        have HN:Hid (rowV (w9.setCell ⟨w6.heap.size,3,none⟩ (.slice A9 (1+mr) c9)) w6.heap.size 35 #[.int .i64 rs,.int .i64 re,.int .i64 rh,.slice A9 (1+mr) c9]∧OwnS encNV 3 (w9.setCell ⟨w6.heap.size,3,none⟩ (.slice A9 (1+mr) c9)) w8.heap.size 50 A9 (1+mr) c9 (⟨(xn:Int),xm,some ⟨ab,0,none⟩,Ln,c6⟩ :: zs)∧Below w6.heap.size w7 (w9.setCell ⟨w6.heap.size,3,none⟩ (.slice A9 (1+mr) c9))):=⟨r12.set 3 _,OwnS.grown ho9 (grownBy.setCell' (World.grownBy.refl _ _) _) (ho9.ne_row r12 (by decide)),belowCell ((H8.out.1.trans ((HO9.out.2.1.trans hb9).mono H8.out.1.size)).mono (by rw [HS67.out];exact Nat.le_refl _)) (Nat.le_refl _) _⟩
        clear ho9 hb9 hg9 hf9 r12 b3 f3
        go_wp2_with fail
        go_meet
        exact⟨A9,c9,HN⟩
      case rest=>
       obtain⟨A9,c9,HN⟩:=hcut
       have b47:=HO7.out.2
       have b410:=b47.trans (HN.out.2.2.mono (show w4.heap.size≤w6.heap.size by rw [←HS67.out];exact b47.size))
       have b310:=H4.out.2.1.trans (b410.mono H4.out.2.1.size)
       have g10:=H3.out.2.2.2.1.trans (b310.mono H3.out.2.2.2.1.size)
       have hiv10:=(HO7.out.1.ivs).below (HN.out.2.2.mono (by rw [HS67.out];exact Nat.le_refl _))
       have hinv10:Invs wc A9 (1+mr) c9 (⟨(xn:Int),xm,xl.set kk ⟨1+ma,300⟩⟩ :: R):=Invs.of_own HN.out.2.1 (NVm.cons (x:=⟨(xn:Int),xm,xl.set kk ⟨1+ma,300⟩⟩) (HNV.out.1.below b310) (by show Ln=(xl.set kk ⟨1+ma,300⟩).length;rw [List.length_set];exact Hx.out.2.1) hiv10)
       have hcp:conP p ⟨rs,re,rh,⟨(xn:Int),xm,xl.set kk ⟨1+ma,300⟩⟩ :: R⟩=(xn,23):=Hcon.out
       have HC0:=confirmW_any A A' A9 n c n' c' (1+mr) c9 L p ⟨rs,re,rh,⟨(xn:Int),xm,xl.set kk ⟨1+ma,300⟩⟩ :: R⟩ wc (HX.out.below g10) hinv10 HNV.out.2.2 (fun y hy=>by
        rcases List.mem_cons.1 hy with h1 | h1
        ·subst h1
         show (xl.set kk ⟨1+ma,300⟩).length≤1000
         rw [List.length_set,←Hx.out.2.1];omega
        ·exact Hm.out.2 y (List.mem_cons_of_mem _ h1))
       rw [hcp] at HC0
       have HC:Hid (Calls Tryz.prog 18 #[.agg #[.slice A n c,.int .i64 L,.slice A' n' c'],.agg #[.int .i64 rs,.int .i64 re,.int .i64 rh,.slice A9 (1+mr) c9]] wc fun e w'=>e=.returned (.tuple #[.int .i64 (xn:Int),.int .i64 23])∧Below wc.heap.size wc w'):=HC0
       have r9:=H4.out.1.below b410 H4.out.1.lt
       have q10:=(H3.out.2.1.below b310 H3.out.2.1.lt)
       obtain⟨c0,c1,c2⟩:=three_cellsV q10
       clear v0 v1 v2 y0 y1 y2 y3
       obtain⟨u0,u1,u2,u3⟩:=four_cellsV HN.out.1
       have HE10:=Lib.hid (And.intro r9 g10)
       clear b47 b410 b310 g10 hiv10 hinv10 hcp HC0 r9 q10
       go_wp2_with fail
       refine HC.out.mono ?_
       rintro e w11 ⟨rfl,hb11⟩
       have r9:=HE10.out.1.below hb11 HE10.out.1.lt
       have H11:=Lib.hid (And.intro r9 (HE10.out.2.trans (hb11.mono HE10.out.2.size)))
       have HA:=Lib.hid (awake20_any w11 (HE.out.below H11.out.2))
       clear hb11 HC c0 c1 c2 u0 u1 u2 u3 r9
       go_wp2_with fail
       refine HA.out.mono ?_
       rintro e w12 ⟨rfl,hb12⟩
       obtain⟨v0,v1,v2⟩:=three_cellsV (H11.out.1.below hb12 H11.out.1.lt)
       have HM:=Lib.hid (H11.out.2.trans (hb12.mono H11.out.2.size))
       clear hb12 HA
       go_wp2_with fail
       go_ret
       exact⟨rfl,HM.out⟩
end Go.Proofs.YtepoclhdklgnhaaGreatDoor
