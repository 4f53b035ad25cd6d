/- Kh Ki. -/
import Derived.Test.YtpaplehcafeeaaaGreatDoorLC36
import Derived.Test.YtpaplehcafeeaaaGreatDoorLC37
import Derived.Test.YtpaplehcafeeaaaGreatDoorLC38
set_option maxRecDepth 100000
set_option maxHeartbeats 40000000
set_option linter.unusedVariables false
set_option linter.unusedSimpArgs false
namespace Go.Proofs.YtpaplehcafeeaaaGreatDoor
open Go.RowKit Go.Proofs
def sAL:List UInt8:=[108,111,99,97,108,32,105,32,112,117,115,104,32,51,32,108,111,111,112,32,108,111,97,100,32,105,32,101,109,105,116,32,108,111,97,100,32,105,32,112,117,115,104,32,49,32,97,100,100,32,115,116,111,114,101,32,105,32,101,110,100]
def sBL:List UInt8:=[112,117,115,104,32,49,32,112,117,115,104,32,50,32,115,119,97,112,32,100,114,111,112,32,100,114,111,112]
def pAL:Prg:=⟨[],1,[⟨0,3⟩,⟨29,0⟩,⟨1,0⟩,⟨34,0⟩,⟨1,0⟩,⟨0,1⟩,⟨8,0⟩,⟨2,0⟩,⟨31,0⟩]⟩
def pBL:Prg:=⟨[],0,[⟨0,1⟩,⟨0,2⟩,⟨7,0⟩,⟨6,0⟩,⟨6,0⟩]⟩
def cAL:List RI:=[⟨0,1,-1,-1,3⟩,⟨29,-1,1,-1,3⟩,⟨36,1,0,-1,0⟩,⟨34,-1,1,-1,0⟩,⟨36,1,0,-1,0⟩,⟨0,2,-1,-1,1⟩,⟨8,1,1,2,0⟩,⟨36,0,1,-1,0⟩,⟨31,-1,-1,-1,0⟩]
def cBL:List RI:=[⟨0,0,-1,-1,1⟩,⟨0,1,-1,-1,2⟩,⟨36,2,1,-1,0⟩,⟨36,1,0,-1,0⟩,⟨36,0,2,-1,0⟩]
def okL(p:Prg)(regs:Int)(c:List RI):Bool:=match verP p with
 | .ok r=>decide (p.arrs.length=0) && (decide (p.locs+r.hgt+1=regs) && decide ((lowP p r).code=c))
 | _=>false
theorem rdAL:okS sAL pAL=true:=by decide +kernel
theorem rdBL:okS sBL pBL=true:=by decide +kernel
theorem lwAL:okL pAL 4 cAL=true:=by decide +kernel
theorem lwBL:okL pBL 3 cBL=true:=by decide +kernel
theorem mkRI_any(op t a b arg:Int)(w:World):Calls Tryz.prog 27 #[.int .i64 op,.int .i64 t,.int .i64 a,.int .i64 b,.int .u32 arg] w fun e w'=>e=.returned (riV ⟨op,t,a,b,arg⟩)∧Below w.heap.size w w':=by
 unfold riV
 simp only []
 obtain⟨w1,hw1⟩:∃ z,z=w.alloc (.cells #[.int .i64 0,.int .i64 0,.int .i64 0,.int .i64 0,.int .u32 0] 47):=⟨_,rfl⟩
 have b1:Below w.heap.size w w1:=by rw [hw1];exact balloc (Below.refl _ _) _
 have r1:rowV w1 w.heap.size 47 #[.int .i64 0,.int .i64 0,.int .i64 0,.int .i64 0,.int .u32 0]:=by rw [hw1];exact rowV.new w _ _
 have x0:=cell_rowV r1 (j:=0) rfl
 have x1:=cell_rowV r1 (j:=1) rfl
 have x2:=cell_rowV r1 (j:=2) rfl
 have x3:=cell_rowV r1 (j:=3) rfl
 have x4:=cell_rowV r1 (j:=4) rfl
 have f0:=frozen_rowV' r1 0
 have f1:=frozen_rowV' r1 1
 have f2:=frozen_rowV' r1 2
 have f3:=frozen_rowV' r1 3
 have f4:=frozen_rowV' r1 4
 have R:=Lib.hid (((((r1.set 0 (.int .i64 op)).set 1 (.int .i64 t)).set 2 (.int .i64 a)).set 3 (.int .i64 b)).set 4 (.int .u32 arg))
 have B:=Lib.hid (belowCell (belowCell (belowCell (belowCell (belowCell (j:=0) (g:=w.heap.size) b1 (Nat.le_refl _) (.int .i64 op)) (j:=1) (g:=w.heap.size) (Nat.le_refl _) (.int .i64 t)) (j:=2) (g:=w.heap.size) (Nat.le_refl _) (.int .i64 a)) (j:=3) (g:=w.heap.size) (Nat.le_refl _) (.int .i64 b)) (j:=4) (g:=w.heap.size) (Nat.le_refl _) (.int .u32 arg))
 have Hw1:=Lib.hid hw1
 clear hw1 b1 r1
 go_enter Tryz.func27,Tryz.ntmps27
 go_upto_region 1 with fail
 rw [←Hw1.out]
 go_wp2_with fail
 have y0:=cell_rowV R.out (j:=0) (v:=.int .i64 op) rfl
 have y1:=cell_rowV R.out (j:=1) (v:=.int .i64 t) rfl
 have y2:=cell_rowV R.out (j:=2) (v:=.int .i64 a) rfl
 have y3:=cell_rowV R.out (j:=3) (v:=.int .i64 b) rfl
 have y4:=cell_rowV R.out (j:=4) (v:=.int .u32 arg) rfl
 refine bodyPost_ret (v:=.agg #[.int .i64 op,.int .i64 t,.int .i64 a,.int .i64 b,.int .u32 arg]) (by simp [results,Tryz.results27,go_sem,y0,y1,y2,y3,y4]) rfl ⟨rfl,B.out⟩
theorem okL_of{p:Prg}{regs:Int}{c:List RI}(h:okL p regs c=true):∃ r,verP p=.ok r∧p.arrs=[]∧p.locs+r.hgt+1=regs∧(lowP p r).code=c:=by
 unfold okL at h
 cases hv:verP p with
 | stuck=>rw [hv] at h;cases h
 | bad a x=>rw [hv] at h;cases h
 | ok r=>
  rw [hv] at h
  simp only [Bool.and_eq_true,decide_eq_true_eq] at h
  exact⟨r,rfl,List.eq_nil_of_length_eq_zero h.1,h.2.1,h.2.2⟩
theorem lowers_any(src:List UInt8)(p:Prg)(regs:Int)(cs:List RI)(A1:Option Addr)(n1 c1:Nat)(w:World)(hr:okS src p=true)(hl:okL p regs cs=true)(hs:src.length≤100000000)(hE:ErrR w)(hc:RIs w A1 n1 c1 cs)(hn:cs.length≤1000) :
  Calls Tryz.prog 26 #[.string (strB src),.int .i64 regs,.slice A1 n1 c1] w fun e w'=>e=.returned (.bool true)∧Below w.heap.size w w':=by
 have HR:=Lib.hid (asmP_any src p w hr hs hE)
 obtain⟨r,hv,ha,hrg,hcd⟩:=okL_of hl
 have HV:=Lib.hid hv
 have HA:=Lib.hid ha
 have HG:=Lib.hid hrg
 have HD:=Lib.hid hcd
 have HC:=Lib.hid hc
 have Hn:=Lib.hid hn
 clear hr hl hs hE hv ha hrg hcd hc hn
 go_enter Tryz.func26,Tryz.ntmps26
 go_wp2_with fail
 refine HR.out.mono ?_
 rintro e w1 ⟨A,n,c,A',n',c',rfl,hp,hb1⟩
 obtain⟨w2,hw2⟩:∃ x,x=w1.alloc (.cells #[.slice A n c,.int .i64 p.locs,.slice A' n' c'] 25):=⟨_,rfl⟩
 have k2:Below w1.heap.size w1 w2:=by rw [hw2];exact balloc (Below.refl _ _) _
 have r2:rowV w2 w1.heap.size 25 #[.slice A n c,.int .i64 p.locs,.slice A' n' c']:=by rw [hw2];exact rowV.new w1 _ _
 obtain⟨c0,c1',c2⟩:=three_cellsV r2
 have HL:=Lib.hid (lower_any A A' n c n' c' p.locs p w2 (hp.below k2))
 have HB:=Lib.hid (hb1.trans (k2.mono hb1.size))
 have Hw2:=Lib.hid hw2
 clear hp k2 r2 hb1 hw2 HR
 go_upto_region 2 with fail
 rw [←Hw2.out]
 go_wp2_with fail
 refine HL.out.mono ?_
 intro e w3 hr
 obtain⟨hb3,hr⟩:=hr
 rw [HV.out] at hr
 obtain⟨D,m,d,D',m',d',rfl,ha3,hc3⟩:=hr
 rw [HG.out]
 rw [HD.out] at hc3
 rw [HA.out] at ha3
 obtain⟨w4,hw4⟩:∃ x,x=w3.alloc (.cells #[.slice D m d,.int .i64 regs,.int .i64 0,.slice D' m' d'] 30):=⟨_,rfl⟩
 have k4:Below w3.heap.size w3 w4:=by rw [hw4];exact balloc (Below.refl _ _) _
 have r4:rowV w4 w3.heap.size 30 #[.slice D m d,.int .i64 regs,.int .i64 0,.slice D' m' d']:=by rw [hw4];exact rowV.new w3 _ _
 obtain⟨y0,y1,y2,y3⟩:=four_cellsV r4
 have hm0:m=0:=ha3.1.symm
 have hm1:m'=cs.length:=hc3.1.symm
 have hB4:=HB.out.trans ((hb3.trans (k4.mono hb3.size)).mono HB.out.size)
 have HS:=sameC_any D D' m d m' d' none A1 0 0 n1 c1 ⟨[],regs,0,cs⟩ ⟨[],regs,0,cs⟩ w4 ⟨ha3.below k4,hc3.below k4⟩ ⟨⟨rfl,Nat.le_refl _,(fun x h=>by cases h),fun h=>absurd h (Nat.not_lt_zero _)⟩,HC.out.below hB4⟩ (by omega) (by have:=Hn.out;omega)
 rw [show sameC ⟨[],regs,0,cs⟩ ⟨[],regs,0,cs⟩=true from by simp [sameC]] at HS
 unfold ccV at HS
 simp only [] at HS
 have HS:=Lib.hid HS
 have HB4:=Lib.hid hB4
 have Hw4:=Lib.hid hw4
 clear hb3 ha3 hc3 k4 r4 hw4 hm0 hm1 hB4 HL c0 c1' c2
 go_upto_region 3 with fail
 rw [←Hw4.out]
 go_wp2_with fail
 refine HS.out.mono ?_
 rintro e w5 ⟨rfl,hb5⟩
 have HN:=Lib.hid (HB4.out.trans (hb5.mono HB4.out.size))
 clear hb5 HS
 go_wp2_with fail
 go_ret
 exact⟨rfl,HN.out⟩
theorem lit_ris(w:World)(cs:List RI)(a:Array Value)(ha:(cs.flatMap encRI).toArray=a)(hn:cs.length≤1000):RIs (w.alloc (.cells a 47)) (some ⟨w.heap.size,0,none⟩) cs.length cs.length cs:=
 (OwnS.lit (B:=w.heap.size) cs a ha (fun _=>rfl) (Nat.le_refl _) (by unfold maxLen;omega)).ris
theorem lowA_any(w:World)(hE:ErrR w):Calls Tryz.prog 26 #[.string (strB sAL),.int .i64 4,.slice (some ⟨w.heap.size,0,none⟩) 9 9] (w.alloc (.cells #[.int .i64 0,.int .i64 1,.int .i64 (-1),.int .i64 (-1),.int .u32 3,.int .i64 29,.int .i64 (-1),.int .i64 1,.int .i64 (-1),.int .u32 3,.int .i64 36,.int .i64 1,.int .i64 0,.int .i64 (-1),.int .u32 0,.int .i64 34,.int .i64 (-1),.int .i64 1,.int .i64 (-1),.int .u32 0,.int .i64 36,.int .i64 1,.int .i64 0,.int .i64 (-1),.int .u32 0,.int .i64 0,.int .i64 2,.int .i64 (-1),.int .i64 (-1),.int .u32 1,.int .i64 8,.int .i64 1,.int .i64 1,.int .i64 2,.int .u32 0,.int .i64 36,.int .i64 0,.int .i64 1,.int .i64 (-1),.int .u32 0,.int .i64 31,.int .i64 (-1),.int .i64 (-1),.int .i64 (-1),.int .u32 0] 47)) fun e w'=>e=.returned (.bool true)∧Below w.heap.size w w':=
 (lowers_any sAL pAL 4 cAL _ 9 9 _ rdAL lwAL (by decide) (hE.below (balloc (Below.refl _ _) _)) (lit_ris w cAL _ rfl (by decide)) (by decide)).mono fun e w' h=>⟨h.1,(balloc (Below.refl _ _) _).trans (h.2.mono (balloc (Below.refl _ _) _).size)⟩
theorem lowB_any(w:World)(hE:ErrR w):Calls Tryz.prog 26 #[.string (strB sBL),.int .i64 3,.slice (some ⟨w.heap.size,0,none⟩) 5 5] (w.alloc (.cells #[.int .i64 0,.int .i64 0,.int .i64 (-1),.int .i64 (-1),.int .u32 1,.int .i64 0,.int .i64 1,.int .i64 (-1),.int .i64 (-1),.int .u32 2,.int .i64 36,.int .i64 2,.int .i64 1,.int .i64 (-1),.int .u32 0,.int .i64 36,.int .i64 1,.int .i64 0,.int .i64 (-1),.int .u32 0,.int .i64 36,.int .i64 0,.int .i64 2,.int .i64 (-1),.int .u32 0] 47)) fun e w'=>e=.returned (.bool true)∧Below w.heap.size w w':=
 (lowers_any sBL pBL 3 cBL _ 5 5 _ rdBL lwBL (by decide) (hE.below (balloc (Below.refl _ _) _)) (lit_ris w cBL _ rfl (by decide)) (by decide)).mono fun e w' h=>⟨h.1,(balloc (Below.refl _ _) _).trans (h.2.mono (balloc (Below.refl _ _) _).size)⟩
theorem awake23_any(w:World)(hE:ErrR w):Calls Tryz.prog 11 #[] w fun e w'=>e=.returned (.bool true)∧Below w.heap.size w w':=by
 have HE:=Lib.hid hE
 have HB:Hid (Below w.heap.size w w):=Below.refl _ _
 clear hE
 go_enter Tryz.func11,Tryz.ntmps11
 iterate 9
  go_wp2_with fail
  refine (mkRI_any _ _ _ _ _ _).mono ?_
  rintro e w1 ⟨rfl,hb1⟩
  replace HB:=Lib.hid (HB.out.trans (hb1.mono HB.out.size))
  clear hb1
 go_wp2_with fail
 refine (lowA_any _ (HE.out.below HB.out)).mono ?_
 rintro e w2 ⟨rfl,hb2⟩
 replace HB:=Lib.hid (HB.out.trans (hb2.mono HB.out.size))
 clear hb2
 iterate 5
  go_wp2_with fail
  refine (mkRI_any _ _ _ _ _ _).mono ?_
  rintro e w3 ⟨rfl,hb3⟩
  replace HB:=Lib.hid (HB.out.trans (hb3.mono HB.out.size))
  clear hb3
 go_wp2_with fail
 refine (lowB_any _ (HE.out.below HB.out)).mono ?_
 rintro e w4 ⟨rfl,hb4⟩
 replace HB:=Lib.hid (HB.out.trans (hb4.mono HB.out.size))
 clear hb4
 go_wp2_with fail
 go_ret
 exact⟨rfl,HB.out⟩
theorem cntC_snoc(c:List Ins):∀ (k at_:Nat),cntC c (k+1) at_=cntC c k at_+cntI (oI c (at_+k))
 | 0,at_=>by show cntI (oI c at_)+0=0+cntI (oI c (at_+0));rw [Nat.add_zero,Nat.zero_add];rfl
 | k+1,at_=>by
  show cntI (oI c at_)+cntC c (k+1) (at_+1)=(cntI (oI c at_)+cntC c k (at_+1))+_
  rw [cntC_snoc c k (at_+1),show at_+1+k=at_+(k+1) by omega]
  omega
def RetL(w:World)(e:Ending)(w':World):Prop:=e=.returned (.bool true)∧Below w.heap.size w w'
theorem counts_any(A A':Option Addr)(n c n' c':Nat)(L:Int)(p:Prg)(w:World)(hx:Progs w A n c L A' n' c' p)(hE:ErrR w) :
  Calls Tryz.prog 5 #[.agg #[.slice A n c,.int .i64 L,.slice A' n' c']] w (RetL w):=by
 obtain⟨w0,hw0⟩:∃ w0,w0=w.alloc (.cells #[.slice A n c,.int .i64 L,.slice A' n' c'] 25):=⟨_,rfl⟩
 have g0:Below w.heap.size w w0:=by rw [hw0];exact balloc (Below.refl _ _) _
 have r0:rowV w0 w.heap.size 25 #[.slice A n c,.int .i64 L,.slice A' n' c']:=by rw [hw0];exact rowV.new w _ _
 have HFw:=Lib.hid (few15_any A A' n c n' c' L p w0 (hx.below g0))
 have hwf:Hid (∀ x∈p.code,0≤x.arg∧x.arg < 4294967296):=fun x h=>⟨(hx.code.2.2.1 x h).1,(hx.code.2.2.1 x h).2.1⟩
 have HE:=Lib.hid hE
 have HX:=Lib.hid hx
 have HG:=Lib.hid (And.intro r0 g0)
 have Hw0:=Lib.hid hw0
 obtain⟨c0,c1,c2⟩:=three_cellsV r0
 clear hx hE g0 r0 hw0
 go_enter Tryz.func5,Tryz.ntmps5
 go_upto_region 1 with fail
 rw [←Hw0.out]
 go_wp2_with fail
 refine HFw.out.mono ?_
 intro e w1 hr
 obtain⟨⟨b,rfl,hfew⟩,hb1⟩:=hr
 have r1:=HG.out.1.below hb1 HG.out.1.lt
 have g1:=HG.out.2.trans (hb1.mono HG.out.2.size)
 have H1:=Lib.hid (And.intro r1 g1)
 have Hfew:=Lib.hid hfew
 clear hb1 r1 g1 hfew HFw c0 c1 c2
 cases b with
 | false=>
  have HA:=Lib.hid (awake23_any w1 (HE.out.below H1.out.2))
  go_wp2_with fail
  refine HA.out.mono ?_
  rintro e w2 ⟨rfl,hb2⟩
  have HN:=Lib.hid (H1.out.2.trans (hb2.mono H1.out.2.size))
  clear hb2 HA
  go_wp2_with fail
  go_ret
  exact⟨rfl,HN.out⟩
 | true=>
  obtain⟨hn,hn'⟩:=Hfew.out rfl
  obtain⟨c0,c1,c2⟩:=three_cellsV H1.out.1
  have HV:=Lib.hid (lower_any A A' n c n' c' L p w1 (HX.out.below H1.out.2))
  clear Hfew
  go_wp2_with fail
  refine HV.out.mono ?_
  intro e w2 hr
  clear HV
  obtain⟨hb2,hr⟩:=hr
  cases hv:verP p with
  | stuck=>rw [hv] at hr;exact hr.elim
  | bad a x=>
   rw [hv] at hr
   simp only [] at hr
   subst hr
   obtain⟨-,hx0⟩:=verP_bad hwf.out (formE_nn p) hv
   obtain⟨w3,hw3⟩:∃ z,z=w2.alloc (.cells #[.slice none 0 0,.int .i64 0,.int .i64 0,.slice none 0 0] 30):=⟨_,rfl⟩
   have k3:Below w2.heap.size w2 w3:=by rw [hw3];exact balloc (Below.refl _ _) _
   have g3:=(H1.out.2.trans (hb2.mono H1.out.2.size)).trans (k3.mono (H1.out.2.trans (hb2.mono H1.out.2.size)).size)
   have d1:(x != 0)=true:=by simp;omega
   have HA:=Lib.hid (awake23_any w3 (HE.out.below g3))
   have H3:=Lib.hid g3
   have Hw3:=Lib.hid hw3
   clear hb2 hx0 hw3 k3 g3 hv c0 c1 c2 hn hn'
   go_upto_region 4 with fail
   rw [←Hw3.out]
   go_wp2_with fail
   refine HA.out.mono ?_
   rintro e w4 ⟨rfl,hb4⟩
   have HN:=Lib.hid (H3.out.trans (hb4.mono H3.out.size))
   clear hb4 HA
   go_wp2_with fail
   go_ret
   exact⟨rfl,HN.out⟩
  | ok rp=>
   rw [hv] at hr
   obtain⟨D,m,d,D',m',d',rfl,-,hrs⟩:=hr
   have hlen:(cntC p.code n' 0:Nat)=m':=by
    have h1:=hrs.1
    unfold lowP at h1
    simp only [] at h1
    rw [lowC_len,HX.out.code.1] at h1
    exact h1
   obtain⟨w3,hw3⟩:∃ z,z=w2.alloc (.cells #[.slice D m d,.int .i64 (p.locs+rp.hgt+1),.int .i64 0,.slice D' m' d'] 30):=⟨_,rfl⟩
   have k3:Below w2.heap.size w2 w3:=by rw [hw3];exact balloc (Below.refl _ _) _
   have r3:rowV w3 w2.heap.size 30 #[.slice D m d,.int .i64 (p.locs+rp.hgt+1),.int .i64 0,.slice D' m' d']:=by rw [hw3];exact rowV.new w2 _ _
   have g3:=(H1.out.2.trans (hb2.mono H1.out.2.size)).trans (k3.mono (H1.out.2.trans (hb2.mono H1.out.2.size)).size)
   have q3:=(H1.out.1.below hb2 H1.out.1.lt).below k3 (H1.out.1.below hb2 H1.out.1.lt).lt
   have HA:=Lib.hid (awake23_any w3 (HE.out.below g3))
   have HD:=Lib.hid (HX.out.code.below g3)
   have H3:=Lib.hid (And.intro r3 g3)
   have Hlen:=Lib.hid hlen
   have Hw3:=Lib.hid hw3
   clear hb2 hw3 k3 r3 g3 hv hrs hlen c0 c1 c2 hn
   go_upto_region 4 with fail
   rw [←Hw3.out]
   obtain⟨c0,c1,c2⟩:=three_cellsV q3
   go_wp2_with fail
   go_loop [5,6] (fun q i=>∃ k:Nat,k≤n'∧i=.int .i64 (k:Int)∧∃ z:Nat,z≤3 * k∧q=.int .i64 (z:Int)∧Hid (cntC p.code k 0=z)) (fun _ i=>n'-(intOf i).toNat)
   case atStart=>exact⟨0,Nat.zero_le _,rfl,0,Nat.le_refl _,rfl,Lib.hid rfl⟩
   case round=>
    obtain⟨k,hk,rfl,z,hz,rfl,HZ⟩:=hrel
    by_cases hlt:k < n'
    ·have ek:decide ((k:Int) < (n':Int))=true:=by simp;omega
     have ek':decide (k < n')=true:=by simp;omega
     obtain⟨cb,off,rfl,hcb,hcell⟩:=HD.out.get hlt
     have x0:w3.cell? ⟨cb,off+k * 2,none⟩=some (.int .i64 (oI p.code k)):=(hcell k hlt).1
     have hs:Hid (cntC p.code (k+1) 0=z+cntI (oI p.code k)):=by show _=_;rw [cntC_snoc,HZ.out,Nat.zero_add]
     obtain⟨op,hop⟩:∃ op,op=oI p.code k:=⟨_,rfl⟩
     rw [←hop] at x0 hs
     clear hcell hop HZ
     by_cases h6:op=6
     ·subst h6
      go_wp2_with fail
      go_round
      case rel=>exact⟨k+1,by omega,by go_num,z,by omega,rfl,Lib.hid (by rw [hs.out];rfl)⟩
      case measure=>(simp [intOf]) <;> omega
     by_cases h7:op=7
     ·subst h7
      go_wp2_with fail
      go_round
      case rel=>exact⟨k+1,by omega,by go_num,z+3,by omega,by go_num,Lib.hid (by rw [hs.out];rfl)⟩
      case measure=>(simp [intOf]) <;> omega
     have e6:(op==6)=false:=by simpa using h6
     have e7:(op==7)=false:=by simpa using h7
     have hs1:Hid (cntC p.code (k+1) 0=z+1):=by show _=_;rw [hs.out];unfold cntI;rw [if_neg h6,if_neg h7]
     go_wp2_with fail
     go_round
     case rel=>exact⟨k+1,by omega,by go_num,z+1,by omega,by go_num,hs1⟩
     case measure=>(simp [intOf]) <;> omega
    ·obtain rfl:k=n':=by omega
     have ek:decide ((k:Int) < (k:Int))=false:=by simp
     obtain rfl:m'=z:=by rw [←Hlen.out,HZ.out]
     have eZ:((m':Int)==(m':Int))=true:=by simp
     clear c0 c1
     go_wp2_with fail
     refine HA.out.mono ?_
     rintro e w4 ⟨rfl,hb4⟩
     obtain⟨y0,y1,y2,y3⟩:=four_cellsV (H3.out.1.below hb4 H3.out.1.lt)
     have HN:=Lib.hid (H3.out.2.trans (hb4.mono H3.out.2.size))
     clear hb4 HA
     go_wp2_with fail
     go_ret
     exact⟨rfl,HN.out⟩
end Go.Proofs.YtpaplehcafeeaaaGreatDoor
