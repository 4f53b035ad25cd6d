/- Kh Ki Kl Kn. -/
import Derived.Test.YtpaplehcafeeaaaGreatDoorLE36
import Derived.Test.YtpaplehcafeeaaaGreatDoorLE37
import Derived.Test.YtpaplehcafeeaaaGreatDoorLE38
set_option maxRecDepth 100000
set_option maxHeartbeats 40000000
set_option linter.unusedVariables false
set_option linter.unusedSimpArgs false
namespace Go.Proofs.YtpaplehcafeeaaaGreatDoor
open Go.RowKit Go.Proofs
def sAL:List UInt8:=[108,111,99,97,108,32,105,32,112,117,115,104,32,51,32,108,111,111,112,32,108,111,97,100,32,105,32,101,109,105,116,32,108,111,97,100,32,105,32,112,117,115,104,32,49,32,97,100,100,32,115,116,111,114,101,32,105,32,101,110,100]
def sBL:List UInt8:=[112,117,115,104,32,49,32,112,117,115,104,32,50,32,115,119,97,112,32,100,114,111,112,32,100,114,111,112]
def pAL:Prg:=⟨[],1,[⟨0,3⟩,⟨29,0⟩,⟨1,0⟩,⟨34,0⟩,⟨1,0⟩,⟨0,1⟩,⟨8,0⟩,⟨2,0⟩,⟨31,0⟩]⟩
def pBL:Prg:=⟨[],0,[⟨0,1⟩,⟨0,2⟩,⟨7,0⟩,⟨6,0⟩,⟨6,0⟩]⟩
def cAL:List RI:=[⟨0,1,-1,-1,3⟩,⟨29,-1,1,-1,3⟩,⟨36,1,0,-1,0⟩,⟨34,-1,1,-1,0⟩,⟨36,1,0,-1,0⟩,⟨0,2,-1,-1,1⟩,⟨8,1,1,2,0⟩,⟨36,0,1,-1,0⟩,⟨31,-1,-1,-1,0⟩]
def cBL:List RI:=[⟨0,0,-1,-1,1⟩,⟨0,1,-1,-1,2⟩,⟨36,2,1,-1,0⟩,⟨36,1,0,-1,0⟩,⟨36,0,2,-1,0⟩]
def okL(p:Prg)(regs:Int)(c:List RI):Bool:=match verP p with
 | .ok r=>decide (p.arrs.length=0) && (decide (p.locs+r.hgt+1=regs) && decide ((lowP p r).code=c))
 | _=>false
theorem rdAL:okS sAL pAL=true:=by decide +kernel
theorem rdBL:okS sBL pBL=true:=by decide +kernel
theorem lwAL:okL pAL 4 cAL=true:=by decide +kernel
theorem lwBL:okL pBL 3 cBL=true:=by decide +kernel
theorem mkRI_any(op t a b arg:Int)(w:World):Calls Tryz.prog 27 #[.int .i64 op,.int .i64 t,.int .i64 a,.int .i64 b,.int .u32 arg] w fun e w'=>e=.returned (riV ⟨op,t,a,b,arg⟩)∧Below w.heap.size w w':=by
 unfold riV
 simp only []
 obtain⟨w1,hw1⟩:∃ z,z=w.alloc (.cells #[.int .i64 0,.int .i64 0,.int .i64 0,.int .i64 0,.int .u32 0] 47):=⟨_,rfl⟩
 have b1:Below w.heap.size w w1:=by rw [hw1];exact balloc (Below.refl _ _) _
 have r1:rowV w1 w.heap.size 47 #[.int .i64 0,.int .i64 0,.int .i64 0,.int .i64 0,.int .u32 0]:=by rw [hw1];exact rowV.new w _ _
 have x0:=cell_rowV r1 (j:=0) rfl
 have x1:=cell_rowV r1 (j:=1) rfl
 have x2:=cell_rowV r1 (j:=2) rfl
 have x3:=cell_rowV r1 (j:=3) rfl
 have x4:=cell_rowV r1 (j:=4) rfl
 have f0:=frozen_rowV' r1 0
 have f1:=frozen_rowV' r1 1
 have f2:=frozen_rowV' r1 2
 have f3:=frozen_rowV' r1 3
 have f4:=frozen_rowV' r1 4
 have R:=Lib.hid (((((r1.set 0 (.int .i64 op)).set 1 (.int .i64 t)).set 2 (.int .i64 a)).set 3 (.int .i64 b)).set 4 (.int .u32 arg))
 have B:=Lib.hid (belowCell (belowCell (belowCell (belowCell (belowCell (j:=0) (g:=w.heap.size) b1 (Nat.le_refl _) (.int .i64 op)) (j:=1) (g:=w.heap.size) (Nat.le_refl _) (.int .i64 t)) (j:=2) (g:=w.heap.size) (Nat.le_refl _) (.int .i64 a)) (j:=3) (g:=w.heap.size) (Nat.le_refl _) (.int .i64 b)) (j:=4) (g:=w.heap.size) (Nat.le_refl _) (.int .u32 arg))
 have Hw1:=Lib.hid hw1
 clear hw1 b1 r1
 go_enter Tryz.func27,Tryz.ntmps27
 go_upto_region 1 with fail
 rw [←Hw1.out]
 go_wp2_with fail
 have y0:=cell_rowV R.out (j:=0) (v:=.int .i64 op) rfl
 have y1:=cell_rowV R.out (j:=1) (v:=.int .i64 t) rfl
 have y2:=cell_rowV R.out (j:=2) (v:=.int .i64 a) rfl
 have y3:=cell_rowV R.out (j:=3) (v:=.int .i64 b) rfl
 have y4:=cell_rowV R.out (j:=4) (v:=.int .u32 arg) rfl
 refine bodyPost_ret (v:=.agg #[.int .i64 op,.int .i64 t,.int .i64 a,.int .i64 b,.int .u32 arg]) (by simp [results,Tryz.results27,go_sem,y0,y1,y2,y3,y4]) rfl ⟨rfl,B.out⟩
theorem okL_of{p:Prg}{regs:Int}{c:List RI}(h:okL p regs c=true):∃ r,verP p=.ok r∧p.arrs=[]∧p.locs+r.hgt+1=regs∧(lowP p r).code=c:=by
 unfold okL at h
 cases hv:verP p with
 | stuck=>rw [hv] at h;cases h
 | bad a x=>rw [hv] at h;cases h
 | ok r=>
  rw [hv] at h
  simp only [Bool.and_eq_true,decide_eq_true_eq] at h
  exact⟨r,rfl,List.eq_nil_of_length_eq_zero h.1,h.2.1,h.2.2⟩
theorem lowers_any(src:List UInt8)(p:Prg)(regs:Int)(cs:List RI)(A1:Option Addr)(n1 c1:Nat)(w:World)(hr:okS src p=true)(hl:okL p regs cs=true)(hs:src.length≤100000000)(hE:ErrR w)(hc:RIs w A1 n1 c1 cs)(hn:cs.length≤1000) :
  Calls Tryz.prog 26 #[.string (strB src),.int .i64 regs,.slice A1 n1 c1] w fun e w'=>e=.returned (.bool true)∧Below w.heap.size w w':=by
 have HR:=Lib.hid (asmP_any src p w hr hs hE)
 obtain⟨r,hv,ha,hrg,hcd⟩:=okL_of hl
 have HV:=Lib.hid hv
 have HA:=Lib.hid ha
 have HG:=Lib.hid hrg
 have HD:=Lib.hid hcd
 have HC:=Lib.hid hc
 have Hn:=Lib.hid hn
 clear hr hl hs hE hv ha hrg hcd hc hn
 go_enter Tryz.func26,Tryz.ntmps26
 go_wp2_with fail
 refine HR.out.mono ?_
 rintro e w1 ⟨A,n,c,A',n',c',rfl,hp,hb1⟩
 obtain⟨w2,hw2⟩:∃ x,x=w1.alloc (.cells #[.slice A n c,.int .i64 p.locs,.slice A' n' c'] 25):=⟨_,rfl⟩
 have k2:Below w1.heap.size w1 w2:=by rw [hw2];exact balloc (Below.refl _ _) _
 have r2:rowV w2 w1.heap.size 25 #[.slice A n c,.int .i64 p.locs,.slice A' n' c']:=by rw [hw2];exact rowV.new w1 _ _
 obtain⟨c0,c1',c2⟩:=three_cellsV r2
 have HL:=Lib.hid (lower_any A A' n c n' c' p.locs p w2 (hp.below k2))
 have HB:=Lib.hid (hb1.trans (k2.mono hb1.size))
 have Hw2:=Lib.hid hw2
 clear hp k2 r2 hb1 hw2 HR
 go_upto_region 2 with fail
 rw [←Hw2.out]
 go_wp2_with fail
 refine HL.out.mono ?_
 intro e w3 hr
 obtain⟨hb3,hr⟩:=hr
 rw [HV.out] at hr
 obtain⟨D,m,d,D',m',d',rfl,ha3,hc3⟩:=hr
 rw [HG.out]
 rw [HD.out] at hc3
 rw [HA.out] at ha3
 obtain⟨w4,hw4⟩:∃ x,x=w3.alloc (.cells #[.slice D m d,.int .i64 regs,.int .i64 0,.slice D' m' d'] 30):=⟨_,rfl⟩
 have k4:Below w3.heap.size w3 w4:=by rw [hw4];exact balloc (Below.refl _ _) _
 have r4:rowV w4 w3.heap.size 30 #[.slice D m d,.int .i64 regs,.int .i64 0,.slice D' m' d']:=by rw [hw4];exact rowV.new w3 _ _
 obtain⟨y0,y1,y2,y3⟩:=four_cellsV r4
 have hm0:m=0:=ha3.1.symm
 have hm1:m'=cs.length:=hc3.1.symm
 have hB4:=HB.out.trans ((hb3.trans (k4.mono hb3.size)).mono HB.out.size)
 have HS:=sameC_any D D' m d m' d' none A1 0 0 n1 c1 ⟨[],regs,0,cs⟩ ⟨[],regs,0,cs⟩ w4 ⟨ha3.below k4,hc3.below k4⟩ ⟨⟨rfl,Nat.le_refl _,(fun x h=>by cases h),fun h=>absurd h (Nat.not_lt_zero _)⟩,HC.out.below hB4⟩ (by omega) (by have:=Hn.out;omega)
 rw [show sameC ⟨[],regs,0,cs⟩ ⟨[],regs,0,cs⟩=true from by simp [sameC]] at HS
 unfold ccV at HS
 simp only [] at HS
 have HS:=Lib.hid HS
 have HB4:=Lib.hid hB4
 have Hw4:=Lib.hid hw4
 clear hb3 ha3 hc3 k4 r4 hw4 hm0 hm1 hB4 HL c0 c1' c2
 go_upto_region 3 with fail
 rw [←Hw4.out]
 go_wp2_with fail
 refine HS.out.mono ?_
 rintro e w5 ⟨rfl,hb5⟩
 have HN:=Lib.hid (HB4.out.trans (hb5.mono HB4.out.size))
 clear hb5 HS
 go_wp2_with fail
 go_ret
 exact⟨rfl,HN.out⟩
theorem lit_ris(w:World)(cs:List RI)(a:Array Value)(ha:(cs.flatMap encRI).toArray=a)(hn:cs.length≤1000):RIs (w.alloc (.cells a 47)) (some ⟨w.heap.size,0,none⟩) cs.length cs.length cs:=
 (OwnS.lit (B:=w.heap.size) cs a ha (fun _=>rfl) (Nat.le_refl _) (by unfold maxLen;omega)).ris
theorem lowA_any(w:World)(hE:ErrR w):Calls Tryz.prog 26 #[.string (strB sAL),.int .i64 4,.slice (some ⟨w.heap.size,0,none⟩) 9 9] (w.alloc (.cells #[.int .i64 0,.int .i64 1,.int .i64 (-1),.int .i64 (-1),.int .u32 3,.int .i64 29,.int .i64 (-1),.int .i64 1,.int .i64 (-1),.int .u32 3,.int .i64 36,.int .i64 1,.int .i64 0,.int .i64 (-1),.int .u32 0,.int .i64 34,.int .i64 (-1),.int .i64 1,.int .i64 (-1),.int .u32 0,.int .i64 36,.int .i64 1,.int .i64 0,.int .i64 (-1),.int .u32 0,.int .i64 0,.int .i64 2,.int .i64 (-1),.int .i64 (-1),.int .u32 1,.int .i64 8,.int .i64 1,.int .i64 1,.int .i64 2,.int .u32 0,.int .i64 36,.int .i64 0,.int .i64 1,.int .i64 (-1),.int .u32 0,.int .i64 31,.int .i64 (-1),.int .i64 (-1),.int .i64 (-1),.int .u32 0] 47)) fun e w'=>e=.returned (.bool true)∧Below w.heap.size w w':=
 (lowers_any sAL pAL 4 cAL _ 9 9 _ rdAL lwAL (by decide) (hE.below (balloc (Below.refl _ _) _)) (lit_ris w cAL _ rfl (by decide)) (by decide)).mono fun e w' h=>⟨h.1,(balloc (Below.refl _ _) _).trans (h.2.mono (balloc (Below.refl _ _) _).size)⟩
theorem lowB_any(w:World)(hE:ErrR w):Calls Tryz.prog 26 #[.string (strB sBL),.int .i64 3,.slice (some ⟨w.heap.size,0,none⟩) 5 5] (w.alloc (.cells #[.int .i64 0,.int .i64 0,.int .i64 (-1),.int .i64 (-1),.int .u32 1,.int .i64 0,.int .i64 1,.int .i64 (-1),.int .i64 (-1),.int .u32 2,.int .i64 36,.int .i64 2,.int .i64 1,.int .i64 (-1),.int .u32 0,.int .i64 36,.int .i64 1,.int .i64 0,.int .i64 (-1),.int .u32 0,.int .i64 36,.int .i64 0,.int .i64 2,.int .i64 (-1),.int .u32 0] 47)) fun e w'=>e=.returned (.bool true)∧Below w.heap.size w w':=
 (lowers_any sBL pBL 3 cBL _ 5 5 _ rdBL lwBL (by decide) (hE.below (balloc (Below.refl _ _) _)) (lit_ris w cBL _ rfl (by decide)) (by decide)).mono fun e w' h=>⟨h.1,(balloc (Below.refl _ _) _).trans (h.2.mono (balloc (Below.refl _ _) _).size)⟩
theorem awake23_any(w:World)(hE:ErrR w):Calls Tryz.prog 11 #[] w fun e w'=>e=.returned (.bool true)∧Below w.heap.size w w':=by
 have HE:=Lib.hid hE
 have HB:Hid (Below w.heap.size w w):=Below.refl _ _
 clear hE
 go_enter Tryz.func11,Tryz.ntmps11
 iterate 9
  go_wp2_with fail
  refine (mkRI_any _ _ _ _ _ _).mono ?_
  rintro e w1 ⟨rfl,hb1⟩
  replace HB:=Lib.hid (HB.out.trans (hb1.mono HB.out.size))
  clear hb1
 go_wp2_with fail
 refine (lowA_any _ (HE.out.below HB.out)).mono ?_
 rintro e w2 ⟨rfl,hb2⟩
 replace HB:=Lib.hid (HB.out.trans (hb2.mono HB.out.size))
 clear hb2
 iterate 5
  go_wp2_with fail
  refine (mkRI_any _ _ _ _ _ _).mono ?_
  rintro e w3 ⟨rfl,hb3⟩
  replace HB:=Lib.hid (HB.out.trans (hb3.mono HB.out.size))
  clear hb3
 go_wp2_with fail
 refine (lowB_any _ (HE.out.below HB.out)).mono ?_
 rintro e w4 ⟨rfl,hb4⟩
 replace HB:=Lib.hid (HB.out.trans (hb4.mono HB.out.size))
 clear hb4
 go_wp2_with fail
 go_ret
 exact⟨rfl,HB.out⟩
def RetL(w:World)(e:Ending)(w':World):Prop:=e=.returned (.bool true)∧Below w.heap.size w w'
theorem kindI_all(op:Int):∃ a,kindI op=[a,shTo op,shA op,shB op]:=by
 by_cases h:0≤op∧op < 39
 ·exact kindI_of h.1 h.2
 ·have h1:shTo op=false:=by unfold shTo;exact decide_eq_false (by omega)
  have h2:shA op=false:=by unfold shA;exact decide_eq_false (by omega)
  have h3:shB op=false:=by unfold shB;exact decide_eq_false (by omega)
  exact⟨false,by rw [h1,h2,h3];unfold kindI;rw [if_neg h]⟩
theorem reads_eq(x:RI):readsX x.op x.a x.b=readsR x:=by
 obtain⟨a,h⟩:=kindI_all x.op
 unfold readsX readsR
 rw [h];rfl
theorem write_eq(x:RI):writeX x.op x.dst=toR x:=by
 obtain⟨a,h⟩:=kindI_all x.op
 unfold writeX toR
 rw [h];rfl
theorem readsR_len(x:RI):(readsR x).length≤2:=by
 unfold readsR
 cases shA x.op <;> cases shB x.op <;> simp
theorem uBoK:Tryz.prog.underlying 51=some (.slice 4):=by kernel_rfl
theorem infoBoK:(Tryz.prog.info? 4).map (fun i=>(i.zero,i.size,i.bytes))=some (some (.bool false),1,1):=by kernel_rfl
theorem gi_mem{l:List Int}{k:Nat}(h:k < l.length):gi l k∈l:=by
 unfold gi
 rw [List.getD_eq_getElem?_getD,List.getElem?_eq_getElem h]
 exact List.getElem_mem _
theorem drop_gR{l:List RI}{k:Nat}(h:k < l.length):l.drop k=gR l k :: l.drop (k+1):=by rw [List.drop_eq_getElem_cons h,gR_get h]
theorem writes_any(A A':Option Addr)(n c n' c':Nat)(L:Int)(p:Prg)(w:World)(hx:Progs w A n c L A' n' c' p)(hE:ErrR w) :
  Calls Tryz.prog 6 #[.agg #[.slice A n c,.int .i64 L,.slice A' n' c']] w (RetL w):=by
 obtain⟨w0,hw0⟩:∃ w0,w0=w.alloc (.cells #[.slice A n c,.int .i64 L,.slice A' n' c'] 25):=⟨_,rfl⟩
 have g0:Below w.heap.size w w0:=by rw [hw0];exact balloc (Below.refl _ _) _
 have r0:rowV w0 w.heap.size 25 #[.slice A n c,.int .i64 L,.slice A' n' c']:=by rw [hw0];exact rowV.new w _ _
 have HFw:=Lib.hid (few15_any A A' n c n' c' L p w0 (hx.below g0))
 have hwf:Hid (∀ x∈p.code,0≤x.arg∧x.arg < 4294967296):=fun x h=>⟨(hx.code.2.2.1 x h).1,(hx.code.2.2.1 x h).2.1⟩
 have HE:=Lib.hid hE
 have HX:=Lib.hid hx
 have HG:=Lib.hid (And.intro r0 g0)
 have Hw0:=Lib.hid hw0
 obtain⟨c0,c1,c2⟩:=three_cellsV r0
 clear hx hE g0 r0 hw0
 go_enter Tryz.func6,Tryz.ntmps6
 go_upto_region 1 with fail
 rw [←Hw0.out]
 go_wp2_with fail
 refine HFw.out.mono ?_
 intro e w1 hr
 obtain⟨⟨b,rfl,hfew⟩,hb1⟩:=hr
 have r1:=HG.out.1.below hb1 HG.out.1.lt
 have g1:=HG.out.2.trans (hb1.mono HG.out.2.size)
 have H1:=Lib.hid (And.intro r1 g1)
 have Hfew:=Lib.hid hfew
 clear hb1 r1 g1 hfew HFw c0 c1 c2
 cases b with
 | false=>
  have HA:=Lib.hid (awake23_any w1 (HE.out.below H1.out.2))
  go_wp2_with fail
  refine HA.out.mono ?_
  rintro e w2 ⟨rfl,hb2⟩
  have HN:=Lib.hid (H1.out.2.trans (hb2.mono H1.out.2.size))
  clear hb2 HA
  go_wp2_with fail
  go_ret
  exact⟨rfl,HN.out⟩
 | true=>
  obtain⟨hn,hn'⟩:=Hfew.out rfl
  obtain⟨c0,c1,c2⟩:=three_cellsV H1.out.1
  have HV:=Lib.hid (lower_any A A' n c n' c' L p w1 (HX.out.below H1.out.2))
  clear Hfew
  go_wp2_with fail
  refine HV.out.mono ?_
  intro e w2 hr
  clear HV
  obtain⟨hb2,hr⟩:=hr
  cases hv:verP p with
  | stuck=>rw [hv] at hr;exact hr.elim
  | bad a x=>
   rw [hv] at hr
   simp only [] at hr
   subst hr
   obtain⟨-,hx0⟩:=verP_bad hwf.out (formE_nn p) hv
   obtain⟨w3,hw3⟩:∃ z,z=w2.alloc (.cells #[.slice none 0 0,.int .i64 0,.int .i64 0,.slice none 0 0] 30):=⟨_,rfl⟩
   have k3:Below w2.heap.size w2 w3:=by rw [hw3];exact balloc (Below.refl _ _) _
   have g3:=(H1.out.2.trans (hb2.mono H1.out.2.size)).trans (k3.mono (H1.out.2.trans (hb2.mono H1.out.2.size)).size)
   have d1:(x != 0)=true:=by simp;omega
   have HA:=Lib.hid (awake23_any w3 (HE.out.below g3))
   have H3:=Lib.hid g3
   have Hw3:=Lib.hid hw3
   clear hb2 hx0 hw3 k3 g3 hv c0 c1 c2 hn hn'
   go_upto_region 4 with fail
   rw [←Hw3.out]
   go_wp2_with fail
   refine HA.out.mono ?_
   rintro e w4 ⟨rfl,hb4⟩
   have HN:=Lib.hid (H3.out.trans (hb4.mono H3.out.size))
   clear hb4 HA
   go_wp2_with fail
   go_ret
   exact⟨rfl,HN.out⟩
  | ok rp=>
   rw [hv] at hr
   obtain⟨D,m,d,D',m',d',rfl,-,hrs⟩:=hr
   have hwr:=writes_of hwf.out hv
   have hlw:=lowW_of hwf.out hv
   have hlo:=hlw.ok.locs
   have hhg:=hlw.hgt
   obtain⟨R,hR⟩:∃ R:Nat,(R:Int)=p.locs+rp.hgt+1:=⟨(p.locs+rp.hgt+1).toNat,by omega⟩
   have hR60:R≤60:=by omega
   rw [←hR] at hwr ⊢
   rw [Int.toNat_natCast] at hwr
   obtain⟨out,hout⟩:∃ z,z=(lowP p rp).code:=⟨_,rfl⟩
   have hm3:m'≤600:=by
    have h1:=hrs.1
    unfold lowP at h1
    simp only [] at h1
    rw [lowC_len,HX.out.code.1] at h1
    have:=cntC_le3 p.code n' 0
    omega
   rw [←hout] at hwr hrs
   have hL:=HX.out.locs
   rw [←hL] at hwr
   have Hm':=Lib.hid hrs.1
   obtain⟨w3,hw3⟩:∃ z,z=w2.alloc (.cells #[.slice D m d,.int .i64 (R:Int),.int .i64 0,.slice D' m' d'] 30):=⟨_,rfl⟩
   have k3:Below w2.heap.size w2 w3:=by rw [hw3];exact balloc (Below.refl _ _) _
   have r3:rowV w3 w2.heap.size 30 #[.slice D m d,.int .i64 (R:Int),.int .i64 0,.slice D' m' d']:=by rw [hw3];exact rowV.new w2 _ _
   have g3:=(H1.out.2.trans (hb2.mono H1.out.2.size)).trans (k3.mono (H1.out.2.trans (hb2.mono H1.out.2.size)).size)
   have q3:=(H1.out.1.below hb2 H1.out.1.lt).below k3 (H1.out.1.below hb2 H1.out.1.lt).lt
   have H3:=Lib.hid (And.intro r3 (And.intro q3 (And.intro g3 (hrs.below k3))))
   obtain⟨d0,d1,d2,d3⟩:=four_cellsV r3
   have Hw3:=Lib.hid hw3
   have HWr:=Lib.hid hwr
   have e1:decide ((1024:Int) < (R:Int))=false:=by simp;omega
   have hmk:=run_make_row (P:=Tryz.prog) (enc:=Value.bool) uBoK infoBoK rfl (R:Int) (by omega) (by omega) (by omega)
   simp only [Int.toNat_natCast] at hmk
   obtain⟨w4,hw4⟩:∃ w4,w4=w3.alloc (rowObj Value.bool 4 (List.replicate R false)):=⟨_,rfl⟩
   have ro4:Row Value.bool w4 w3.heap.size 4 (List.replicate R false):=by rw [hw4];exact Row.new _ _ _
   have k4:Below w3.heap.size w3 w4:=by rw [hw4];exact balloc (Below.refl _ _) _
   have Hw4:=Lib.hid hw4
   have HRo:=Lib.hid (And.intro ro4 k4)
   clear hb2 hw3 k3 r3 q3 g3 hv hrs hwr hlw hlo hhg hR hout hL hw4 ro4 k4 c0 c1 c2 hn
   go_upto_region 4 with fail
   rw [←Hw3.out]
   clear Hw3
   go_upto_region 9 with fail
   rw [←Hw4.out]
   clear Hw4 hmk d0 d1 d2 d3 e1
   go_upto_region 10 with fail
   go_loopw [6,7,8,9] (fun i _ _ _ wr=>∃ (i':Nat) (W:List Bool),i'≤m'∧i=.int .i64 (i':Int)∧W.length=R∧Hid (wrOk L (R:Int) W (out.drop i')=true∧Row Value.bool wr w3.heap.size 4 W∧Below w3.heap.size w3 wr)) (fun i _ _ _ _=>m'-(intOf i).toNat)
   case atStart=>exact⟨0,_,Nat.zero_le _,rfl,List.length_replicate,HWr.out,HRo.out.1,HRo.out.2⟩
   case round=>
    obtain⟨i,W,hi,rfl,hWl,HR⟩:=hrel
    obtain⟨wo,rfl⟩:∃ wo,wo=wr:=⟨_,rfl⟩
    have hbo:=HR.out.2.2
    obtain⟨d0,d1,d2,d3⟩:=four_cellsV (H3.out.1.below hbo H3.out.1.lt)
    have HRI:=Lib.hid (H3.out.2.2.2.below hbo)
    have gw:=Lib.hid (H3.out.2.2.1.trans (hbo.mono H3.out.2.2.1.size))
    have rp:=H3.out.2.1.below hbo H3.out.2.1.lt
    by_cases hlt:i < m'
    ·have ei:decide ((i:Int) < (m':Int))=true:=by simp;omega
     have ei':decide (i < m')=true:=by simp;omega
     obtain⟨b,off,rfl,hb,v0,v1,v2,v3,v4⟩:=HRI.out.get hlt
     have hwr:=HR.out.1
     rw [drop_gR (by rw [Hm'.out];exact hlt),wrOk_cons,Bool.and_eq_true,Bool.and_eq_true,decide_eq_true_eq] at hwr
     obtain⟨⟨h1,h2,h3⟩,h4⟩:=hwr
     obtain⟨x,hxx⟩:∃ z,z=gR out i:=⟨_,rfl⟩
     rw [←hxx] at v0 v1 v2 v3 v4 h1 h2 h3 h4
     have HU:=uses_any x.op x.dst x.a x.b x.arg wo
     rw [reads_eq,write_eq] at HU
     have HU:=Lib.hid HU
     have hrl:=readsR_len x
     obtain⟨zs,hzs⟩:∃ z,z=readsR x:=⟨_,rfl⟩
     obtain⟨tt,hto⟩:∃ z,z=toR x:=⟨_,rfl⟩
     rw [←hzs] at HU h1 hrl
     rw [←hto] at HU h2 h3 h4
     obtain⟨xo,xd,xa,xb,xg⟩:=x
     simp only [] at v0 v1 v2 v3 v4 HU h3
     have hto1:0≤tt∨tt=-1:=by
      cases hs:shTo xo with
      | true=>exact .inl (h3 hs)
      | false=>right;rw [hto];unfold toR;rw [hs];rfl
     have H4:=Lib.hid h4
     have H1a:=Lib.hid (List.all_eq_true.1 h1)
     have RO:=Lib.hid (And.intro HR.out.2.1 hbo)
     clear hxx hzs hto h1 h3 h4 HR hb HRI hbo
     go_wp2_with fail
     refine HU.out.mono ?_
     rintro e w5 ⟨A5,n5,c5,rfl,hz5,hb5⟩
     have hn5:n5≤2:=by rw [←hz5.1];exact hrl
     have HZ:=Lib.hid hz5
     have R5:=Lib.hid (And.intro (RO.out.1.below hb5 RO.out.1.lt) (RO.out.2.trans (hb5.mono RO.out.2.size)))
     have rp5:=rp.below hb5 rp.lt
     obtain⟨-,c1,-⟩:=three_cellsV rp5
     clear hz5 hb5 v0 v1 v2 v3 v4 HU RO d0 d1 d2 d3 rp rp5
     go_wp2_with fail
     go_loopw [9] (fun k wr=>∃ k':Nat,k'≤n5∧k=.int .i64 (k':Int)∧Drawn w5 wr) (fun k _=>n5-(intOf k).toNat)
     case atStart=>exact⟨0,Nat.zero_le _,rfl,Drawn.refl _⟩
     case round=>
      obtain⟨k,hk,rfl,u,rfl⟩:=hrel
      by_cases hkn:k < n5
      ·have ek:decide ((k:Int) < (n5:Int))=true:=by simp;omega
       have ek':decide (k < n5)=true:=by simp;omega
       obtain⟨b5,o5,rfl,hb5,hc5⟩:=HZ.out.get hkn
       have z0:=hc5 k hkn
       have hro:=H1a.out _ (gi_mem (l:=zs) (k:=k) (by rw [HZ.out.1];exact hkn))
       obtain⟨r,hr⟩:∃ z,z=gi zs k:=⟨_,rfl⟩
       rw [←hr] at z0 hro
       unfold readOk at hro
       simp only [Bool.and_eq_true,Bool.or_eq_true,decide_eq_true_eq] at hro
       obtain⟨⟨r0,r1⟩,r2⟩:=hro
       obtain⟨rn,rfl⟩:∃ rn:Nat,r=(rn:Int):=⟨r.toNat,by omega⟩
       have hrn:rn < R:=by omega
       have y0:=R5.out.1.cell false (j:=rn) (by rw [hWl];exact hrn)
       have q0:decide ((rn:Int) < 0)=false:=by simp
       have q1:decide ((R:Int)≤(rn:Int))=false:=by simp;omega
       have q1':decide (R≤rn)=false:=by simp;omega
       have HrN:=Lib.hid hrn
       clear hc5 hr r0 r1 hrn
       by_cases hL:(rn:Int) < L
       ·have q2:decide (L≤(rn:Int))=false:=by simp;omega
        clear r2 hL y0
        go_wp2_with fail
        go_quiet (fail)
        go_wp2_with fail
        go_roundw
        case rel=>exact⟨k+1,by omega,by go_num,⟨_,rfl⟩⟩
        case measure=>(simp [intOf]) <;> omega
       ·have q2:decide (L≤(rn:Int))=true:=by simp;omega
        have hw2:W.getD rn false=true:=by
         rcases r2 with h | h
         ·omega
         ·unfold wGet at h;rw [Int.toNat_natCast] at h;exact h
        rw [hw2] at y0
        have hrn:=HrN.out
        clear r2 hL hw2
        go_wp2_with fail
        go_quiet (fail)
        go_wp2_with fail
        go_roundw
        case rel=>exact⟨k+1,by omega,by go_num,⟨_,rfl⟩⟩
        case measure=>(simp [intOf]) <;> omega
      ·obtain rfl:k=n5:=by omega
       have ek:decide ((k:Int) < (k:Int))=false:=by simp
       have q3:decide ((R:Int)≤tt)=false:=by simp;omega
       have hrow:Row Value.bool (w5.drewN u) w3.heap.size 4 W:=R5.out.1
       have hbel:Below w3.heap.size w3 (w5.drewN u):=bdrew R5.out.2 u
       obtain⟨wq,hwq⟩:∃ z,z=w5.drewN u:=⟨_,rfl⟩
       rw [←hwq] at hrow hbel ⊢
       clear hwq c1
       by_cases h0:0≤tt
       ·obtain⟨tn,rfl⟩:∃ tn:Nat,tt=(tn:Int):=⟨tt.toNat,by omega⟩
        have htn:tn < R:=by omega
        have q4:decide ((0:Int)≤(tn:Int))=true:=by simp
        have y0:=hrow.cell false (j:=tn) (by rw [hWl];exact htn)
        have f0:=hrow.frozen tn
        have HN:=Lib.hid (And.intro H4.out (And.intro (hrow.set tn true) (belowCell (j:=tn) hbel (Nat.le_refl _) (.bool true))))
        have hs:wSet W (tn:Int)=W.set tn true:=by unfold wSet;rw [if_pos h0,Int.toNat_natCast]
        have HN:Hid (wrOk L (R:Int) (W.set tn true) (out.drop (i+1))=true∧Row Value.bool (wq.setCell ⟨w3.heap.size,tn,none⟩ (.bool true)) w3.heap.size 4 (W.set tn true)∧Below w3.heap.size w3 (wq.setCell ⟨w3.heap.size,tn,none⟩ (.bool true))):=by rw [←hs];exact⟨H4.out,by rw [hs];exact HN.out.2.1,HN.out.2.2⟩
        have hlt2:=hrow.lt
        clear hrow hbel hs
        go_wp2_with fail
        go_roundw
        case rel=>exact⟨i+1,W.set tn true,by omega,by go_num,by rw [List.length_set];exact hWl,HN⟩
        case measure=>(simp [intOf]) <;> omega
       ·obtain rfl:tt=-1:=by omega
        have HN:Hid (wrOk L (R:Int) W (out.drop (i+1))=true∧Row Value.bool wq w3.heap.size 4 W∧Below w3.heap.size w3 wq):=⟨H4.out,hrow,hbel⟩
        clear hrow hbel h0
        go_wp2_with fail
        go_roundw
        case rel=>exact⟨i+1,W,by omega,by go_num,hWl,HN⟩
        case measure=>(simp [intOf]) <;> omega
    ·obtain rfl:i=m':=by omega
     have ei:decide ((i:Int) < (i:Int))=false:=by simp
     have HA:=Lib.hid (awake23_any wo (HE.out.below gw.out))
     clear HR HRI hbo rp d0 d1 d2
     go_wp2_with fail
     refine HA.out.mono ?_
     rintro e wx ⟨rfl,hbx⟩
     have HN:=Lib.hid (gw.out.trans (hbx.mono gw.out.size))
     clear hbx HA d3
     go_wp2_with fail
     go_ret
     exact⟨rfl,HN.out⟩
theorem refUses_any(op t a b arg:Int)(w:World):Calls Tryz.prog 19 #[.agg #[.int .i64 op,.int .i64 t,.int .i64 a,.int .i64 b,.int .u32 arg]] w fun e w'=>RetInts w (readsR ⟨op,t,a,b,arg⟩) (toR ⟨op,t,a,b,arg⟩) e w':=by
 have S:=parts_any op
 unfold readsR toR
 simp only []
 obtain⟨pt,hpt⟩:∃ z,z=shTo op:=⟨_,rfl⟩
 obtain⟨pa,hpa⟩:∃ z,z=shA op:=⟨_,rfl⟩
 obtain⟨pb,hpb⟩:∃ z,z=shB op:=⟨_,rfl⟩
 obtain⟨pk,hpk⟩:∃ z,z=knownR op:=⟨_,rfl⟩
 rw [←hpt,←hpa,←hpb,←hpk] at S
 rw [←hpt,←hpa,←hpb]
 have HS:=Lib.hid S
 clear S hpt hpa hpb hpk
 obtain⟨w0,hw0⟩:∃ z,z=w.alloc (.cells #[.int .i64 op,.int .i64 t,.int .i64 a,.int .i64 b,.int .u32 arg] 47):=⟨_,rfl⟩
 have b0:Below w.heap.size w w0:=by rw [hw0];exact balloc (Below.refl _ _) _
 have r0:rowV w0 w.heap.size 47 #[.int .i64 op,.int .i64 t,.int .i64 a,.int .i64 b,.int .u32 arg]:=by rw [hw0];exact rowV.new w _ _
 have c0:=cell_rowV r0 (j:=0) rfl
 have x1:=cell_rowV r0 (j:=1) rfl
 have x2:=cell_rowV r0 (j:=2) rfl
 have x3:=cell_rowV r0 (j:=3) rfl
 have R0:=Lib.hid r0
 have BW:=Lib.hid b0
 have Hw0:=Lib.hid hw0
 clear hw0 r0 b0
 go_enter Tryz.func19,Tryz.ntmps19
 go_upto_region 1 with fail
 rw [←Hw0.out]
 go_wp2_with fail
 refine (HS.out _).mono ?_
 rintro e w2 ⟨rfl,hw2⟩
 obtain rfl:=hw2.symm
 clear hw2
 go_upto_region 3 with fail
 obtain⟨A,n,c,hv,ho,hn⟩:∃ (A:Option Addr) (n c:Nat),Value.slice none 0 0=Value.slice A n c∧Own (Value.int .i64) w0 w0.heap.size 3 A n c []∧n=0:=⟨none,0,0,rfl,Own.nil _ _ _ _,rfl⟩
 rw [hv]
 have m1:=Lib.hid (show n+1≤maxLen∧(n+1) * 8≤140737488355328 by rw [hn];decide)
 have m2:=Lib.hid (show n+1+1≤maxLen∧(n+1+1) * 8≤140737488355328 by rw [hn];decide)
 have HO:=Lib.hid ho
 clear ho hv hn
 rcases pa with _ | _ <;> rcases pb with _ | _ <;> rcases pt with _ | _
 all_goals go_wp2_with (first
  | (at_builtin;refine wpList_push (enc:=Value.int .i64) rfl (.tmp 18) (.tmp 21) rfl uIs infoZ (fun _=>rfl) rfl rfl HO.out (Nat.le_refl _) a rfl m1.out.1 m1.out.2 ?_;intro A6 c6 W6 ho6 hb6;have z1:=(hb6.cell (p:=⟨w.heap.size,1,none⟩) R0.out.lt).trans x1;have z3:=(hb6.cell (p:=⟨w.heap.size,3,none⟩) R0.out.lt).trans x3;have HO6:=Lib.hid ho6;have HB6:=Lib.hid hb6;clear ho6 hb6)
  | (at_builtin;refine wpList_push (enc:=Value.int .i64) rfl (.tmp 24) (.tmp 27) rfl uIs infoZ (fun _=>rfl) rfl rfl HO6.out HB6.out.size b rfl m2.out.1 m2.out.2 ?_;intro A7 c7 W7 ho7 hb7;have w3:=(hb7.cell (p:=⟨w.heap.size,1,none⟩) R0.out.lt).trans z1;have HO7:=Lib.hid ho7;have HB7:=Lib.hid (HB6.out.trans hb7);clear ho7 hb7)
  | (at_builtin;refine wpList_push (enc:=Value.int .i64) rfl (.tmp 24) (.tmp 27) rfl uIs infoZ (fun _=>rfl) rfl rfl HO.out (Nat.le_refl _) b rfl m1.out.1 m1.out.2 ?_;intro A7 c7 W7 ho7 hb7;have w3:=(hb7.cell (p:=⟨w.heap.size,1,none⟩) R0.out.lt).trans x1;have HO7:=Lib.hid ho7;have HB7:=Lib.hid hb7;clear ho7 hb7))
 ·go_ret2
  exact RetInts.mk rfl (Own.ints HO.out) BW.out
 ·go_quiet (fail)
  go_wp2_with fail
  go_ret2
  exact RetInts.mk rfl (Own.ints (Own.below HO.out (bdrew (Below.refl _ _) _))) (bdrew BW.out _)
 ·go_ret2
  exact RetInts.mk rfl (Own.ints HO7.out) (BW.out.trans (HB7.out.mono BW.out.size))
 ·go_quiet (fail)
  go_wp2_with fail
  go_ret2
  exact RetInts.mk rfl (Own.ints (Own.below HO7.out (bdrew (Below.refl _ _) _))) (bdrew (BW.out.trans (HB7.out.mono BW.out.size)) _)
 ·go_ret2
  exact RetInts.mk rfl (Own.ints HO6.out) (BW.out.trans (HB6.out.mono BW.out.size))
 ·go_quiet (fail)
  go_wp2_with fail
  go_ret2
  exact RetInts.mk rfl (Own.ints (Own.below HO6.out (bdrew (Below.refl _ _) _))) (bdrew (BW.out.trans (HB6.out.mono BW.out.size)) _)
 ·go_ret2
  exact RetInts.mk rfl (Own.ints HO7.out) (BW.out.trans (HB7.out.mono BW.out.size))
 ·go_quiet (fail)
  go_wp2_with fail
  go_ret2
  exact RetInts.mk rfl (Own.ints (Own.below HO7.out (bdrew (Below.refl _ _) _))) (bdrew (BW.out.trans (HB7.out.mono BW.out.size)) _)
theorem sameInts_any(A A':Option Addr)(n c n' c':Nat)(xs:List Int)(w:World)(hx:Ints w A n c xs)(hy:Ints w A' n' c' xs)(hn:n≤100000) :
  Calls Tryz.prog 20 #[.slice A n c,.slice A' n' c'] w fun e w'=>e=.returned (.bool true)∧Drawn w w':=by
 obtain rfl:n'=n:=by rw [←hx.1,←hy.1]
 have HX:=Lib.hid hx
 have HY:=Lib.hid hy
 clear hx hy
 go_enter Tryz.func20,Tryz.ntmps20
 go_wp2_with fail
 go_loopw [5] (fun i wr=>∃ k:Nat,k≤n'∧i=.int .i64 (k:Int)∧Drawn w wr) (fun i _=>n'-(intOf i).toNat)
 case atStart=>exact⟨0,Nat.zero_le _,rfl,Drawn.refl _⟩
 case round=>
  obtain⟨k,hk,rfl,u,rfl⟩:=hrel
  by_cases hlt:k < n'
  ·have e1:decide ((k:Int) < (n':Int))=true:=by simp;omega
   have e1':decide (k < n')=true:=by simp;omega
   obtain⟨b,off,rfl,hbl,hc⟩:=HX.out.get hlt
   obtain⟨b2,off2,rfl,hbl2,hc2⟩:=HY.out.get hlt
   have q1:=hc k hlt
   have q2:=hc2 k hlt
   obtain⟨r,hr⟩:∃ r,r=gi xs k:=⟨_,rfl⟩
   rw [←hr] at q1 q2
   have q3:(r != r)=false:=by simp
   clear hc hc2 hr
   go_wp2_with fail
   go_quiet (fail)
   go_wp2_with fail
   go_roundw
   case rel=>exact⟨k+1,by omega,by go_num,⟨_,rfl⟩⟩
   case measure=>(simp [intOf]) <;> omega
  ·obtain rfl:k=n':=by omega
   have e1:decide ((k:Int) < (k:Int))=false:=by simp
   go_wp2_with fail
   go_ret
   exact⟨rfl,⟨_,rfl⟩⟩
def FewCR(n n':Nat)(w:World)(e:Ending)(w':World):Prop:=(∃ b,e=.returned (.bool b)∧(b=true→n≤20∧n'≤300))∧Below w.heap.size w w'
theorem fewC_any(A A':Option Addr)(n c n' c':Nat)(R S:Int)(w:World) :
  Calls Tryz.prog 18 #[ccV A n c R S A' n' c'] w (FewCR n n' w):=by
 obtain⟨w0,hw0⟩:∃ w0,w0=w.alloc (.cells #[.slice A n c,.int .i64 R,.int .i64 S,.slice A' n' c'] 30):=⟨_,rfl⟩
 have g0:Below w.heap.size w w0:=by rw [hw0];exact balloc (Below.refl _ _) _
 have r0:rowV w0 w.heap.size 30 #[.slice A n c,.int .i64 R,.int .i64 S,.slice A' n' c']:=by rw [hw0];exact rowV.new w _ _
 obtain⟨c0,c1,c2,c3⟩:=four_cellsV r0
 have G:=Lib.hid g0
 have Hw0:=Lib.hid hw0
 clear g0 r0 hw0
 by_cases hn:n≤20
 rotate_left 1
 ·have d1:decide ((n:Int)≤20)=false:=by simp;omega
  have d1':decide (n≤20)=false:=by simp;omega
  go_enter Tryz.func18,Tryz.ntmps18
  go_upto_region 1 with fail
  rw [←Hw0.out]
  go_wp2_with fail
  go_ret
  exact⟨⟨false,rfl,fun h=>by cases h⟩,G.out⟩
 have d1:decide ((n:Int)≤20)=true:=by simp;omega
 have d1':decide (n≤20)=true:=by simp;omega
 by_cases hn':n'≤300
 ·have d2:decide ((n':Int)≤300)=true:=by simp;omega
  have d2':decide (n'≤300)=true:=by simp;omega
  go_enter Tryz.func18,Tryz.ntmps18
  go_upto_region 1 with fail
  rw [←Hw0.out]
  go_wp2_with fail
  go_ret
  exact⟨⟨true,rfl,fun _=>⟨hn,hn'⟩⟩,G.out⟩
 ·have d2:decide ((n':Int)≤300)=false:=by simp;omega
  have d2':decide (n'≤300)=false:=by simp;omega
  go_enter Tryz.func18,Tryz.ntmps18
  go_upto_region 1 with fail
  rw [←Hw0.out]
  go_wp2_with fail
  go_ret
  exact⟨⟨false,rfl,fun h=>by cases h⟩,G.out⟩
theorem cmp_boxes(w:World)(x y z:Array Value):∃ w1,w1=((w.alloc (.cells x 30)).alloc (.cells y 30)).alloc (.cells z 47)∧Below w.heap.size w w1∧rowV w1 w.heap.size 30 x∧rowV w1 (w.heap.size+1) 30 y∧rowV w1 (w.heap.size+1+1) 47 z:=by
 have r1:=rowV.new w 30 x
 have e1:(w.alloc (.cells x 30)).heap.size=w.heap.size+1:=by simp
 obtain⟨wa,hwa⟩:∃ u,u=w.alloc (.cells x 30):=⟨_,rfl⟩
 have k1:Below w.heap.size w wa:=by rw [hwa];exact balloc (Below.refl _ _) _
 rw [←hwa] at r1 e1 ⊢
 have r2:=rowV.new wa 30 y
 have e2:(wa.alloc (.cells y 30)).heap.size=w.heap.size+1+1:=by simp [e1]
 obtain⟨wb,hwb⟩:∃ u,u=wa.alloc (.cells y 30):=⟨_,rfl⟩
 have k2:Below wa.heap.size wa wb:=by rw [hwb];exact balloc (Below.refl _ _) _
 rw [←hwb] at r2 e2 ⊢
 have r3:=rowV.new wb 47 z
 have k3:Below wb.heap.size wb (wb.alloc (.cells z 47)):=balloc (Below.refl _ _) _
 rw [e1] at r2
 rw [e2] at r3
 exact⟨_,rfl,(k1.trans (k2.mono k1.size)).trans (k3.mono (by omega)),(r1.below k2 r1.lt).below k3 (r1.below k2 r1.lt).lt,r2.below k3 r2.lt,r3⟩
theorem compares_any(A A':Option Addr)(n c n' c':Nat)(D D':Option Addr)(m d m' d':Nat)(x y:CC)(i:RI)(w:World)(hx:CodeM w A n c A' n' c' x)(hy:CodeM w D m d D' m' d' y)(hE:ErrR w) :
  Calls Tryz.prog 7 #[ccV A n c x.regs x.spl A' n' c',ccV D m d y.regs y.spl D' m' d',riV i] w (RetL w):=by
 obtain⟨w0,hw0,g0,r1,r2,r3⟩:=cmp_boxes w #[.slice A n c,.int .i64 x.regs,.int .i64 x.spl,.slice A' n' c'] #[.slice D m d,.int .i64 y.regs,.int .i64 y.spl,.slice D' m' d'] #[.int .i64 i.op,.int .i64 i.dst,.int .i64 i.a,.int .i64 i.b,.int .u32 i.arg]
 unfold ccV riV
 have HX:=Lib.hid (hx.below g0)
 have HY:=Lib.hid (hy.below g0)
 have HE:=Lib.hid (hE.below g0)
 have HG:=Lib.hid g0
 have HR:=Lib.hid (And.intro r1 (And.intro r2 r3))
 have HF1:=Lib.hid (fewC_any A A' n c n' c' x.regs x.spl w0)
 have HF2:=Lib.hid (fewC_any D D' m d m' d' y.regs y.spl)
 have Hw0:=Lib.hid hw0
 obtain⟨a0,a1,a2,a3⟩:=four_cellsV r1
 obtain⟨b0,b1,b2,b3⟩:=four_cellsV r2
 clear hx hy hE g0 r1 r2 r3 hw0
 go_enter Tryz.func7,Tryz.ntmps7
 go_upto_region 1 with fail
 rw [←Hw0.out]
 go_wp2_with fail
 refine HF1.out.mono ?_
 intro e w1 hr
 obtain⟨⟨bb,rfl,hfew⟩,hb1⟩:=hr
 have Hfew:=Lib.hid hfew
 have B1:=Lib.hid hb1
 obtain⟨b0,b1,b2,b3⟩:=four_cellsV (HR.out.2.1.below hb1 HR.out.2.1.lt)
 clear hfew HF1 hb1 a0 a1 a2 a3
 cases bb with
 | false=>
  have HA:=Lib.hid (awake23_any w1 (HE.out.below B1.out))
  go_wp2_with fail
  refine HA.out.mono ?_
  rintro e w2 ⟨rfl,hb2⟩
  have HN:=Lib.hid (HG.out.trans ((B1.out.trans (hb2.mono B1.out.size)).mono HG.out.size))
  clear hb2 HA
  go_wp2_with fail
  go_ret
  exact⟨rfl,HN.out⟩
 | true=>
  obtain⟨hn,hn'⟩:=Hfew.out rfl
  have HF2:=Lib.hid (HF2.out w1)
  clear Hfew
  go_wp2_with fail
  refine HF2.out.mono ?_
  intro e w2 hr
  obtain⟨⟨bb,rfl,hfew⟩,hb2⟩:=hr
  have Hfew:=Lib.hid hfew
  have B2:=Lib.hid (B1.out.trans (hb2.mono B1.out.size))
  have r3:=HR.out.2.2.below B2.out HR.out.2.2.lt
  have z0:=cell_rowV r3 (j:=0) rfl
  have z1:=cell_rowV r3 (j:=1) rfl
  have z2:=cell_rowV r3 (j:=2) rfl
  have z3:=cell_rowV r3 (j:=3) rfl
  have z4:=cell_rowV r3 (j:=4) rfl
  clear hfew HF2 hb2 B1 b0 b1 b2 b3 r3
  cases bb with
  | false=>
   have HA:=Lib.hid (awake23_any w2 (HE.out.below B2.out))
   go_wp2_with fail
   refine HA.out.mono ?_
   rintro e w3 ⟨rfl,hb3⟩
   have HN:=Lib.hid (HG.out.trans ((B2.out.trans (hb3.mono B2.out.size)).mono HG.out.size))
   clear hb3 HA
   go_wp2_with fail
   go_ret
   exact⟨rfl,HN.out⟩
  | true=>
   obtain⟨hm,hm'⟩:=Hfew.out rfl
   have HU:=uses_any i.op i.dst i.a i.b i.arg w2
   rw [reads_eq,write_eq] at HU
   have HU:=Lib.hid HU
   clear Hfew
   go_wp2_with fail
   refine HU.out.mono ?_
   rintro e w3 ⟨A3,n3,c3,rfl,hz3,hb3⟩
   have B3:=Lib.hid (B2.out.trans (hb3.mono B2.out.size))
   have Z3:=Lib.hid hz3
   have r3:=HR.out.2.2.below B3.out HR.out.2.2.lt
   have z0:=cell_rowV r3 (j:=0) rfl
   have z1:=cell_rowV r3 (j:=1) rfl
   have z2:=cell_rowV r3 (j:=2) rfl
   have z3:=cell_rowV r3 (j:=3) rfl
   have z4:=cell_rowV r3 (j:=4) rfl
   have HV:=Lib.hid (refUses_any i.op i.dst i.a i.b i.arg w3)
   clear hz3 hb3 HU B2 r3
   go_wp2_with fail
   refine HV.out.mono ?_
   rintro e w4 ⟨A4,n4,c4,rfl,hz4,hb4⟩
   have B4:=Lib.hid (B3.out.trans (hb4.mono B3.out.size))
   have hn3:n3≤2:=by rw [←Z3.out.1];exact readsR_len i
   have HS:=Lib.hid (sameInts_any A3 A4 n3 c3 n4 c4 (readsR i) w4 (Z3.out.below hb4) hz4 (by omega))
   obtain⟨tt,htt⟩:∃ z,z=toR i:=⟨_,rfl⟩
   rw [←htt]
   have qt:(tt != tt)=false:=by simp
   clear hz4 hb4 HV B3 Z3 z0 z1 z2 z3 z4 htt
   go_wp2_with fail
   refine HS.out.mono ?_
   rintro e w5 ⟨rfl,u5,hw5⟩
   have B5:Hid (Below w0.heap.size w0 w5):=by rw [hw5];exact bdrew B4.out u5
   clear hw5 HS B4
   obtain⟨a0,a1,a2,a3⟩:=four_cellsV (HR.out.1.below B5.out HR.out.1.lt)
   have hL:∀ W:World,Below w0.heap.size w0 W→Calls Tryz.prog 21 #[.agg #[.slice A n c,.int .i64 x.regs,.int .i64 x.spl,.slice A' n' c'],.agg #[.slice A n c,.int .i64 x.regs,.int .i64 x.spl,.slice A' n' c']] W fun e w'=>e=.returned (.bool true)∧Below W.heap.size W w':=fun W hW=>by
    have:=lowSame_any A A' n c n' c' A A' n c n' c' x x W (HX.out.below hW) (HX.out.below hW) (by omega) (by omega) (by omega) (by omega)
    rw [show sameC x x=true from by simp [sameC]] at this
    exact this
   have HL:=Lib.hid (hL w5 B5.out)
   clear hL
   go_wp2_with fail
   refine HL.out.mono ?_
   rintro e w6 ⟨rfl,hb6⟩
   have B6:=Lib.hid (B5.out.trans (hb6.mono B5.out.size))
   clear hb6 HL B5 a0 a1 a2 a3
   have hS:∀ W:World,Below w6.heap.size w6 W→W.cell? ⟨w.heap.size,0,none⟩=some (.slice A n c)∧W.cell? ⟨w.heap.size,1,none⟩=some (.int .i64 x.regs)∧W.cell? ⟨w.heap.size,2,none⟩=some (.int .i64 x.spl)∧W.cell? ⟨w.heap.size,3,none⟩=some (.slice A' n' c')∧W.cell? ⟨w.heap.size+1,0,none⟩=some (.slice D m d)∧W.cell? ⟨w.heap.size+1,1,none⟩=some (.int .i64 y.regs)∧W.cell? ⟨w.heap.size+1,2,none⟩=some (.int .i64 y.spl)∧W.cell? ⟨w.heap.size+1,3,none⟩=some (.slice D' m' d'):=fun W hW=>by
    have hb:=B6.out.trans (hW.mono B6.out.size)
    obtain⟨a0,a1,a2,a3⟩:=four_cellsV (HR.out.1.below hb HR.out.1.lt)
    obtain⟨b0,b1,b2,b3⟩:=four_cellsV (HR.out.2.1.below hb HR.out.2.1.lt)
    exact⟨a0,a1,a2,a3,b0,b1,b2,b3⟩
   obtain⟨ss,hss⟩:∃ z,z=sameC x y:=⟨_,rfl⟩
   have hL:∀ W:World,Below w6.heap.size w6 W→Calls Tryz.prog 21 #[.agg #[.slice A n c,.int .i64 x.regs,.int .i64 x.spl,.slice A' n' c'],.agg #[.slice D m d,.int .i64 y.regs,.int .i64 y.spl,.slice D' m' d']] W fun e w'=>e=.returned (.bool ss)∧Below W.heap.size W w':=fun W hW=>by
    rw [hss]
    exact lowSame_any A A' n c n' c' D D' m d m' d' x y W (HX.out.below (B6.out.trans (hW.mono B6.out.size))) (HY.out.below (B6.out.trans (hW.mono B6.out.size))) (by omega) (by omega) (by omega) (by omega)
   have hM:∀ W:World,Below w6.heap.size w6 W→Calls Tryz.prog 14 #[.agg #[.slice A n c,.int .i64 x.regs,.int .i64 x.spl,.slice A' n' c'],.agg #[.slice D m d,.int .i64 y.regs,.int .i64 y.spl,.slice D' m' d']] W fun e w'=>e=.returned (.bool ss)∧Below W.heap.size W w':=fun W hW=>by
    rw [hss]
    exact sameC_any A A' n c n' c' D D' m d m' d' x y W (HX.out.below (B6.out.trans (hW.mono B6.out.size))) (HY.out.below (B6.out.trans (hW.mono B6.out.size))) (by omega) (by omega)
   have hA:∀ W:World,Below w6.heap.size w6 W→Calls Tryz.prog 11 #[] W fun e w'=>e=.returned (.bool true)∧Below W.heap.size W w':=fun W hW=>awake23_any W (HE.out.below (B6.out.trans (hW.mono B6.out.size)))
   have hS:=Lib.hid hS
   have hL:=Lib.hid hL
   have hM:=Lib.hid hM
   have hA:=Lib.hid hA
   have q:(ss==ss)=true:=by simp
   have hbc:Below w6.heap.size w6 w6.drew:=bdrew (Below.refl _ _) 1
   have hs6:=hS.out _ hbc
   clear hss
   go_wp2_with fail
   go_region_held3 (fun W=>W.cell? ⟨w.heap.size,0,none⟩=some (.slice A n c)∧W.cell? ⟨w.heap.size,1,none⟩=some (.int .i64 x.regs)∧W.cell? ⟨w.heap.size,2,none⟩=some (.int .i64 x.spl)∧W.cell? ⟨w.heap.size,3,none⟩=some (.slice A' n' c')∧W.cell? ⟨w.heap.size+1,0,none⟩=some (.slice D m d)∧W.cell? ⟨w.heap.size+1,1,none⟩=some (.int .i64 y.regs)∧W.cell? ⟨w.heap.size+1,2,none⟩=some (.int .i64 y.spl)∧W.cell? ⟨w.heap.size+1,3,none⟩=some (.slice D' m' d'))
    (first | exact hS.out _ hbc | go_keep)
    (first
     | (go_at_call 11;refine (hA.out _ hbc).mono ?_;rintro e w7 ⟨rfl,hb7⟩;have hbc:=hbc.trans (hb7.mono hbc.size))
     | (go_at_call 21;refine (hL.out _ hbc).mono ?_;rintro e w8 ⟨rfl,hb8⟩;have hbc:=hbc.trans (hb8.mono hbc.size))
     | (go_at_call 14;refine (hM.out _ hbc).mono ?_;rintro e w9 ⟨rfl,hb9⟩;have hbc:=hbc.trans (hb9.mono hbc.size)))
   all_goals
    have HN:=Lib.hid (HG.out.trans ((B6.out.trans (hbc.mono B6.out.size)).mono HG.out.size))
    go_wp2_with fail
    go_ret
    exact⟨rfl,HN.out⟩
end Go.Proofs.YtpaplehcafeeaaaGreatDoor
