/- Kg Kh Md Ki Kk. -/
import Derived.Test.YtpaplehcafeeaaaGreatDoorLC46
import Derived.Test.YtpaplehcafeeaaaGreatDoorLC19
import Derived.Test.YtpaplehcafeeaaaGreatDoorLC43
import Derived.Test.YtpaplehcafeeaaaGreatDoorLC30
set_option maxRecDepth 100000
set_option maxHeartbeats 40000000
set_option linter.unusedVariables false
set_option linter.unusedSimpArgs false
namespace Go.Proofs.YtpaplehcafeeaaaGreatDoor
open Go.RowKit Go.Proofs
structure CC where
 arrs:List Arr
 regs:Int
 spl:Int
 code:List RI
def CodeM(w:World)(A:Option Addr)(n c:Nat)(A':Option Addr)(n' c':Nat)(x:CC):Prop:=Arrs w A n c x.arrs∧RIs w A' n' c' x.code
theorem CodeM.below{w w':World}{A A':Option Addr}{n c n' c':Nat}{x:CC}(h:CodeM w A n c A' n' c' x)(hb:Below w.heap.size w w'):CodeM w' A n c A' n' c' x:=⟨h.1.below hb,h.2.below hb⟩
abbrev ccV(A:Option Addr)(n c:Nat)(R S:Int)(A':Option Addr)(n' c':Nat):Value:=.agg #[.slice A n c,.int .i64 R,.int .i64 S,.slice A' n' c']
def sameC(x y:CC):Bool:=decide (x.regs=y.regs) && (decide (x.spl=y.spl) && (decide (x.arrs=y.arrs) && decide (x.code=y.code)))
theorem RIs.get{w:World}{A:Option Addr}{n c k:Nat}{l:List RI}(h:RIs w A n c l)(hk:k < n):∃ b off,A=some ⟨b,off,none⟩∧b < w.heap.size∧w.cell? ⟨b,off+k * 5,none⟩=some (.int .i64 (gR l k).op)∧w.cell? ⟨b,off+k * 5+1,none⟩=some (.int .i64 (gR l k).dst)∧w.cell? ⟨b,off+k * 5+2,none⟩=some (.int .i64 (gR l k).a)∧w.cell? ⟨b,off+k * 5+3,none⟩=some (.int .i64 (gR l k).b)∧w.cell? ⟨b,off+k * 5+4,none⟩=some (.int .u32 (gR l k).arg):=by
 obtain⟨b,off,h0,h1,h2⟩:=h.2.2 (by omega)
 exact⟨b,off,h0,h1,h2 k hk⟩
theorem gR_get{l:List RI}{k:Nat}(h:k < l.length):gR l k=l[k]:=by unfold gR;rw [List.getD_eq_getElem?_getD,List.getElem?_eq_getElem h];rfl
theorem ext_gR{l m:List RI}(hl:l.length=m.length)(h:∀ k,k < l.length→gR l k=gR m k):l=m:=by
 apply List.ext_getElem hl
 intro i h1 h2
 have:=h i h1
 rwa [gR_get h1,gR_get h2] at this
theorem stRI:Tryz.prog.stoodInHeld 47=false:=by kernel_rfl
theorem utRI:Tryz.prog.underlying 47=some (.struct (Tryz.prog.fieldsOf 47)):=by kernel_rfl
theorem gdRI:Tryz.prog.eqGuardType Tryz.prog.depth 47=false:=by kernel_rfl
abbrev riV(x:RI):Value:=.agg #[.int .i64 x.op,.int .i64 x.dst,.int .i64 x.a,.int .i64 x.b,.int .u32 x.arg]
theorem neqRI(a b:RI)(W:World):(binOp .neq 47 (riV a) (riV b)).run Tryz.prog W=.ok (.bool (!decide (a=b))) W:=by
 obtain⟨a0,a1,a2,a3,a4⟩:=a
 obtain⟨b0,b1,b2,b3,b4⟩:=b
 unfold riV
 rw [run_neq_struct,run_equalIn_agg W 9999 _ _ _ utRI stRI]
 by_cases h0:a0=b0
 ·subst h0
  by_cases h1:a1=b1
  ·subst h1
   by_cases h2:a2=b2
   ·subst h2
    by_cases h3:a3=b3
    ·subst h3
     by_cases h4:a4=b4
     ·subst h4;simp [go_sem,part]
     ·simp [go_sem,part,h4]
    ·simp [go_sem,part,h3]
   ·simp [go_sem,part,h2]
  ·simp [go_sem,part,h1]
 ·simp [go_sem,part,h0]
theorem sameC_any(A A':Option Addr)(n c n' c':Nat)(D D':Option Addr)(m d m' d':Nat)(x y:CC)(w:World)(hx:CodeM w A n c A' n' c' x)(hy:CodeM w D m d D' m' d' y)(h1:n≤100000)(hn:n'≤100000) :
  Calls Tryz.prog 14 #[ccV A n c x.regs x.spl A' n' c',ccV D m d y.regs y.spl D' m' d'] w fun e w'=>e=.returned (.bool (sameC x y))∧Below w.heap.size w w':=by
 obtain⟨xa,xr,xs,xc⟩:=x
 obtain⟨ya,yr,ys,yc⟩:=y
 obtain⟨hxa,hxc⟩:=hx
 obtain⟨hya,hyc⟩:=hy
 simp only [] at hxa hxc hya hyc
 unfold ccV
 simp only []
 have Hn:=Lib.hid hxc.1
 have Hm:=Lib.hid hyc.1
 have r1':=rowV.new w 30 #[.slice A n c,.int .i64 xr,.int .i64 xs,.slice A' n' c']
 have g0:=balloc (balloc (Below.refl w.heap.size w) (.cells #[.slice A n c,.int .i64 xr,.int .i64 xs,.slice A' n' c'] 30)) (.cells #[.slice D m d,.int .i64 yr,.int .i64 ys,.slice D' m' d'] 30)
 have r1:=r1'.below (balloc (Below.refl _ _) (.cells #[.slice D m d,.int .i64 yr,.int .i64 ys,.slice D' m' d'] 30)) r1'.lt
 have r2:=rowV.new (w.alloc (.cells #[.slice A n c,.int .i64 xr,.int .i64 xs,.slice A' n' c'] 30)) 30 #[.slice D m d,.int .i64 yr,.int .i64 ys,.slice D' m' d']
 have es:(w.alloc (.cells #[.slice A n c,.int .i64 xr,.int .i64 xs,.slice A' n' c'] 30)).heap.size=w.heap.size+1:=by simp
 rw [es] at r2
 obtain⟨w0,hw0⟩:∃ w0,w0=(w.alloc (.cells #[.slice A n c,.int .i64 xr,.int .i64 xs,.slice A' n' c'] 30)).alloc (.cells #[.slice D m d,.int .i64 yr,.int .i64 ys,.slice D' m' d'] 30):=⟨_,rfl⟩
 rw [←hw0] at g0 r1 r2
 have hxc:=hxc.below g0
 have hyc:=hyc.below g0
 have HA:=Lib.hid (sameArr_any A D n c m d xa ya w0 (hxa.below g0) (hya.below g0) h1)
 obtain⟨bb,hbb⟩:∃ bb,bb=sameC ⟨xa,xr,xs,xc⟩ ⟨ya,yr,ys,yc⟩:=⟨_,rfl⟩
 rw [←hbb]
 have HBB:Hid (bb=(decide (xr=yr) && (decide (xs=ys) && (decide (xa=ya) && decide (xc=yc))))):=hbb
 clear hbb es r1' hxa hya
 obtain⟨ba,hba⟩:∃ ba,ba=decide (xa=ya):=⟨_,rfl⟩
 rw [←hba] at HA HBB
 clear hba
 obtain⟨p0,p1,p2,p3⟩:=four_cellsV r1
 obtain⟨t0,t1,t2,t3⟩:=four_cellsV r2
 have HW:=Lib.hid hw0
 have HXC:=Lib.hid hxc
 have HYC:=Lib.hid hyc
 have G0:=Lib.hid g0
 have HR:=Lib.hid (And.intro r1 r2)
 clear hw0 hxc hyc g0 r1 r2
 by_cases hR:xr=yr
 rotate_left 1
 ·have hd:(xr != yr)=true:=by simpa using hR
  have Z:Hid (bb=false):=by show _=_;rw [HBB.out,decide_eq_false hR];rfl
  clear hR
  go_enter Tryz.func14,Tryz.ntmps14
  go_upto_region 1 with fail
  rw [←HW.out]
  go_wp2_with fail
  go_ret
  exact⟨ret_bool Z.out.symm,G0.out⟩
 subst hR
 have hd:(xr != xr)=false:=by simp
 by_cases hS:xs=ys
 rotate_left 1
 ·have hd2:(xs != ys)=true:=by simpa using hS
  have Z:Hid (bb=false):=by show _=_;rw [HBB.out,decide_eq_false hS];simp
  clear hS
  go_enter Tryz.func14,Tryz.ntmps14
  go_upto_region 1 with fail
  rw [←HW.out]
  go_wp2_with fail
  go_ret
  exact⟨ret_bool Z.out.symm,G0.out⟩
 subst hS
 have hd2:(xs != xs)=false:=by simp
 have HBB:Hid (bb=(ba && decide (xc=yc))):=by show _=_;rw [HBB.out,decide_eq_true rfl,decide_eq_true rfl];rfl
 go_enter Tryz.func14,Tryz.ntmps14
 go_upto_region 1 with fail
 rw [←HW.out]
 go_wp2_with fail
 refine HA.out.mono ?_
 rintro e w1 ⟨rfl,u0,rfl⟩
 cases ba with
 | false=>
  have Z:Hid (bb=false):=by show _=_;rw [HBB.out];rfl
  go_wp2_with fail
  go_ret
  exact⟨ret_bool Z.out.symm,bdrew G0.out u0⟩
 | true=>
  by_cases hl:n'=m'
  rotate_left 1
  ·have hd3:((n':Int) != (m':Int))=true:=by simp;omega
   have hd3':(n' != m')=true:=by simpa using hl
   have Z:Hid (bb=false):=by
    show _=_
    rw [HBB.out,decide_eq_false (fun e:xc=yc=>hl (by rw [←Hn.out,←Hm.out,e]))];rfl
   go_wp2_with fail
   go_ret
   exact⟨ret_bool Z.out.symm,bdrew G0.out u0⟩
  subst hl
  go_wp2_with fail
  go_loopw [5] (fun i wr=>∃ k:Nat,k≤n'∧i=.int .i64 (k:Int)∧Hid (∀ j,j < k→gR xc j=gR yc j)∧Drawn w0 wr) (fun i _=>n'-(intOf i).toNat)
  case atStart=>exact⟨0,Nat.zero_le _,rfl,fun j hj=>absurd hj (by omega),⟨_,rfl⟩⟩
  case round=>
   obtain⟨k,hk,rfl,HK,u,rfl⟩:=hrel
   by_cases hlt:k < n'
   ·have e1:decide ((k:Int) < (n':Int))=true:=by simp;omega
    have e1':decide (k < n')=true:=by simp;omega
    obtain⟨b,off,rfl,hbl,q0,q1,q2,q3,q4⟩:=HXC.out.get hlt
    obtain⟨b2,off2,rfl,hbl2,v0,v1,v2,v3,v4⟩:=HYC.out.get hlt
    have HS:Hid (gR xc k≠gR yc k→bb=false):=fun h=>by rw [HBB.out,decide_eq_false (fun e:xc=yc=>h (by rw [e]))];rfl
    have HG:Hid (gR xc k=gR yc k→∀ j,j < k+1→gR xc j=gR yc j):=fun h j hj=>by
     rcases Nat.lt_or_ge j k with h1 | h1
     ·exact HK.out j h1
     ·obtain rfl:j=k:=by omega
      exact h
    obtain⟨x,hxe⟩:∃ x,x=gR xc k:=⟨_,rfl⟩
    obtain⟨y,hye⟩:∃ y,y=gR yc k:=⟨_,rfl⟩
    rw [←hxe] at q0 q1 q2 q3 q4 HS HG
    rw [←hye] at v0 v1 v2 v3 v4 HS HG
    clear hxe hye HK
    obtain⟨x0,x1,x2,x3,x4⟩:=x
    obtain⟨y0,y1,y2,y3,y4⟩:=y
    simp only [] at q0 q1 q2 q3 q4 v0 v1 v2 v3 v4
    have u1:=stRI
    have u2:=utRI
    have u3:=gdRI
    have hq:=neqRI ⟨x0,x1,x2,x3,x4⟩ ⟨y0,y1,y2,y3,y4⟩
    simp only [riV] at hq
    by_cases he:(⟨x0,x1,x2,x3,x4⟩:RI)=⟨y0,y1,y2,y3,y4⟩
    ·rw [decide_eq_true he] at hq
     have HG':=Lib.hid (HG.out he)
     clear HS HG he
     go_wp2_with fail
     go_quiet (fail)
     go_wp2_with fail
     go_roundw
     case rel=>exact⟨k+1,by omega,by go_num,HG'.out,⟨_,rfl⟩⟩
     case measure=>(simp [intOf]) <;> omega
    ·rw [decide_eq_false he] at hq
     have Z:=Lib.hid (HS.out he)
     clear HS HG he
     go_wp2_with fail
     go_quiet (fail)
     go_wp2_with fail
     go_ret
     exact⟨ret_bool Z.out.symm,bdrew (bdrew G0.out _) _⟩
   ·have e1:decide ((k:Int) < (n':Int))=false:=by simp;omega
    have e1':decide (k < n')=false:=by simp;omega
    have Z:Hid (bb=true):=by
     show _=_
     rw [HBB.out,decide_eq_true (ext_gR (by rw [Hn.out,Hm.out]) (fun j hj=>HK.out j (by rw [Hn.out] at hj;omega)))];rfl
    go_wp2_with fail
    go_ret
    exact⟨ret_bool Z.out.symm,bdrew G0.out _⟩
def sAL:List UInt8:=[108,111,99,97,108,32,105,32,112,117,115,104,32,51,32,108,111,111,112,32,108,111,97,100,32,105,32,101,109,105,116,32,108,111,97,100,32,105,32,112,117,115,104,32,49,32,97,100,100,32,115,116,111,114,101,32,105,32,101,110,100]
def sBL:List UInt8:=[112,117,115,104,32,49,32,112,117,115,104,32,50,32,115,119,97,112,32,100,114,111,112,32,100,114,111,112]
def pAL:Prg:=⟨[],1,[⟨0,3⟩,⟨29,0⟩,⟨1,0⟩,⟨34,0⟩,⟨1,0⟩,⟨0,1⟩,⟨8,0⟩,⟨2,0⟩,⟨31,0⟩]⟩
def pBL:Prg:=⟨[],0,[⟨0,1⟩,⟨0,2⟩,⟨7,0⟩,⟨6,0⟩,⟨6,0⟩]⟩
def cAL:List RI:=[⟨0,1,-1,-1,3⟩,⟨29,-1,1,-1,3⟩,⟨36,1,0,-1,0⟩,⟨34,-1,1,-1,0⟩,⟨36,1,0,-1,0⟩,⟨0,2,-1,-1,1⟩,⟨8,1,1,2,0⟩,⟨36,0,1,-1,0⟩,⟨31,-1,-1,-1,0⟩]
def cBL:List RI:=[⟨0,0,-1,-1,1⟩,⟨0,1,-1,-1,2⟩,⟨36,2,1,-1,0⟩,⟨36,1,0,-1,0⟩,⟨36,0,2,-1,0⟩]
def okL(p:Prg)(regs:Int)(c:List RI):Bool:=match verP p with
 | .ok r=>decide (p.arrs.length=0) && (decide (p.locs+r.hgt+1=regs) && decide ((lowP p r).code=c))
 | _=>false
theorem rdAL:okS sAL pAL=true:=by decide +kernel
theorem rdBL:okS sBL pBL=true:=by decide +kernel
theorem lwAL:okL pAL 4 cAL=true:=by decide +kernel
theorem lwBL:okL pBL 3 cBL=true:=by decide +kernel
theorem mkRI_any(op t a b arg:Int)(w:World):Calls Tryz.prog 27 #[.int .i64 op,.int .i64 t,.int .i64 a,.int .i64 b,.int .u32 arg] w fun e w'=>e=.returned (riV ⟨op,t,a,b,arg⟩)∧Below w.heap.size w w':=by
 unfold riV
 simp only []
 obtain⟨w1,hw1⟩:∃ z,z=w.alloc (.cells #[.int .i64 0,.int .i64 0,.int .i64 0,.int .i64 0,.int .u32 0] 47):=⟨_,rfl⟩
 have b1:Below w.heap.size w w1:=by rw [hw1];exact balloc (Below.refl _ _) _
 have r1:rowV w1 w.heap.size 47 #[.int .i64 0,.int .i64 0,.int .i64 0,.int .i64 0,.int .u32 0]:=by rw [hw1];exact rowV.new w _ _
 have x0:=cell_rowV r1 (j:=0) rfl
 have x1:=cell_rowV r1 (j:=1) rfl
 have x2:=cell_rowV r1 (j:=2) rfl
 have x3:=cell_rowV r1 (j:=3) rfl
 have x4:=cell_rowV r1 (j:=4) rfl
 have f0:=frozen_rowV' r1 0
 have f1:=frozen_rowV' r1 1
 have f2:=frozen_rowV' r1 2
 have f3:=frozen_rowV' r1 3
 have f4:=frozen_rowV' r1 4
 have R:=Lib.hid (((((r1.set 0 (.int .i64 op)).set 1 (.int .i64 t)).set 2 (.int .i64 a)).set 3 (.int .i64 b)).set 4 (.int .u32 arg))
 have B:=Lib.hid (belowCell (belowCell (belowCell (belowCell (belowCell (j:=0) (g:=w.heap.size) b1 (Nat.le_refl _) (.int .i64 op)) (j:=1) (g:=w.heap.size) (Nat.le_refl _) (.int .i64 t)) (j:=2) (g:=w.heap.size) (Nat.le_refl _) (.int .i64 a)) (j:=3) (g:=w.heap.size) (Nat.le_refl _) (.int .i64 b)) (j:=4) (g:=w.heap.size) (Nat.le_refl _) (.int .u32 arg))
 have Hw1:=Lib.hid hw1
 clear hw1 b1 r1
 go_enter Tryz.func27,Tryz.ntmps27
 go_upto_region 1 with fail
 rw [←Hw1.out]
 go_wp2_with fail
 have y0:=cell_rowV R.out (j:=0) (v:=.int .i64 op) rfl
 have y1:=cell_rowV R.out (j:=1) (v:=.int .i64 t) rfl
 have y2:=cell_rowV R.out (j:=2) (v:=.int .i64 a) rfl
 have y3:=cell_rowV R.out (j:=3) (v:=.int .i64 b) rfl
 have y4:=cell_rowV R.out (j:=4) (v:=.int .u32 arg) rfl
 refine bodyPost_ret (v:=.agg #[.int .i64 op,.int .i64 t,.int .i64 a,.int .i64 b,.int .u32 arg]) (by simp [results,Tryz.results27,go_sem,y0,y1,y2,y3,y4]) rfl ⟨rfl,B.out⟩
theorem okL_of{p:Prg}{regs:Int}{c:List RI}(h:okL p regs c=true):∃ r,verP p=.ok r∧p.arrs=[]∧p.locs+r.hgt+1=regs∧(lowP p r).code=c:=by
 unfold okL at h
 cases hv:verP p with
 | stuck=>rw [hv] at h;cases h
 | bad a x=>rw [hv] at h;cases h
 | ok r=>
  rw [hv] at h
  simp only [Bool.and_eq_true,decide_eq_true_eq] at h
  exact⟨r,rfl,List.eq_nil_of_length_eq_zero h.1,h.2.1,h.2.2⟩
theorem lowers_any(src:List UInt8)(p:Prg)(regs:Int)(cs:List RI)(A1:Option Addr)(n1 c1:Nat)(w:World)(hr:okS src p=true)(hl:okL p regs cs=true)(hs:src.length≤100000000)(hE:ErrR w)(hc:RIs w A1 n1 c1 cs)(hn:cs.length≤1000) :
  Calls Tryz.prog 26 #[.string (strB src),.int .i64 regs,.slice A1 n1 c1] w fun e w'=>e=.returned (.bool true)∧Below w.heap.size w w':=by
 have HR:=Lib.hid (asmP_any src p w hr hs hE)
 obtain⟨r,hv,ha,hrg,hcd⟩:=okL_of hl
 have HV:=Lib.hid hv
 have HA:=Lib.hid ha
 have HG:=Lib.hid hrg
 have HD:=Lib.hid hcd
 have HC:=Lib.hid hc
 have Hn:=Lib.hid hn
 clear hr hl hs hE hv ha hrg hcd hc hn
 go_enter Tryz.func26,Tryz.ntmps26
 go_wp2_with fail
 refine HR.out.mono ?_
 rintro e w1 ⟨A,n,c,A',n',c',rfl,hp,hb1⟩
 obtain⟨w2,hw2⟩:∃ x,x=w1.alloc (.cells #[.slice A n c,.int .i64 p.locs,.slice A' n' c'] 25):=⟨_,rfl⟩
 have k2:Below w1.heap.size w1 w2:=by rw [hw2];exact balloc (Below.refl _ _) _
 have r2:rowV w2 w1.heap.size 25 #[.slice A n c,.int .i64 p.locs,.slice A' n' c']:=by rw [hw2];exact rowV.new w1 _ _
 obtain⟨c0,c1',c2⟩:=three_cellsV r2
 have HL:=Lib.hid (lower_any A A' n c n' c' p.locs p w2 (hp.below k2))
 have HB:=Lib.hid (hb1.trans (k2.mono hb1.size))
 have Hw2:=Lib.hid hw2
 clear hp k2 r2 hb1 hw2 HR
 go_upto_region 2 with fail
 rw [←Hw2.out]
 go_wp2_with fail
 refine HL.out.mono ?_
 intro e w3 hr
 obtain⟨hb3,hr⟩:=hr
 rw [HV.out] at hr
 obtain⟨D,m,d,D',m',d',rfl,ha3,hc3⟩:=hr
 rw [HG.out]
 rw [HD.out] at hc3
 rw [HA.out] at ha3
 obtain⟨w4,hw4⟩:∃ x,x=w3.alloc (.cells #[.slice D m d,.int .i64 regs,.int .i64 0,.slice D' m' d'] 30):=⟨_,rfl⟩
 have k4:Below w3.heap.size w3 w4:=by rw [hw4];exact balloc (Below.refl _ _) _
 have r4:rowV w4 w3.heap.size 30 #[.slice D m d,.int .i64 regs,.int .i64 0,.slice D' m' d']:=by rw [hw4];exact rowV.new w3 _ _
 obtain⟨y0,y1,y2,y3⟩:=four_cellsV r4
 have hm0:m=0:=ha3.1.symm
 have hm1:m'=cs.length:=hc3.1.symm
 have hB4:=HB.out.trans ((hb3.trans (k4.mono hb3.size)).mono HB.out.size)
 have HS:=sameC_any D D' m d m' d' none A1 0 0 n1 c1 ⟨[],regs,0,cs⟩ ⟨[],regs,0,cs⟩ w4 ⟨ha3.below k4,hc3.below k4⟩ ⟨⟨rfl,Nat.le_refl _,(fun x h=>by cases h),fun h=>absurd h (Nat.not_lt_zero _)⟩,HC.out.below hB4⟩ (by omega) (by have:=Hn.out;omega)
 rw [show sameC ⟨[],regs,0,cs⟩ ⟨[],regs,0,cs⟩=true from by simp [sameC]] at HS
 unfold ccV at HS
 simp only [] at HS
 have HS:=Lib.hid HS
 have HB4:=Lib.hid hB4
 have Hw4:=Lib.hid hw4
 clear hb3 ha3 hc3 k4 r4 hw4 hm0 hm1 hB4 HL c0 c1' c2
 go_upto_region 3 with fail
 rw [←Hw4.out]
 go_wp2_with fail
 refine HS.out.mono ?_
 rintro e w5 ⟨rfl,hb5⟩
 have HN:=Lib.hid (HB4.out.trans (hb5.mono HB4.out.size))
 clear hb5 HS
 go_wp2_with fail
 go_ret
 exact⟨rfl,HN.out⟩
theorem lit_ris(w:World)(cs:List RI)(a:Array Value)(ha:(cs.flatMap encRI).toArray=a)(hn:cs.length≤1000):RIs (w.alloc (.cells a 47)) (some ⟨w.heap.size,0,none⟩) cs.length cs.length cs:=
 (OwnS.lit (B:=w.heap.size) cs a ha (fun _=>rfl) (Nat.le_refl _) (by unfold maxLen;omega)).ris
theorem lowA_any(w:World)(hE:ErrR w):Calls Tryz.prog 26 #[.string (strB sAL),.int .i64 4,.slice (some ⟨w.heap.size,0,none⟩) 9 9] (w.alloc (.cells #[.int .i64 0,.int .i64 1,.int .i64 (-1),.int .i64 (-1),.int .u32 3,.int .i64 29,.int .i64 (-1),.int .i64 1,.int .i64 (-1),.int .u32 3,.int .i64 36,.int .i64 1,.int .i64 0,.int .i64 (-1),.int .u32 0,.int .i64 34,.int .i64 (-1),.int .i64 1,.int .i64 (-1),.int .u32 0,.int .i64 36,.int .i64 1,.int .i64 0,.int .i64 (-1),.int .u32 0,.int .i64 0,.int .i64 2,.int .i64 (-1),.int .i64 (-1),.int .u32 1,.int .i64 8,.int .i64 1,.int .i64 1,.int .i64 2,.int .u32 0,.int .i64 36,.int .i64 0,.int .i64 1,.int .i64 (-1),.int .u32 0,.int .i64 31,.int .i64 (-1),.int .i64 (-1),.int .i64 (-1),.int .u32 0] 47)) fun e w'=>e=.returned (.bool true)∧Below w.heap.size w w':=
 (lowers_any sAL pAL 4 cAL _ 9 9 _ rdAL lwAL (by decide) (hE.below (balloc (Below.refl _ _) _)) (lit_ris w cAL _ rfl (by decide)) (by decide)).mono fun e w' h=>⟨h.1,(balloc (Below.refl _ _) _).trans (h.2.mono (balloc (Below.refl _ _) _).size)⟩
theorem lowB_any(w:World)(hE:ErrR w):Calls Tryz.prog 26 #[.string (strB sBL),.int .i64 3,.slice (some ⟨w.heap.size,0,none⟩) 5 5] (w.alloc (.cells #[.int .i64 0,.int .i64 0,.int .i64 (-1),.int .i64 (-1),.int .u32 1,.int .i64 0,.int .i64 1,.int .i64 (-1),.int .i64 (-1),.int .u32 2,.int .i64 36,.int .i64 2,.int .i64 1,.int .i64 (-1),.int .u32 0,.int .i64 36,.int .i64 1,.int .i64 0,.int .i64 (-1),.int .u32 0,.int .i64 36,.int .i64 0,.int .i64 2,.int .i64 (-1),.int .u32 0] 47)) fun e w'=>e=.returned (.bool true)∧Below w.heap.size w w':=
 (lowers_any sBL pBL 3 cBL _ 5 5 _ rdBL lwBL (by decide) (hE.below (balloc (Below.refl _ _) _)) (lit_ris w cBL _ rfl (by decide)) (by decide)).mono fun e w' h=>⟨h.1,(balloc (Below.refl _ _) _).trans (h.2.mono (balloc (Below.refl _ _) _).size)⟩
theorem awake23_any(w:World)(hE:ErrR w):Calls Tryz.prog 11 #[] w fun e w'=>e=.returned (.bool true)∧Below w.heap.size w w':=by
 have HE:=Lib.hid hE
 have HB:Hid (Below w.heap.size w w):=Below.refl _ _
 clear hE
 go_enter Tryz.func11,Tryz.ntmps11
 iterate 9
  go_wp2_with fail
  refine (mkRI_any _ _ _ _ _ _).mono ?_
  rintro e w1 ⟨rfl,hb1⟩
  replace HB:=Lib.hid (HB.out.trans (hb1.mono HB.out.size))
  clear hb1
 go_wp2_with fail
 refine (lowA_any _ (HE.out.below HB.out)).mono ?_
 rintro e w2 ⟨rfl,hb2⟩
 replace HB:=Lib.hid (HB.out.trans (hb2.mono HB.out.size))
 clear hb2
 iterate 5
  go_wp2_with fail
  refine (mkRI_any _ _ _ _ _ _).mono ?_
  rintro e w3 ⟨rfl,hb3⟩
  replace HB:=Lib.hid (HB.out.trans (hb3.mono HB.out.size))
  clear hb3
 go_wp2_with fail
 refine (lowB_any _ (HE.out.below HB.out)).mono ?_
 rintro e w4 ⟨rfl,hb4⟩
 replace HB:=Lib.hid (HB.out.trans (hb4.mono HB.out.size))
 clear hb4
 go_wp2_with fail
 go_ret
 exact⟨rfl,HB.out⟩
def FewR(n n':Nat)(w:World)(e:Ending)(w':World):Prop:=(∃ b,e=.returned (.bool b)∧(b=true→n≤20∧n'≤200))∧Below w.heap.size w w'
theorem few15_any(A A':Option Addr)(n c n' c':Nat)(L:Int)(p:Prg)(w:World)(hx:Progs w A n c L A' n' c' p) :
  Calls Tryz.prog 10 #[.agg #[.slice A n c,.int .i64 L,.slice A' n' c']] w (FewR n n' w):=by
 obtain⟨w0,hw0⟩:∃ w0,w0=w.alloc (.cells #[.slice A n c,.int .i64 L,.slice A' n' c'] 25):=⟨_,rfl⟩
 have g0:Below w.heap.size w w0:=by rw [hw0];exact balloc (Below.refl _ _) _
 have r0:rowV w0 w.heap.size 25 #[.slice A n c,.int .i64 L,.slice A' n' c']:=by rw [hw0];exact rowV.new w _ _
 have HX:=Lib.hid (hx.below g0)
 have HG:=Lib.hid (And.intro r0 g0)
 have Hw0:=Lib.hid hw0
 obtain⟨c0,c1,c2⟩:=three_cellsV r0
 clear hx g0 r0 hw0
 by_cases h1:20 < n
 ·have d1:decide ((20:Int) < (n:Int))=true:=by simp;omega
  have d1':decide (20 < n)=true:=by simp;omega
  go_enter Tryz.func10,Tryz.ntmps10
  go_upto_region 1 with fail
  rw [←Hw0.out]
  go_wp2_with fail
  go_ret
  exact⟨⟨false,rfl,fun h=>by cases h⟩,HG.out.2⟩
 have d1:decide ((20:Int) < (n:Int))=false:=by simp;omega
 have d1':decide (20 < n)=false:=by simp;omega
 by_cases h2:200 < n'
 ·have d2:decide ((200:Int) < (n':Int))=true:=by simp;omega
  have d2':decide (200 < n')=true:=by simp;omega
  go_enter Tryz.func10,Tryz.ntmps10
  go_upto_region 1 with fail
  rw [←Hw0.out]
  go_wp2_with fail
  go_ret
  exact⟨⟨false,rfl,fun h=>by cases h⟩,HG.out.2⟩
 have d2:decide ((200:Int) < (n':Int))=false:=by simp;omega
 have d2':decide (200 < n')=false:=by simp;omega
 have HS:=Lib.hid (shallow_any A' n' c' p.code w0 HX.out.code (by omega))
 go_enter Tryz.func10,Tryz.ntmps10
 go_upto_region 1 with fail
 rw [←Hw0.out]
 go_wp2_with fail
 refine HS.out.mono ?_
 rintro e w1 ⟨⟨b,rfl⟩,hb1⟩
 have r1:=HG.out.1.below hb1 HG.out.1.lt
 have HR1:=Lib.hid (And.intro r1 (And.intro (HG.out.2.trans (hb1.mono HG.out.2.size)) (HX.out.arrs.below hb1)))
 clear HS hb1 r1 c0 c1 c2
 obtain⟨c0,c1,c2⟩:=three_cellsV HR1.out.1
 cases b with
 | false=>
  go_wp2_with fail
  go_ret
  exact⟨⟨false,rfl,fun h=>by cases h⟩,HR1.out.2.1⟩
 | true=>
  go_wp2_with fail
  go_loop [3] (fun i=>∃ k:Nat,k≤n∧i=.int .i64 (k:Int)) (fun i=>n-(intOf i).toNat)
  case atStart=>exact⟨0,Nat.zero_le _,rfl⟩
  case round=>
   obtain⟨k,hk,rfl⟩:=hrel
   by_cases hlt:k < n
   ·have dk:decide ((k:Int) < (n:Int))=true:=by simp;omega
    have dk':decide (k < n)=true:=by simp;omega
    obtain⟨cb,off,rfl,hcb,hcell⟩:=HR1.out.2.2.get hlt
    have x0:=(hcell k hlt).1
    have x1:=(hcell k hlt).2
    clear hcell
    obtain⟨sz,hsz⟩:∃ z,z=(gA p.arrs k).size:=⟨_,rfl⟩
    rw [←hsz] at x1
    clear hsz
    by_cases h3:300 < sz
    ·have e1:decide ((300:Int) < sz)=true:=decide_eq_true h3
     by_cases h4:sz≤65536
     ·have e2:decide (sz≤(65536:Int))=true:=decide_eq_true h4
      go_wp2_with fail
      go_ret
      exact⟨⟨false,rfl,fun h=>by cases h⟩,HR1.out.2.1⟩
     ·have e2:decide (sz≤(65536:Int))=false:=decide_eq_false h4
      go_wp2_with fail
      go_round
      case rel=>exact⟨k+1,by omega,by go_num⟩
      case measure=>(simp [intOf]) <;> omega
    ·have e1:decide ((300:Int) < sz)=false:=decide_eq_false h3
     go_wp2_with fail
     go_round
     case rel=>exact⟨k+1,by omega,by go_num⟩
     case measure=>(simp [intOf]) <;> omega
   ·obtain rfl:k=n:=by omega
    have dk:decide ((k:Int) < (k:Int))=false:=by simp
    go_wp2_with fail
    go_ret
    exact⟨⟨true,rfl,fun _=>⟨by omega,by omega⟩⟩,HR1.out.2.1⟩
def RetL(w:World)(e:Ending)(w':World):Prop:=e=.returned (.bool true)∧Below w.heap.size w w'
theorem keptO_none{op:Int}(h:¬ (op=27∨op=28∨op=29∨op=30∨op=31∨op=3∨op=4∨op=34∨op=35)):keptO op=false:=by unfold keptO;exact decide_eq_false h
theorem kept_any(op:Int)(w:World):Calls Tryz.prog 16 #[.int .i64 op] w fun e w'=>e=.returned (.bool (keptO op))∧w'=w:=by
 by_cases h:op=27∨op=28∨op=29∨op=30∨op=31∨op=3∨op=4∨op=34∨op=35
 ·rcases h with rfl | rfl | rfl | rfl | rfl | rfl | rfl | rfl | rfl
  all_goals
   go_enter Tryz.func16,Tryz.ntmps16
   go_wp2_with fail
   go_ret
   exact⟨rfl,rfl⟩
 ·rw [keptO_none h]
  have e1:(op==27)=false:=by simp;omega
  have e2:(op==28)=false:=by simp;omega
  have e3:(op==29)=false:=by simp;omega
  have e4:(op==30)=false:=by simp;omega
  have e5:(op==31)=false:=by simp;omega
  have e6:(op==3)=false:=by simp;omega
  have e7:(op==4)=false:=by simp;omega
  have e8:(op==34)=false:=by simp;omega
  have e9:(op==35)=false:=by simp;omega
  clear h
  go_enter Tryz.func16,Tryz.ntmps16
  go_wp2_with fail
  go_ret
  exact⟨rfl,rfl⟩
theorem keeps_any(A A':Option Addr)(n c n' c':Nat)(L:Int)(p:Prg)(w:World)(hx:Progs w A n c L A' n' c' p)(hE:ErrR w) :
  Calls Tryz.prog 4 #[.agg #[.slice A n c,.int .i64 L,.slice A' n' c']] w (RetL w):=by
 obtain⟨w0,hw0⟩:∃ w0,w0=w.alloc (.cells #[.slice A n c,.int .i64 L,.slice A' n' c'] 25):=⟨_,rfl⟩
 have g0:Below w.heap.size w w0:=by rw [hw0];exact balloc (Below.refl _ _) _
 have r0:rowV w0 w.heap.size 25 #[.slice A n c,.int .i64 L,.slice A' n' c']:=by rw [hw0];exact rowV.new w _ _
 have HFw:=Lib.hid (few15_any A A' n c n' c' L p w0 (hx.below g0))
 have hwf:Hid (∀ x∈p.code,0≤x.arg∧x.arg < 4294967296):=fun x h=>⟨(hx.code.2.2.1 x h).1,(hx.code.2.2.1 x h).2.1⟩
 have HE:=Lib.hid hE
 have HX:=Lib.hid hx
 have HG:=Lib.hid (And.intro r0 g0)
 have Hw0:=Lib.hid hw0
 obtain⟨c0,c1,c2⟩:=three_cellsV r0
 clear hx hE g0 r0 hw0
 go_enter Tryz.func4,Tryz.ntmps4
 go_upto_region 1 with fail
 rw [←Hw0.out]
 go_wp2_with fail
 refine HFw.out.mono ?_
 intro e w1 hr
 obtain⟨⟨b,rfl,hfew⟩,hb1⟩:=hr
 have r1:=HG.out.1.below hb1 HG.out.1.lt
 have g1:=HG.out.2.trans (hb1.mono HG.out.2.size)
 have H1:=Lib.hid (And.intro r1 g1)
 have Hfew:=Lib.hid hfew
 clear hb1 r1 g1 hfew HFw c0 c1 c2
 cases b with
 | false=>
  have HA:=Lib.hid (awake23_any w1 (HE.out.below H1.out.2))
  go_wp2_with fail
  refine HA.out.mono ?_
  rintro e w2 ⟨rfl,hb2⟩
  have HN:=Lib.hid (H1.out.2.trans (hb2.mono H1.out.2.size))
  clear hb2 HA
  go_wp2_with fail
  go_ret
  exact⟨rfl,HN.out⟩
 | true=>
  obtain⟨hn,hn'⟩:=Hfew.out rfl
  obtain⟨c0,c1,c2⟩:=three_cellsV H1.out.1
  have HV:=Lib.hid (lower_any A A' n c n' c' L p w1 (HX.out.below H1.out.2))
  clear Hfew
  go_wp2_with fail
  refine HV.out.mono ?_
  intro e w2 hr
  clear HV
  obtain⟨hb2,hr⟩:=hr
  cases hv:verP p with
  | stuck=>rw [hv] at hr;exact hr.elim
  | bad a x=>
   rw [hv] at hr
   simp only [] at hr
   subst hr
   obtain⟨-,hx0⟩:=verP_bad hwf.out (formE_nn p) hv
   obtain⟨w3,hw3⟩:∃ z,z=w2.alloc (.cells #[.slice none 0 0,.int .i64 0,.int .i64 0,.slice none 0 0] 30):=⟨_,rfl⟩
   have k3:Below w2.heap.size w2 w3:=by rw [hw3];exact balloc (Below.refl _ _) _
   have g3:=(H1.out.2.trans (hb2.mono H1.out.2.size)).trans (k3.mono (H1.out.2.trans (hb2.mono H1.out.2.size)).size)
   have q3:=(H1.out.1.below hb2 H1.out.1.lt).below k3 (H1.out.1.below hb2 H1.out.1.lt).lt
   have HV:=verifyW_any A A' n c n' c' L p w3 (HX.out.below g3)
   rw [hv] at HV
   have HV:=Lib.hid HV
   have d1:(x != 0)=true:=by simp;omega
   have d2:(x==x)=true:=by simp
   have H3:=Lib.hid g3
   have Hw3:=Lib.hid hw3
   obtain⟨c0,c1,c2⟩:=three_cellsV q3
   clear hb2 hx0 hw3 k3 g3 q3 hv hn hn'
   go_upto_region 4 with fail
   rw [←Hw3.out]
   go_wp2_with fail
   refine HV.out.mono ?_
   rintro e w4 ⟨rfl,hb4⟩
   obtain⟨w5,hw5⟩:∃ z,z=w4.alloc (.cells #[.int .i64 0,.int .i64 0,.int .i64 0,.slice none 0 0] 39):=⟨_,rfl⟩
   have k5:Below w4.heap.size w4 w5:=by rw [hw5];exact balloc (Below.refl _ _) _
   have g5:=(H3.out.trans (hb4.mono H3.out.size)).trans (k5.mono (H3.out.trans (hb4.mono H3.out.size)).size)
   have HA:=Lib.hid (awake23_any w5 (HE.out.below g5))
   have H5:=Lib.hid g5
   have Hw5:=Lib.hid hw5
   clear hb4 hw5 k5 g5 HV c0 c1 c2
   go_upto_region 5 with fail
   rw [←Hw5.out]
   go_wp2_with fail
   refine HA.out.mono ?_
   rintro e w6 ⟨rfl,hb6⟩
   have HN:=Lib.hid (H5.out.trans (hb6.mono H5.out.size))
   clear hb6 HA
   go_wp2_with fail
   go_ret
   exact⟨rfl,HN.out⟩
  | ok rp=>
   rw [hv] at hr
   obtain⟨D,m,d,D',m',d',rfl,-,hrs⟩:=hr
   have HRo:=Lib.hid (reports_of hwf.out hv)
   have HLW:=Lib.hid (lowW_of hwf.out hv)
   have hkc:keptR (lowP p rp).code=keptC p.code (mostAt rp.inv) p.code.length 0:=by unfold lowP;exact lowC_kept _ _ _ _ _ _ _
   have HCL:=Lib.hid HX.out.code.1
   rw [HX.out.code.1] at hkc
   obtain⟨out,hout⟩:∃ z,z=(lowP p rp).code:=⟨_,rfl⟩
   rw [←hout] at hkc hrs
   have Hm':=Lib.hid hrs.1
   have hm3:m'≤600:=by
    have h1:=hrs.1
    rw [hout] at h1
    unfold lowP at h1
    simp only [] at h1
    rw [lowC_len,HX.out.code.1] at h1
    have:=cntC_le3 p.code n' 0
    omega
   obtain⟨w3,hw3⟩:∃ z,z=w2.alloc (.cells #[.slice D m d,.int .i64 (p.locs+rp.hgt+1),.int .i64 0,.slice D' m' d'] 30):=⟨_,rfl⟩
   have k3:Below w2.heap.size w2 w3:=by rw [hw3];exact balloc (Below.refl _ _) _
   have r3:rowV w3 w2.heap.size 30 #[.slice D m d,.int .i64 (p.locs+rp.hgt+1),.int .i64 0,.slice D' m' d']:=by rw [hw3];exact rowV.new w2 _ _
   have g3:=(H1.out.2.trans (hb2.mono H1.out.2.size)).trans (k3.mono (H1.out.2.trans (hb2.mono H1.out.2.size)).size)
   have q3:=(H1.out.1.below hb2 H1.out.1.lt).below k3 (H1.out.1.below hb2 H1.out.1.lt).lt
   have HV:=verifyW_any A A' n c n' c' L p w3 (HX.out.below g3)
   rw [hv] at HV
   have HV:=Lib.hid HV
   have H3:=Lib.hid (And.intro r3 (And.intro q3 (And.intro g3 (hrs.below k3))))
   have Hkc:=Lib.hid hkc
   have Hw3:=Lib.hid hw3
   clear hb2 hw3 k3 r3 g3 hv hrs hkc hout c0 c1 c2 hn
   obtain⟨c0,c1,c2⟩:=three_cellsV q3
   clear q3
   go_upto_region 4 with fail
   rw [←Hw3.out]
   go_wp2_with fail
   refine HV.out.mono ?_
   rintro e w4 ⟨⟨E,v,ec,rfl,hinv⟩,hb4⟩
   obtain⟨⟨rs,re,rh,ri⟩,hrp⟩:∃ z,z=rp:=⟨_,rfl⟩
   rw [←hrp] at HRo HLW Hkc hinv
   rw [←hrp]
   simp only [] at hinv
   obtain⟨w5,hw5⟩:∃ z,z=w4.alloc (.cells #[.int .i64 rs,.int .i64 re,.int .i64 rh,.slice E v ec] 39):=⟨_,rfl⟩
   have k5:Below w4.heap.size w4 w5:=by rw [hw5];exact balloc (Below.refl _ _) _
   have r5:rowV w5 w4.heap.size 39 #[.int .i64 rs,.int .i64 re,.int .i64 rh,.slice E v ec]:=by rw [hw5];exact rowV.new w4 _ _
   have k35:=hb4.trans (k5.mono hb4.size)
   have H5:=Lib.hid (And.intro r5 (And.intro (H3.out.1.below k35 H3.out.1.lt) (And.intro (H3.out.2.1.below k35 H3.out.2.1.lt) (And.intro (H3.out.2.2.1.trans (k35.mono H3.out.2.2.1.size)) (And.intro (H3.out.2.2.2.below k35) (hinv.invs.below k5))))))
   have Hw5:=Lib.hid hw5
   have Hv:=Lib.hid hinv.1
   clear hb4 hw5 k5 r5 k35 hinv hrp HV H3 c0 c1 c2
   go_upto_region 5 with fail
   rw [←Hw5.out]
   clear Hw5
   go_upto_region 9 with fail
   go_loopw [8,9,10,11,12] (fun a b i _ _ wr=>∃ j k:Nat,j≤n'∧i=.int .i64 (j:Int)∧k≤m'∧a=.int .i64 (k:Int)∧(∃ q:Nat,q≤j∧b=.int .i64 (q:Int)∧Hid (q=cntL p.code j))∧Hid (keptR (out.drop k)=keptC p.code (mostAt ri) (n'-j) j∧Below w5.heap.size w5 wr)) (fun _ _ i _ _ _=>n'-(intOf i).toNat)
   case atStart=>exact⟨0,0,Nat.zero_le _,rfl,Nat.zero_le _,rfl,⟨0,Nat.le_refl _,rfl,rfl⟩,Hkc.out,Below.refl _ _⟩
   case round=>
    obtain⟨j,k,hj,rfl,hk,rfl,⟨q,hq,rfl,HQ⟩,HR⟩:=hrel
    obtain⟨wo,rfl⟩:∃ wo,wo=wr:=⟨_,rfl⟩
    have hbo:=HR.out.2
    have rp:=H5.out.2.2.1.below hbo H5.out.2.2.1.lt
    have rc:=H5.out.2.1.below hbo H5.out.2.1.lt
    have rr:=H5.out.1.below hbo H5.out.1.lt
    have HRI:=Lib.hid (H5.out.2.2.2.2.1.below hbo)
    have gw:=Lib.hid (H5.out.2.2.2.1.trans (hbo.mono H5.out.2.2.2.1.size))
    obtain⟨c0,c1,c2⟩:=three_cellsV rp
    obtain⟨d0,d1,d2,d3⟩:=four_cellsV rc
    clear hbo
    by_cases hlt:j < n'
    ·have ej:decide ((j:Int) < (n':Int))=true:=by simp;omega
     have ej':decide (j < n')=true:=by simp;omega
     have hjl:j < p.code.length:=by rw [HCL.out];exact hlt
     obtain⟨cb,off,rfl,hcb,hcell⟩:=(HX.out.code.below gw.out).get hlt
     have x0:wo.cell? ⟨cb,off+j * 2,none⟩=some (.int .i64 (oI p.code j)):=(hcell j hlt).1
     have x1:wo.cell? ⟨cb,off+j * 2+1,none⟩=some (.int .u32 (gI p.code j).arg):=(hcell j hlt).2
     obtain⟨-,-,i2,i3⟩:=HLW.out.ok.ins j hjl
     have hst:=keptC_step p.code (mostAt ri) (n:=n') hlt
     have hcs:=cntL_succ p.code j
     have hmo:=HLW.out.most j
     have hma:=fun h=>most_at HRo.out HLW.out hjl h
     simp only [] at hmo hma
     rw [←HQ.out] at hcs hma
     obtain⟨op,hop⟩:∃ z,z=oI p.code j:=⟨_,rfl⟩
     obtain⟨ar,har⟩:∃ z,z=(gI p.code j).arg:=⟨_,rfl⟩
     rw [←hop] at x0 hst hcs hma
     rw [←har] at x1 hst i2 i3
     obtain⟨W1,hW1⟩:∃ z,z=wo.alloc (.cells #[.int .i64 op,.int .u32 ar] 44):=⟨_,rfl⟩
     have kW:Below wo.heap.size wo W1:=by rw [hW1];exact balloc (Below.refl _ _) _
     have rW:rowV W1 wo.heap.size 44 #[.int .i64 op,.int .u32 ar]:=by rw [hW1];exact rowV.new wo _ _
     obtain⟨z0,z1⟩:=two_cellsV rW
     have rr1:=rr.below kW rr.lt
     obtain⟨-,-,-,y3⟩:=four_cellsV rr1
     obtain⟨-,-,-,d3'⟩:=four_cellsV (rc.below kW rc.lt)
     have HB1:=Lib.hid (HR.out.2.trans (kW.mono HR.out.2.size))
     have HRI1:=Lib.hid (HRI.out.below kW)
     have HIv:=Lib.hid (H5.out.2.2.2.2.2.below HB1.out)
     have HK:=kept_any op W1
     have HW1:=Lib.hid hW1
     have Hhr:=HR.out.1
     rw [hst] at Hhr
     clear hcell hop har hW1 kW rW rr1 rp rc rr HR hst hcb HRI d0 d1 d2
     cases hkk:keptO op with
     | false=>
      rw [hkk] at HK Hhr
      have HK:=Lib.hid HK
      have hne:¬ op=29:=by intro h;rw [h] at hkk;cases hkk
      rw [if_neg hne] at hcs
      have HN:Hid (keptR (out.drop k)=keptC p.code (mostAt ri) (n'-(j+1)) (j+1)):=Hhr
      have Hcs:=Lib.hid hcs
      clear Hhr hkk hcs hma
      go_upto_region 12 with fail
      rw [←HW1.out]
      clear c0 c1 c2 d3
      go_wp2_with fail
      refine HK.out.mono ?_
      rintro e wx ⟨rfl,hwx⟩
      obtain rfl:=hwx.symm
      go_wp2_with fail
      go_roundw
      case rel=>exact⟨j+1,k,by omega,by go_num,hk,rfl,⟨q,by omega,rfl,by show q=_;rw [Hcs.out,Nat.add_zero]⟩,HN.out,HB1.out⟩
      case measure=>(simp [intOf]) <;> omega
     | true=>
      rw [hkk] at HK Hhr
      have HK:=Lib.hid HK
      have HH:=Lib.hid (show keptR (out.drop k)=(op,if op=29 then mostAt ri j else ar) :: keptC p.code (mostAt ri) (n'-(j+1)) (j+1) from Hhr)
      have Hcs:=Lib.hid hcs
      have Hma:=Lib.hid (And.intro hma hmo)
      clear Hhr hkk hcs hma hmo
      go_upto_region 12 with fail
      rw [←HW1.out]
      clear c0 c1 c2 d3 HW1
      go_wp2_with fail
      refine HK.out.mono ?_
      rintro e wx ⟨rfl,hwx⟩
      obtain rfl:=hwx.symm
      clear hwx HK
      go_wp2_with fail
      go_loop [8] (fun a=>∃ k:Nat,k≤m'∧a=.int .i64 (k:Int)∧Hid (keptR (out.drop k)=(op,if op=29 then mostAt ri j else ar) :: keptC p.code (mostAt ri) (n'-(j+1)) (j+1))) (fun a=>m'-(intOf a).toNat)
      case atStart=>exact⟨k,hk,rfl,HH⟩
      case round=>
       clear HH hk
       obtain⟨k,hk,rfl,HH⟩:=hrel
       have hkm:k < m':=by
        rcases Nat.lt_or_ge k m' with h | h
        ·exact h
        ·exfalso
         have h1:=HH.out
         rw [show k=out.length by rw [Hm'.out];omega,keptR_end] at h1
         cases h1
       have ek:decide ((k:Int) < (m':Int))=true:=by simp;omega
       have ek':decide (k < m')=true:=by simp;omega
       obtain⟨b2,off2,rfl,hb2,v0,-,-,-,v4⟩:=HRI1.out.get hkm
       have hst:=keptR_step (l:=out) (k:=k) (by rw [Hm'.out];exact hkm)
       rw [HH.out] at hst
       have HK:=kept_any (gR out k).op W1
       obtain⟨⟨ro,rt,ra,rb,rg⟩,hro⟩:∃ z,z=gR out k:=⟨_,rfl⟩
       rw [←hro] at v0 v4 hst HK
       simp only [] at v0 v4 hst HK
       cases hkk:keptO ro with
       | false=>
        rw [hkk] at hst HK
        have hnx:Hid (keptR (out.drop (k+1))=(op,if op=29 then mostAt ri j else ar) :: keptC p.code (mostAt ri) (n'-(j+1)) (j+1)):=hst.symm
        have HK:=Lib.hid HK
        clear hst hkk hro HH v4
        go_wp2_with fail
        refine HK.out.mono ?_
        rintro e wy ⟨rfl,hwy⟩
        obtain rfl:=hwy.symm
        go_wp2_with fail
        go_round
        case rel=>exact⟨k+1,by omega,by go_num,hnx⟩
        case measure=>(simp [intOf]) <;> omega
       | true=>
        rw [hkk] at hst HK
        have hst:=List.cons.inj hst
        obtain⟨he1,he2⟩:=Prod.mk.inj hst.1
        have hnx:Hid (keptC p.code (mostAt ri) (n'-(j+1)) (j+1)=keptR (out.drop (k+1))):=hst.2
        have HK:=Lib.hid HK
        subst he1
        clear hst hkk hro HH
        have dm:decide ((m':Int)≤(k:Int))=false:=by simp;omega
        have dm':decide (m'≤k)=false:=by simp;omega
        go_wp2_with fail
        refine HK.out.mono ?_
        rintro e wy ⟨rfl,hwy⟩
        obtain rfl:=hwy.symm
        clear hwy HK
        go_wp2_with fail
        go_quiet (fail)
        by_cases h29:op=29
        ·subst h29
         rw [if_pos rfl] at he2
         obtain⟨ma1,ma2⟩:=Hma.out.1 rfl
         have hmo:=Hma.out.2
         have hqv:q < v:=by rw [←Hv.out];exact ma1
         obtain⟨vb,vo,rfl,hvb,-,xm,-⟩:=HIv.out.get hqv
         rw [ma2,he2] at xm
         rw [he2] at hmo
         have dq:decide ((v:Int)≤(q:Int))=false:=by simp;omega
         have dq':decide (v≤q)=false:=by simp;omega
         have eA:(rg != rg)=false:=by simp
         have Hc2:=Lib.hid (show q+1=cntL p.code (j+1) by have:=Hcs.out;rw [if_pos rfl] at this;exact this.symm)
         clear ma1 ma2 he2
         go_wp2_with fail
         go_roundw
         case rel=>exact⟨j+1,k+1,by omega,by go_num,by omega,by go_num,⟨q+1,by omega,by go_num,Hc2⟩,hnx.out.symm,bdrew HB1.out _⟩
         case measure=>(simp [intOf]) <;> omega
        ·rw [if_neg h29] at he2
         have e29:(op==29)=false:=by simpa using h29
         have eA:(rg != ar)=false:=by rw [←he2];simp
         have Hc2:=Lib.hid (show q=cntL p.code (j+1) by have:=Hcs.out;rw [if_neg h29,Nat.add_zero] at this;exact this.symm)
         clear h29 he2
         go_wp2_with fail
         go_roundw
         case rel=>exact⟨j+1,k+1,by omega,by go_num,by omega,by go_num,⟨q,by omega,rfl,Hc2⟩,hnx.out.symm,bdrew HB1.out _⟩
         case measure=>(simp [intOf]) <;> omega
    ·obtain rfl:j=n':=by omega
     have ej:decide ((j:Int) < (j:Int))=false:=by simp
     have hk0:Hid (keptR (out.drop k)=[]):=by show _=_;rw [HR.out.1,Nat.sub_self];rfl
     have Hko:=Lib.hid HR.out.2
     clear HR HQ c0 c1 rp rc rr d0 d1 d2
     go_wp2_with fail
     clear c2
     go_loop [8] (fun a=>∃ k:Nat,k≤m'∧a=.int .i64 (k:Int)∧Hid (keptR (out.drop k)=[])) (fun a=>m'-(intOf a).toNat)
     case atStart=>exact⟨k,hk,rfl,hk0⟩
     case round=>
      clear hk0 hk
      obtain⟨k,hk,rfl,hk0⟩:=hrel
      by_cases hkm:k < m'
      ·have ek:decide ((k:Int) < (m':Int))=true:=by simp;omega
       have ek':decide (k < m')=true:=by simp;omega
       obtain⟨b,off,rfl,hb,x0,-,-,-,-⟩:=HRI.out.get hkm
       have hst:=keptR_step (l:=out) (k:=k) (by rw [Hm'.out];exact hkm)
       rw [hk0.out] at hst
       have HK:=kept_any (gR out k).op wo
       cases hkk:keptO (gR out k).op with
       | true=>rw [hkk] at hst;cases hst
       | false=>
        rw [hkk] at hst HK
        have hnx:Hid (keptR (out.drop (k+1))=[]):=hst.symm
        have HK:=Lib.hid HK
        obtain⟨op,hop⟩:∃ z,z=(gR out k).op:=⟨_,rfl⟩
        rw [←hop] at x0 HK
        clear hst hkk hop hk0
        go_wp2_with fail
        refine HK.out.mono ?_
        rintro e wx ⟨rfl,hwx⟩
        obtain rfl:=hwx.symm
        go_wp2_with fail
        go_round
        case rel=>exact⟨k+1,by omega,by go_num,hnx⟩
        case measure=>(simp [intOf]) <;> omega
      ·obtain rfl:k=m':=by omega
       have ek:decide ((k:Int) < (k:Int))=false:=by simp
       have HA:=Lib.hid (awake23_any wo (HE.out.below gw.out))
       go_wp2_with fail
       refine HA.out.mono ?_
       rintro e wx ⟨rfl,hbx⟩
       have HN:=Lib.hid (gw.out.trans (hbx.mono gw.out.size))
       clear hbx HA d3
       go_wp2_with fail
       go_ret
       exact⟨rfl,HN.out⟩
end Go.Proofs.YtpaplehcafeeaaaGreatDoor
