/- Kg Km. -/
import Derived.Test.YtpaplehcafeeaaaGreatDoorLE36
import Derived.Test.YtpaplehcafeeaaaGreatDoorLE19
import Derived.Test.YtpaplehcafeeaaaGreatDoorLE24
set_option maxRecDepth 100000
set_option maxHeartbeats 40000000
set_option linter.unusedVariables false
set_option linter.unusedSimpArgs false
namespace Go.Proofs.YtpaplehcafeeaaaGreatDoor
open Go.RowKit Go.Proofs
structure CC where
 arrs:List Arr
 regs:Int
 spl:Int
 code:List RI
def CodeM(w:World)(A:Option Addr)(n c:Nat)(A':Option Addr)(n' c':Nat)(x:CC):Prop:=Arrs w A n c x.arrs∧RIs w A' n' c' x.code
theorem CodeM.below{w w':World}{A A':Option Addr}{n c n' c':Nat}{x:CC}(h:CodeM w A n c A' n' c' x)(hb:Below w.heap.size w w'):CodeM w' A n c A' n' c' x:=⟨h.1.below hb,h.2.below hb⟩
abbrev ccV(A:Option Addr)(n c:Nat)(R S:Int)(A':Option Addr)(n' c':Nat):Value:=.agg #[.slice A n c,.int .i64 R,.int .i64 S,.slice A' n' c']
def sameC(x y:CC):Bool:=decide (x.regs=y.regs) && (decide (x.spl=y.spl) && (decide (x.arrs=y.arrs) && decide (x.code=y.code)))
theorem RIs.get{w:World}{A:Option Addr}{n c k:Nat}{l:List RI}(h:RIs w A n c l)(hk:k < n):∃ b off,A=some ⟨b,off,none⟩∧b < w.heap.size∧w.cell? ⟨b,off+k * 5,none⟩=some (.int .i64 (gR l k).op)∧w.cell? ⟨b,off+k * 5+1,none⟩=some (.int .i64 (gR l k).dst)∧w.cell? ⟨b,off+k * 5+2,none⟩=some (.int .i64 (gR l k).a)∧w.cell? ⟨b,off+k * 5+3,none⟩=some (.int .i64 (gR l k).b)∧w.cell? ⟨b,off+k * 5+4,none⟩=some (.int .u32 (gR l k).arg):=by
 obtain⟨b,off,h0,h1,h2⟩:=h.2.2 (by omega)
 exact⟨b,off,h0,h1,h2 k hk⟩
theorem gR_get{l:List RI}{k:Nat}(h:k < l.length):gR l k=l[k]:=by unfold gR;rw [List.getD_eq_getElem?_getD,List.getElem?_eq_getElem h];rfl
theorem ext_gR{l m:List RI}(hl:l.length=m.length)(h:∀ k,k < l.length→gR l k=gR m k):l=m:=by
 apply List.ext_getElem hl
 intro i h1 h2
 have:=h i h1
 rwa [gR_get h1,gR_get h2] at this
theorem stRI:Tryz.prog.stoodInHeld 47=false:=by kernel_rfl
theorem utRI:Tryz.prog.underlying 47=some (.struct (Tryz.prog.fieldsOf 47)):=by kernel_rfl
theorem gdRI:Tryz.prog.eqGuardType Tryz.prog.depth 47=false:=by kernel_rfl
abbrev riV(x:RI):Value:=.agg #[.int .i64 x.op,.int .i64 x.dst,.int .i64 x.a,.int .i64 x.b,.int .u32 x.arg]
theorem neqRI(a b:RI)(W:World):(binOp .neq 47 (riV a) (riV b)).run Tryz.prog W=.ok (.bool (!decide (a=b))) W:=by
 obtain⟨a0,a1,a2,a3,a4⟩:=a
 obtain⟨b0,b1,b2,b3,b4⟩:=b
 unfold riV
 rw [run_neq_struct,run_equalIn_agg W 9999 _ _ _ utRI stRI]
 by_cases h0:a0=b0
 ·subst h0
  by_cases h1:a1=b1
  ·subst h1
   by_cases h2:a2=b2
   ·subst h2
    by_cases h3:a3=b3
    ·subst h3
     by_cases h4:a4=b4
     ·subst h4;simp [go_sem,part]
     ·simp [go_sem,part,h4]
    ·simp [go_sem,part,h3]
   ·simp [go_sem,part,h2]
  ·simp [go_sem,part,h1]
 ·simp [go_sem,part,h0]
theorem sameC_any(A A':Option Addr)(n c n' c':Nat)(D D':Option Addr)(m d m' d':Nat)(x y:CC)(w:World)(hx:CodeM w A n c A' n' c' x)(hy:CodeM w D m d D' m' d' y)(h1:n≤100000)(hn:n'≤100000) :
  Calls Tryz.prog 14 #[ccV A n c x.regs x.spl A' n' c',ccV D m d y.regs y.spl D' m' d'] w fun e w'=>e=.returned (.bool (sameC x y))∧Below w.heap.size w w':=by
 obtain⟨xa,xr,xs,xc⟩:=x
 obtain⟨ya,yr,ys,yc⟩:=y
 obtain⟨hxa,hxc⟩:=hx
 obtain⟨hya,hyc⟩:=hy
 simp only [] at hxa hxc hya hyc
 unfold ccV
 simp only []
 have Hn:=Lib.hid hxc.1
 have Hm:=Lib.hid hyc.1
 have r1':=rowV.new w 30 #[.slice A n c,.int .i64 xr,.int .i64 xs,.slice A' n' c']
 have g0:=balloc (balloc (Below.refl w.heap.size w) (.cells #[.slice A n c,.int .i64 xr,.int .i64 xs,.slice A' n' c'] 30)) (.cells #[.slice D m d,.int .i64 yr,.int .i64 ys,.slice D' m' d'] 30)
 have r1:=r1'.below (balloc (Below.refl _ _) (.cells #[.slice D m d,.int .i64 yr,.int .i64 ys,.slice D' m' d'] 30)) r1'.lt
 have r2:=rowV.new (w.alloc (.cells #[.slice A n c,.int .i64 xr,.int .i64 xs,.slice A' n' c'] 30)) 30 #[.slice D m d,.int .i64 yr,.int .i64 ys,.slice D' m' d']
 have es:(w.alloc (.cells #[.slice A n c,.int .i64 xr,.int .i64 xs,.slice A' n' c'] 30)).heap.size=w.heap.size+1:=by simp
 rw [es] at r2
 obtain⟨w0,hw0⟩:∃ w0,w0=(w.alloc (.cells #[.slice A n c,.int .i64 xr,.int .i64 xs,.slice A' n' c'] 30)).alloc (.cells #[.slice D m d,.int .i64 yr,.int .i64 ys,.slice D' m' d'] 30):=⟨_,rfl⟩
 rw [←hw0] at g0 r1 r2
 have hxc:=hxc.below g0
 have hyc:=hyc.below g0
 have HA:=Lib.hid (sameArr_any A D n c m d xa ya w0 (hxa.below g0) (hya.below g0) h1)
 obtain⟨bb,hbb⟩:∃ bb,bb=sameC ⟨xa,xr,xs,xc⟩ ⟨ya,yr,ys,yc⟩:=⟨_,rfl⟩
 rw [←hbb]
 have HBB:Hid (bb=(decide (xr=yr) && (decide (xs=ys) && (decide (xa=ya) && decide (xc=yc))))):=hbb
 clear hbb es r1' hxa hya
 obtain⟨ba,hba⟩:∃ ba,ba=decide (xa=ya):=⟨_,rfl⟩
 rw [←hba] at HA HBB
 clear hba
 obtain⟨p0,p1,p2,p3⟩:=four_cellsV r1
 obtain⟨t0,t1,t2,t3⟩:=four_cellsV r2
 have HW:=Lib.hid hw0
 have HXC:=Lib.hid hxc
 have HYC:=Lib.hid hyc
 have G0:=Lib.hid g0
 have HR:=Lib.hid (And.intro r1 r2)
 clear hw0 hxc hyc g0 r1 r2
 by_cases hR:xr=yr
 rotate_left 1
 ·have hd:(xr != yr)=true:=by simpa using hR
  have Z:Hid (bb=false):=by show _=_;rw [HBB.out,decide_eq_false hR];rfl
  clear hR
  go_enter Tryz.func14,Tryz.ntmps14
  go_upto_region 1 with fail
  rw [←HW.out]
  go_wp2_with fail
  go_ret
  exact⟨ret_bool Z.out.symm,G0.out⟩
 subst hR
 have hd:(xr != xr)=false:=by simp
 by_cases hS:xs=ys
 rotate_left 1
 ·have hd2:(xs != ys)=true:=by simpa using hS
  have Z:Hid (bb=false):=by show _=_;rw [HBB.out,decide_eq_false hS];simp
  clear hS
  go_enter Tryz.func14,Tryz.ntmps14
  go_upto_region 1 with fail
  rw [←HW.out]
  go_wp2_with fail
  go_ret
  exact⟨ret_bool Z.out.symm,G0.out⟩
 subst hS
 have hd2:(xs != xs)=false:=by simp
 have HBB:Hid (bb=(ba && decide (xc=yc))):=by show _=_;rw [HBB.out,decide_eq_true rfl,decide_eq_true rfl];rfl
 go_enter Tryz.func14,Tryz.ntmps14
 go_upto_region 1 with fail
 rw [←HW.out]
 go_wp2_with fail
 refine HA.out.mono ?_
 rintro e w1 ⟨rfl,u0,rfl⟩
 cases ba with
 | false=>
  have Z:Hid (bb=false):=by show _=_;rw [HBB.out];rfl
  go_wp2_with fail
  go_ret
  exact⟨ret_bool Z.out.symm,bdrew G0.out u0⟩
 | true=>
  by_cases hl:n'=m'
  rotate_left 1
  ·have hd3:((n':Int) != (m':Int))=true:=by simp;omega
   have hd3':(n' != m')=true:=by simpa using hl
   have Z:Hid (bb=false):=by
    show _=_
    rw [HBB.out,decide_eq_false (fun e:xc=yc=>hl (by rw [←Hn.out,←Hm.out,e]))];rfl
   go_wp2_with fail
   go_ret
   exact⟨ret_bool Z.out.symm,bdrew G0.out u0⟩
  subst hl
  go_wp2_with fail
  go_loopw [5] (fun i wr=>∃ k:Nat,k≤n'∧i=.int .i64 (k:Int)∧Hid (∀ j,j < k→gR xc j=gR yc j)∧Drawn w0 wr) (fun i _=>n'-(intOf i).toNat)
  case atStart=>exact⟨0,Nat.zero_le _,rfl,fun j hj=>absurd hj (by omega),⟨_,rfl⟩⟩
  case round=>
   obtain⟨k,hk,rfl,HK,u,rfl⟩:=hrel
   by_cases hlt:k < n'
   ·have e1:decide ((k:Int) < (n':Int))=true:=by simp;omega
    have e1':decide (k < n')=true:=by simp;omega
    obtain⟨b,off,rfl,hbl,q0,q1,q2,q3,q4⟩:=HXC.out.get hlt
    obtain⟨b2,off2,rfl,hbl2,v0,v1,v2,v3,v4⟩:=HYC.out.get hlt
    have HS:Hid (gR xc k≠gR yc k→bb=false):=fun h=>by rw [HBB.out,decide_eq_false (fun e:xc=yc=>h (by rw [e]))];rfl
    have HG:Hid (gR xc k=gR yc k→∀ j,j < k+1→gR xc j=gR yc j):=fun h j hj=>by
     rcases Nat.lt_or_ge j k with h1 | h1
     ·exact HK.out j h1
     ·obtain rfl:j=k:=by omega
      exact h
    obtain⟨x,hxe⟩:∃ x,x=gR xc k:=⟨_,rfl⟩
    obtain⟨y,hye⟩:∃ y,y=gR yc k:=⟨_,rfl⟩
    rw [←hxe] at q0 q1 q2 q3 q4 HS HG
    rw [←hye] at v0 v1 v2 v3 v4 HS HG
    clear hxe hye HK
    obtain⟨x0,x1,x2,x3,x4⟩:=x
    obtain⟨y0,y1,y2,y3,y4⟩:=y
    simp only [] at q0 q1 q2 q3 q4 v0 v1 v2 v3 v4
    have u1:=stRI
    have u2:=utRI
    have u3:=gdRI
    have hq:=neqRI ⟨x0,x1,x2,x3,x4⟩ ⟨y0,y1,y2,y3,y4⟩
    simp only [riV] at hq
    by_cases he:(⟨x0,x1,x2,x3,x4⟩:RI)=⟨y0,y1,y2,y3,y4⟩
    ·rw [decide_eq_true he] at hq
     have HG':=Lib.hid (HG.out he)
     clear HS HG he
     go_wp2_with fail
     go_quiet (fail)
     go_wp2_with fail
     go_roundw
     case rel=>exact⟨k+1,by omega,by go_num,HG'.out,⟨_,rfl⟩⟩
     case measure=>(simp [intOf]) <;> omega
    ·rw [decide_eq_false he] at hq
     have Z:=Lib.hid (HS.out he)
     clear HS HG he
     go_wp2_with fail
     go_quiet (fail)
     go_wp2_with fail
     go_ret
     exact⟨ret_bool Z.out.symm,bdrew (bdrew G0.out _) _⟩
   ·have e1:decide ((k:Int) < (n':Int))=false:=by simp;omega
    have e1':decide (k < n')=false:=by simp;omega
    have Z:Hid (bb=true):=by
     show _=_
     rw [HBB.out,decide_eq_true (ext_gR (by rw [Hn.out,Hm.out]) (fun j hj=>HK.out j (by rw [Hn.out] at hj;omega)))];rfl
    go_wp2_with fail
    go_ret
    exact⟨ret_bool Z.out.symm,bdrew G0.out _⟩
theorem eqAr23_any(A A':Option Addr)(n c n' c':Nat)(xs ys:List Arr)(w:World)(hx:Arrs w A n c xs)(hy:Arrs w A' n' c' ys)(hn:n≤100000)(hm:n'≤100000) :
  Calls Tryz.prog 44 #[.slice A n c,.slice A' n' c'] w fun e w'=>e=.returned (.bool (decide (xs=ys)))∧Drawn w w':=by
 have Hn:=Lib.hid hx.1
 have Hm:=Lib.hid hy.1
 by_cases hl:n=n'
 ·subst hl
  go_enter Tryz.func44,Tryz.ntmps44
  go_wp2_with fail
  go_loopw [13] (fun i wr=>∃ k:Nat,k≤n∧i=.int .i64 (k:Int)∧Hid (∀ j,j < k→gA xs j=gA ys j)∧Drawn w wr) (fun i _=>n-(intOf i).toNat)
  case atStart=>exact⟨0,Nat.zero_le _,rfl,fun j hj=>absurd hj (by omega),Drawn.refl _⟩
  case round=>
   obtain⟨k,hk,rfl,HK,u,rfl⟩:=hrel
   by_cases hlt:k < n
   ·have e1:decide ((k:Int) < (n:Int))=true:=by simp;omega
    have e1':decide (k < n)=true:=by simp;omega
    obtain⟨b,off,rfl,hbl,hcell⟩:=hx.get hlt
    obtain⟨b2,off2,rfl,hbl2,hcell2⟩:=hy.get hlt
    obtain⟨q1,q2⟩:=hcell k hlt
    obtain⟨q3,q4⟩:=hcell2 k hlt
    have HS:Hid (gA xs k≠gA ys k→decide (xs=ys)=false):=fun h=>decide_eq_false (fun e=>h (by rw [e]))
    have HG:Hid (gA xs k=gA ys k→∀ j,j < k+1→gA xs j=gA ys j):=fun h j hj=>by
     rcases Nat.lt_or_ge j k with h1 | h1
     ·exact HK.out j h1
     ·obtain rfl:j=k:=by omega
      exact h
    obtain⟨x,hxe⟩:∃ x,x=gA xs k:=⟨_,rfl⟩
    obtain⟨y,hye⟩:∃ y,y=gA ys k:=⟨_,rfl⟩
    rw [←hxe] at q1 q2 HS HG
    rw [←hye] at q3 q4 HS HG
    clear hxe hye hcell hcell2 HK
    obtain⟨o1,x1⟩:=x
    obtain⟨o2,x2⟩:=y
    dsimp only at q1 q2 q3 q4
    have u1:=stAr
    have u2:=utAr
    have u3:=gdAr
    have hq:=neqAr ⟨o1,x1⟩ ⟨o2,x2⟩
    dsimp only at hq
    by_cases he:(⟨o1,x1⟩:Arr)=⟨o2,x2⟩
    ·rw [decide_eq_true he] at hq
     have HG':=Lib.hid (HG.out he)
     clear HS HG
     go_wp2_with fail
     go_quiet (fail)
     go_wp2_with fail
     go_roundw
     case rel=>exact⟨k+1,by omega,by go_num,HG'.out,⟨_,rfl⟩⟩
     case measure=>simp [intOf];omega
    ·rw [decide_eq_false he] at hq
     have Z:=Lib.hid (HS.out he)
     clear HS HG
     go_wp2_with fail
     go_quiet (fail)
     go_wp2_with fail
     go_ret
     exact⟨ret_bool Z.out.symm,Drawn.step ⟨u,rfl⟩ _⟩
   ·have e1:decide ((k:Int) < (n:Int))=false:=by simp;omega
    have e1':decide (k < n)=false:=by simp;omega
    have Z:Hid (decide (xs=ys)=true):=decide_eq_true (ext_gA (by rw [Hn.out,Hm.out]) (fun j hj=>HK.out j (by rw [Hn.out] at hj;omega)))
    go_wp2_with fail
    go_ret
    exact⟨ret_bool Z.out.symm,⟨_,rfl⟩⟩
 ·have f1:((n:Int) != (n':Int))=true:=by simp;omega
  have f1':(n != n')=true:=by simp;omega
  have Z:Hid (decide (xs=ys)=false):=decide_eq_false (fun e=>hl (by rw [←Hn.out,←Hm.out,e]))
  go_enter Tryz.func44,Tryz.ntmps44
  go_wp2_with fail
  go_ret
  exact⟨ret_bool Z.out.symm,Drawn.refl _⟩
theorem eqRI23_any(A A':Option Addr)(n c n' c':Nat)(xs ys:List RI)(w:World)(hx:RIs w A n c xs)(hy:RIs w A' n' c' ys)(hn:n≤100000)(hm:n'≤100000) :
  Calls Tryz.prog 45 #[.slice A n c,.slice A' n' c'] w fun e w'=>e=.returned (.bool (decide (xs=ys)))∧Drawn w w':=by
 have Hn:=Lib.hid hx.1
 have Hm:=Lib.hid hy.1
 by_cases hl:n=n'
 ·subst hl
  go_enter Tryz.func45,Tryz.ntmps45
  go_wp2_with fail
  go_loopw [13] (fun i wr=>∃ k:Nat,k≤n∧i=.int .i64 (k:Int)∧Hid (∀ j,j < k→gR xs j=gR ys j)∧Drawn w wr) (fun i _=>n-(intOf i).toNat)
  case atStart=>exact⟨0,Nat.zero_le _,rfl,fun j hj=>absurd hj (by omega),Drawn.refl _⟩
  case round=>
   obtain⟨k,hk,rfl,HK,u,rfl⟩:=hrel
   by_cases hlt:k < n
   ·have e1:decide ((k:Int) < (n:Int))=true:=by simp;omega
    have e1':decide (k < n)=true:=by simp;omega
    obtain⟨b,off,rfl,hbl,q0,q1,q2,q3,q4⟩:=hx.get hlt
    obtain⟨b2,off2,rfl,hbl2,v0,v1,v2,v3,v4⟩:=hy.get hlt
    have HS:Hid (gR xs k≠gR ys k→decide (xs=ys)=false):=fun h=>decide_eq_false (fun e=>h (by rw [e]))
    have HG:Hid (gR xs k=gR ys k→∀ j,j < k+1→gR xs j=gR ys j):=fun h j hj=>by
     rcases Nat.lt_or_ge j k with h1 | h1
     ·exact HK.out j h1
     ·obtain rfl:j=k:=by omega
      exact h
    obtain⟨x,hxe⟩:∃ x,x=gR xs k:=⟨_,rfl⟩
    obtain⟨y,hye⟩:∃ y,y=gR ys k:=⟨_,rfl⟩
    rw [←hxe] at q0 q1 q2 q3 q4 HS HG
    rw [←hye] at v0 v1 v2 v3 v4 HS HG
    clear hxe hye HK
    obtain⟨x0,x1,x2,x3,x4⟩:=x
    obtain⟨y0,y1,y2,y3,y4⟩:=y
    dsimp only at q0 q1 q2 q3 q4 v0 v1 v2 v3 v4
    have u1:=stRI
    have u2:=utRI
    have u3:=gdRI
    have hq:=neqRI ⟨x0,x1,x2,x3,x4⟩ ⟨y0,y1,y2,y3,y4⟩
    simp only [riV] at hq
    by_cases he:(⟨x0,x1,x2,x3,x4⟩:RI)=⟨y0,y1,y2,y3,y4⟩
    ·rw [decide_eq_true he] at hq
     have HG':=Lib.hid (HG.out he)
     clear HS HG
     go_wp2_with fail
     go_quiet (fail)
     go_wp2_with fail
     go_roundw
     case rel=>exact⟨k+1,by omega,by go_num,HG'.out,⟨_,rfl⟩⟩
     case measure=>simp [intOf];omega
    ·rw [decide_eq_false he] at hq
     have Z:=Lib.hid (HS.out he)
     clear HS HG
     go_wp2_with fail
     go_quiet (fail)
     go_wp2_with fail
     go_ret
     exact⟨ret_bool Z.out.symm,Drawn.step ⟨u,rfl⟩ _⟩
   ·have e1:decide ((k:Int) < (n:Int))=false:=by simp;omega
    have e1':decide (k < n)=false:=by simp;omega
    have Z:Hid (decide (xs=ys)=true):=decide_eq_true (ext_gR (by rw [Hn.out,Hm.out]) (fun j hj=>HK.out j (by rw [Hn.out] at hj;omega)))
    go_wp2_with fail
    go_ret
    exact⟨ret_bool Z.out.symm,⟨_,rfl⟩⟩
 ·have f1:((n:Int) != (n':Int))=true:=by simp;omega
  have f1':(n != n')=true:=by simp;omega
  have Z:Hid (decide (xs=ys)=false):=decide_eq_false (fun e=>hl (by rw [←Hn.out,←Hm.out,e]))
  go_enter Tryz.func45,Tryz.ntmps45
  go_wp2_with fail
  go_ret
  exact⟨ret_bool Z.out.symm,Drawn.refl _⟩
theorem parts_any(op:Int)(w:World):Calls Tryz.prog 43 #[.int .i64 op] w fun e w'=>e=.returned (.tuple #[.bool (shTo op),.bool (shA op),.bool (shB op),.bool (knownR op)])∧w'=w:=by
 by_cases h:op=0∨op=32∨op=33∨op=38∨op=3∨op=23∨op=26∨op=36∨op=4∨op=27∨op=30∨op=29∨op=34∨op=35∨op=37∨op=28∨op=31
 ·rcases h with rfl | rfl | rfl | rfl | rfl | rfl | rfl | rfl | rfl | rfl | rfl | rfl | rfl | rfl | rfl | rfl | rfl
  all_goals
   go_enter Tryz.func43,Tryz.ntmps43
   go_wp2_with fail
   exact bodyPost_ret (by simp [results,Tryz.results43,go_sem,shTo,shA,shB,knownR]) rfl ⟨rfl,rfl⟩
 have e0:(op==0)=false:=by simp;omega
 have e1:(op==32)=false:=by simp;omega
 have e2:(op==33)=false:=by simp;omega
 have e3:(op==38)=false:=by simp;omega
 have e4:(op==3)=false:=by simp;omega
 have e5:(op==23)=false:=by simp;omega
 have e6:(op==26)=false:=by simp;omega
 have e7:(op==36)=false:=by simp;omega
 have e8:(op==4)=false:=by simp;omega
 have e9:(op==27)=false:=by simp;omega
 have e10:(op==30)=false:=by simp;omega
 have e11:(op==29)=false:=by simp;omega
 have e12:(op==34)=false:=by simp;omega
 have e13:(op==35)=false:=by simp;omega
 have e14:(op==37)=false:=by simp;omega
 have e15:(op==28)=false:=by simp;omega
 have e16:(op==31)=false:=by simp;omega
 by_cases h1:8≤op∧op≤25
 ·have d1:decide (8≤op)=true:=by simp;omega
  have d2:decide (op≤25)=true:=by simp;omega
  have HR:Hid (shTo op=true∧shA op=true∧shB op=true∧knownR op=true):=by
   show _∧_
   unfold shTo shA shB knownR
   simp only [decide_eq_true_eq]
   omega
  obtain⟨r1,r2,r3,r4⟩:=HR.out
  rw [r1,r2,r3,r4]
  clear h h1 HR r1 r2 r3 r4
  go_enter Tryz.func43,Tryz.ntmps43
  go_wp2_with fail
  exact bodyPost_ret (by simp [results,Tryz.results43,go_sem]) rfl ⟨rfl,rfl⟩
 ·have HR:Hid (shTo op=false∧shA op=false∧shB op=false∧knownR op=false):=by
   show _∧_
   unfold shTo shA shB knownR
   simp only [decide_eq_false_iff_not]
   omega
  obtain⟨r1,r2,r3,r4⟩:=HR.out
  rw [r1,r2,r3,r4]
  by_cases h8:8≤op
  ·have d1:decide (8≤op)=true:=by simp;omega
   have d2:decide (op≤25)=false:=by simp;omega
   clear h h1 HR r1 r2 r3 r4
   go_enter Tryz.func43,Tryz.ntmps43
   go_wp2_with fail
   exact bodyPost_ret (by simp [results,Tryz.results43,go_sem,shTo,shA,shB,knownR]) rfl ⟨rfl,rfl⟩
  ·have d1:decide (8≤op)=false:=by simp;omega
   clear h h1 HR r1 r2 r3 r4
   go_enter Tryz.func43,Tryz.ntmps43
   go_wp2_with fail
   exact bodyPost_ret (by simp [results,Tryz.results43,go_sem,shTo,shA,shB,knownR]) rfl ⟨rfl,rfl⟩
theorem lowSame_any(A A':Option Addr)(n c n' c':Nat)(D D':Option Addr)(m d m' d':Nat)(x y:CC)(w:World)(hx:CodeM w A n c A' n' c' x)(hy:CodeM w D m d D' m' d' y)(h1:n≤100000)(hn:n'≤100000)(h2:m≤100000)(hm:m'≤100000) :
  Calls Tryz.prog 21 #[ccV A n c x.regs x.spl A' n' c',ccV D m d y.regs y.spl D' m' d'] w fun e w'=>e=.returned (.bool (sameC x y))∧Below w.heap.size w w':=by
 obtain⟨xa,xr,xs,xc⟩:=x
 obtain⟨ya,yr,ys,yc⟩:=y
 obtain⟨hxa,hxc⟩:=hx
 obtain⟨hya,hyc⟩:=hy
 simp only [] at hxa hxc hya hyc
 unfold ccV
 simp only []
 have r1':=rowV.new w 30 #[.slice A n c,.int .i64 xr,.int .i64 xs,.slice A' n' c']
 have g0:=balloc (balloc (Below.refl w.heap.size w) (.cells #[.slice A n c,.int .i64 xr,.int .i64 xs,.slice A' n' c'] 30)) (.cells #[.slice D m d,.int .i64 yr,.int .i64 ys,.slice D' m' d'] 30)
 have r1:=r1'.below (balloc (Below.refl _ _) (.cells #[.slice D m d,.int .i64 yr,.int .i64 ys,.slice D' m' d'] 30)) r1'.lt
 have r2:=rowV.new (w.alloc (.cells #[.slice A n c,.int .i64 xr,.int .i64 xs,.slice A' n' c'] 30)) 30 #[.slice D m d,.int .i64 yr,.int .i64 ys,.slice D' m' d']
 have es:(w.alloc (.cells #[.slice A n c,.int .i64 xr,.int .i64 xs,.slice A' n' c'] 30)).heap.size=w.heap.size+1:=by simp
 rw [es] at r2
 obtain⟨w0,hw0⟩:∃ w0,w0=(w.alloc (.cells #[.slice A n c,.int .i64 xr,.int .i64 xs,.slice A' n' c'] 30)).alloc (.cells #[.slice D m d,.int .i64 yr,.int .i64 ys,.slice D' m' d'] 30):=⟨_,rfl⟩
 rw [←hw0] at g0 r1 r2
 have HA:=Lib.hid (eqAr23_any A D n c m d xa ya w0 (hxa.below g0) (hya.below g0) h1 h2)
 have HC:=Lib.hid (fun q=>eqRI23_any A' D' n' c' m' d' xc yc (w0.drewN q) ((hxc.below g0).below (bdrew (Below.refl _ _) q)) ((hyc.below g0).below (bdrew (Below.refl _ _) q)) hn hm)
 obtain⟨bb,hbb⟩:∃ bb,bb=sameC ⟨xa,xr,xs,xc⟩ ⟨ya,yr,ys,yc⟩:=⟨_,rfl⟩
 rw [←hbb]
 have HBB:Hid (bb=(decide (xr=yr) && (decide (xs=ys) && (decide (xa=ya) && decide (xc=yc))))):=hbb
 clear hbb es r1' hxa hya hxc hyc
 obtain⟨ba,hba⟩:∃ ba,ba=decide (xa=ya):=⟨_,rfl⟩
 obtain⟨bc,hbc⟩:∃ bc,bc=decide (xc=yc):=⟨_,rfl⟩
 rw [←hba] at HA HBB
 rw [←hbc] at HC HBB
 clear hba hbc
 obtain⟨p0,p1,p2,p3⟩:=four_cellsV r1
 obtain⟨t0,t1,t2,t3⟩:=four_cellsV r2
 have HW:=Lib.hid hw0
 have G0:=Lib.hid g0
 clear hw0 g0 r1 r2
 by_cases hR:xr=yr
 rotate_left 1
 ·have hd:(xr==yr)=false:=by simpa using hR
  have Z:Hid (bb=false):=by show _=_;rw [HBB.out,decide_eq_false hR];rfl
  clear hR
  go_enter Tryz.func21,Tryz.ntmps21
  go_upto_region 1 with fail
  rw [←HW.out]
  go_wp2_with fail
  go_ret
  exact⟨ret_bool Z.out.symm,G0.out⟩
 subst hR
 have hd:(xr==xr)=true:=by simp
 by_cases hS:xs=ys
 rotate_left 1
 ·have hd2:(xs==ys)=false:=by simpa using hS
  have Z:Hid (bb=false):=by show _=_;rw [HBB.out,decide_eq_false hS];simp
  clear hS
  go_enter Tryz.func21,Tryz.ntmps21
  go_upto_region 1 with fail
  rw [←HW.out]
  go_wp2_with fail
  go_ret
  exact⟨ret_bool Z.out.symm,G0.out⟩
 subst hS
 have hd2:(xs==xs)=true:=by simp
 have HBB:Hid (bb=(ba && bc)):=by show _=_;rw [HBB.out,decide_eq_true rfl,decide_eq_true rfl];rfl
 go_enter Tryz.func21,Tryz.ntmps21
 go_upto_region 1 with fail
 rw [←HW.out]
 go_wp2_with fail
 refine HA.out.mono ?_
 rintro e w1 ⟨rfl,u0,rfl⟩
 cases ba with
 | false=>
  have Z:Hid (bb=false):=by show _=_;rw [HBB.out];rfl
  go_wp2_with fail
  go_ret
  exact⟨ret_bool Z.out.symm,bdrew G0.out u0⟩
 | true=>
  have Z:Hid (bb=bc):=by show _=_;rw [HBB.out];rfl
  go_wp2_with fail
  refine (HC.out u0).mono ?_
  rintro e w2 ⟨rfl,u1,rfl⟩
  go_wp2_with fail
  go_ret
  exact⟨ret_bool Z.out.symm,bdrew G0.out (u0+u1)⟩
end Go.Proofs.YtpaplehcafeeaaaGreatDoor
