/- Xv. -/
import Derived.Test.YtepoclhdklgnhaaGreatDoorRC25
import Derived.Test.YtepoclhdklgnhaaGreatDoorRC47
import Derived.Test.YtepoclhdklgnhaaGreatDoorRC44
import Derived.Test.YtepoclhdklgnhaaGreatDoorRC21
set_option maxRecDepth 100000
set_option maxHeartbeats 40000000
set_option linter.unusedVariables false
set_option linter.unusedSimpArgs false
namespace Go.Proofs.YtepoclhdklgnhaaGreatDoor
open Go.RowKit Go.Proofs
theorem argAt_eq{p:Prg}{k:Nat}(hk:k < p.code.length)(h1:badArg p (gI p.code k)=true)(h2:∀ j,j < k→badArg p (gI p.code j)=false):argAt p=k:=by
 unfold argAt
 rw [List.findIdx_eq hk]
 refine⟨by rw [←gI_get hk];exact h1,fun j hj=>?_⟩
 rw [←gI_get (Nat.lt_trans hj hk)]
 exact h2 j hj
theorem argAt_none{p:Prg}(h2:∀ j,j < p.code.length→badArg p (gI p.code j)=false):¬ argAt p < p.code.length:=fun h=>by
 unfold argAt at h
 rw [List.findIdx_lt_length] at h
 obtain⟨x,hx,hb⟩:=h
 obtain⟨j,hj,rfl⟩:=List.mem_iff_getElem.1 hx
 have:=h2 j hj
 rw [gI_get hj] at this
 rw [this] at hb
 cases hb
def ChkR(w:World)(r:Nat × Int)(e:Ending)(w':World):Prop:=e=.returned (.tuple #[.int .i64 (r.1:Int),.int .i64 r.2])∧Below w.heap.size w w'
theorem checkW_any(A A':Option Addr)(n c n' c':Nat)(L:Int)(p:Prg)(w:World)(hx:Progs w A n c L A' n' c' p) :
  Calls Tryz.prog 12 #[.agg #[.slice A n c,.int .i64 L,.slice A' n' c']] w (ChkR w (chkP p)):=by
 obtain⟨w0,hw0⟩:∃ w0,w0=w.alloc (.cells #[.slice A n c,.int .i64 L,.slice A' n' c'] 25):=⟨_,rfl⟩
 have g0:Below w.heap.size w w0:=by rw [hw0];exact balloc (Below.refl _ _) _
 have r0:rowV w0 w.heap.size 25 #[.slice A n c,.int .i64 L,.slice A' n' c']:=by rw [hw0];exact rowV.new w _ _
 have H1:=Lib.hid (encode_any A A' n c n' c' L p w0 (hx.below g0))
 have HX:=Lib.hid (hx.below g0)
 have HnA:=Lib.hid hx.arrs.1
 have HnC:=Lib.hid hx.code.1
 have HL:=Lib.hid hx.locs
 have HG:=Lib.hid (And.intro r0 g0)
 have Hw0:=Lib.hid hw0
 obtain⟨c0,c1,c2⟩:=three_cellsV r0
 have hE:Hid (chkP p=if formE p≠0 then (0,formE p) else match parse p.code with
  | .bad a=>(a,15)
  | .ok _ _=>if argAt p < p.code.length then (argAt p,2) else (0,0)):=rfl
 clear hx g0 r0 hw0
 go_enter Tryz.func12,Tryz.ntmps12
 go_upto_region 1 with fail
 rw [←Hw0.out]
 go_wp2_with fail
 refine H1.out.mono ?_
 rintro e w1 ⟨A1,n1,q1,rfl,hb1⟩
 have r1:=HG.out.1.below hb1 HG.out.1.lt
 have HX1:=Lib.hid (HX.out.below hb1)
 have HG1:=Lib.hid (And.intro r1 (HG.out.2.trans (hb1.mono HG.out.2.size)))
 obtain⟨c0,c1,c2⟩:=three_cellsV r1
 clear H1 hb1 r1
 by_cases hf:formE p=0
 rotate_left 1
 ·have d1:(formE p != 0)=true:=by simpa using hf
  have hE2:Hid (chkP p=(0,formE p)):=by show _=_;rw [hE.out,if_pos hf]
  clear hf
  go_wp2_with fail
  refine bodyPost_ret (v:=.tuple #[.int .i64 0,.int .i64 (formE p)]) (by simp [results,Tryz.results12,go_sem]) rfl ?_
  rw [hE2.out]
  exact⟨rfl,HG1.out.2⟩
 have d1:(formE p != 0)=false:=by simp [hf]
 obtain⟨f1,f2,f3,f4,f5,f6⟩:=formE_ok hf
 rw [HnA.out] at f1
 rw [HnC.out] at f5
 have hE2:Hid (chkP p=match parse p.code with
  | .bad a=>(a,15)
  | .ok _ _=>if argAt p < p.code.length then (argAt p,2) else (0,0)):=by show _=_;rw [hE.out,if_neg (by simp [hf])]
 have H2:=Lib.hid (parseW_any A' n' c' p.code w1 HX1.out.code (by omega))
 have hpe:Hid (parE p.code=match parse p.code with
  | .bad q=>(q,15)
  | .ok _ _=>(0,0)):=by show _=_;unfold parE;rw [if_neg (by rw [HnC.out];omega)];rfl
 have HF:=Lib.hid (And.intro f2 f6)
 clear f2 f3 f4 f6
 rw [hf] at d1
 obtain⟨pa,pe,hpp⟩:∃ pa pe,parE p.code=(pa,pe):=⟨_,_,rfl⟩
 rw [hpp] at H2 hpe
 simp only [] at H2
 clear hpp
 go_wp2_with fail
 refine H2.out.mono ?_
 rintro e w2 ⟨⟨A5,n5,c5,rfl⟩,hb2⟩
 have r2:=HG1.out.1.below hb2 HG1.out.1.lt
 have HC2:=Lib.hid (HX1.out.code.below hb2)
 have HG2:=Lib.hid (And.intro r2 (HG1.out.2.trans (hb2.mono HG1.out.2.size)))
 clear H2 hb2 r2 c0 c1 c2 HX1 HG1 HX HG
 cases hp:parse p.code with
 | bad q=>
  rw [hp] at hpe hE2
  simp only [] at hpe hE2
  have h1:=hpe.out
  injection h1 with h1 h2
  subst h1 h2
  clear hpe hp
  go_wp2_with fail
  refine bodyPost_ret (v:=.tuple #[.int .i64 (pa:Int),.int .i64 15]) (by simp [results,Tryz.results12,go_sem]) rfl ?_
  rw [hE2.out]
  exact⟨rfl,HG2.out.2⟩
 | ok t m=>
  rw [hp] at hpe hE2
  simp only [] at hpe hE2
  have h1:=hpe.out
  injection h1 with h1 h2
  subst h1 h2
  clear hpe hp
  obtain⟨c0,c1,c2⟩:=three_cellsV HG2.out.1
  go_wp2_with fail
  go_loopw [9,10,33,40,50] (fun _ _ i _ _ wr=>∃ k:Nat,k≤n'∧i=.int .i64 (k:Int)∧Hid (∀ j,j < k→badArg p (gI p.code j)=false)∧Hid (rowV wr w.heap.size 25 #[.slice A n c,.int .i64 L,.slice A' n' c']∧Below w.heap.size w wr∧Codes wr A' n' c' p.code)) (fun _ _ i _ _ _=>n'-(intOf i).toNat)
  case atStart=>exact⟨0,Nat.zero_le _,rfl,Lib.hid (fun j hj=>absurd hj (Nat.not_lt_zero _)),Lib.hid ⟨HG2.out.1,HG2.out.2,HC2.out⟩⟩
  case round=>
   clear c0 c1 c2 HG2 HC2
   obtain⟨k,hk,rfl,HB,HI⟩:=hrel
   by_cases hlt:k < n'
   ·have d0:decide ((k:Int) < (n':Int))=true:=by simp;omega
    have d0':decide (k < n')=true:=by simp;omega
    obtain⟨cb,off,rfl,hcb,hcell⟩:=HI.out.2.2.get hlt
    have x0:=(hcell k hlt).1
    have x1:=(hcell k hlt).2
    have harg:=HI.out.2.2.arg hlt
    have hlen:=HnC.out
    have hbad:Hid (badArg p (gI p.code k)=((decide ((gI p.code k).op=1∨(gI p.code k).op=2) && decide (p.locs≤(gI p.code k).arg)) || (decide ((gI p.code k).op=3∨(gI p.code k).op=4) && decide ((p.arrs.length:Int)≤(gI p.code k).arg)))):=rfl
    rw [HnA.out,←HL.out] at hbad
    obtain⟨⟨op,ar⟩,hi⟩:∃ y,y=gI p.code k:=⟨_,rfl⟩
    rw [←hi] at x0 x1 harg hbad
    simp only [] at x0 x1 harg hbad
    obtain⟨ha0,ha1,-⟩:=harg
    have ew:IntKind.i64.wrap ar=ar:=by simp [IntKind.wrap,IntKind.bits,IntKind.signed];omega
    have Hi:=Lib.hid hi
    have HE3:Hid (badArg p (gI p.code k)=true→chkP p=(k,2)):=fun hb=>by
     have h1:argAt p=k:=argAt_eq (by rw [HnC.out];exact hlt) hb HB.out
     show _=_
     rw [hE2.out,h1,if_pos (by rw [HnC.out];exact hlt)]
    have hk1:=balloc (Below.refl wr.heap.size wr) (.cells #[.int .i64 op,.int .u32 ar] 53)
    have HN:Hid (rowV (wr.alloc (.cells #[.int .i64 op,.int .u32 ar] 53)) w.heap.size 25 #[.slice A n c,.int .i64 L,.slice (some ⟨cb,off,none⟩) n' c']∧Below w.heap.size w (wr.alloc (.cells #[.int .i64 op,.int .u32 ar] 53))∧Codes (wr.alloc (.cells #[.int .i64 op,.int .u32 ar] 53)) (some ⟨cb,off,none⟩) n' c' p.code):=
     ⟨HI.out.1.below hk1 HI.out.1.lt,balloc HI.out.2.1 _,HI.out.2.2.below hk1⟩
    obtain⟨y0,y1,y2⟩:=three_cellsV HN.out.1
    clear hk1 hcell hi hlen hcb
    have hcs:op=1∨op=2∨op=3∨op=4∨(op≠1∧op≠2∧op≠3∧op≠4):=by omega
    rcases hcs with rfl | rfl | rfl | rfl | ⟨n1,n2,n3,n4⟩
    ·by_cases hb:L≤ar
     ·have db:decide (L≤ar)=true:=decide_eq_true hb
      have hbt:badArg p (gI p.code k)=true:=by rw [←Hi.out,hbad.out];simp [hb]
      have hEq:=Lib.hid (HE3.out hbt)
      clear hbt hbad HE3 hb
      go_wp2_with fail
      refine bodyPost_ret (v:=.tuple #[.int .i64 (k:Int),.int .i64 2]) (by simp [results,Tryz.results12,go_sem]) rfl ?_
      rw [hEq.out]
      exact⟨rfl,HN.out.2.1⟩
     ·have db:decide (L≤ar)=false:=decide_eq_false hb
      have hbf:badArg p (gI p.code k)=false:=by rw [←Hi.out,hbad.out];simp;omega
      have HBn:Hid (∀ j,j < k+1→badArg p (gI p.code j)=false):=fun j hj=>by
       rcases Nat.lt_succ_iff_lt_or_eq.1 hj with h | rfl
       ·exact HB.out j h
       ·exact hbf
      clear hbf hbad HE3 hb
      go_wp2_with fail
      go_roundw
      case rel=>exact⟨k+1,by omega,by go_num,HBn,HN⟩
      case measure=>(simp [intOf]) <;> omega
    ·by_cases hb:L≤ar
     ·have db:decide (L≤ar)=true:=decide_eq_true hb
      have hbt:badArg p (gI p.code k)=true:=by rw [←Hi.out,hbad.out];simp [hb]
      have hEq:=Lib.hid (HE3.out hbt)
      clear hbt hbad HE3 hb
      go_wp2_with fail
      refine bodyPost_ret (v:=.tuple #[.int .i64 (k:Int),.int .i64 2]) (by simp [results,Tryz.results12,go_sem]) rfl ?_
      rw [hEq.out]
      exact⟨rfl,HN.out.2.1⟩
     ·have db:decide (L≤ar)=false:=decide_eq_false hb
      have hbf:badArg p (gI p.code k)=false:=by rw [←Hi.out,hbad.out];simp;omega
      have HBn:Hid (∀ j,j < k+1→badArg p (gI p.code j)=false):=fun j hj=>by
       rcases Nat.lt_succ_iff_lt_or_eq.1 hj with h | rfl
       ·exact HB.out j h
       ·exact hbf
      clear hbf hbad HE3 hb
      go_wp2_with fail
      go_roundw
      case rel=>exact⟨k+1,by omega,by go_num,HBn,HN⟩
      case measure=>(simp [intOf]) <;> omega
    ·by_cases hb:(n:Int)≤ar
     ·have db:decide ((n:Int)≤ar)=true:=decide_eq_true hb
      have hbt:badArg p (gI p.code k)=true:=by rw [←Hi.out,hbad.out];simp [hb]
      have hEq:=Lib.hid (HE3.out hbt)
      clear hbt hbad HE3 hb
      go_wp2_with fail
      refine bodyPost_ret (v:=.tuple #[.int .i64 (k:Int),.int .i64 2]) (by simp [results,Tryz.results12,go_sem]) rfl ?_
      rw [hEq.out]
      exact⟨rfl,HN.out.2.1⟩
     ·have db:decide ((n:Int)≤ar)=false:=decide_eq_false hb
      have hbf:badArg p (gI p.code k)=false:=by rw [←Hi.out,hbad.out];simp;omega
      have HBn:Hid (∀ j,j < k+1→badArg p (gI p.code j)=false):=fun j hj=>by
       rcases Nat.lt_succ_iff_lt_or_eq.1 hj with h | rfl
       ·exact HB.out j h
       ·exact hbf
      clear hbf hbad HE3 hb
      go_wp2_with fail
      go_roundw
      case rel=>exact⟨k+1,by omega,by go_num,HBn,HN⟩
      case measure=>(simp [intOf]) <;> omega
    ·by_cases hb:(n:Int)≤ar
     ·have db:decide ((n:Int)≤ar)=true:=decide_eq_true hb
      have hbt:badArg p (gI p.code k)=true:=by rw [←Hi.out,hbad.out];simp [hb]
      have hEq:=Lib.hid (HE3.out hbt)
      clear hbt hbad HE3 hb
      go_wp2_with fail
      refine bodyPost_ret (v:=.tuple #[.int .i64 (k:Int),.int .i64 2]) (by simp [results,Tryz.results12,go_sem]) rfl ?_
      rw [hEq.out]
      exact⟨rfl,HN.out.2.1⟩
     ·have db:decide ((n:Int)≤ar)=false:=decide_eq_false hb
      have hbf:badArg p (gI p.code k)=false:=by rw [←Hi.out,hbad.out];simp;omega
      have HBn:Hid (∀ j,j < k+1→badArg p (gI p.code j)=false):=fun j hj=>by
       rcases Nat.lt_succ_iff_lt_or_eq.1 hj with h | rfl
       ·exact HB.out j h
       ·exact hbf
      clear hbf hbad HE3 hb
      go_wp2_with fail
      go_roundw
      case rel=>exact⟨k+1,by omega,by go_num,HBn,HN⟩
      case measure=>(simp [intOf]) <;> omega
    ·have q1:(op==1)=false:=by simpa using n1
     have q2:(op==2)=false:=by simpa using n2
     have q3:(op==3)=false:=by simpa using n3
     have q4:(op==4)=false:=by simpa using n4
     have hbf:badArg p (gI p.code k)=false:=by rw [←Hi.out,hbad.out];simp [n1,n2,n3,n4]
     have HBn:Hid (∀ j,j < k+1→badArg p (gI p.code j)=false):=fun j hj=>by
      rcases Nat.lt_succ_iff_lt_or_eq.1 hj with h | rfl
      ·exact HB.out j h
      ·exact hbf
     clear hbf hbad HE3 n1 n2 n3 n4
     go_wp2_with fail
     go_roundw
     case rel=>exact⟨k+1,by omega,by go_num,HBn,HN⟩
     case measure=>(simp [intOf]) <;> omega
   ·obtain rfl:k=n':=by omega
    have d0:decide ((k:Int) < (k:Int))=false:=by simp
    have hEq:Hid (chkP p=(0,0)):=by show _=_;rw [hE2.out,if_neg (argAt_none (by rw [HnC.out];exact HB.out))]
    go_wp2_with fail
    refine bodyPost_ret (v:=.tuple #[.int .i64 0,.int .i64 0]) (by simp [results,Tryz.results12,go_sem]) rfl ?_
    rw [hEq.out]
    exact⟨rfl,HI.out.2.1⟩
end Go.Proofs.YtepoclhdklgnhaaGreatDoor
