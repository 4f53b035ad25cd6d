/- Mu Mv Mw Mx. -/
import Derived.Test.YtepoclhdklgnhaaGreatDoorRC41
import Derived.Test.YtepoclhdklgnhaaGreatDoorRC37
import Derived.Test.YtepoclhdklgnhaaGreatDoorRC23
import Derived.Test.YtepoclhdklgnhaaGreatDoorRC27
import Derived.Test.YtepoclhdklgnhaaGreatDoorRC06
import Derived.Test.YtepoclhdklgnhaaGreatDoorRC40
set_option maxRecDepth 100000
set_option maxHeartbeats 40000000
set_option linter.unusedVariables false
set_option linter.unusedSimpArgs false
namespace Go.Proofs.YtepoclhdklgnhaaGreatDoor
open Go.RowKit Go.Proofs
def TreeC(c:List Ins)(P:List Int)(A:Option Addr)(n cc:Nat)(AP:Option Addr)(cP:Nat)(N:Nat):Prop:=∀ (t:Tr) (lo:Nat) (b:Bool) (w:World),t.size < N→Fit c b lo t→PartOk P lo t→lo+t.size≤n→Codes w A n cc c→Ints w AP n cP P →
 Calls Tryz.prog 51 #[.slice A n cc,.slice AP n cP,.int .i64 (lo:Int),.int .i64 ((lo+t.size:Nat):Int)] w fun e w'=>(∃ A5 n5 c5,e=.returned (.slice A5 n5 c5))∧Below w.heap.size w w'
theorem tree_step(c:List Ins)(P:List Int)(A:Option Addr)(n cc:Nat)(AP:Option Addr)(cP:Nat)(N:Nat)(ih:TreeC c P A n cc AP cP N)(hn:n≤1024):TreeC c P A n cc AP cP (N+1):=by
 intro t lo b w hN hf hp hl hc hP
 obtain⟨tz,hto⟩:∃ tz,tz=lo+t.size:=⟨_,rfl⟩
 rw [←hto] at hl ⊢
 have IH:=Lib.hid ih
 have HC:=Lib.hid hc
 have HP:=Lib.hid hP
 have HF:Hid (Fit c b lo t∧PartOk P lo t):=⟨hf,hp⟩
 have Hto:=Lib.hid (And.intro hto (Nat.lt_succ_iff.1 hN))
 clear ih hc hP hf hp hto hN
 go_enter Tryz.func51,Tryz.ntmps51
 go_wp2_with fail
 go_loopw [9,10,11,12,13] (fun o i _ _ _ wr=>∃ (k:Nat) (r:Tr) (A2:Option Addr) (n2 c2:Nat) (xs:List BkV),k≤tz∧i=.int .i64 (k:Int)∧o=.slice A2 n2 c2∧n2≤k∧k+r.size=tz∧Hid (r.size≤t.size∧Fit c b k r∧PartOk P k r∧Below w.heap.size w wr∧OutB wr w.heap.size A2 n2 c2 xs)) (fun _ i _ _ _ _=>tz-(intOf i).toNat)
 case atStart=>exact⟨lo,t,none,0,0,[],by have:=Hto.out.1;omega,rfl,rfl,Nat.zero_le _,Hto.out.1.symm,Nat.le_refl _,HF.out.1,HF.out.2,Below.refl _ _,OwnS.nil _ _ _ _ _⟩
 case round=>
  obtain⟨k,r,A2,n2,c2,xs,hk,rfl,rfl,hn2,hkr,HR⟩:=hrel
  have hml:=Lib.hid (show n2+1≤maxLen∧(n2+1) * 72≤140737488355328 by unfold maxLen;omega)
  have HB:=Lib.hid HR.out.2.2.2.1.size
  have hcase:r=.nil∨(∃ r2,r=.ins r2)∨(∃ (op:Int) (b':Bool) (a r2:Tr),(op=27∨op=29)∧oI c k=op∧Fit c b' (k+1) a∧gi P k=((k+1+a.size:Nat):Int)∧PartOk P (k+1) a∧oI c (k+1+a.size)=31∧Fit c b (k+2+a.size) r2∧PartOk P (k+2+a.size) r2∧r.size=a.size+r2.size+2)∨(∃ a d r2,r=.ife a d r2):=by
   obtain⟨-,f,p,-⟩:=HR.out
   cases r with
   | nil=>exact .inl rfl
   | ins r2=>exact .inr (.inl ⟨r2,rfl⟩)
   | ift a r2=>exact .inr (.inr (.inl ⟨27,b,a,r2,.inl rfl,f.1,f.2.1,p.1,p.2.1,f.2.2.1,f.2.2.2,p.2.2,rfl⟩))
   | ife a d r2=>exact .inr (.inr (.inr ⟨a,d,r2,rfl⟩))
   | lp a r2=>exact .inr (.inr (.inl ⟨29,true,a,r2,.inr rfl,f.1,f.2.1,p.1,p.2.1,f.2.2.1,f.2.2.2,p.2.2,rfl⟩))
  rcases hcase with rfl | ⟨r2,rfl⟩ | ⟨op,b',a,r2,hop,hok,hfa,hpk,hpa,hmo,hfr,hpr,hsz⟩ | ⟨a,d,r2,rfl⟩
  ·obtain rfl:k=tz:=hkr
   have e0:decide ((k:Int) < (k:Int))=false:=by simp
   go_wp2_with fail
   go_ret
   exact⟨⟨A2,n2,c2,rfl⟩,HR.out.2.2.2.1⟩
  ·simp only [Tr.size] at hkr
   have hlt:k < tz:=by omega
   have e0:decide ((k:Int) < (tz:Int))=true:=by simp;omega
   have e0':decide (k < tz)=true:=by simp;omega
   have hkn:k < n:=by omega
   obtain⟨cb,off,rfl,hcb,hcell⟩:=HC.out.get hkn
   have x0:wr.cell? ⟨cb,off+k * 2,none⟩=some (.int .i64 (oI c k)):=(HR.out.2.2.2.1.cell (p:=⟨cb,off+k * 2,none⟩) hcb).trans (hcell k hkn).1
   have hf1:=HR.out.2.1
   have q27:(oI c k != 27)=true:=by simp;exact hf1.1
   have q29:(oI c k != 29)=true:=by simp;exact hf1.2.2.1
   obtain⟨op,hop⟩:∃ op,op=oI c k:=⟨_,rfl⟩
   rw [←hop] at x0 q27 q29
   have Hcell:=Lib.hid (fun (j:Nat) (hj:j < n)=>(HR.out.2.2.2.1.cell (p:=⟨cb,off+j * 2,none⟩) hcb).trans (hcell j hj).1)
   have hF2:Hid (Fit c b (k+1) r2∧PartOk P (k+1) r2∧r2.size≤t.size):=⟨hf1.2.2.2.2.2,HR.out.2.2.1,by have:=HR.out.1;simp only [Tr.size] at this;omega⟩
   have hop27:Hid (oI c k≠27∧oI c k≠29):=⟨hf1.1,hf1.2.2.1⟩
   have Hkr:=Lib.hid hkr
   clear hf1 hop hcell hkr
   go_upto_region 6 with fail
   go_loop [11] (fun i=>∃ (j:Nat) (r3:Tr),k≤j∧j≤tz∧i=.int .i64 (j:Int)∧Hid (j+r3.size=tz∧Fit c b j r3∧PartOk P j r3∧r3.size≤t.size∧(j=k→oI c j≠27∧oI c j≠29))) (fun i=>tz-(intOf i).toNat)
   case atStart=>exact⟨k,.ins r2,Nat.le_refl _,hk,rfl,by show k+(r2.size+1)=tz∧_;exact⟨by have:=Hkr.out;omega,HR.out.2.1,HR.out.2.2.1,HR.out.1,fun _=>hop27.out⟩⟩
   case round=>
    obtain⟨j,r3,hkj,hj,rfl,HJ⟩:=hrel
    have hnext:Hid (j < tz→oI c j≠27→oI c j≠29→∃ r4:Tr,j+1+r4.size=tz∧Fit c b (j+1) r4∧PartOk P (j+1) r4∧r4.size≤t.size):=fun hjt h27 h29=>by
     obtain⟨h1,h2,h3,h4,-⟩:=HJ.out
     cases r3 with
     | nil=>simp only [Tr.size] at h1;omega
     | ins r4=>simp only [Tr.size] at h1 h4;exact⟨r4,by omega,h2.2.2.2.2.2,h3,by omega⟩
     | ift a r4=>exact absurd h2.1 h27
     | ife a d r4=>exact absurd h2.1 h27
     | lp a r4=>exact absurd h2.1 h29
    have HX:Hid (wr=wr):=rfl
    have hdone:Hid ((j < tz→oI c j=27∨oI c j=29)→k < j):=fun h=>by
     obtain⟨h1,h2,h3,h4,h5⟩:=HJ.out
     by_cases hjk:j=k
     ·have h6:=h5 hjk
      have h7:=h (by omega)
      rcases h7 with h7 | h7
      ·exact absurd h7 h6.1
      ·exact absurd h7 h6.2
     ·omega
    by_cases hjt:j < tz
    ·have d0:decide ((j:Int) < (tz:Int))=true:=by simp;omega
     have d0':decide (j < tz)=true:=by simp;omega
     have hjn:j < n:=by omega
     have y0:wr.cell? ⟨cb,off+j * 2,none⟩=some (.int .i64 (oI c j)):=Hcell.out j hjn
     obtain⟨oj,hoj⟩:∃ oj,oj=oI c j:=⟨_,rfl⟩
     rw [←hoj] at y0
     have Hoj:=Lib.hid hoj
     clear hoj
     by_cases h27:oj=27
     ·subst h27
      have hkj2:k < j:=hdone.out (fun _=>.inl Hoj.out.symm)
      have hw5:=balloc (Below.refl wr.heap.size wr) (.cells #[.int .i64 (-1),.int .i64 (k:Int),.int .i64 (j:Int),.slice none 0 0,.slice none 0 0] 104)
      go_wp2_with (at_builtin;refine wpList_pushT (enc:=encBk) rfl (.tmp 54) (.tmp 58) rfl uBk infoBk encBk_one rfl (fun _=>rfl) (by decide) rfl HR.out.2.2.2.2 HB.out (⟨-1,k,j,none,0,0,none,0,0⟩:BkV) _ rfl (by simp [Act.eval]) hml.out.1 hml.out.2 ?_;intro A8 c8 w8 ho8 hb8 hg8 hf8)
      have HN:Hid (r3.size≤t.size∧Fit c b j r3∧PartOk P j r3∧Below w.heap.size w w8∧OutB w8 w.heap.size A8 (n2+1) c8 (xs++[⟨-1,k,j,none,0,0,none,0,0⟩])):=⟨HJ.out.2.2.2.1,HJ.out.2.1,HJ.out.2.2.1,HR.out.2.2.2.1.trans hb8,ho8⟩
      have HJ1:=Lib.hid HJ.out.1
      clear ho8 hb8 hg8 hf8 hw5
      go_roundw
      case rel=>exact⟨j,r3,A8,n2+1,c8,_,hj,rfl,rfl,by omega,HJ1.out,HN⟩
      case measure=>(simp [intOf]) <;> omega
     by_cases h29:oj=29
     ·subst h29
      have hkj2:k < j:=hdone.out (fun _=>.inr Hoj.out.symm)
      go_wp2_with (at_builtin;refine wpList_pushT (enc:=encBk) rfl (.tmp 54) (.tmp 58) rfl uBk infoBk encBk_one rfl (fun _=>rfl) (by decide) rfl HR.out.2.2.2.2 HB.out (⟨-1,k,j,none,0,0,none,0,0⟩:BkV) _ rfl (by simp [Act.eval]) hml.out.1 hml.out.2 ?_;intro A8 c8 w8 ho8 hb8 hg8 hf8)
      have HN:Hid (r3.size≤t.size∧Fit c b j r3∧PartOk P j r3∧Below w.heap.size w w8∧OutB w8 w.heap.size A8 (n2+1) c8 (xs++[⟨-1,k,j,none,0,0,none,0,0⟩])):=⟨HJ.out.2.2.2.1,HJ.out.2.1,HJ.out.2.2.1,HR.out.2.2.2.1.trans hb8,ho8⟩
      have HJ1:=Lib.hid HJ.out.1
      clear ho8 hb8 hg8 hf8
      go_roundw
      case rel=>exact⟨j,r3,A8,n2+1,c8,_,hj,rfl,rfl,by omega,HJ1.out,HN⟩
      case measure=>(simp [intOf]) <;> omega
     ·have f27:(oj != 27)=true:=by simpa using h27
      have f29:(oj != 29)=true:=by simpa using h29
      obtain⟨r4,z1,z2,z3,z4⟩:=hnext.out hjt (by rw [←Hoj.out];exact h27) (by rw [←Hoj.out];exact h29)
      have HN:Hid (j+1+r4.size=tz∧Fit c b (j+1) r4∧PartOk P (j+1) r4∧r4.size≤t.size∧(j+1=k→oI c (j+1)≠27∧oI c (j+1)≠29)):=⟨z1,z2,z3,z4,fun h=>by omega⟩
      clear z1 z2 z3 z4 h27 h29
      go_wp2_with fail
      go_round
      case rel=>exact⟨j+1,r4,by omega,by omega,by go_num,HN⟩
      case measure=>(simp [intOf]) <;> omega
    ·obtain rfl:j=tz:=by omega
     have d0:decide ((j:Int) < (j:Int))=false:=by simp
     have hkj2:k < j:=hlt
     go_wp2_with (at_builtin;refine wpList_pushT (enc:=encBk) rfl (.tmp 54) (.tmp 58) rfl uBk infoBk encBk_one rfl (fun _=>rfl) (by decide) rfl HR.out.2.2.2.2 HB.out (⟨-1,k,j,none,0,0,none,0,0⟩:BkV) _ rfl (by simp [Act.eval]) hml.out.1 hml.out.2 ?_;intro A8 c8 w8 ho8 hb8 hg8 hf8)
     have HN:Hid (r3.size≤t.size∧Fit c b j r3∧PartOk P j r3∧Below w.heap.size w w8∧OutB w8 w.heap.size A8 (n2+1) c8 (xs++[⟨-1,k,j,none,0,0,none,0,0⟩])):=⟨HJ.out.2.2.2.1,HJ.out.2.1,HJ.out.2.2.1,HR.out.2.2.2.1.trans hb8,ho8⟩
     have HJ1:=Lib.hid HJ.out.1
     clear ho8 hb8 hg8 hf8
     go_roundw
     case rel=>exact⟨j,r3,A8,n2+1,c8,_,hj,rfl,rfl,by omega,HJ1.out,HN⟩
     case measure=>(simp [intOf]) <;> omega
  ·rw [hsz] at hkr
   have hlt:k < tz:=by omega
   have e0:decide ((k:Int) < (tz:Int))=true:=by simp;omega
   have e0':decide (k < tz)=true:=by simp;omega
   have hkn:k < n:=by omega
   obtain⟨cb,off,rfl,hcb,hcell⟩:=HC.out.get hkn
   have Hcell:=Lib.hid (fun (j:Nat) (hj:j < n)=>(hcell j hj).1)
   obtain⟨pb,po,rfl,hpb,hpcell⟩:=HP.out.get hkn
   have Hpc:=Lib.hid (fun (j:Nat) (hj:j < n)=>hpcell j hj)
   have x0:wr.cell? ⟨cb,off+k * 2,none⟩=some (.int .i64 (oI c k)):=(HR.out.2.2.2.1.cell (p:=⟨cb,off+k * 2,none⟩) hcb).trans (Hcell.out k hkn)
   obtain⟨mid,hmid⟩:∃ mid,mid=k+1+a.size:=⟨_,rfl⟩
   clear hcell hpcell
   have hmo':oI c mid=31:=by rw [hmid];exact hmo
   rw [hok] at x0
   have Hfr:Hid (Fit c b (mid+1) r2∧PartOk P (mid+1) r2∧r2.size≤t.size∧mid+1+r2.size=tz):=by rw [hmid];exact⟨by rw [show k+1+a.size+1=k+2+a.size by omega];exact hfr,by rw [show k+1+a.size+1=k+2+a.size by omega];exact hpr,by have:=HR.out.1;omega,by omega⟩
   clear hok hmo hfr hpr
   rcases hop with rfl | rfl
   ·obtain⟨W2,hW2⟩:∃ z,z=wr.alloc (.cells #[.int .i64 27,.int .i64 (k:Int),.int .i64 0,.slice none 0 0,.slice none 0 0] 104):=⟨_,rfl⟩
    have k2:Below wr.heap.size wr W2:=by rw [hW2];exact balloc (Below.refl _ _) _
    have r2':rowV W2 wr.heap.size 104 #[.int .i64 27,.int .i64 (k:Int),.int .i64 0,.slice none 0 0,.slice none 0 0]:=by rw [hW2];exact rowV.new wr _ _
    have b2:=HR.out.2.2.2.1.trans (k2.mono HR.out.2.2.2.1.size)
    have HT:Hid (Calls Tryz.prog 51 #[.slice (some ⟨cb,off,none⟩) n cc,.slice (some ⟨pb,po,none⟩) n cP,.int .i64 ((k:Int)+1),.int .i64 (mid:Int)] W2 fun e w'=>(∃ A5 n5 c5,e=.returned (.slice A5 n5 c5))∧Below W2.heap.size W2 w'):=by
     have h:=IH.out a (k+1) b' W2 (by have:=HR.out.1;have:=Hto.out.2;omega) hfa hpa (by omega) (HC.out.below b2) (HP.out.below b2)
     rw [←hmid] at h
     exact h
    have y0:W2.cell? ⟨pb,po+k,none⟩=some (.int .i64 (mid:Int)):=by rw [(b2.cell (p:=⟨pb,po+k,none⟩) hpb).trans (Hpc.out k hkn),hpk,hmid]
    have HW2:=Lib.hid hW2
    have H2:=Lib.hid (And.intro k2 (And.intro r2' b2))
    have hmn:mid < n:=by omega
    have hkm:k < mid:=by omega
    clear hW2 k2 r2' b2 hmid
    go_upto_region 11 with fail
    rw [←HW2.out]
    go_wp2_with fail
    refine HT.out.mono ?_
    rintro e w3 ⟨⟨A5,n5,c5,rfl⟩,hb3⟩
    have r3:=H2.out.2.1.below hb3 H2.out.2.1.lt
    have hbx:=r3.lt
    have f2:=frozen_rowV' r3 2
    have f3:=frozen_rowV' r3 3
    obtain⟨W5,hW5⟩:∃ z,z=(w3.setCell ⟨wr.heap.size,3,none⟩ (.slice A5 n5 c5)).setCell ⟨wr.heap.size,2,none⟩ (.int .i64 ((mid:Int)+1)):=⟨_,rfl⟩
    have r5:rowV W5 wr.heap.size 104 #[.int .i64 27,.int .i64 (k:Int),.int .i64 ((mid:Int)+1),.slice A5 n5 c5,.slice none 0 0]:=by rw [hW5];exact (r3.set 3 _).set 2 _
    have k5:Below wr.heap.size wr W5:=by rw [hW5];exact belowCell (belowCell (H2.out.1.trans (hb3.mono H2.out.1.size)) (Nat.le_refl _) _) (Nat.le_refl _) _
    have b5:=HR.out.2.2.2.1.trans (k5.mono HR.out.2.2.2.1.size)
    obtain⟨u0,u1,u2,u3,u4⟩:=five_cellsV r3
    have HW5:=Lib.hid hW5
    have H5:=Lib.hid (And.intro r5 (And.intro k5 b5))
    clear x0 y0 hb3 hW5 r3 r5 k5 b5 HT
    go_upto_region 14 with fail
    rw [←HW5.out]
    clear u0 u1 u2 u3 u4 f2 f3
    have z0:W5.cell? ⟨cb,off+mid * 2,none⟩=some (.int .i64 31):=by rw [(H5.out.2.2.cell (p:=⟨cb,off+mid * 2,none⟩) hcb).trans (Hcell.out mid (by omega))];show some (Value.int .i64 (oI c mid))=_;rw [hmo']
    obtain⟨u0,u1,u2,u3,u4⟩:=five_cellsV H5.out.1
    have ho:=HR.out.2.2.2.2.below H5.out.2.1
    have hB5:w.heap.size≤W5.heap.size:=H5.out.2.2.size
    have HO:=Lib.hid (And.intro ho hB5)
    have hobx:=fun b hb=>(HR.out.2.2.2.2.blk (b:=b) hb).1
    have Hobx:=Lib.hid hobx
    clear ho hB5 hobx
    go_wp2_with (at_builtin;refine wpList_pushT (enc:=encBk) rfl (.tmp 104) (.tmp 106) rfl uBk infoBk encBk_one rfl (fun _=>rfl) (by decide) rfl HO.out.1 HO.out.2 (⟨27,k,(mid:Int)+1,A5,n5,c5,none,0,0⟩:BkV) _ rfl (by simp [Act.eval]) hml.out.1 hml.out.2 ?_;intro A8 c8 w8 ho8 hb8 hg8 hf8;have v2:w8.cell? ⟨wr.heap.size,2,none⟩=some (.int .i64 ((mid:Int)+1)):=cell_rowV (H5.out.1.grown hg8 (fun e=>by have:=Hobx.out _ e.symm;omega)) rfl)
    have HN:Hid (r2.size≤t.size∧Fit c b (mid+1) r2∧PartOk P (mid+1) r2∧Below w.heap.size w w8∧OutB w8 w.heap.size A8 (n2+1) c8 _):=⟨Hfr.out.2.2.1,Hfr.out.1,Hfr.out.2.1,H5.out.2.2.trans hb8,ho8⟩
    have Hts:=Lib.hid Hfr.out.2.2.2
    clear ho8 hb8 hg8 hf8
    go_roundw
    case rel=>exact⟨mid+1,r2,A8,n2+1,c8,_,by have:=Hts.out;omega,by go_num,rfl,by omega,Hts.out,HN⟩
    case measure=>(simp [intOf]) <;> omega
   ·obtain⟨W2,hW2⟩:∃ z,z=wr.alloc (.cells #[.int .i64 29,.int .i64 (k:Int),.int .i64 0,.slice none 0 0,.slice none 0 0] 104):=⟨_,rfl⟩
    have k2:Below wr.heap.size wr W2:=by rw [hW2];exact balloc (Below.refl _ _) _
    have r2':rowV W2 wr.heap.size 104 #[.int .i64 29,.int .i64 (k:Int),.int .i64 0,.slice none 0 0,.slice none 0 0]:=by rw [hW2];exact rowV.new wr _ _
    have b2:=HR.out.2.2.2.1.trans (k2.mono HR.out.2.2.2.1.size)
    have HT:Hid (Calls Tryz.prog 51 #[.slice (some ⟨cb,off,none⟩) n cc,.slice (some ⟨pb,po,none⟩) n cP,.int .i64 ((k:Int)+1),.int .i64 (mid:Int)] W2 fun e w'=>(∃ A5 n5 c5,e=.returned (.slice A5 n5 c5))∧Below W2.heap.size W2 w'):=by
     have h:=IH.out a (k+1) b' W2 (by have:=HR.out.1;have:=Hto.out.2;omega) hfa hpa (by omega) (HC.out.below b2) (HP.out.below b2)
     rw [←hmid] at h
     exact h
    have y0:W2.cell? ⟨pb,po+k,none⟩=some (.int .i64 (mid:Int)):=by rw [(b2.cell (p:=⟨pb,po+k,none⟩) hpb).trans (Hpc.out k hkn),hpk,hmid]
    have HW2:=Lib.hid hW2
    have H2:=Lib.hid (And.intro k2 (And.intro r2' b2))
    have hmn:mid < n:=by omega
    have hkm:k < mid:=by omega
    clear hW2 k2 r2' b2 hmid
    go_upto_region 11 with fail
    rw [←HW2.out]
    go_wp2_with fail
    refine HT.out.mono ?_
    rintro e w3 ⟨⟨A5,n5,c5,rfl⟩,hb3⟩
    have r3:=H2.out.2.1.below hb3 H2.out.2.1.lt
    have hbx:=r3.lt
    have f2:=frozen_rowV' r3 2
    have f3:=frozen_rowV' r3 3
    obtain⟨W5,hW5⟩:∃ z,z=(w3.setCell ⟨wr.heap.size,3,none⟩ (.slice A5 n5 c5)).setCell ⟨wr.heap.size,2,none⟩ (.int .i64 ((mid:Int)+1)):=⟨_,rfl⟩
    have r5:rowV W5 wr.heap.size 104 #[.int .i64 29,.int .i64 (k:Int),.int .i64 ((mid:Int)+1),.slice A5 n5 c5,.slice none 0 0]:=by rw [hW5];exact (r3.set 3 _).set 2 _
    have k5:Below wr.heap.size wr W5:=by rw [hW5];exact belowCell (belowCell (H2.out.1.trans (hb3.mono H2.out.1.size)) (Nat.le_refl _) _) (Nat.le_refl _) _
    have b5:=HR.out.2.2.2.1.trans (k5.mono HR.out.2.2.2.1.size)
    obtain⟨u0,u1,u2,u3,u4⟩:=five_cellsV r3
    have HW5:=Lib.hid hW5
    have H5:=Lib.hid (And.intro r5 (And.intro k5 b5))
    clear x0 y0 hb3 hW5 r3 r5 k5 b5 HT
    go_upto_region 14 with fail
    rw [←HW5.out]
    clear u0 u1 u2 u3 u4 f2 f3
    have z0:W5.cell? ⟨cb,off+mid * 2,none⟩=some (.int .i64 31):=by rw [(H5.out.2.2.cell (p:=⟨cb,off+mid * 2,none⟩) hcb).trans (Hcell.out mid (by omega))];show some (Value.int .i64 (oI c mid))=_;rw [hmo']
    obtain⟨u0,u1,u2,u3,u4⟩:=five_cellsV H5.out.1
    have ho:=HR.out.2.2.2.2.below H5.out.2.1
    have hB5:w.heap.size≤W5.heap.size:=H5.out.2.2.size
    have HO:=Lib.hid (And.intro ho hB5)
    have hobx:=fun b hb=>(HR.out.2.2.2.2.blk (b:=b) hb).1
    have Hobx:=Lib.hid hobx
    clear ho hB5 hobx
    go_wp2_with (at_builtin;refine wpList_pushT (enc:=encBk) rfl (.tmp 104) (.tmp 106) rfl uBk infoBk encBk_one rfl (fun _=>rfl) (by decide) rfl HO.out.1 HO.out.2 (⟨29,k,(mid:Int)+1,A5,n5,c5,none,0,0⟩:BkV) _ rfl (by simp [Act.eval]) hml.out.1 hml.out.2 ?_;intro A8 c8 w8 ho8 hb8 hg8 hf8;have v2:w8.cell? ⟨wr.heap.size,2,none⟩=some (.int .i64 ((mid:Int)+1)):=cell_rowV (H5.out.1.grown hg8 (fun e=>by have:=Hobx.out _ e.symm;omega)) rfl)
    have HN:Hid (r2.size≤t.size∧Fit c b (mid+1) r2∧PartOk P (mid+1) r2∧Below w.heap.size w w8∧OutB w8 w.heap.size A8 (n2+1) c8 _):=⟨Hfr.out.2.2.1,Hfr.out.1,Hfr.out.2.1,H5.out.2.2.trans hb8,ho8⟩
    have Hts:=Lib.hid Hfr.out.2.2.2
    clear ho8 hb8 hg8 hf8
    go_roundw
    case rel=>exact⟨mid+1,r2,A8,n2+1,c8,_,by have:=Hts.out;omega,by go_num,rfl,by omega,Hts.out,HN⟩
    case measure=>(simp [intOf]) <;> omega
  ·simp only [Tr.size] at hkr
   obtain⟨hok,hfa,hmo,hfd,hmo2,hfr⟩:=HR.out.2.1
   obtain⟨hpk,hpm,hpa,hpd,hpr⟩:=HR.out.2.2.1
   have hlt:k < tz:=by omega
   have e0:decide ((k:Int) < (tz:Int))=true:=by simp;omega
   have e0':decide (k < tz)=true:=by simp;omega
   have hkn:k < n:=by omega
   obtain⟨cb,off,rfl,hcb,hcell⟩:=HC.out.get hkn
   have Hcell:=Lib.hid (fun (j:Nat) (hj:j < n)=>(hcell j hj).1)
   obtain⟨pb,po,rfl,hpb,hpcell⟩:=HP.out.get hkn
   have Hpc:=Lib.hid (fun (j:Nat) (hj:j < n)=>hpcell j hj)
   have x0:wr.cell? ⟨cb,off+k * 2,none⟩=some (.int .i64 (oI c k)):=(HR.out.2.2.2.1.cell (p:=⟨cb,off+k * 2,none⟩) hcb).trans (Hcell.out k hkn)
   obtain⟨mid,hmid⟩:∃ mid,mid=k+1+a.size:=⟨_,rfl⟩
   clear hcell hpcell
   obtain⟨mid2,hmid2⟩:∃ z,z=k+2+a.size+d.size:=⟨_,rfl⟩
   have hmo':oI c mid=28:=by rw [hmid];exact hmo
   have hpm':gi P mid=(mid2:Int):=by rw [hmid,hmid2];exact hpm
   rw [hok] at x0
   have Hfr:Hid (Fit c b (mid2+1) r2∧PartOk P (mid2+1) r2∧r2.size≤t.size∧mid2+1+r2.size=tz):=by rw [hmid2];exact⟨by rw [show k+2+a.size+d.size+1=k+3+a.size+d.size by omega];exact hfr,by rw [show k+2+a.size+d.size+1=k+3+a.size+d.size by omega];exact hpr,by have:=HR.out.1;simp only [Tr.size] at this;omega,by omega⟩
   have Hfd:Hid (Fit c b (mid+1) d∧PartOk P (mid+1) d∧mid+1+d.size=mid2∧d.size < N):=by rw [hmid,hmid2];exact⟨by rw [show k+1+a.size+1=k+2+a.size by omega];exact hfd,by rw [show k+1+a.size+1=k+2+a.size by omega];exact hpd,by omega,by have:=HR.out.1;simp only [Tr.size] at this;have:=Hto.out.2;omega⟩
   have hm2n:mid2 < n:=by omega
   have hmm2:mid < mid2:=by omega
   clear hok hmo hfr hpr hfd hpd hpm hmid2
   obtain⟨W2,hW2⟩:∃ z,z=wr.alloc (.cells #[.int .i64 27,.int .i64 (k:Int),.int .i64 0,.slice none 0 0,.slice none 0 0] 104):=⟨_,rfl⟩
   have k2:Below wr.heap.size wr W2:=by rw [hW2];exact balloc (Below.refl _ _) _
   have r2':rowV W2 wr.heap.size 104 #[.int .i64 27,.int .i64 (k:Int),.int .i64 0,.slice none 0 0,.slice none 0 0]:=by rw [hW2];exact rowV.new wr _ _
   have b2:=HR.out.2.2.2.1.trans (k2.mono HR.out.2.2.2.1.size)
   have HT:Hid (Calls Tryz.prog 51 #[.slice (some ⟨cb,off,none⟩) n cc,.slice (some ⟨pb,po,none⟩) n cP,.int .i64 ((k:Int)+1),.int .i64 (mid:Int)] W2 fun e w'=>(∃ A5 n5 c5,e=.returned (.slice A5 n5 c5))∧Below W2.heap.size W2 w'):=by
    have h:=IH.out a (k+1) b W2 (by have:=HR.out.1;simp only [Tr.size] at this;have:=Hto.out.2;omega) hfa hpa (by omega) (HC.out.below b2) (HP.out.below b2)
    rw [←hmid] at h
    exact h
   have y0:W2.cell? ⟨pb,po+k,none⟩=some (.int .i64 (mid:Int)):=by rw [(b2.cell (p:=⟨pb,po+k,none⟩) hpb).trans (Hpc.out k hkn),hpk,hmid]
   have HW2:=Lib.hid hW2
   have H2:=Lib.hid (And.intro k2 (And.intro r2' b2))
   have hmn:mid < n:=by omega
   have hkm:k < mid:=by omega
   clear hW2 k2 r2' b2 hmid
   go_upto_region 11 with fail
   rw [←HW2.out]
   go_wp2_with fail
   refine HT.out.mono ?_
   rintro e w3 ⟨⟨A5,n5,c5,rfl⟩,hb3⟩
   have r3:=H2.out.2.1.below hb3 H2.out.2.1.lt
   have hbx:=r3.lt
   have f2:=frozen_rowV' r3 2
   have f3:=frozen_rowV' r3 3
   obtain⟨W5,hW5⟩:∃ z,z=(w3.setCell ⟨wr.heap.size,3,none⟩ (.slice A5 n5 c5)).setCell ⟨wr.heap.size,2,none⟩ (.int .i64 ((mid:Int)+1)):=⟨_,rfl⟩
   have r5:rowV W5 wr.heap.size 104 #[.int .i64 27,.int .i64 (k:Int),.int .i64 ((mid:Int)+1),.slice A5 n5 c5,.slice none 0 0]:=by rw [hW5];exact (r3.set 3 _).set 2 _
   have k5:Below wr.heap.size wr W5:=by rw [hW5];exact belowCell (belowCell (H2.out.1.trans (hb3.mono H2.out.1.size)) (Nat.le_refl _) _) (Nat.le_refl _) _
   have b5:=HR.out.2.2.2.1.trans (k5.mono HR.out.2.2.2.1.size)
   obtain⟨u0,u1,u2,u3,u4⟩:=five_cellsV r3
   have HW5:=Lib.hid hW5
   have H5:=Lib.hid (And.intro r5 (And.intro k5 b5))
   clear x0 y0 hb3 hW5 r3 r5 k5 b5 HT
   go_upto_region 14 with fail
   rw [←HW5.out]
   clear u0 u1 u2 u3 u4 f2 f3
   have z0:W5.cell? ⟨cb,off+mid * 2,none⟩=some (.int .i64 28):=by rw [(H5.out.2.2.cell (p:=⟨cb,off+mid * 2,none⟩) hcb).trans (Hcell.out mid (by omega))];show some (Value.int .i64 (oI c mid))=_;rw [hmo']
   obtain⟨u0,u1,u2,u3,u4⟩:=five_cellsV H5.out.1
   have HT2:Hid (Calls Tryz.prog 51 #[.slice (some ⟨cb,off,none⟩) n cc,.slice (some ⟨pb,po,none⟩) n cP,.int .i64 ((mid:Int)+1),.int .i64 (mid2:Int)] W5 fun e w'=>(∃ A5 n5 c5,e=.returned (.slice A5 n5 c5))∧Below W5.heap.size W5 w'):=by
    have h:=IH.out d (mid+1) b W5 Hfd.out.2.2.2 Hfd.out.1 Hfd.out.2.1 (by have:=Hfd.out.2.2.1;omega) (HC.out.below H5.out.2.2) (HP.out.below H5.out.2.2)
    rw [Hfd.out.2.2.1] at h
    exact h
   have p0:W5.cell? ⟨pb,po+mid,none⟩=some (.int .i64 (mid2:Int)):=by rw [(H5.out.2.2.cell (p:=⟨pb,po+mid,none⟩) hpb).trans (Hpc.out mid (by omega)),hpm']
   go_wp2_with fail
   refine HT2.out.mono ?_
   rintro e w6 ⟨⟨A6,n6,c6,rfl⟩,hb6⟩
   have p1:=(hb6.cell (p:=⟨pb,po+mid,none⟩) (Nat.lt_of_lt_of_le hpb H5.out.2.2.size)).trans p0
   have r6:=H5.out.1.below hb6 H5.out.1.lt
   have f2:=frozen_rowV' r6 2
   have f4:=frozen_rowV' r6 4
   clear u0 u1 u2 u3 u4 z0 p0
   obtain⟨u0,u1,u2,u3,u4⟩:=five_cellsV r6
   have hnp:wr.heap.size≠pb:=by have:=HR.out.2.2.2.1.size;omega
   obtain⟨W7,hW7⟩:∃ z,z=(w6.setCell ⟨wr.heap.size,4,none⟩ (.slice A6 n6 c6)).setCell ⟨wr.heap.size,2,none⟩ (.int .i64 ((mid2:Int)+1)):=⟨_,rfl⟩
   have r7:rowV W7 wr.heap.size 104 #[.int .i64 27,.int .i64 (k:Int),.int .i64 ((mid2:Int)+1),.slice A5 n5 c5,.slice A6 n6 c6]:=by rw [hW7];exact (r6.set 4 _).set 2 _
   have k7:Below wr.heap.size wr W7:=by rw [hW7];exact belowCell (belowCell (H5.out.2.1.trans (hb6.mono H5.out.2.1.size)) (Nat.le_refl _) _) (Nat.le_refl _) _
   have H7:=Lib.hid (And.intro r7 (And.intro k7 (HR.out.2.2.2.1.trans (k7.mono HR.out.2.2.2.1.size))))
   have HW7:=Lib.hid hW7
   have hbx6:=r6.lt
   clear hb6 hW7 r6 r7 k7 HT2
   go_upto_region 17 with fail
   rw [←HW7.out]
   clear u0 u1 u2 u3 u4 p1 f2 f4
   obtain⟨u0,u1,u2,u3,u4⟩:=five_cellsV H7.out.1
   have ho:=HR.out.2.2.2.2.below H7.out.2.1
   have hB5:w.heap.size≤W7.heap.size:=H7.out.2.2.size
   have HO:=Lib.hid (And.intro ho hB5)
   have hobx:=fun b hb=>(HR.out.2.2.2.2.blk (b:=b) hb).1
   have Hobx:=Lib.hid hobx
   clear ho hB5 hobx
   go_wp2_with (at_builtin;refine wpList_pushT (enc:=encBk) rfl (.tmp 104) (.tmp 106) rfl uBk infoBk encBk_one rfl (fun _=>rfl) (by decide) rfl HO.out.1 HO.out.2 (⟨27,k,(mid2:Int)+1,A5,n5,c5,A6,n6,c6⟩:BkV) _ rfl (by simp [Act.eval]) hml.out.1 hml.out.2 ?_;intro A8 c8 w8 ho8 hb8 hg8 hf8;have v2:w8.cell? ⟨wr.heap.size,2,none⟩=some (.int .i64 ((mid2:Int)+1)):=cell_rowV (H7.out.1.grown hg8 (fun e=>by have:=Hobx.out _ e.symm;omega)) rfl)
   have HN:Hid (r2.size≤t.size∧Fit c b (mid2+1) r2∧PartOk P (mid2+1) r2∧Below w.heap.size w w8∧OutB w8 w.heap.size A8 (n2+1) c8 _):=⟨Hfr.out.2.2.1,Hfr.out.1,Hfr.out.2.1,H7.out.2.2.trans hb8,ho8⟩
   have Hts:=Lib.hid Hfr.out.2.2.2
   clear ho8 hb8 hg8 hf8
   go_roundw
   case rel=>exact⟨mid2+1,r2,A8,n2+1,c8,_,by have:=Hts.out;omega,by go_num,rfl,by omega,Hts.out,HN⟩
   case measure=>(simp [intOf]) <;> omega
theorem treeC_all(c:List Ins)(P:List Int)(A:Option Addr)(n cc:Nat)(AP:Option Addr)(cP:Nat)(hn:n≤1024):∀ N,TreeC c P A n cc AP cP N:=by
 intro N
 induction N with
 | zero=>intro t lo b w h;exact absurd h (Nat.not_lt_zero _)
 | succ N ih=>exact tree_step c P A n cc AP cP N ih hn
theorem PartOk.leaf{c:List Ins}{P Q:List Int}(h:∀ k,oI c k≠30→gi Q k=gi P k):∀ {t:Tr} {b:Bool} {lo:Nat},Fit c b lo t→PartOk P lo t→PartOk Q lo t:=by
 intro t
 induction t with
 | nil=>intro b lo _ _;trivial
 | ins r ih=>intro b lo f p;exact ih f.2.2.2.2.2 p
 | ift a r iha ih=>intro b lo f p;exact⟨by rw [h lo (by have:=f.1;omega)];exact p.1,iha f.2.1 p.2.1,ih f.2.2.2 p.2.2⟩
 | ife a d r iha ihd ih=>intro b lo f p;exact⟨by rw [h lo (by have:=f.1;omega)];exact p.1,by rw [h _ (by have:=f.2.2.1;omega)];exact p.2.1,iha f.2.1 p.2.2.1,ihd f.2.2.2.1 p.2.2.2.1,ih f.2.2.2.2.2 p.2.2.2.2⟩
 | lp a r iha ih=>intro b lo f p;exact⟨by rw [h lo (by have:=f.1;omega)];exact p.1,iha f.2.1 p.2.1,ih f.2.2.2 p.2.2⟩
theorem PartR.parse{w w':World}{c:List Ins}{n:Nat}{e:Ending}(h:PartR w c n e w')(hn:c.length=n):Below w.heap.size w w'∧(((parE c).2≠0∧e=.returned (.tuple #[.slice none 0 0,.int .i64 ((parE c).1:Int),.int .i64 (parE c).2]))∨((parE c).2=0∧(parE c).1=0∧n≤1024∧∃ P t,e=.returned (.tuple #[.slice (some ⟨w.heap.size,0,none⟩) n n,.int .i64 0,.int .i64 0])∧OwnS encZ 1 w' w.heap.size 3 (some ⟨w.heap.size,0,none⟩) n n P∧parse c=.ok t c.length∧PartOk P 0 t)):=by
 obtain⟨hb,h⟩:=h
 refine⟨hb,?_⟩
 by_cases hbig:1024 < n
 ·rw [if_pos hbig] at h
  have e1:parE c=(0,6):=by unfold parE;rw [if_pos (by omega)]
  left
  rw [e1]
  exact⟨by decide,h⟩
 rw [if_neg hbig] at h
 have e1:parE c=match Go.Proofs.YtepoclhdklgnhaaGreatDoor.parse c with
  | .bad q=>(q,15)
  | .ok _ _=>(0,0):=by unfold parE;rw [if_neg (by omega)];rfl
 have hr:=parse_run c
 cases hx:runM c n 0 (ps0 c) with
 | error q=>
  rw [hx] at h
  simp only [] at h
  left
  have hp:Go.Proofs.YtepoclhdklgnhaaGreatDoor.parse c=.bad q:=by
   cases hp:Go.Proofs.YtepoclhdklgnhaaGreatDoor.parse c with
   | ok t m=>
    rw [hp] at hr
    obtain⟨s',h1,-⟩:=hr
    rw [hn,hx] at h1
    cases h1
   | bad q2=>
    rw [hp] at hr
    rcases hr with ⟨h1,h2⟩ | ⟨h1,s',h2,h3⟩
    ·have h3:=runM_bad (b:=c.length-(q2+1)) h2
     rw [show q2+1+(c.length-(q2+1))=n by omega,hx] at h3
     injection h3 with h3
     rw [h3]
    ·rw [hn,hx] at h2
     cases h2
  rw [hp] at e1
  simp only [] at e1
  rw [e1]
  exact⟨by show (15:Int)≠0;decide,h⟩
 | ok s=>
  rw [hx] at h
  simp only [] at h
  by_cases ho:s.op=[]
  ·rw [if_pos ho] at h
   obtain⟨P',h1,h2,h3⟩:=h
   obtain⟨t,ht,hp,-⟩:=PartR.tree (c:=c) (s:=s) (by rw [hn];exact hx) ho
   rw [ht] at e1
   simp only [] at e1
   right
   rw [e1]
   exact⟨rfl,rfl,by omega,P',t,h1,h2,ht,PartOk.leaf h3 (parse_ok ht).2.2.1 hp⟩
  ·rw [if_neg ho] at h
   left
   have hp:Go.Proofs.YtepoclhdklgnhaaGreatDoor.parse c=.bad n:=by
    cases hp:Go.Proofs.YtepoclhdklgnhaaGreatDoor.parse c with
    | ok t m=>
     rw [hp] at hr
     obtain⟨s',h1,h2,-⟩:=hr
     rw [hn,hx] at h1
     injection h1 with h1
     rw [←h1] at h2
     exact absurd h2 ho
    | bad q2=>
     rw [hp] at hr
     rcases hr with ⟨h1,h2⟩ | ⟨h1,-⟩
     ·have h3:=runM_bad (b:=c.length-(q2+1)) h2
      rw [show q2+1+(c.length-(q2+1))=n by omega,hx] at h3
      cases h3
     ·rw [h1,hn]
   rw [hp] at e1
   simp only [] at e1
   rw [e1]
   exact⟨by show (15:Int)≠0;decide,h⟩
theorem parseR18_any(A:Option Addr)(n cc:Nat)(c:List Ins)(w:World)(hc:Codes w A n cc c)(hnb:n≤1000000000) :
  Calls Tryz.prog 29 #[.slice A n cc] w fun e w'=>(∃ A5 n5 c5,e=.returned (.tuple #[.slice A5 n5 c5,.int .i64 ((parE c).1:Int),.int .i64 (parE c).2]))∧Below w.heap.size w w':=by
 have H1:=Lib.hid (partnersR_any A n cc c w hc hnb)
 have HC:=Lib.hid hc
 clear hc
 obtain⟨pa,pe,hpp⟩:∃ pa pe,parE c=(pa,pe):=⟨_,_,rfl⟩
 rw [hpp]
 have Hpp:=Lib.hid hpp
 clear hpp
 go_enter Tryz.func29,Tryz.ntmps29
 go_wp2_with fail
 refine H1.out.mono ?_
 intro e w1 hr
 obtain⟨hb1,hr⟩:=hr.parse HC.out.1
 rw [Hpp.out] at hr
 simp only [] at hr
 rcases hr with ⟨hne,rfl⟩ | ⟨h0,h00,hn,P,t,rfl,ho,ht,hp⟩
 ·have d1:(pe != 0)=true:=by simpa using hne
  have HB:=Lib.hid hb1
  clear hne hb1 H1
  go_wp2_with fail
  refine bodyPost_ret (v:=.tuple #[.slice none 0 0,.int .i64 (pa:Int),.int .i64 pe]) (by simp [results,Tryz.results29,go_sem]) rfl ?_
  exact⟨⟨_,_,_,rfl⟩,HB.out⟩
 ·have HB:=Lib.hid hb1
  have hz:c.length=n:=HC.out.1
  have hf:=(parse_ok ht).2.2.1
  have hs:=(parse_ok ht).2.2.2.1
  have HT:=treeC_all c P A n cc (some ⟨w.heap.size,0,none⟩) n hn (t.size+1) t 0 false w1 (Nat.lt_succ_self _) hf hp (by omega) (HC.out.below hb1) ho.intsZ
  rw [show ((0+t.size:Nat):Int)=(n:Int) by omega] at HT
  have HT:Hid (Calls Tryz.prog 51 #[.slice A n cc,.slice (some ⟨w.heap.size,0,none⟩) n n,.int .i64 0,.int .i64 (n:Int)] w1 fun e w'=>(∃ A5 n5 c5,e=.returned (.slice A5 n5 c5))∧Below w1.heap.size w1 w'):=HT
  subst h0 h00
  clear hb1 H1 ho ht hp hz hf hs
  go_wp2_with fail
  refine HT.out.mono ?_
  rintro e w2 ⟨⟨A5,n5,c5,rfl⟩,hb2⟩
  have HB2:=Lib.hid (HB.out.trans (hb2.mono HB.out.size))
  clear hb2 HT
  go_wp2_with fail
  refine bodyPost_ret (v:=.tuple #[.slice A5 n5 c5,.int .i64 0,.int .i64 0]) (by simp [results,Tryz.results29,go_sem]) rfl ?_
  exact⟨⟨_,_,_,rfl⟩,HB2.out⟩
theorem check20_any(A A':Option Addr)(n c n' c':Nat)(L:Int)(p:Prg)(w:World)(hx:Progs w A n c L A' n' c' p)(hn':n'≤1000000000) :
  Calls Tryz.prog 13 #[.agg #[.slice A n c,.int .i64 L,.slice A' n' c']] w (ChkR w (chkP p)):=by
 obtain⟨w0,hw0⟩:∃ w0,w0=w.alloc (.cells #[.slice A n c,.int .i64 L,.slice A' n' c'] 25):=⟨_,rfl⟩
 have g0:Below w.heap.size w w0:=by rw [hw0];exact balloc (Below.refl _ _) _
 have r0:rowV w0 w.heap.size 25 #[.slice A n c,.int .i64 L,.slice A' n' c']:=by rw [hw0];exact rowV.new w _ _
 have H1:=Lib.hid (formR_any A A' n c n' c' L p w0 (hx.below g0))
 have HX:=Lib.hid (hx.below g0)
 have HnA:=Lib.hid hx.arrs.1
 have HnC:=Lib.hid hx.code.1
 have HL:=Lib.hid hx.locs
 have HG:=Lib.hid (And.intro r0 g0)
 have Hw0:=Lib.hid hw0
 obtain⟨c0,c1,c2⟩:=three_cellsV r0
 have hE:Hid (chkP p=if formE p≠0 then (0,formE p) else match parse p.code with
  | .bad a=>(a,15)
  | .ok _ _=>if argAt p < p.code.length then (argAt p,2) else (0,0)):=rfl
 clear hx g0 r0 hw0
 go_enter Tryz.func13,Tryz.ntmps13
 go_upto_region 1 with fail
 rw [←Hw0.out]
 go_wp2_with fail
 refine H1.out.mono ?_
 rintro e w1 ⟨rfl,hb1⟩
 have r1:=HG.out.1.below hb1 HG.out.1.lt
 have HX1:=Lib.hid (HX.out.below hb1)
 have HG1:=Lib.hid (And.intro r1 (HG.out.2.trans (hb1.mono HG.out.2.size)))
 obtain⟨c0,c1,c2⟩:=three_cellsV r1
 clear H1 hb1 r1
 by_cases hf:formE p=0
 rotate_left 1
 ·have d1:(formE p != 0)=true:=by simpa using hf
  have hE2:Hid (chkP p=(0,formE p)):=by show _=_;rw [hE.out,if_pos hf]
  clear hf
  go_wp2_with fail
  refine bodyPost_ret (v:=.tuple #[.int .i64 0,.int .i64 (formE p)]) (by simp [results,Tryz.results13,go_sem]) rfl ?_
  rw [hE2.out]
  exact⟨rfl,HG1.out.2⟩
 have d1:(formE p != 0)=false:=by simp [hf]
 obtain⟨f1,f2,f3,f4,f5,f6⟩:=formE_ok hf
 rw [HnA.out] at f1
 rw [HnC.out] at f5
 have hE2:Hid (chkP p=match parse p.code with
  | .bad a=>(a,15)
  | .ok _ _=>if argAt p < p.code.length then (argAt p,2) else (0,0)):=by show _=_;rw [hE.out,if_neg (by simp [hf])]
 have H2:=Lib.hid (parseR18_any A' n' c' p.code w1 HX1.out.code hn')
 have hpe:Hid (parE p.code=match parse p.code with
  | .bad q=>(q,15)
  | .ok _ _=>(0,0)):=by show _=_;unfold parE;rw [if_neg (by rw [HnC.out];omega)];rfl
 clear f2 f3 f4 f6
 rw [hf] at d1
 rw [hf]
 obtain⟨pa,pe,hpp⟩:∃ pa pe,parE p.code=(pa,pe):=⟨_,_,rfl⟩
 rw [hpp] at H2 hpe
 simp only [] at H2
 clear hpp hf
 go_wp2_with fail
 refine H2.out.mono ?_
 rintro e w2 ⟨⟨A5,n5,c5,rfl⟩,hb2⟩
 have r2:=HG1.out.1.below hb2 HG1.out.1.lt
 have HC2:=Lib.hid (HX1.out.code.below hb2)
 have HG2:=Lib.hid (And.intro r2 (HG1.out.2.trans (hb2.mono HG1.out.2.size)))
 clear H2 hb2 r2 c0 c1 c2 HX1 HG1 HX HG
 cases hp:parse p.code with
 | bad q=>
  rw [hp] at hpe hE2
  simp only [] at hpe hE2
  have h1:=hpe.out
  injection h1 with h1 h2
  subst h1 h2
  clear hpe hp
  go_wp2_with fail
  refine bodyPost_ret (v:=.tuple #[.int .i64 (pa:Int),.int .i64 15]) (by simp [results,Tryz.results13,go_sem]) rfl ?_
  rw [hE2.out]
  exact⟨rfl,HG2.out.2⟩
 | ok t m=>
  rw [hp] at hpe hE2
  simp only [] at hpe hE2
  have h1:=hpe.out
  injection h1 with h1 h2
  subst h1 h2
  clear hpe hp
  obtain⟨c0,c1,c2⟩:=three_cellsV HG2.out.1
  go_wp2_with fail
  go_loopw [8,9] (fun i _ wr=>∃ k:Nat,k≤n'∧i=.int .i64 (k:Int)∧Hid (∀ j,j < k→badArg p (gI p.code j)=false)∧Hid (rowV wr w.heap.size 25 #[.slice A n c,.int .i64 L,.slice A' n' c']∧Below w.heap.size w wr∧Codes wr A' n' c' p.code)) (fun i _ _=>n'-(intOf i).toNat)
  case atStart=>exact⟨0,Nat.zero_le _,rfl,Lib.hid (fun j hj=>absurd hj (Nat.not_lt_zero _)),Lib.hid ⟨HG2.out.1,HG2.out.2,HC2.out⟩⟩
  case round=>
   clear c0 c1 c2 HG2 HC2
   obtain⟨k,hk,rfl,HB,HI⟩:=hrel
   by_cases hlt:k < n'
   ·have d0:decide ((k:Int) < (n':Int))=true:=by simp;omega
    have d0':decide (k < n')=true:=by simp;omega
    obtain⟨cb,off,rfl,hcb,hcell⟩:=HI.out.2.2.get hlt
    have x0:=(hcell k hlt).1
    have x1:=(hcell k hlt).2
    have harg:=HI.out.2.2.arg hlt
    have hbad:Hid (badArg p (gI p.code k)=((decide ((gI p.code k).op=1∨(gI p.code k).op=2) && decide (p.locs≤(gI p.code k).arg)) || (decide ((gI p.code k).op=3∨(gI p.code k).op=4) && decide ((p.arrs.length:Int)≤(gI p.code k).arg)))):=rfl
    rw [HnA.out,←HL.out] at hbad
    obtain⟨⟨op,ar⟩,hi⟩:∃ y,y=gI p.code k:=⟨_,rfl⟩
    rw [←hi] at x0 x1 harg hbad
    simp only [] at x0 x1 harg hbad
    obtain⟨ha0,ha1,-⟩:=harg
    have ew:IntKind.i64.wrap ar=ar:=by simp [IntKind.wrap,IntKind.bits,IntKind.signed];omega
    have Hi:=Lib.hid hi
    have HE3:Hid (badArg p (gI p.code k)=true→chkP p=(k,2)):=fun hb=>by
     have h1:argAt p=k:=argAt_eq (by rw [HnC.out];exact hlt) hb HB.out
     show _=_
     rw [hE2.out,h1,if_pos (by rw [HnC.out];exact hlt)]
    have hk1:=balloc (Below.refl wr.heap.size wr) (.cells #[.int .i64 op,.int .u32 ar] 53)
    have HN:Hid (rowV (wr.alloc (.cells #[.int .i64 op,.int .u32 ar] 53)) w.heap.size 25 #[.slice A n c,.int .i64 L,.slice (some ⟨cb,off,none⟩) n' c']∧Below w.heap.size w (wr.alloc (.cells #[.int .i64 op,.int .u32 ar] 53))∧Codes (wr.alloc (.cells #[.int .i64 op,.int .u32 ar] 53)) (some ⟨cb,off,none⟩) n' c' p.code):=
     ⟨HI.out.1.below hk1 HI.out.1.lt,balloc HI.out.2.1 _,HI.out.2.2.below hk1⟩
    obtain⟨c0,c1,c2⟩:=three_cellsV HI.out.1
    obtain⟨W,hW⟩:∃ z,z=wr.alloc (.cells #[.int .i64 op,.int .u32 ar] 53):=⟨_,rfl⟩
    obtain⟨z0,z1⟩:=two_cellsV (rowV.new wr 53 #[.int .i64 op,.int .u32 ar])
    rw [←hW] at HN z0 z1
    have HW:=Lib.hid hW
    clear hk1 hcell hi hcb hW
    go_upto_region 11 with fail
    rw [←HW.out]
    clear c0 c1 c2 x0 x1
    obtain⟨y0,y1,y2⟩:=three_cellsV HN.out.1
    have HNX:Hid (∀ (b:Bool),badArg p (gI p.code k)=b→b=false→∀ j,j < k+1→badArg p (gI p.code j)=false):=fun b hbf hb j hj=>by
     rcases Nat.lt_succ_iff_lt_or_eq.1 hj with h | rfl
     ·exact HB.out j h
     ·rw [hbf,hb]
    have hcs:(op=1∨op=2)∨(op=3∨op=4)∨(op≠1∧op≠2∧op≠3∧op≠4):=by omega
    rcases hcs with ho | ho | ⟨n1,n2,n3,n4⟩
    ·by_cases hb:L≤ar
     ·have db:decide (L≤ar)=true:=decide_eq_true hb
      have hbt:badArg p (gI p.code k)=true:=by rw [←Hi.out,hbad.out];simp [hb,ho]
      have hEq:=Lib.hid (HE3.out hbt)
      clear hbt hbad HE3 hb
      rcases ho with rfl | rfl
      all_goals
       go_wp2_with fail
       refine bodyPost_ret (v:=.tuple #[.int .i64 (k:Int),.int .i64 2]) (by simp [results,Tryz.results13,go_sem]) rfl ?_
       rw [hEq.out]
       exact⟨rfl,HN.out.2.1⟩
     ·have db:decide (L≤ar)=false:=decide_eq_false hb
      have hbf:badArg p (gI p.code k)=false:=by rw [←Hi.out,hbad.out];simp;omega
      have HBn:=Lib.hid (HNX.out _ hbf rfl)
      clear hbf hbad HE3 hb
      rcases ho with rfl | rfl
      all_goals
       go_wp2_with fail
       go_roundw
       case rel=>exact⟨k+1,by omega,by go_num,HBn,HN⟩
       case measure=>(simp [intOf]) <;> omega
    ·by_cases hb:(n:Int)≤ar
     ·have db:decide ((n:Int)≤ar)=true:=decide_eq_true hb
      have hbt:badArg p (gI p.code k)=true:=by rw [←Hi.out,hbad.out];simp [hb,ho]
      have hEq:=Lib.hid (HE3.out hbt)
      clear hbt hbad HE3 hb
      rcases ho with rfl | rfl
      all_goals
       go_wp2_with fail
       refine bodyPost_ret (v:=.tuple #[.int .i64 (k:Int),.int .i64 2]) (by simp [results,Tryz.results13,go_sem]) rfl ?_
       rw [hEq.out]
       exact⟨rfl,HN.out.2.1⟩
     ·have db:decide ((n:Int)≤ar)=false:=decide_eq_false hb
      have hbf:badArg p (gI p.code k)=false:=by rw [←Hi.out,hbad.out];simp;omega
      have HBn:=Lib.hid (HNX.out _ hbf rfl)
      clear hbf hbad HE3 hb
      rcases ho with rfl | rfl
      all_goals
       go_wp2_with fail
       go_roundw
       case rel=>exact⟨k+1,by omega,by go_num,HBn,HN⟩
       case measure=>(simp [intOf]) <;> omega
    ·have q1:(op==1)=false:=by simpa using n1
     have q2:(op==2)=false:=by simpa using n2
     have q3:(op==3)=false:=by simpa using n3
     have q4:(op==4)=false:=by simpa using n4
     have hbf:badArg p (gI p.code k)=false:=by rw [←Hi.out,hbad.out];simp [n1,n2,n3,n4]
     have HBn:=Lib.hid (HNX.out _ hbf rfl)
     clear hbf hbad HE3 n1 n2 n3 n4
     go_wp2_with fail
     go_roundw
     case rel=>exact⟨k+1,by omega,by go_num,HBn,HN⟩
     case measure=>(simp [intOf]) <;> omega
   ·obtain rfl:k=n':=by omega
    have d0:decide ((k:Int) < (k:Int))=false:=by simp
    have hEq:Hid (chkP p=(0,0)):=by show _=_;rw [hE2.out,if_neg (argAt_none (by rw [HnC.out];exact HB.out))]
    obtain⟨c0,c1,c2⟩:=three_cellsV HI.out.1
    go_wp2_with fail
    refine bodyPost_ret (v:=.tuple #[.int .i64 0,.int .i64 0]) (by simp [results,Tryz.results13,go_sem]) rfl ?_
    rw [hEq.out]
    exact⟨rfl,HI.out.2.1⟩
def RetC(w:World)(e:Ending)(w':World):Prop:=e=.returned (.bool true)∧Below w.heap.size w w'
theorem checks20_any(A A':Option Addr)(n c n' c':Nat)(L:Int)(p:Prg)(w:World)(hx:Progs w A n c L A' n' c' p)(hE:ErrR w) :
  Calls Tryz.prog 3 #[.agg #[.slice A n c,.int .i64 L,.slice A' n' c']] w (RetC w):=by
 obtain⟨w0,hw0⟩:∃ w0,w0=w.alloc (.cells #[.slice A n c,.int .i64 L,.slice A' n' c'] 25):=⟨_,rfl⟩
 have g0:Below w.heap.size w w0:=by rw [hw0];exact balloc (Below.refl _ _) _
 have r0:rowV w0 w.heap.size 25 #[.slice A n c,.int .i64 L,.slice A' n' c']:=by rw [hw0];exact rowV.new w _ _
 have HFw:=Lib.hid (few15_any A A' n c n' c' L p w0 (hx.below g0))
 have HE:=Lib.hid hE
 have HX:=Lib.hid hx
 have HG:=Lib.hid (And.intro r0 g0)
 have Hw0:=Lib.hid hw0
 obtain⟨c0,c1,c2⟩:=three_cellsV r0
 clear hx hE g0 r0 hw0
 go_enter Tryz.func3,Tryz.ntmps3
 go_upto_region 1 with fail
 rw [←Hw0.out]
 go_wp2_with fail
 refine HFw.out.mono ?_
 intro e w1 hr
 obtain⟨⟨b,rfl,hfew⟩,hb1⟩:=hr
 have r1:=HG.out.1.below hb1 HG.out.1.lt
 have g1:=HG.out.2.trans (hb1.mono HG.out.2.size)
 have H1:=Lib.hid (And.intro r1 g1)
 have Hfew:=Lib.hid hfew
 clear hb1 r1 g1 hfew HFw c0 c1 c2
 cases b with
 | false=>
  have HA:=Lib.hid (awake20_any w1 (HE.out.below H1.out.2))
  go_wp2_with fail
  refine HA.out.mono ?_
  rintro e w2 ⟨rfl,hb2⟩
  have HN:=Lib.hid (H1.out.2.trans (hb2.mono H1.out.2.size))
  clear hb2 HA
  go_wp2_with fail
  go_ret
  exact⟨rfl,HN.out⟩
 | true=>
  obtain⟨hn,hn'⟩:=Hfew.out rfl
  obtain⟨c0,c1,c2⟩:=three_cellsV H1.out.1
  have HV:=checkW_any A A' n c n' c' L p w1 (HX.out.below H1.out.2)
  have HU:=fun w2 (hb:Below w1.heap.size w1 w2)=>check20_any A A' n c n' c' L p w2 (HX.out.below (H1.out.2.trans (hb.mono H1.out.2.size))) (by omega)
  obtain⟨⟨pa,pe⟩,hpp⟩:∃ z,z=chkP p:=⟨_,rfl⟩
  rw [←hpp] at HV HU
  have HV:Hid (Calls Tryz.prog 12 #[.agg #[.slice A n c,.int .i64 L,.slice A' n' c']] w1 fun e w'=>e=.returned (.tuple #[.int .i64 (pa:Int),.int .i64 pe])∧Below w1.heap.size w1 w'):=HV
  have HU:Hid (∀ w2,Below w1.heap.size w1 w2→Calls Tryz.prog 13 #[.agg #[.slice A n c,.int .i64 L,.slice A' n' c']] w2 fun e w'=>e=.returned (.tuple #[.int .i64 (pa:Int),.int .i64 pe])∧Below w2.heap.size w2 w'):=HU
  clear Hfew hpp hn hn'
  go_wp2_with fail
  refine HV.out.mono ?_
  rintro e w2 ⟨rfl,hb2⟩
  obtain⟨c0,c1,c2⟩:=three_cellsV (H1.out.1.below hb2 H1.out.1.lt)
  have HU2:=Lib.hid (HU.out w2 hb2)
  have H2:=Lib.hid (H1.out.2.trans (hb2.mono H1.out.2.size))
  clear hb2 HV HU
  go_wp2_with fail
  refine HU2.out.mono ?_
  rintro e w3 ⟨rfl,hb3⟩
  have H3:=Lib.hid (H2.out.trans (hb3.mono H2.out.size))
  have HA:=Lib.hid (awake20_any w3 (HE.out.below H3.out))
  clear hb3 HU2 c0 c1 c2
  go_wp2_with fail
  refine HA.out.mono ?_
  rintro e w4 ⟨rfl,hb4⟩
  have H4:=Lib.hid (H3.out.trans (hb4.mono H3.out.size))
  clear hb4 HA
  go_wp2_with fail
  go_ret
  exact⟨rfl,H4.out⟩
end Go.Proofs.YtepoclhdklgnhaaGreatDoor
