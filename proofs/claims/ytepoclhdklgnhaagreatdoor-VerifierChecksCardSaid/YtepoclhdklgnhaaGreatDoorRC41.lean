/- Mr Ms Mt. -/
import Derived.Test.YtepoclhdklgnhaaGreatDoorRC39
import Derived.Test.YtepoclhdklgnhaaGreatDoorRC22
set_option maxRecDepth 100000
set_option maxHeartbeats 40000000
set_option linter.unusedVariables false
set_option linter.unusedSimpArgs false
namespace Go.Proofs.YtepoclhdklgnhaaGreatDoor
open Go.RowKit Go.Proofs
theorem tIs:Tryz.prog.underlying 57=some (.slice (Tryz.prog.elem 57)):=by kernel_rfl
theorem eIs:Tryz.prog.elem 57=3:=by kernel_rfl
theorem sIs:∀ W:World,(sizeOf 3).run Tryz.prog W=.ok 1 W:=fun _=>by kernel_rfl
theorem cutZ_h(A:Option Addr)(n c:Nat)(h:Int)(h0:0≤h)(hc:h≤c)(W:World):(Instr.slice 57 (.slice A n c) none (some (.int .i64 h)) none).run Tryz.prog W=.ok (.slice A h.toNat c) W:=by
 rw [run_slice_h W _ A n c tIs .i64 h h0 hc,eIs,sIs W]
 simp only [Result.andThen,sliced,Nat.zero_mul,add_zero_map,ite_self,Nat.sub_zero]
theorem OwnS.madeZ(w:World)(n:Nat)(hn:n≤maxLen):OwnS encZ 1 (w.alloc (rowObj (Value.int .i64) 3 (List.replicate n 0))) w.heap.size 3 (some ⟨w.heap.size,0,none⟩) n n (List.replicate n 0):=by
 refine⟨by rw [flatZ];simp,.inr ⟨w.heap.size,n,_,rfl,Nat.le_refl _,heap_alloc_new w _,Nat.le_refl _,hn,by simp,?_⟩⟩
 rw [flatZ,List.map_replicate,Nat.mul_one]
 simp
theorem own_sl(A:Option Addr)(n n' c c':Nat):(Value.slice A n c).ownBlock=(Value.slice A n' c').ownBlock:=by cases A <;> rfl
section
variable {w wr : World} {c : List Ins} {n k : Nat} {R : Except Nat PS} {s : PS} {A1 A2 : Option Addr} {n1 c1 n2 c2 : Nat}
theorem PM.keep(h:PM w wr c n k R s A1 n1 c1 A2 n2 c2){W:World}(hb:Below wr.heap.size wr W):PM w W c n k R s A1 n1 c1 A2 n2 c2:=
 ⟨h.below.trans (hb.mono h.below.size),h.out.below hb,h.op.below hb,h.ot.below hb,h.ne,h.ok,h.run⟩
theorem PM.go(h:PM w wr c n k R s A1 n1 c1 A2 n2 c2){R':Except Nat PS}(hok:PsOk c (k+1) s)(hr:runM c (n-(k+1)) (k+1) s=R'):PM w wr c n (k+1) R' s A1 n1 c1 A2 n2 c2:=
 ⟨h.below,h.out,h.op,h.ot,h.ne,hok,hr⟩
theorem PM.push(h:PM w wr c n k R s A1 n1 c1 A2 n2 c2){w8 w9:World}{A8 A9:Option Addr}{c8 c9:Nat}{R':Except Nat PS}
  (ho8:OwnS encZ 1 w8 (w.heap.size+1) 3 A8 (n1+1) c8 (upI s.op++[(k:Int)])) (hg8:wr.grownBy w8 (Value.slice A1 n1 c1).ownBlock) (hf8:∀ b,(Value.slice A8 (n1+1) c8).ownBlock=some b→(Value.slice A1 n1 c1).ownBlock=some b∨wr.heap.size≤b)
  (ho9:OwnS encZ 1 w9 (w.heap.size+1) 3 A9 (n2+1) c9 (s.ot.reverse++[-1])) (hg9:w8.grownBy w9 (Value.slice A2 n2 c2).ownBlock) (hf9:∀ b,(Value.slice A9 (n2+1) c9).ownBlock=some b→(Value.slice A2 n2 c2).ownBlock=some b∨w8.heap.size≤b)
  (hok:PsOk c (k+1) ⟨k :: s.op,-1 :: s.ot,s.P⟩) (hr:runM c (n-(k+1)) (k+1) ⟨k :: s.op,-1 :: s.ot,s.P⟩=R'):PM w w9 c n (k+1) R' ⟨k :: s.op,-1 :: s.ot,s.P⟩ A8 (n1+1) c8 A9 (n2+1) c9:=by
 have hs8:=hg8.size
 have hs9:=hg9.size
 have hB:=h.hB
 have hbel8:=h.below.grown hg8 h.below.size (fun b hb=>by have:=(h.op.blk hb).2.1;omega)
 have hbel9:=hbel8.grown hg9 hbel8.size (fun b hb=>by have:=(h.ot.blk hb).2.1;omega)
 have hout8:=h.out.grown hg8 (fun b hb e=>by injection hb with hb;have:=(h.op.blk e.symm).2.1;simp only [] at hb;omega)
 have hout9:=hout8.grown hg9 (fun b hb e=>by injection hb with hb;have:=(h.ot.blk e.symm).2.1;simp only [] at hb;omega)
 refine⟨hbel9,hout9,?_,?_,?_,hok,hr⟩
 ·rw [upI_cons]
  refine ho8.grown hg9 (fun b hb e=>?_)
  rcases hf8 b hb with h1 | h1
  ·exact h.ne b h1 e.symm
  ·have:=(h.ot.blk e.symm).1;omega
 ·rw [List.reverse_cons]
  exact ho9
 ·intro b hb8 hb9
  rcases hf8 b hb8 with h1 | h1
  ·rcases hf9 b hb9 with h2 | h2
   ·exact h.ne b h1 h2
   ·have:=(h.op.blk h1).1;omega
  ·rcases hf9 b hb9 with h2 | h2
   ·have:=(h.ot.blk h2).1;omega
   ·have:=(ho8.blk hb8).1;omega
theorem PM.setT(h:PM w wr c n k R s A1 n1 c1 A2 n2 c2){g2:Nat}(hA:A2=some ⟨g2,0,none⟩){x:Int}{ot:List Int}(ho:s.ot=x :: ot)(y:Int){k':Nat}(hok:PsOk c k' { s with ot:=y :: ot }):PM w (wr.setCell ⟨g2,ot.length,none⟩ (.int .i64 y)) c n k' (runM c (n-k') k' { s with ot:=y :: ot }) { s with ot:=y :: ot } A1 n1 c1 A2 n2 c2:=by
 subst hA
 obtain⟨h1,h2⟩:=h.ot.setZ ot.length y
 have hb2:=(h.ot.blk (b:=g2) rfl).2.1
 rw [ho,rev_set] at h1
 refine⟨h.below.grown h2 h.below.size (fun k hk=>by injection hk with hk;omega),h.out.grown h2 (fun b hb e=>?_),h.op.grown h2 (fun b hb e=>?_),h1,h.ne,hok,rfl⟩
 ·injection e with e;injection hb with hb;simp only [] at hb;omega
 ·injection e with e;exact h.ne b hb (by rw [e];rfl)
theorem PM.pop{q m:Nat}{x:Int}{op:List Nat}{ot P:List Int}(h:PM w wr c n k R ⟨q :: op,x :: ot,P⟩ A1 (m+1) c1 A2 (m+1) c2){R':Except Nat PS}(hok:PsOk c (k+1) ⟨op,ot,P⟩)(hr:runM c (n-(k+1)) (k+1) ⟨op,ot,P⟩=R'):PM w wr c n (k+1) R' ⟨op,ot,P⟩ A1 m c1 A2 m c2:=by
 have e1:op.length=m:=by have:=h.l1;simpa using this.symm
 have e2:ot.length=m:=by rw [hok.len];exact e1
 have o1:=h.op.cut (fun _=>rfl) (by decide) (Nat.le_succ m)
 have o2:=h.ot.cut (fun _=>rfl) (by decide) (Nat.le_succ m)
 simp only [] at o1 o2
 rw [←e1,upI_pop,e1] at o1
 rw [←e2,rev_pop,e2] at o2
 exact⟨h.below,h.out,o1,o2,fun b h1 h2=>h.ne b (by rw [own_sl A1 (m+1) m c1 c1];exact h1) (by rw [own_sl A2 (m+1) m c2 c2];exact h2),hok,hr⟩
end
def PartR(w:World)(c:List Ins)(n:Nat)(e:Ending)(w':World):Prop:=Below w.heap.size w w'∧(if 1024 < n then e=.returned (.tuple #[.slice none 0 0,.int .i64 0,.int .i64 6]) else match runM c n 0 (ps0 c) with
 | .error q=>e=.returned (.tuple #[.slice none 0 0,.int .i64 (q:Int),.int .i64 15])
 | .ok s=>if s.op=[] then ∃ P',e=.returned (.tuple #[.slice (some ⟨w.heap.size,0,none⟩) n n,.int .i64 0,.int .i64 0])∧OwnS encZ 1 w' w.heap.size 3 (some ⟨w.heap.size,0,none⟩) n n P'∧(∀ k,oI c k≠30→gi P' k=gi s.P k) else e=.returned (.tuple #[.slice none 0 0,.int .i64 (n:Int),.int .i64 15]))
theorem PartR.err{w w':World}{c:List Ins}{n q:Nat}(hn:n≤1024)(hb:Below w.heap.size w w')(h:runM c n 0 (ps0 c)=.error q):PartR w c n (.returned (.tuple #[.slice none 0 0,.int .i64 (q:Int),.int .i64 15])) w':=by
 refine⟨hb,?_⟩
 rw [if_neg (by omega),h]
theorem loopM_lt{c:List Ins}{P:List Int}(k:Nat):(∀ q∈loopM c P k,q < k)∧(loopM c P k).length≤k:=by
 induction k with
 | zero=>exact⟨fun q hq=>(by cases hq),Nat.le_refl _⟩
 | succ k ih=>
  rw [loopM_succ]
  split
  ·refine⟨fun q hq=>?_,by rw [List.length_cons];omega⟩
   rcases List.mem_cons.1 hq with h | h
   ·omega
   ·have:=ih.1 q h;omega
  ·split
   ·exact⟨fun q hq=>by have:=ih.1 q (List.mem_of_mem_tail hq);omega,by rw [List.length_tail];omega⟩
   ·exact⟨fun q hq=>by have:=ih.1 q hq;omega,by omega⟩
def LeafOk(c:List Ins)(P:List Int)(n:Nat):Prop:=∀ k,k < n→(oI c k=30→loopM c P k≠[])∧(oI c k=31→(0≤gi P k∧gi P k < (k:Int))∧(oI c (gi P k).toNat=29→loopM c P k≠[]))
theorem leavesR_any(w0:World)(A:Option Addr)(n cc:Nat)(c:List Ins)(hc:Codes w0 A n cc c)(w:World)(hb:Below w0.heap.size w0 w)(g:Nat)(P:List Int)(hP:OwnS encZ 1 w w0.heap.size 3 (some ⟨g,0,none⟩) n n P)(hL:LeafOk c P n)(hn:n≤1024) :
  Calls Tryz.prog 96 #[.slice A n cc,.slice (some ⟨g,0,none⟩) n n] w fun e w'=>∃ P',e=.returned (.slice (some ⟨g,0,none⟩) n n)∧OwnS encZ 1 w' w0.heap.size 3 (some ⟨g,0,none⟩) n n P'∧Below w0.heap.size w0 w'∧∀ k,oI c k≠30→gi P' k=gi P k:=by
 have HC:=Lib.hid hc
 have HL:=Lib.hid hL
 have hgB:=(hP.blk (b:=g) rfl).2.1
 have hgl:=(hP.blk (b:=g) rfl).1
 have HP:=Lib.hid (And.intro hP hb)
 clear hc hL hP hb
 go_enter Tryz.func96,Tryz.ntmps96
 go_wp2_with fail
 go_loopw [5,6] (fun l i wr=>∃ (k:Nat) (Q:List Int) (A2:Option Addr) (n2 c2:Nat),k≤n∧i=.int .i64 (k:Int)∧l=.slice A2 n2 c2∧n2=(loopM c P k).length∧n2≤k∧Hid (OwnS encZ 1 wr w0.heap.size 3 (some ⟨g,0,none⟩) n n Q∧OwnS encZ 1 wr w.heap.size 3 A2 n2 c2 (upI (loopM c P k))∧Below w0.heap.size w0 wr∧w.heap.size≤wr.heap.size∧∀ j,oI c j≠30→gi Q j=gi P j)) (fun _ i _=>n-(intOf i).toNat)
 case atStart=>exact⟨0,P,none,0,0,Nat.zero_le _,rfl,rfl,rfl,Nat.zero_le _,HP.out.1,OwnS.nil _ _ _ _ _,HP.out.2,Nat.le_refl _,fun _ _=>rfl⟩
 case round=>
  obtain⟨k,Q,A2,n2,c2,hk,rfl,rfl,hn2,hn2k,HR⟩:=hrel
  by_cases hlt:k < n
  ·have d0:decide ((k:Int) < (n:Int))=true:=by simp;omega
   have d0':decide (k < n)=true:=by simp;omega
   obtain⟨cb,off,rfl,hcb,hcell⟩:=HC.out.get hlt
   have x0:wr.cell? ⟨cb,off+k * 2,none⟩=some (.int .i64 (oI c k)):=(HR.out.2.2.1.cell (p:=⟨cb,off+k * 2,none⟩) hcb).trans (hcell k hlt).1
   obtain⟨o30,o31⟩:=HL.out k hlt
   have hst:=loopM_succ c P k
   have hltk:=(loopM_lt (c:=c) (P:=P) k).1
   obtain⟨op,hop⟩:∃ op,op=oI c k:=⟨_,rfl⟩
   rw [←hop] at x0 o30 o31 hst
   have Hop:=Lib.hid hop
   clear hcell hop
   by_cases h29:op=29
   ·subst h29
    rw [if_pos rfl] at hst
    have Hst:=Lib.hid hst
    have hml:=Lib.hid (show n2+1≤maxLen∧(n2+1) * 8≤140737488355328 by unfold maxLen;omega)
    have HB:=Lib.hid HR.out.2.2.2.1
    have hn3:Hid (n2+1=(loopM c P (k+1)).length):=by show _=_;rw [hst,List.length_cons,hn2]
    clear hst o30 o31 hltk hn2
    go_wp2_with (at_builtin;refine wpList_pushT (enc:=encZ) rfl (.tmp 20) (.tmp 22) rfl uIs infoZ encZ_one rfl (fun _=>rfl) (by decide) rfl HR.out.2.1 HB.out (k:Int) _ rfl (by simp [Act.eval]) hml.out.1 hml.out.2 ?_;intro A8 c8 w8 ho8 hb8 hg8 hf8)
    have HN:Hid (OwnS encZ 1 w8 w0.heap.size 3 (some ⟨g,0,none⟩) n n Q∧OwnS encZ 1 w8 w.heap.size 3 A8 (n2+1) c8 (upI (loopM c P (k+1)))∧Below w0.heap.size w0 w8∧w.heap.size≤w8.heap.size∧∀ j,oI c j≠30→gi Q j=gi P j):=⟨HR.out.1.grown hg8 (fun b hb e=>by injection hb with hb;simp only [] at hb;have:=(HR.out.2.1.blk e.symm).2.1;omega),by rw [Hst.out,upI_cons];exact ho8,HR.out.2.2.1.grown hg8 HR.out.2.2.1.size (fun b hb=>by have:=(HR.out.2.1.blk hb).2.1;have:=HP.out.2.size;omega),Nat.le_trans HR.out.2.2.2.1 hg8.size,HR.out.2.2.2.2⟩
    clear ho8 hb8 hg8 hf8
    go_roundw
    case rel=>exact⟨k+1,Q,A8,n2+1,c8,by omega,by go_num,rfl,hn3.out,by omega,HN⟩
    case measure=>(simp [intOf]) <;> omega
   have e29:(op==29)=false:=by simpa using h29
   rw [if_neg h29] at hst
   by_cases h31:op=31
   ·subst h31
    obtain⟨⟨p0,p1⟩,p2⟩:=o31 rfl
    obtain⟨q,hq⟩:∃ q:Nat,gi P k=(q:Int):=⟨(gi P k).toNat,by omega⟩
    have hqn:q < n:=by omega
    have hQk:gi Q k=(q:Int):=by rw [HR.out.2.2.2.2 k (by rw [←Hop.out];decide),hq]
    rw [hq,Int.toNat_natCast] at p2 hst
    obtain⟨g',e1,-,-,z0⟩:=HR.out.1.cellZ (k:=k) hlt
    injection e1 with e1
    injection e1 with e1
    subst e1
    rw [hQk] at z0
    obtain⟨cb',off',e2,-,hcell⟩:=HC.out.get hlt
    injection e2 with e2
    injection e2 with e2 e3
    subst e2 e3
    have y0:wr.cell? ⟨cb,off+q * 2,none⟩=some (.int .i64 (oI c q)):=(HR.out.2.2.1.cell (p:=⟨cb,off+q * 2,none⟩) hcb).trans (hcell q hqn).1
    obtain⟨oq,hoq⟩:∃ oq,oq=oI c q:=⟨_,rfl⟩
    rw [←hoq] at y0 p2 hst
    clear hcell o30 o31 p0 p1 hQk hq hoq
    by_cases hq29:oq=29
    ·subst hq29
     have hne:=p2 rfl
     rw [if_pos ⟨rfl,rfl⟩] at hst
     obtain⟨m,hm⟩:∃ m,n2=m+1:=⟨n2-1,by have:=List.length_pos_iff.2 hne;omega⟩
     subst hm
     have hlm:(loopM c P (k+1)).length=m:=by rw [hst,List.length_tail,←hn2];rfl
     have Hlm:=Lib.hid hlm.symm
     have ho9:=HR.out.2.1.cut (fun _=>rfl) (by decide) (Nat.le_succ m)
     have hcap:=HR.out.2.1.cap
     have HN:Hid (OwnS encZ 1 wr w0.heap.size 3 (some ⟨g,0,none⟩) n n Q∧OwnS encZ 1 wr w.heap.size 3 A2 m c2 (upI (loopM c P (k+1)))∧Below w0.heap.size w0 wr∧w.heap.size≤wr.heap.size∧∀ j,oI c j≠30→gi Q j=gi P j):=by
      refine⟨HR.out.1,?_,HR.out.2.2⟩
      cases hl:loopM c P k with
      | nil=>exact absurd hl hne
      | cons y ys=>
       rw [hl] at ho9 hst hn2
       have e5:ys.length=m:=by simpa using hn2.symm
       rw [hst,List.tail_cons,←upI_pop y ys,e5]
       exact ho9
     have qc:=fun W=>cutZ_h A2 (m+1) c2 (m:Int) (by omega) (by omega) W
     simp only [Int.toNat_natCast] at qc
     clear p2 hne hst hltk hlm ho9 hcap hn2
     go_wp2_with fail
     go_roundw
     case rel=>exact⟨k+1,Q,A2,m,c2,by omega,by go_num,rfl,Hlm.out,by omega,HN⟩
     case measure=>(simp [intOf]) <;> omega
    ·have f29:(oq==29)=false:=by simpa using hq29
     rw [if_neg (fun h=>hq29 h.2)] at hst
     have HN:Hid (OwnS encZ 1 wr w0.heap.size 3 (some ⟨g,0,none⟩) n n Q∧OwnS encZ 1 wr w.heap.size 3 A2 n2 c2 (upI (loopM c P (k+1)))∧Below w0.heap.size w0 wr∧w.heap.size≤wr.heap.size∧∀ j,oI c j≠30→gi Q j=gi P j):=by rw [hst];exact HR.out
     have Hn3:Hid (n2=(loopM c P (k+1)).length):=by show _=_;rw [hst];exact hn2
     clear p2 hst hltk hn2 hq29
     go_wp2_with fail
     go_roundw
     case rel=>exact⟨k+1,Q,A2,n2,c2,by omega,by go_num,rfl,Hn3.out,by omega,HN⟩
     case measure=>(simp [intOf]) <;> omega
   have e31:(op==31)=false:=by simpa using h31
   rw [if_neg (fun h=>h31 h.1)] at hst
   have Hn3:Hid (n2=(loopM c P (k+1)).length):=by show _=_;rw [hst];exact hn2
   by_cases h30:op=30
   ·subst h30
    have hne:=o30 rfl
    obtain⟨m,hm⟩:∃ m,n2=m+1:=⟨n2-1,by have:=List.length_pos_iff.2 hne;omega⟩
    subst hm
    cases hl:loopM c P k with
    | nil=>exact absurd hl hne
    | cons y ys=>
     rw [hl] at hst hn2 hltk
     have e5:ys.length=m:=by simpa using hn2.symm
     have hyk:=hltk y (List.mem_cons_self ..)
     have ho:=HR.out.2.1
     rw [hl] at ho
     obtain⟨g3,rfl,hg3,hg4,z3⟩:=ho.cellZ (k:=m) (by omega)
     rw [←e5,upI_top,e5] at z3
     obtain⟨g',e1,-,-,z1⟩:=HR.out.1.cellZ (k:=y) (by omega)
     injection e1 with e1
     injection e1 with e1
     subst e1
     obtain⟨g',e1,-,-,z2⟩:=HR.out.1.cellZ (k:=k) hlt
     injection e1 with e1
     injection e1 with e1
     subst e1
     have fz:=World.ownsRow.frozenAt HR.out.1 k
     obtain⟨zz,hzz⟩:∃ zz,zz=gi Q y:=⟨_,rfl⟩
     rw [←hzz] at z1
     have hyn:y < n:=by omega
     have ho1:=HR.out.1.setZ k zz
     have hg1l:=(HR.out.1.blk (b:=g) rfl).1
     have HN:Hid (OwnS encZ 1 (wr.setCell ⟨g,k,none⟩ (.int .i64 zz)) w0.heap.size 3 (some ⟨g,0,none⟩) n n (Q.set k zz)∧OwnS encZ 1 (wr.setCell ⟨g,k,none⟩ (.int .i64 zz)) w.heap.size 3 (some ⟨g3,0,none⟩) (m+1) c2 (upI (loopM c P (k+1)))∧Below w0.heap.size w0 (wr.setCell ⟨g,k,none⟩ (.int .i64 zz))∧w.heap.size≤(wr.setCell ⟨g,k,none⟩ (.int .i64 zz)).heap.size∧∀ j,oI c j≠30→gi (Q.set k zz) j=gi P j):=by
      refine⟨ho1.1,?_,HR.out.2.2.1.grown ho1.2 HR.out.2.2.1.size (fun b hb=>by injection hb with hb;omega),Nat.le_trans HR.out.2.2.2.1 ho1.2.size,fun j hj=>?_⟩
      ·rw [hst]
       exact ho.grown ho1.2 (fun b hb e=>by injection hb with hb;injection e with e;simp only [] at hb;omega)
      ·rw [gi_setN (by intro e;subst e;exact hj Hop.out.symm)]
       exact HR.out.2.2.2.2 j hj
     obtain⟨W,hW⟩:∃ W,W=wr.setCell ⟨g,k,none⟩ (.int .i64 zz):=⟨_,rfl⟩
     rw [←hW] at HN
     have HW:=Lib.hid hW
     clear hne hst hltk hn2 hl e5 ho ho1 hzz o30 o31 hW
     go_wp2_with fail
     rw [←HW.out]
     go_roundw
     case rel=>exact⟨k+1,Q.set k zz,some ⟨g3,0,none⟩,m+1,c2,by omega,by go_num,rfl,Hn3.out,by omega,HN⟩
     case measure=>(simp [intOf]) <;> omega
   ·have e30:(op==30)=false:=by simpa using h30
    have HN:Hid (OwnS encZ 1 wr w0.heap.size 3 (some ⟨g,0,none⟩) n n Q∧OwnS encZ 1 wr w.heap.size 3 A2 n2 c2 (upI (loopM c P (k+1)))∧Below w0.heap.size w0 wr∧w.heap.size≤wr.heap.size∧∀ j,oI c j≠30→gi Q j=gi P j):=by rw [hst];exact HR.out
    clear hst hltk hn2 h29 h30 h31 o30 o31
    go_wp2_with fail
    go_roundw
    case rel=>exact⟨k+1,Q,A2,n2,c2,by omega,by go_num,rfl,Hn3.out,by omega,HN⟩
    case measure=>(simp [intOf]) <;> omega
  ·obtain rfl:k=n:=by omega
   have d0:decide ((k:Int) < (k:Int))=false:=by simp
   have HR:=HR
   clear hn2
   go_wp2_with fail
   go_ret
   exact⟨Q,rfl,HR.out.1,HR.out.2.2.1,HR.out.2.2.2.2⟩
theorem PartR.tree{c:List Ins}{s:PS}(hr:runM c c.length 0 (ps0 c)=.ok s)(ho:s.op=[]):∃ t,parse c=.ok t c.length∧PartOk s.P 0 t∧LeafOk c s.P c.length:=by
 have h:=parse_run c
 cases hx:parse c with
 | bad q=>
  rw [hx] at h
  rcases h with ⟨h1,h2⟩ | ⟨h1,s',h2,h3⟩
  ·have h3:=runM_bad (b:=c.length-(q+1)) h2
   rw [show q+1+(c.length-(q+1))=c.length by omega,hr] at h3
   cases h3
  ·rw [hr] at h2
   injection h2 with h2
   rw [←h2] at h3
   exact absurd ho h3
 | ok t m=>
  rw [hx] at h
  obtain⟨s',h1,h2,h3,h4,h5,h6,h7⟩:=h
  rw [hr] at h1
  injection h1 with h1
  subst h1
  have hm:m=c.length:=(parse_ok hx).2.1
  refine⟨t,by rw [hm],h4,fun k hk=>?_⟩
  have:=(loopM_tree h6 h5 (fun h=>by cases h)).2 k (Nat.zero_le _) (by omega)
  exact this
theorem partnersR_any(A:Option Addr)(n cc:Nat)(c:List Ins)(w:World)(hc:Codes w A n cc c)(hnb:n≤1000000000):Calls Tryz.prog 50 #[.slice A n cc] w (PartR w c n):=by
 have hcl:=hc.1
 by_cases hbig:1024 < n
 ·have d0:decide ((1024:Int) < (n:Int))=true:=by simp;omega
  have d0':decide (1024 < n)=true:=by simp;omega
  have hf:PartR w c n (.returned (.tuple #[.slice none 0 0,.int .i64 0,.int .i64 6])) w:=⟨Below.refl _ _,by rw [if_pos hbig]⟩
  have HF:=Lib.hid hf
  clear hf hc hcl
  go_enter Tryz.func50,Tryz.ntmps50
  go_wp2_with fail
  refine bodyPost_ret (v:=.tuple #[.slice none 0 0,.int .i64 0,.int .i64 6]) (by simp [results,Tryz.results50,go_sem]) rfl HF.out
 have hn:n≤1024:=by omega
 have d0:decide ((1024:Int) < (n:Int))=false:=by simp;omega
 have d0':decide (1024 < n)=false:=by simp;omega
 have hmk:=run_make_row (P:=Tryz.prog) (enc:=Value.int .i64) uIs infoZ rfl (n:Int) (by omega) (by omega) (by omega)
 simp only [Int.toNat_natCast] at hmk
 obtain⟨w1,hw1⟩:∃ w1,w1=w.alloc (rowObj (Value.int .i64) 3 (List.replicate n 0)):=⟨_,rfl⟩
 have ho1:=OwnS.madeZ w n (by unfold maxLen;omega)
 have hb1:Below w.heap.size w w1:=by rw [hw1];exact (Below.refl _ _).alloc (Nat.le_refl _) _
 rw [←hw1] at ho1
 have hpm:PM w w1 c n 0 (runM c n 0 (ps0 c)) (ps0 c) none 0 0 none 0 0:=⟨hb1,by unfold ps0;simp only [];rw [hcl];exact ho1,OwnS.nil _ _ _ _ _,OwnS.nil _ _ _ _ _,fun b h=>(by cases h),⟨fun k hk=>(by cases hk),fun x hx=>(by cases hx),rfl,Nat.zero_le _,by simp [ps0]⟩,rfl⟩
 obtain⟨R,hR⟩:∃ R,R=runM c n 0 (ps0 c):=⟨_,rfl⟩
 rw [←hR] at hpm
 have HR0:=Lib.hid hR
 have HP0:=Lib.hid hpm
 have HC:=Lib.hid hc
 have Hcl:=Lib.hid hcl
 have Hw1:=Lib.hid hw1
 clear ho1 hb1 hpm hR hc hcl hw1 hbig
 go_enter Tryz.func50,Tryz.ntmps50
 go_upto_region 4 with fail
 rw [←Hw1.out]
 go_wp2_with fail
 go_loopw [6,7,8,9] (fun o t i _ wr=>∃ (k:Nat) (s:PS) (A1:Option Addr) (n1 c1:Nat) (A2:Option Addr) (n2 c2:Nat),k≤n∧i=.int .i64 (k:Int)∧o=.slice A1 n1 c1∧t=.slice A2 n2 c2∧Hid (PM w wr c n k R s A1 n1 c1 A2 n2 c2)) (fun _ _ i _ _=>n-(intOf i).toNat)
 case atStart=>exact⟨0,ps0 c,none,0,0,none,0,0,Nat.zero_le _,rfl,rfl,rfl,HP0⟩
 case round=>
  obtain⟨k,s,A1,n1,c1,A2,n2,c2,hk,rfl,rfl,rfl,HP⟩:=hrel
  by_cases hlt:k < n
  ·have e0:decide ((k:Int) < (n:Int))=true:=by simp;omega
   have e0':decide (k < n)=true:=by simp;omega
   obtain⟨g,e1,-,-,z0⟩:=HP.out.out.cellZ (k:=k) hlt
   injection e1 with e1
   injection e1 with e1
   subst e1
   have fz:=World.ownsRow.frozenAt HP.out.out k
   obtain⟨W,hW⟩:∃ W,W=wr.setCell ⟨w.heap.size,k,none⟩ (.int .i64 (-1)):=⟨_,rfl⟩
   have hp1:=HP.out.setP k (-1)
   rw [←hW] at hp1
   have hok:=HP.out.ok
   have HP1:=Lib.hid hp1
   have hstep:∀ s',stepM c k s=some s'→runM c (n-(k+1)) (k+1) s'=R∧PsOk c (k+1) s':=fun s' h=>⟨HP.out.next hlt h,hok.step h⟩
   have hbad:stepM c k s=none→Hid (PartR w c n (.returned (.tuple #[.slice none 0 0,.int .i64 (k:Int),.int .i64 15])) W):=fun h=>PartR.err hn HP1.out.below (HR0.out.symm.trans (HP.out.bad hlt h))
   have hl1:=HP.out.l1
   have hl2:=HP.out.l2
   have hlo:=hok.len
   have h8:=hok.len8
   have HW:=Lib.hid hW
   have hBW:w.heap.size < W.heap.size:=HP1.out.hB
   clear hp1 hW
   go_upto_region 9 with fail
   rw [←HW.out]
   clear z0 fz
   obtain⟨cb,off,rfl,hcb,hcell⟩:=HC.out.get hlt
   have x0:W.cell? ⟨cb,off+k * 2,none⟩=some (.int .i64 (oI c k)):=(HP1.out.below.cell (p:=⟨cb,off+k * 2,none⟩) hcb).trans (hcell k hlt).1
   obtain⟨op,hop⟩:∃ op,op=oI c k:=⟨_,rfl⟩
   have hst:stepM c k s=if op=27∨op=29 then (if s.op.length=8 then none else some ⟨k :: s.op,-1 :: s.ot,s.P.set k (-1)⟩)
    else if op=28 then (match s.op,s.ot with
     | q :: _,x :: ot=>if oI c q=27∧x < 0 then some ⟨s.op,(k:Int) :: ot,(s.P.set k (-1)).set q (k:Int)⟩ else none
     | _,_=>none)
    else if op=30 then (if inLp c s.op then some ⟨s.op,s.ot,s.P.set k (-1)⟩ else none)
    else if op=31 then (match s.op,s.ot with
     | q :: op,x :: ot=>some ⟨op,ot,((s.P.set k (-1)).set k (q:Int)).set (if 0≤x then x.toNat else q) (k:Int)⟩
     | _,_=>none)
    else some ⟨s.op,s.ot,s.P.set k (-1)⟩:=by rw [hop];rfl
   rw [←hop] at x0
   have Hop:=Lib.hid hop
   have Hcell:=Lib.hid hcell
   clear hop hcell
   by_cases ho:op=27∨op=29
   ·rw [if_pos ho] at hst
    by_cases h8e:s.op.length=8
    ·rw [if_pos h8e] at hst
     have HB:=hbad hst
     have q8:((n1:Int)==8)=true:=by rw [hl1,h8e];rfl
     have q8':(n1==8)=true:=by rw [hl1,h8e];rfl
     clear hst hbad hstep hok hl1 hl2 hlo h8 h8e
     rcases ho with rfl | rfl
     all_goals
      go_wp2_with fail
      refine bodyPost_ret (v:=.tuple #[.slice none 0 0,.int .i64 (k:Int),.int .i64 15]) (by simp [results,Tryz.results50,go_sem]) rfl HB.out
    ·rw [if_neg h8e] at hst
     obtain⟨hr,hk'⟩:=hstep _ hst
     have q8:((n1:Int)==8)=false:=by simp;omega
     have q8':(n1==8)=false:=by simp;omega
     have HR:=Lib.hid (And.intro hr hk')
     have hml:=Lib.hid (show (n1+1≤maxLen∧(n1+1) * 8≤140737488355328)∧(n2+1≤maxLen∧(n2+1) * 8≤140737488355328) by unfold maxLen;omega)
     have HBs:=Lib.hid (show w.heap.size+1≤W.heap.size from hBW)
     clear hst hbad hstep hok hl1 hl2 hlo h8 h8e hr hk'
     rcases ho with rfl | rfl
     all_goals
      go_wp2_with (first
       | (at_builtin;refine wpList_pushT (enc:=encZ) rfl (.tmp 38) (.tmp 40) rfl uIs infoZ encZ_one rfl (fun _=>rfl) (by decide) rfl HP1.out.op HBs.out (k:Int) _ rfl (by simp [Act.eval]) hml.out.1.1 hml.out.1.2 ?_;intro A8 c8 w8 ho8 hb8 hg8 hf8;have HO8:=Lib.hid (And.intro ho8 (And.intro hg8 hf8));have HT8:=Lib.hid (And.intro (HP1.out.ot.grown hg8 (fun b hb e=>HP1.out.ne b e.symm hb)) (Nat.le_trans HBs.out hg8.size));clear ho8 hb8 hg8 hf8)
       | (at_builtin;refine wpList_pushT (enc:=encZ) rfl (.tmp 42) (.tmp 43) rfl uIs infoZ encZ_one rfl (fun _=>rfl) (by decide) rfl HT8.out.1 HT8.out.2 (-1:Int) _ rfl (by simp [Act.eval]) hml.out.2.1 hml.out.2.2 ?_;intro A9 c9 w9 ho9 hb9 hg9 hf9))
      have HN:=Lib.hid (HP1.out.push HO8.out.1 HO8.out.2.1 HO8.out.2.2 ho9 hg9 hf9 HR.out.2 HR.out.1)
      clear ho9 hb9 hg9 hf9
      go_roundw
      case rel=>exact⟨k+1,⟨k :: s.op,-1 :: s.ot,s.P.set k (-1)⟩,A8,n1+1,c8,A9,n2+1,c9,by omega,by go_num,rfl,rfl,HN⟩
      case measure=>(simp [intOf]) <;> omega
   rw [if_neg ho] at hst
   have e27:(op==27)=false:=by simp;omega
   have e29:(op==29)=false:=by simp;omega
   clear ho
   by_cases h28:op=28
   ·rw [if_pos h28] at hst
    clear e27 e29
    subst h28
    cases hso:s.op with
    | nil=>
     rw [hso] at hst hl1
     have HB:=hbad hst
     obtain rfl:n1=0:=hl1
     clear hst hbad hstep hok hl2 hlo h8 hso
     go_wp2_with fail
     refine bodyPost_ret (v:=.tuple #[.slice none 0 0,.int .i64 (k:Int),.int .i64 15]) (by simp [results,Tryz.results50,go_sem]) rfl HB.out
    | cons q os=>
     cases hto:s.ot with
     | nil=>rw [hso,hto] at hlo;cases hlo
     | cons x ot=>
      rw [hso,hto] at hst hlo
      rw [hso] at hl1 hl2 h8
      simp only [List.length_cons] at hl1 hl2 hlo h8
      obtain⟨m,hm⟩:∃ m,m=os.length:=⟨_,rfl⟩
      have hmt:ot.length=m:=by omega
      rw [←hm] at hl1 hl2 h8
      subst hl1 hl2
      have hqk:q < k:=hok.op q (by rw [hso];exact List.mem_cons_self ..)
      obtain⟨g1,rfl,hg1,hg1l,y1⟩:=HP1.out.op.cellZ (k:=m) (by omega)
      obtain⟨g2,rfl,hg2,hg2l,y2⟩:=HP1.out.ot.cellZ (k:=m) (by omega)
      simp only [] at y1 y2
      rw [hso,hm,upI_top,←hm] at y1
      rw [hto,←hmt,rev_top,hmt] at y2
      have yq:W.cell? ⟨cb,off+q * 2,none⟩=some (.int .i64 (oI c q)):=(HP1.out.below.cell (p:=⟨cb,off+q * 2,none⟩) hcb).trans (Hcell.out q (by omega)).1
      obtain⟨oq,hoq⟩:∃ oq,oq=oI c q:=⟨_,rfl⟩
      have hst:stepM c k s=if oq=27∧x < 0 then some ⟨s.op,(k:Int) :: ot,(s.P.set k (-1)).set q (k:Int)⟩ else none:=by rw [hoq,hso];exact hst
      rw [←hoq] at yq
      have hqn:q < n:=by omega
      by_cases hq:oq=27
      ·subst hq
       by_cases hx:x < 0
       ·rw [if_pos ⟨rfl,hx⟩] at hst
        obtain⟨hr,hk'⟩:=hstep _ hst
        have dx:decide ((0:Int)≤x)=false:=by simp;omega
        have hp2:=HP1.out.setT (k':=k+1) rfl hto (k:Int) ⟨hk'.op,hk'.ot,hk'.len,hk'.len8,by have:=hk'.P;simpa using this⟩
        rw [hmt] at hp2
        have hne12:g1≠g2:=fun e=>HP1.out.ne g1 rfl (by rw [e];rfl)
        obtain⟨W2,hW2⟩:∃ z,z=W.setCell ⟨g2,m,none⟩ (.int .i64 (k:Int)):=⟨_,rfl⟩
        rw [←hW2] at hp2
        have f2:=World.ownsRow.frozenAt HP1.out.ot m
        have hp3:=hp2.setP q (k:Int)
        obtain⟨W3,hW3⟩:∃ z,z=W2.setCell ⟨w.heap.size,q,none⟩ (.int .i64 (k:Int)):=⟨_,rfl⟩
        rw [←hW3] at hp3
        have hp3:PM w W3 c n (k+1) R ⟨s.op,(k:Int) :: ot,(s.P.set k (-1)).set q (k:Int)⟩ (some ⟨g1,0,none⟩) (m+1) c1 (some ⟨g2,0,none⟩) (m+1) c2:=by rw [hr] at hp3;exact hp3
        have HN:=Lib.hid hp3
        obtain⟨g',e1,-,-,v1⟩:=hp2.out.cellZ (k:=q) hqn
        injection e1 with e1
        injection e1 with e1
        subst e1
        have fv:=World.ownsRow.frozenAt hp2.out q
        have y1':W2.cell? ⟨g1,m,none⟩=some (.int .i64 (q:Int)):=by
         obtain⟨g',e1,-,-,u1⟩:=hp2.op.cellZ (k:=m) (by omega)
         injection e1 with e1
         injection e1 with e1
         subst e1
         rw [u1]
         simp only []
         rw [hso,hm,upI_top]
        have HW2:=Lib.hid hW2
        have HW3:=Lib.hid hW3
        clear hst hbad hstep hok hlo hso hto hm hmt hr hk' hp2 hp3 hoq hW2 hW3 hx
        go_upto_region 20 with fail
        rw [←HW2.out]
        clear y1 y2 yq x0 f2
        go_wp2_with fail
        rw [←HW3.out]
        go_roundw
        case rel=>exact⟨k+1,⟨s.op,(k:Int) :: ot,(s.P.set k (-1)).set q (k:Int)⟩,some ⟨g1,0,none⟩,m+1,c1,some ⟨g2,0,none⟩,m+1,c2,by omega,by go_num,rfl,rfl,HN⟩
        case measure=>(simp [intOf]) <;> omega
       ·rw [if_neg (fun h=>hx h.2)] at hst
        have HB:=hbad hst
        have dx:decide ((0:Int)≤x)=true:=by simp;omega
        clear hst hbad hstep hok hlo hso hto hm hmt hoq hx
        go_wp2_with fail
        refine bodyPost_ret (v:=.tuple #[.slice none 0 0,.int .i64 (k:Int),.int .i64 15]) (by simp [results,Tryz.results50,go_sem]) rfl HB.out
      ·rw [if_neg (fun h=>hq h.1)] at hst
       have HB:=hbad hst
       have dq:(oq != 27)=true:=by simpa using hq
       clear hst hbad hstep hok hlo hso hto hm hmt hoq hq
       go_wp2_with fail
       refine bodyPost_ret (v:=.tuple #[.slice none 0 0,.int .i64 (k:Int),.int .i64 15]) (by simp [results,Tryz.results50,go_sem]) rfl HB.out
   rw [if_neg h28] at hst
   have e28:(op==28)=false:=by simpa using h28
   clear h28
   by_cases h30:op=30
   ·rw [if_pos h30] at hst
    clear e27 e29 e28
    subst h30
    have HI:=Lib.hid (innermost_any (some ⟨cb,off,none⟩) n cc c W (HC.out.below HP1.out.below) (w.heap.size+1) A1 n1 c1 s.op HP1.out.op (fun q hq=>by have:=hok.op q hq;omega) h8)
    cases hin:inLp c s.op with
    | true=>
     rw [if_pos hin] at hst
     obtain⟨hr,hk'⟩:=hstep _ hst
     have HN:=Lib.hid (HP1.out.go hk' hr)
     have Hin:=Lib.hid hin
     clear hst hbad hstep hok hlo hl1 hl2 h8 hr hk' hin
     go_wp2_with fail
     refine HI.out.mono ?_
     rintro e w' ⟨z,rfl,hz,hz1,hw⟩
     obtain rfl:W=w':=hw.symm
     have dz:decide (z < 0)=false:=by
      rw [Hin.out] at hz
      simp only [Bool.true_eq_false,iff_false] at hz
      exact decide_eq_false hz
     clear hw hz hz1 HI
     go_wp2_with fail
     go_roundw
     case rel=>exact⟨k+1,⟨s.op,s.ot,s.P.set k (-1)⟩,A1,n1,c1,A2,n2,c2,by omega,by go_num,rfl,rfl,HN⟩
     case measure=>(simp [intOf]) <;> omega
    | false=>
     rw [if_neg (by rw [hin];decide)] at hst
     have HB:=hbad hst
     have Hin:=Lib.hid hin
     clear hst hbad hstep hok hlo hl1 hl2 h8 hin
     go_wp2_with fail
     refine HI.out.mono ?_
     rintro e w' ⟨z,rfl,hz,hz1,hw⟩
     obtain rfl:W=w':=hw.symm
     have dz:decide (z < 0)=true:=by
      rw [Hin.out] at hz
      exact decide_eq_true (hz.2 rfl)
     clear hw hz hz1 HI
     go_wp2_with fail
     refine bodyPost_ret (v:=.tuple #[.slice none 0 0,.int .i64 (k:Int),.int .i64 15]) (by simp [results,Tryz.results50,go_sem]) rfl HB.out
   rw [if_neg h30] at hst
   have e30:(op==30)=false:=by simpa using h30
   clear h30
   by_cases h31:op=31
   ·rw [if_pos h31] at hst
    clear e27 e29 e28 e30
    subst h31
    cases hso:s.op with
    | nil=>
     rw [hso] at hst hl1
     have HB:=hbad hst
     obtain rfl:n1=0:=hl1
     clear hst hbad hstep hok hl2 hlo h8 hso
     go_wp2_with fail
     refine bodyPost_ret (v:=.tuple #[.slice none 0 0,.int .i64 (k:Int),.int .i64 15]) (by simp [results,Tryz.results50,go_sem]) rfl HB.out
    | cons q os=>
     cases hto:s.ot with
     | nil=>rw [hso,hto] at hlo;cases hlo
     | cons x ot=>
      rw [hso,hto] at hst hlo
      rw [hso] at hl1 hl2 h8
      simp only [List.length_cons] at hl1 hl2 hlo h8
      obtain⟨m,hm⟩:∃ m,m=os.length:=⟨_,rfl⟩
      have hmt:ot.length=m:=by omega
      rw [←hm] at hl1 hl2 h8
      subst hl1 hl2
      have hqk:q < k:=hok.op q (by rw [hso];exact List.mem_cons_self ..)
      have hxk:=hok.ot x (by rw [hto];exact List.mem_cons_self ..)
      obtain⟨g1,rfl,hg1,hg1l,y1⟩:=HP1.out.op.cellZ (k:=m) (by omega)
      obtain⟨g2,rfl,hg2,hg2l,y2⟩:=HP1.out.ot.cellZ (k:=m) (by omega)
      simp only [] at y1 y2
      rw [hso,hm,upI_top,←hm] at y1
      rw [hto,←hmt,rev_top,hmt] at y2
      have hst:stepM c k s=some ⟨os,ot,((s.P.set k (-1)).set k (q:Int)).set (if 0≤x then x.toNat else q) (k:Int)⟩:=hst
      obtain⟨hr,hk'⟩:=hstep _ hst
      obtain⟨g',e1,-,-,v0⟩:=HP1.out.out.cellZ (k:=k) hlt
      injection e1 with e1
      injection e1 with e1
      subst e1
      have fv0:=World.ownsRow.frozenAt HP1.out.out k
      have hp2:=HP1.out.setP k (q:Int)
      obtain⟨W2,hW2⟩:∃ z,z=W.setCell ⟨w.heap.size,k,none⟩ (.int .i64 (q:Int)):=⟨_,rfl⟩
      rw [←hW2] at hp2
      have y1':W2.cell? ⟨g1,m,none⟩=some (.int .i64 (q:Int)):=by
       obtain⟨g',e1,-,-,u1⟩:=hp2.op.cellZ (k:=m) (by omega)
       injection e1 with e1
       injection e1 with e1
       subst e1
       rw [u1]
       simp only []
       rw [hso,hm,upI_top]
      have y2':W2.cell? ⟨g2,m,none⟩=some (.int .i64 x):=by
       obtain⟨g',e1,-,-,u1⟩:=hp2.ot.cellZ (k:=m) (by omega)
       injection e1 with e1
       injection e1 with e1
       subst e1
       rw [u1]
       simp only []
       rw [hto,←hmt,rev_top]
      obtain⟨ix,hix⟩:∃ ix:Nat,ix=if 0≤x then x.toNat else q:=⟨_,rfl⟩
      have hixn:ix < n:=by rw [hix];split <;> omega
      rw [←hix] at hr hk'
      obtain⟨g',e1,-,-,v1⟩:=hp2.out.cellZ (k:=ix) hixn
      injection e1 with e1
      injection e1 with e1
      subst e1
      have fv1:=World.ownsRow.frozenAt hp2.out ix
      have hp3:=hp2.setP ix (k:Int)
      obtain⟨W3,hW3⟩:∃ z,z=W2.setCell ⟨w.heap.size,ix,none⟩ (.int .i64 (k:Int)):=⟨_,rfl⟩
      rw [←hW3] at hp3
      have hp3:PM w W3 c n k (runM c (n-k) k ⟨q :: os,x :: ot,((s.P.set k (-1)).set k (q:Int)).set ix (k:Int)⟩) ⟨q :: os,x :: ot,((s.P.set k (-1)).set k (q:Int)).set ix (k:Int)⟩ (some ⟨g1,0,none⟩) (m+1) c1 (some ⟨g2,0,none⟩) (m+1) c2:=by rw [←hso,←hto];exact hp3
      have HN:=Lib.hid (hp3.pop hk' hr)
      have hcap1:=hp3.op.cap
      have hcap2:=hp3.ot.cap
      have qc1:=fun W=>cutZ_h (some ⟨g1,0,none⟩) (m+1) c1 (m:Int) (by omega) (by omega) W
      have qc2:=fun W=>cutZ_h (some ⟨g2,0,none⟩) (m+1) c2 (m:Int) (by omega) (by omega) W
      simp only [Int.toNat_natCast] at qc1 qc2
      have HW2:=Lib.hid hW2
      have HW3:=Lib.hid hW3
      by_cases hx:0≤x
      ·obtain⟨xn,hxn⟩:∃ xn:Nat,x=(xn:Int):=⟨x.toNat,by omega⟩
       rw [if_pos hx] at hix
       obtain rfl:ix=xn:=by omega
       subst hxn
       have dx:decide ((0:Int)≤(ix:Int))=true:=by simp
       clear hst hbad hstep hok hlo hso hto hm hmt hr hk' hp2 hp3 hW2 hW3 hx hix hxk hcap1 hcap2
       go_upto_region 28 with fail
       rw [←HW2.out]
       clear y1 y2 x0 v0 fv0
       go_upto_region 31 with fail
       rw [←HW3.out]
       clear y1' y2' v1 fv1
       go_wp2_with fail
       go_quiet (fail)
       obtain⟨W4,hW4⟩:∃ z,z=W3.drewN nq:=⟨_,rfl⟩
       rw [←hW4]
       have HN4:=Lib.hid (HN.out.keep (W:=W4) (by rw [hW4];exact bdrew (Below.refl _ _) _))
       clear hW4
       go_wp2_with fail
       go_roundw
       case rel=>exact⟨k+1,_,some ⟨g1,0,none⟩,m,c1,some ⟨g2,0,none⟩,m,c2,by omega,by go_num,rfl,rfl,HN4⟩
       case measure=>(simp [intOf]) <;> omega
      ·rw [if_neg hx] at hix
       subst hix
       have dx:decide ((0:Int)≤x)=false:=by simpa using hx
       clear hst hbad hstep hok hlo hso hto hm hmt hr hk' hp2 hp3 hW2 hW3 hx hxk hcap1 hcap2
       go_upto_region 28 with fail
       rw [←HW2.out]
       clear y1 y2 x0 v0 fv0
       go_upto_region 31 with fail
       rw [←HW3.out]
       clear y1' y2' v1 fv1
       go_wp2_with fail
       go_quiet (fail)
       obtain⟨W4,hW4⟩:∃ z,z=W3.drewN nq:=⟨_,rfl⟩
       rw [←hW4]
       have HN4:=Lib.hid (HN.out.keep (W:=W4) (by rw [hW4];exact bdrew (Below.refl _ _) _))
       clear hW4
       go_wp2_with fail
       go_roundw
       case rel=>exact⟨k+1,_,some ⟨g1,0,none⟩,m,c1,some ⟨g2,0,none⟩,m,c2,by omega,by go_num,rfl,rfl,HN4⟩
       case measure=>(simp [intOf]) <;> omega
   ·rw [if_neg h31] at hst
    have e31:(op==31)=false:=by simpa using h31
    obtain⟨hr,hk'⟩:=hstep _ hst
    have HN:=Lib.hid (HP1.out.go hk' hr)
    clear hst hbad hstep hok hlo hl1 hl2 h8 hr hk' h31
    go_wp2_with fail
    go_roundw
    case rel=>exact⟨k+1,⟨s.op,s.ot,s.P.set k (-1)⟩,A1,n1,c1,A2,n2,c2,by omega,by go_num,rfl,rfl,HN⟩
    case measure=>(simp [intOf]) <;> omega
  ·obtain rfl:k=n:=by omega
   have e0:decide ((k:Int) < (k:Int))=false:=by simp
   have hrun:R=.ok s:=by have:=HP.out.run;rw [Nat.sub_self] at this;exact this.symm
   have Hrun:=Lib.hid (HR0.out.symm.trans hrun)
   have hl1:=HP.out.l1
   clear hrun
   by_cases h0:s.op=[]
   ·obtain rfl:n1=0:=by rw [hl1,h0];rfl
    obtain⟨t,-,-,hlf⟩:=PartR.tree (s:=s) (c:=c) (by rw [Hcl.out];exact Hrun.out) h0
    rw [Hcl.out] at hlf
    have HL:=Lib.hid (leavesR_any w A k cc c HC.out wr HP.out.below w.heap.size s.P HP.out.out hlf hn)
    have H0:=Lib.hid h0
    clear hl1 hlf h0
    go_wp2_with fail
    refine HL.out.mono ?_
    rintro e w9 ⟨P',rfl,ho9,hb9,hg9⟩
    have HF:Hid (PartR w c k (.returned (.tuple #[.slice (some ⟨w.heap.size,0,none⟩) k k,.int .i64 0,.int .i64 0])) w9):=⟨hb9,by rw [if_neg (by omega),Hrun.out];show ite _ _ _;rw [if_pos H0.out];exact⟨P',rfl,ho9,hg9⟩⟩
    clear ho9 hb9 hg9 HL
    go_wp2_with fail
    refine bodyPost_ret (v:=.tuple #[.slice (some ⟨w.heap.size,0,none⟩) k k,.int .i64 0,.int .i64 0]) (by simp [results,Tryz.results50,go_sem]) rfl HF.out
   ·have hpos:0 < n1:=by rw [hl1];exact List.length_pos_iff.2 h0
    have q0:decide ((0:Int) < (n1:Int))=true:=by simp;omega
    have q0':decide (0 < n1)=true:=by simp;omega
    have HF:Hid (PartR w c k (.returned (.tuple #[.slice none 0 0,.int .i64 (k:Int),.int .i64 15])) wr):=⟨HP.out.below,by rw [if_neg (by omega),Hrun.out];show ite _ _ _;rw [if_neg h0]⟩
    clear hl1 h0 hpos
    go_wp2_with fail
    refine bodyPost_ret (v:=.tuple #[.slice none 0 0,.int .i64 (k:Int),.int .i64 15]) (by simp [results,Tryz.results50,go_sem]) rfl HF.out
end Go.Proofs.YtepoclhdklgnhaaGreatDoor
