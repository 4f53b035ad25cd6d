/- Mq Vr Wo. -/
import Derived.Test.YtpaplehcafeeaaaGreatDoorLE23
import Derived.Test.YtpaplehcafeeaaaGreatDoorLE22
import Derived.BigRegion
set_option maxRecDepth 100000
set_option maxHeartbeats 40000000
set_option linter.unusedVariables false
set_option linter.unusedSimpArgs false
namespace Go.Proofs.YtpaplehcafeeaaaGreatDoor
open Go.RowKit Go.Proofs
structure PsOk (c:List Ins) (i:Nat) (s:PS):Prop where
 op:∀ k∈s.op,k < i
 ot:∀ x∈s.ot,x=-1∨(0≤x∧x < (i:Int))
 len:s.ot.length=s.op.length
 len8:s.op.length≤8
 P:s.P.length=c.length
theorem PsOk.step{c:List Ins}{i:Nat}{s s':PS}(h:PsOk c i s)(hs:stepM c i s=some s'):PsOk c (i+1) s':=by
 obtain⟨op,ot,P⟩:=s
 have hop:∀ k∈op,k < i+1:=fun k hk=>Nat.lt_succ_of_lt (h.op k hk)
 have hot:∀ x∈ot,x=-1∨(0≤x∧x < ((i+1:Nat):Int)):=fun x hx=>by rcases h.ot x hx with h1 | h1 <;> omega
 have hl:=h.len
 have h8:=h.len8
 have hP:=h.P
 simp only [] at hop hot hl h8 hP
 unfold stepM at hs
 split at hs
 ·split at hs
  ·cases hs
  ·injection hs with hs
   subst hs
   rename_i _ hne
   simp only [] at hne
   refine⟨fun k hk=>?_,fun x hx=>?_,by simp [hl],by simp;omega,by simp [hP]⟩
   ·rcases List.mem_cons.1 hk with h1 | h1
    ·omega
    ·exact hop k h1
   ·rcases List.mem_cons.1 hx with h1 | h1
    ·exact .inl h1
    ·exact hot x h1
 split at hs
 ·cases op with
  | nil=>cases hs
  | cons k op=>
   cases ot with
   | nil=>cases hs
   | cons x ot=>
    simp only [] at hs
    split at hs
    ·injection hs with hs
     subst hs
     refine⟨hop,fun y hy=>?_,by simpa using hl,h8,by simp [hP]⟩
     rcases List.mem_cons.1 hy with h1 | h1
     ·right;omega
     ·exact hot y (List.mem_cons_of_mem _ h1)
    ·cases hs
 split at hs
 ·split at hs
  ·injection hs with hs
   subst hs
   exact⟨hop,hot,hl,h8,by simp [hP]⟩
  ·cases hs
 split at hs
 ·cases op with
  | nil=>cases hs
  | cons k op=>
   cases ot with
   | nil=>cases hs
   | cons x ot=>
    simp only [] at hs
    injection hs with hs
    subst hs
    simp only [List.length_cons] at hl h8
    exact⟨fun k hk=>hop k (List.mem_cons_of_mem _ hk),fun x hx=>hot x (List.mem_cons_of_mem _ hx),by simp only [];omega,by simp only [];omega,by simp [hP]⟩
 ·injection hs with hs
  subst hs
  exact⟨hop,hot,hl,h8,by simp [hP]⟩
theorem flatZ(xs:List Int):xs.flatMap encZ=xs.map (Value.int .i64):=by
 induction xs with
 | nil=>rfl
 | cons x xs ih=>rw [List.flatMap_cons,List.map_cons,ih];rfl
theorem OwnS.setZ{w:World}{B g:Nat}{n c:Nat}{xs:List Int}(h:OwnS encZ 1 w B 3 (some ⟨g,0,none⟩) n c xs)(i:Nat)(z:Int) :
  OwnS encZ 1 (w.setCell ⟨g,i,none⟩ (.int .i64 z)) B 3 (some ⟨g,0,none⟩) n c (xs.set i z)∧w.grownBy (w.setCell ⟨g,i,none⟩ (.int .i64 z)) (some g):=by
 obtain⟨h1,h2⟩:=World.ownsRow.stored h i (.int .i64 z)
 refine⟨?_,h2⟩
 unfold OwnS
 rw [flatZ,List.map_set,←flatZ]
 exact h1
theorem OwnS.cellZ{w:World}{B:Nat}{A:Option Addr}{n c:Nat}{xs:List Int}(h:OwnS encZ 1 w B 3 A n c xs){k:Nat}(hk:k < n):∃ g,A=some ⟨g,0,none⟩∧B≤g∧g < w.heap.size∧w.cell? ⟨g,k,none⟩=some (.int .i64 (gi xs k)):=by
 obtain⟨g,rfl,h1,h2,h3⟩:=h.get (fun _=>rfl) (by decide) 0 (by omega)
 refine⟨g,rfl,h1,h2,?_⟩
 have:=h3 k 0 _ hk rfl
 rw [Nat.mul_one] at this
 exact this
def upI(l:List Nat):List Int:=(l.map fun (k:Nat)=>(k:Int)).reverse
theorem upI_cons(k:Nat)(l:List Nat):upI (k :: l)=upI l++[(k:Int)]:=by simp [upI]
theorem upI_len(l:List Nat):(upI l).length=l.length:=by simp [upI]
theorem rev_top(x:Int)(l:List Int):gi (x :: l).reverse l.length=x:=by
 rw [List.reverse_cons]
 unfold gi
 rw [List.getD_eq_getElem?_getD,List.getElem?_append_right (by rw [List.length_reverse];exact Nat.le_refl _),List.length_reverse,Nat.sub_self]
 rfl
theorem rev_pop(x:Int)(l:List Int):(x :: l).reverse.take l.length=l.reverse:=by
 rw [List.reverse_cons,List.take_append_of_le_length (by rw [List.length_reverse];exact Nat.le_refl _),List.take_of_length_le (by rw [List.length_reverse];exact Nat.le_refl _)]
structure PM (w wr:World) (c:List Ins) (n k:Nat) (R:Except Nat PS) (s:PS) (A1:Option Addr) (n1 c1:Nat) (A2:Option Addr) (n2 c2:Nat):Prop where
 below:Below w.heap.size w wr
 out:OwnS encZ 1 wr w.heap.size 3 (some ⟨w.heap.size,0,none⟩) n n s.P
 op:OwnS encZ 1 wr (w.heap.size+1) 3 A1 n1 c1 (upI s.op)
 ot:OwnS encZ 1 wr (w.heap.size+1) 3 A2 n2 c2 s.ot.reverse
 ne:∀ b,(Value.slice A1 n1 c1).ownBlock=some b→(Value.slice A2 n2 c2).ownBlock=some b→False
 ok:PsOk c k s
 run:runM c (n-k) k s=R
section
variable {w wr : World} {c : List Ins} {n k : Nat} {R : Except Nat PS} {s : PS} {A1 A2 : Option Addr} {n1 c1 n2 c2 : Nat}
theorem PM.l1(h:PM w wr c n k R s A1 n1 c1 A2 n2 c2):n1=s.op.length:=by rw [←h.op.length (fun _=>rfl) (by decide),upI_len]
theorem PM.l2(h:PM w wr c n k R s A1 n1 c1 A2 n2 c2):n2=s.op.length:=by rw [←h.ot.length (fun _=>rfl) (by decide),List.length_reverse,h.ok.len]
theorem PM.hB(h:PM w wr c n k R s A1 n1 c1 A2 n2 c2):w.heap.size < wr.heap.size:=(h.out.blk (b:=w.heap.size) rfl).1
theorem PM.setP(h:PM w wr c n k R s A1 n1 c1 A2 n2 c2)(i:Nat)(z:Int):PM w (wr.setCell ⟨w.heap.size,i,none⟩ (.int .i64 z)) c n k (runM c (n-k) k { s with P:=s.P.set i z }) { s with P:=s.P.set i z } A1 n1 c1 A2 n2 c2:=by
 obtain⟨h1,h2⟩:=h.out.setZ i z
 refine⟨h.below.grown h2 h.below.size (fun k hk=>by injection hk with hk;rw [←hk];exact Nat.le_refl _),h1,h.op.grown h2 (fun b hb e=>?_),h.ot.grown h2 (fun b hb e=>?_),h.ne,⟨h.ok.op,h.ok.ot,h.ok.len,h.ok.len8,by simp [h.ok.P]⟩,rfl⟩
 ·injection e with e;have:=(h.op.blk hb).2.1;omega
 ·injection e with e;have:=(h.ot.blk hb).2.1;omega
theorem PM.next(h:PM w wr c n k R s A1 n1 c1 A2 n2 c2)(hk:k < n){s':PS}(hs:stepM c k s=some s'):runM c (n-(k+1)) (k+1) s'=R:=by
 have h1:=h.run
 rw [show n-k=(n-(k+1))+1 by omega,runM_succ,hs] at h1
 exact h1
theorem PM.bad(h:PM w wr c n k R s A1 n1 c1 A2 n2 c2)(hk:k < n)(hs:stepM c k s=none):R=.error k:=by
 have h1:=h.run
 rw [show n-k=(n-(k+1))+1 by omega,runM_succ,hs] at h1
 exact h1.symm
end
theorem FR.below{w0 w w':World}{g pb:Nat}{A:Option Addr}{n cc at_:Nat}{P:List Int}(h:FR w0 g pb w A n cc at_ P)(hb:Below w.heap.size w w'):FR w0 g pb w' A n cc at_ P:=⟨h.row.below hb h.row.lt,h.prt.below hb h.prt.lt,h.len,h.base.trans (hb.mono h.base.size),h.hg,h.hp⟩
theorem LvOk.below{B pb:Nat}{w w':World}{lv:Option LV}(h:LvOk B pb w lv)(hb:Below w.heap.size w w'):LvOk B pb w' lv:=by
 cases lv with
 | none=>trivial
 | some v=>exact⟨LvAt.le h,(LvAt.box h).below hb (LvAt.box h).lt,(LvAt.own h).below hb,LvAt.ne h⟩
theorem five_cellsV{w:World}{g:Nat}{t:TypeId}{a b c d e:Value}(h:rowV w g t #[a,b,c,d,e]):w.cell? ⟨g,0,none⟩=some a∧w.cell? ⟨g,1,none⟩=some b∧w.cell? ⟨g,2,none⟩=some c∧w.cell? ⟨g,3,none⟩=some d∧w.cell? ⟨g,4,none⟩=some e:=⟨cell_rowV h rfl,cell_rowV h rfl,cell_rowV h rfl,cell_rowV h rfl,cell_rowV h rfl⟩
theorem blk_boxes{w w1:World}{op:Int}{p:Nat}(r:rowV w1 w.heap.size 264 #[.int .i64 0,.int .i64 0,.int .i64 0,.slice none 0 0,.slice none 0 0])(hs:w1.heap.size=w.heap.size+1)(hb:Below w.heap.size w w1) :
  ∃ w4,w4=((w1.alloc (.cells #[.int .i64 op,.int .i64 (p:Int),.int .i64 0,.slice none 0 0,.slice none 0 0] 264)).alloc (.cells #[.slice none 0 0] 52)).drew∧Below w.heap.size w w4∧rowV w4 w.heap.size 264 #[.int .i64 0,.int .i64 0,.int .i64 0,.slice none 0 0,.slice none 0 0]∧rowV w4 (w.heap.size+1) 264 #[.int .i64 op,.int .i64 (p:Int),.int .i64 0,.slice none 0 0,.slice none 0 0]∧rowV w4 (w.heap.size+1+1) 52 #[.slice none 0 0]∧w4.heap.size=w.heap.size+1+1+1:=by
 have k1:=balloc (Below.refl _ w1) (.cells #[.int .i64 op,.int .i64 (p:Int),.int .i64 0,.slice none 0 0,.slice none 0 0] 264)
 have r1:=rowV.new w1 264 #[.int .i64 op,.int .i64 (p:Int),.int .i64 0,.slice none 0 0,.slice none 0 0]
 rw [hs] at r1
 obtain⟨w2,hw2⟩:∃ w2,w2=w1.alloc (.cells #[.int .i64 op,.int .i64 (p:Int),.int .i64 0,.slice none 0 0,.slice none 0 0] 264):=⟨_,rfl⟩
 have s2:w2.heap.size=w.heap.size+1+1:=by rw [hw2];simp [hs]
 rw [←hw2] at k1 r1 ⊢
 have q2:=r.below k1 r.lt
 have k3:=balloc (Below.refl _ w2) (.cells #[.slice none 0 0] 52)
 have r3:=rowV.new w2 52 #[.slice none 0 0]
 rw [s2] at r3
 refine⟨_,rfl,bdrew ((hb.trans (k1.mono hb.size)).trans (k3.mono (Nat.le_trans hb.size k1.size))) 1,(show rowV (w2.alloc _) _ _ _ from q2.below k3 q2.lt),(show rowV (w2.alloc _) _ _ _ from r1.below k3 r1.lt),r3,?_⟩
 show (w2.alloc _).heap.size=_
 simp [s2]
structure BW (w0:World) (g pb:Nat) (w:World) (A:Option Addr) (n cc p:Nat) (op:Int) (lv:Option LV) (W:World) (at_:Nat) (P:List Int) (B5:Array Value) (vO:LV) (lv':Option LV):Prop where
 fr:FR w0 g pb W A n cc at_ P
 rR:rowV W w.heap.size 264 #[.int .i64 0,.int .i64 0,.int .i64 0,.slice none 0 0,.slice none 0 0]
 rB:rowV W (w.heap.size+1) 264 B5
 lo:LvAt w0.heap.size pb W vO
 lb:vO.lb=w.heap.size+1+1
 lown:∀ k,(Value.slice vO.A vO.n vO.c).ownBlock=some k→w.heap.size+1+1 < k
 lvs:LvOk w0.heap.size pb W lv'
 kx:KX w0.heap.size g pb lv lv' w W
 gw:g < w.heap.size
 pw:pb < w.heap.size
 lw:∀ k,LvBlk lv' k→k < w.heap.size∨(w.heap.size+1+1 < k∧(Value.slice vO.A vO.n vO.c).ownBlock≠some k)
 ww:w0.heap.size≤w.heap.size
section
variable {w0 : World} {g pb : Nat} {w : World} {A : Option Addr} {n cc p : Nat} {op : Int} {lv : Option LV} {W : World} {at_ : Nat} {P : List Int} {B5 : Array Value} {vO : LV} {lv' : Option LV}
theorem KX.rowK{B:Nat}{a b:Option LV}{w w':World}(h:KX B g pb a b w w'){k:Nat}{t:TypeId}{cs:Array Value}(hr:rowV w k t cs)(h1:k≠g)(h2:k≠pb)(h3:¬ LvBlk a k):rowV w' k t cs:=(h.keep k hr.lt h1 h2 h3).trans hr
theorem BW.setB(h:BW w0 g pb w A n cc p op lv W at_ P B5 vO lv')(j:Nat)(v:Value):BW w0 g pb w A n cc p op lv (W.setCell ⟨w.heap.size+1,j,none⟩ v) at_ P (B5.setIfInBounds j v) vO lv':=by
 have g2:W.grownBy (W.setCell ⟨w.heap.size+1,j,none⟩ v) (some (w.heap.size+1)):=grownBy.setCell' (World.grownBy.refl _ _) _
 have hg:=h.gw
 have hp:=h.pw
 have hB:∀ k,some (w.heap.size+1)=some k→w0.heap.size≤k:=fun k hk=>by injection hk with hk;have:=h.ww;omega
 refine⟨h.fr.grown g2 (fun e=>by injection e;omega) (fun e=>by injection e;omega) hB,h.rR.grown g2 (fun e=>by injection e;omega),h.rB.set j v,h.lo.grown g2 (fun e=>by injection e with e;rw [h.lb] at e;omega) (fun b hb e=>by injection e with e;have:=h.lown b hb;omega),h.lb,h.lown,h.lvs.grown g2 (fun k hk e=>by injection e with e;rcases h.lw k hk with h1 | h1 <;> omega),h.kx.grown g2 (fun k hk=>by injection hk with hk;left;omega) hB h.ww,h.gw,h.pw,h.lw,h.ww⟩
theorem BW.setAt(h:BW w0 g pb w A n cc p op lv W at_ P B5 vO lv')(x:Nat):BW w0 g pb w A n cc p op lv (W.setCell ⟨g,1,none⟩ (.int .i64 (x:Int))) x P B5 vO lv':=by
 have g2:W.grownBy (W.setCell ⟨g,1,none⟩ (.int .i64 (x:Int))) (some g):=grownBy.setCell' (World.grownBy.refl _ _) _
 have hg:=h.gw
 have hB:∀ k,some g=some k→w0.heap.size≤k:=fun k hk=>by injection hk with hk;rw [←hk];exact h.fr.hg
 refine⟨h.fr.setAt x,h.rR.grown g2 (fun e=>by injection e;omega),h.rB.grown g2 (fun e=>by injection e;omega),h.lo.grown g2 (fun e=>by injection e with e;rw [h.lb] at e;omega) (fun b hb e=>by injection e with e;have:=h.lown b hb;omega),h.lb,h.lown,h.lvs.grown g2 (fun k hk e=>LvOk.ne_g h.lvs h.fr.row k hk (by injection e)),h.kx.grown g2 (fun k hk=>.inr (.inl (by injection hk with hk;exact hk.symm))) hB h.ww,h.gw,h.pw,h.lw,h.ww⟩
theorem FR.setP(h:FR w0 g pb W A n cc at_ P)(i:Nat)(x:Int):FR w0 g pb (W.setCell ⟨pb,i,none⟩ (.int .i64 x)) A n cc at_ (P.set i x):=by
 have hne:g≠pb:=fun e=>by
  have h1:=h.row
  have h2:=h.prt
  unfold rowV at h1
  unfold Row at h2
  rw [←e,h1] at h2
  injection h2 with h2
  injection h2 with _ h2
  revert h2
  decide
 exact⟨(Below.heap_setCell W ⟨pb,i,none⟩ _ g hne).trans h.row,h.prt.set i x,by rw [List.length_set];exact h.len,belowCell h.base h.hp _,h.hg,h.hp⟩
theorem BW.setP(h:BW w0 g pb w A n cc p op lv W at_ P B5 vO lv')(i:Nat)(x:Int):BW w0 g pb w A n cc p op lv (W.setCell ⟨pb,i,none⟩ (.int .i64 x)) at_ (P.set i x) B5 vO lv':=by
 have g2:W.grownBy (W.setCell ⟨pb,i,none⟩ (.int .i64 x)) (some pb):=grownBy.setCell' (World.grownBy.refl _ _) _
 have hp:=h.pw
 have hB:∀ k,some pb=some k→w0.heap.size≤k:=fun k hk=>by injection hk with hk;rw [←hk];exact h.fr.hp
 refine⟨h.fr.setP i x,h.rR.grown g2 (fun e=>by injection e;omega),h.rB.grown g2 (fun e=>by injection e;omega),h.lo.grown g2 (fun e=>by injection e with e;rw [h.lb] at e;omega) (fun b hb e=>by injection e with e;have:=h.lown b hb;omega),h.lb,h.lown,h.lvs.grown g2 (fun k hk e=>?_),h.kx.grown g2 (fun k hk=>.inr (.inr (.inl (by injection hk with hk;exact hk.symm)))) hB h.ww,h.gw,h.pw,h.lw,h.ww⟩
 injection e with e
 have hl:=h.lvs
 cases lv' with
 | none=>exact hk
 | some v=>
  rcases hk with hk | hk
  ·exact LvAt.ne_pb hl h.fr.prt (hk ▸ e)
  ·exact LvAt.ne hl k hk e
theorem BW.drewN(h:BW w0 g pb w A n cc p op lv W at_ P B5 vO lv')(q:Nat):BW w0 g pb w A n cc p op lv (W.drewN q) at_ P B5 vO lv':=⟨h.fr.drewN q,h.rR,h.rB,⟨h.lo.le,h.lo.box,h.lo.own,h.lo.ne⟩,h.lb,h.lown,h.lvs.drewN q,h.kx.drewN q,h.gw,h.pw,h.lw,h.ww⟩
theorem BW.start(hF:FR w0 g pb w A n cc p P)(hL:LvOk w0.heap.size pb w lv)(hb:Below w.heap.size w W)(rR:rowV W w.heap.size 264 #[.int .i64 0,.int .i64 0,.int .i64 0,.slice none 0 0,.slice none 0 0])(rB:rowV W (w.heap.size+1) 264 B5)(rO:rowV W (w.heap.size+1+1) 52 #[.slice none 0 0]):BW w0 g pb w A n cc p op lv W p P B5 ⟨w.heap.size+1+1,none,0,0,[]⟩ lv:=by
 have ww:=hF.base.size
 have hown:(Value.slice none 0 0).ownBlock=none:=rfl
 refine⟨hF.below hb,rR,rB,⟨by show w0.heap.size≤w.heap.size+1+1;omega,rO,OwnS.nil _ _ _ _ _,fun k hk=>(by rw [hown] at hk;cases hk)⟩,rfl,fun k hk=>(by rw [hown] at hk;cases hk),hL.below hb,⟨hb.mono ww,fun k hk _ _ _=>hb.block k hk,fun k hk=>.inl hk⟩,hF.row.lt,hF.prt.lt,fun k hk=>?_,ww⟩
 left
 cases lv with
 | none=>exact absurd hk (fun h=>h)
 | some v=>
  rcases hk with rfl | hk
  ·exact (LvAt.box hL).lt
  ·exact ((LvAt.own hL).blk hk).1
theorem BW.listO(h:BW w0 g pb w A n cc p op lv W at_ P B5 vO lv'){c:List Ins}{m:Nat}{W':World}{P':List Int}{v2:Option LV}(fr:FR w0 g pb W' A n cc m P')(lvs:LvOk w0.heap.size pb W' v2)(ext:LvExt c at_ m (some vO) v2)(kx:KX w0.heap.size g pb (some vO) v2 W W'):∃ vO',v2=some vO'∧BW w0 g pb w A n cc p op lv W' m P' B5 vO' lv'∧∃ X,vO'.L=vO.L++X∧(∀ x∈X,∃ k:Nat,x=(k:Int)∧at_≤k∧k < m∧oI c k=30)∧vO'.n+at_≤vO.n+m:=by
 obtain⟨vO',X,rfl,e1,e2,e3,e4⟩:=ext
 have hg:=h.gw
 have hp:=h.pw
 have hnb:∀ k,LvBlk lv' k→¬ LvBlk (some vO) k:=fun k hk hk2=>by
  rcases hk2 with h1 | h1
  ·rw [h.lb] at h1
   rcases h.lw k hk with h2 | h2 <;> omega
  ·rcases h.lw k hk with h2 | h2
   ·have:=h.lown k h1;omega
   ·exact h2.2 h1
 have hn1:¬ LvBlk (some vO) w.heap.size:=fun hk=>by
  rcases hk with h1 | h1
  ·rw [h.lb] at h1;omega
  ·have:=h.lown _ h1;omega
 have hn2:¬ LvBlk (some vO) (w.heap.size+1):=fun hk=>by
  rcases hk with h1 | h1
  ·rw [h.lb] at h1;omega
  ·have:=h.lown _ h1;omega
 have hsz:=h.kx.below.size
 refine⟨vO',rfl,⟨fr,kx.rowK h.rR (by omega) (by omega) hn1,kx.rowK h.rB (by omega) (by omega) hn2,lvs,e1.trans h.lb,fun k hk=>?_,?_,⟨h.kx.below.trans kx.below,fun k hk h1 h2 h3=>(kx.keep k (by omega) h1 h2 (fun hb=>?_)).trans (h.kx.keep k hk h1 h2 h3),h.kx.fresh⟩,h.gw,h.pw,fun k hk=>?_,h.ww⟩,X,e2,e3,e4⟩
 ·rcases kx.fresh k (.inr hk) with h1 | h1
  ·rcases h1 with h1 | h1
   ·have h2:=(lvs:LvAt _ _ _ _).own.ne_row (lvs:LvAt _ _ _ _).box (by decide) k hk
    rw [h1,←e1] at h2
    exact absurd rfl h2
   ·exact h.lown k h1
  ·have:=h.lo.box.lt
   rw [h.lb] at this
   omega
 ·have hl:=h.lvs
  cases lv' with
  | none=>trivial
  | some v=>
   have hb1:=hnb v.lb (.inl rfl)
   refine⟨LvAt.le hl,(kx.keep _ (LvAt.box hl).lt (LvOk.ne_g (lv:=some v) hl h.fr.row _ (.inl rfl)) (LvAt.ne_pb hl h.fr.prt) hb1).trans (LvAt.box hl),⟨(LvAt.own hl).1,?_⟩,LvAt.ne hl⟩
   rcases (LvAt.own hl).2 with h5 | ⟨ob,cap,cur,f1,f2,f3,f4⟩
   ·exact .inl h5
   ·have ho:(Value.slice v.A v.n v.c).ownBlock=some ob:=by rw [f1];rfl
    exact .inr ⟨ob,cap,cur,f1,f2,(kx.keep ob ((LvAt.own hl).blk ho).1 (LvOk.ne_g (lv:=some v) hl h.fr.row _ (.inr ho)) (LvAt.ne hl ob ho) (hnb ob (.inr ho))).trans f3,f4⟩
 ·rcases hb with h4 | h4
  ·rw [h.lb] at h4;omega
  ·have:=h.lown k h4;omega
 ·rcases h.lw k hk with h1 | h1
  ·exact .inl h1
  ·refine .inr ⟨h1.1,fun hk2=>?_⟩
   rcases kx.fresh k (.inr hk2) with h2 | h2
   ·exact hnb k hk h2
   ·have hl:=h.lvs
    cases lv' with
    | none=>exact hk
    | some v=>
     rcases hk with h3 | h3
     ·have:=(LvAt.box hl).lt;omega
     ·have:=((LvAt.own hl).blk h3).1;omega
end
theorem set_two{P:List Int}{p m:Nat}{a b:Int}(hp:p < P.length)(hm:m < P.length)(hne:p≠m):gi ((P.set p a).set m b) p=a∧∀ j,j≠p→j≠m→gi ((P.set p a).set m b) j=gi P j:=by
 refine⟨?_,fun j h1 h2=>?_⟩
 ·simp [gi,List.getD,List.getElem?_set,hp,Ne.symm hne]
 ·simp [gi,List.getD,List.getElem?_set,Ne.symm h1,Ne.symm h2]
section
variable {w0 : World} {g pb : Nat} {w : World} {A : Option Addr} {n cc p : Nat} {op : Int} {lv : Option LV} {W : World} {at_ : Nat} {P : List Int} {B5 : Array Value} {vO : LV} {lv' : Option LV}
theorem BW.listL(h:BW w0 g pb w A n cc p op lv W at_ P B5 vO lv'){m:Nat}{W':World}{P':List Int}{v2:Option LV}(fr:FR w0 g pb W' A n cc m P')(lvs:LvOk w0.heap.size pb W' v2)(kx:KX w0.heap.size g pb lv' v2 W W'):BW w0 g pb w A n cc p op lv W' m P' B5 vO v2:=by
 have hg:=h.gw
 have hp:=h.pw
 have hsz:=h.kx.below.size
 have hn0:¬ LvBlk lv' w.heap.size:=fun hk=>by rcases h.lw _ hk with h1 | h1 <;> omega
 have hn1:¬ LvBlk lv' (w.heap.size+1):=fun hk=>by rcases h.lw _ hk with h1 | h1 <;> omega
 have hn2:¬ LvBlk lv' (w.heap.size+1+1):=fun hk=>by rcases h.lw _ hk with h1 | h1 <;> omega
 have hno:∀ k,(Value.slice vO.A vO.n vO.c).ownBlock=some k→¬ LvBlk lv' k:=fun k hk hb=>by
  rcases h.lw _ hb with h1 | h1
  ·have:=h.lown k hk;omega
  ·exact h1.2 hk
 have hbox:=h.lo.box
 rw [h.lb] at hbox
 refine⟨fr,kx.rowK h.rR (by omega) (by omega) hn0,kx.rowK h.rB (by omega) (by omega) hn1,⟨h.lo.le,?_,⟨h.lo.own.1,?_⟩,h.lo.ne⟩,h.lb,h.lown,lvs,h.kx.trans kx,h.gw,h.pw,fun k hk=>?_,h.ww⟩
 ·rw [h.lb]
  exact kx.rowK hbox (by omega) (by omega) hn2
 ·rcases h.lo.own.2 with h5 | ⟨ob,cap,cur,f1,f2,f3,f4⟩
  ·exact .inl h5
  ·have ho:(Value.slice vO.A vO.n vO.c).ownBlock=some ob:=by rw [f1];rfl
   have h6:=h.lown ob ho
   exact .inr ⟨ob,cap,cur,f1,f2,(kx.keep ob (h.lo.own.blk ho).1 (by omega) (by omega) (hno ob ho)).trans f3,f4⟩
 ·rcases kx.fresh k hk with h1 | h1
  ·exact h.lw k h1
  ·refine .inr ⟨?_,fun ho=>?_⟩
   ·have:=hbox.lt;omega
   ·have:=(h.lo.own.blk ho).1;omega
end
structure CutB (w0:World) (g pb:Nat) (w:World) (A:Option Addr) (n cc:Nat) (c:List Ins) (f d p:Nat) (op:Int) (P0:List Int) (lv:Option LV) (wx:World) (last m:Nat) (P:List Int) (B5:Array Value) (vO:LV) (lv':Option LV) (t:Tr):Prop where
 bw:BW w0 g pb w A n cc p op lv wx m P B5 vO lv'
 res:blkP c f d lv.isSome p=if m < c.length∧oI c m=31 then .ok t (m+1) else .bad m
 hm:p < m∧m≤n∧p≤last∧last < m
 hl:oI c last≠30
 lvL:∀ x∈vO.L,∃ k:Nat,x=(k:Int)∧p+1≤k∧k < m∧oI c k=30
 lvn:vO.n≤1024
 part:m < c.length→oI c m=31→∀ P',gi P' last=(m:Int)→(∀ k,k≠last→k≠m→¬ (p+1≤k∧k < m∧oI c k=30)→gi P' k=gi P k)→PartOk P' p t
 same:∀ k,k < p∨m≤k→gi P k=gi P0 k
 ext:LvExt c p m lv lv'
 b5:∃ A5 n5 c5 A6 n6 c6,B5=#[.int .i64 op,.int .i64 (p:Int),.int .i64 0,.slice A5 n5 c5,.slice A6 n6 c6]
theorem gi_setE2{P:List Int}{i:Nat}(h:i < P.length)(x:Int):gi (P.set i x) i=x:=by simp [gi,List.getD,h]
theorem gi_setN2{P:List Int}{i j:Nat}(h:j≠i)(x:Int):gi (P.set i x) j=gi P j:=by simp [gi,List.getD,List.getElem?_set,Ne.symm h]
theorem list_sel{w0:World}{g pb:Nat}{w W w':World}{A:Option Addr}{n cc p m:Nat}{c:List Ins}{op:Int}{lv sel:Option LV}{P:List Int}{B5:Array Value}{a:Tr}{e:Ending}
  (hB:BW w0 g pb w A n cc p op lv W (p+1) P B5 ⟨w.heap.size+1+1,none,0,0,[]⟩ lv) (hs:sel=if op=29 then some ⟨w.heap.size+1+1,none,0,0,[]⟩ else lv)
  (hr:DoesF w0 g pb W A n cc c (p+1) P sel (ResL W) (.ok a m) e w') (hm:m≤1024) :
  ∃ A5 n5 c5,e=.returned (.slice A5 n5 c5)∧∃ P' vO' lv',BW w0 g pb w A n cc p op lv w' m P' B5 vO' lv'∧(∀ k,k < p+1∨m≤k→gi P' k=gi P k)∧PartOk P' (p+1) a∧(∀ x∈vO'.L,∃ k:Nat,x=(k:Int)∧p+1≤k∧k < m∧oI c k=30)∧vO'.n≤1024∧LvExt c (p+1) m lv lv'∧(op≠29→vO'.n=0∧vO'.L=[]):=by
 obtain⟨⟨A5,n5,c5,rfl⟩,P',v2,f1,f2,f3,f4,f5,f6⟩:=hr
 refine⟨A5,n5,c5,rfl,?_⟩
 by_cases h29:op=29
 ·rw [if_pos h29] at hs
  subst hs
  obtain⟨vO',rfl,hbw,X,hx1,hx2,hx3⟩:=hB.listO f1 f4 f5 f6
  have hx4:vO'.n+(p+1)≤0+m:=hx3
  refine⟨P',vO',lv,hbw,f2,f3,fun x hx=>hx2 x (by rw [hx1] at hx;exact hx),by omega,?_,fun h=>absurd h29 h⟩
  have h1:=(LvExt.refl c (p+1) lv)
  cases lv with
  | none=>rfl
  | some v=>exact⟨v,[],rfl,rfl,by simp,fun x hx=>absurd hx List.not_mem_nil,by obtain⟨_,_,_,_,_,_,h⟩:=h1;omega⟩
 ·rw [if_neg h29] at hs
  subst hs
  exact⟨P',_,v2,hB.listL f1 f4 f6,f2,f3,fun x hx=>absurd hx List.not_mem_nil,Nat.zero_le _,f5,fun _=>⟨rfl,rfl⟩⟩
theorem grownBy_setRow2(w:World)(g:Nat)(cs:Array Value):w.grownBy (w.setRow g cs) (some g):=⟨rfl,rfl,rfl,by rw [size_setRow];exact Nat.le_refl _,fun k hk hne=>setRow_other w g k cs (fun e=>hne (congrArg some e))⟩
theorem BW.fin{w0:World}{g pb:Nat}{w:World}{A:Option Addr}{n cc p:Nat}{op:Int}{lv:Option LV}{W:World}{at_:Nat}{P:List Int}{B5:Array Value}{vO:LV}{lv':Option LV}(h:BW w0 g pb w A n cc p op lv W at_ P B5 vO lv')(cs:Array Value):FR w0 g pb (W.setRow w.heap.size cs) A n cc at_ P∧LvOk w0.heap.size pb (W.setRow w.heap.size cs) lv'∧KX w0.heap.size g pb lv lv' w (W.setRow w.heap.size cs):=by
 have g2:=grownBy_setRow2 W w.heap.size cs
 have hg:=h.gw
 have hp:=h.pw
 have hB:∀ k,some w.heap.size=some k→w0.heap.size≤k:=fun k hk=>by injection hk with hk;have:=h.ww;omega
 exact⟨h.fr.grown g2 (fun e=>by injection e;omega) (fun e=>by injection e;omega) hB,h.lvs.grown g2 (fun k hk e=>by injection e with e;rcases h.lw k hk with h1 | h1 <;> omega),h.kx.grown g2 (fun k hk=>by injection hk with hk;left;omega) hB h.ww⟩
theorem hA5(a b c:Int)(A D:Option Addr)(n m k j:Nat):(#[Value.int .i64 a,.int .i64 b,.int .i64 c,.slice A n m,.slice D k j]:Array Value).all (·.oneCell')=true:=by simp [Value.oneCell']
theorem hI5(a b c:Int)(A D:Option Addr)(n m k j:Nat):(Tryz.prog.info? 264).map (·.size)=some (#[Value.int .i64 a,.int .i64 b,.int .i64 c,.slice A n m,.slice D k j]:Array Value).size:=by kernel_rfl
theorem block_of{f:Nat}(hL:LstC f):BlkC f:=by
 intro w0 A n cc c hc0 hn g pb w d lv p P hF hLv hFw hp hd hf hop
 have HL:=Lib.hid hL
 clear hL
 have hlen:=hc0.1
 have Hlen:=Lib.hid hlen
 clear hlen
 have Hw0:=Lib.hid hF.base.size
 obtain⟨e0,e1,e2⟩:=hF.cells
 have hglt:=hF.row.lt
 have hcodes:=hF.codes hc0
 obtain⟨cb,off,rfl,hcb,hcell⟩:=hcodes.get hp
 have x0:w.cell? ⟨cb,off+p * 2,none⟩=some (.int .i64 (oI c p)):=(hcell p hp).1
 clear hcell hcodes
 obtain⟨op,hopd⟩:∃ op,op=oI c p:=⟨_,rfl⟩
 rw [←hopd] at x0 hop
 have Hop:=Lib.hid hopd
 clear hopd
 have HF:=Lib.hid hF
 have HLv:=Lib.hid hLv
 have HFw:=Lib.hid hFw
 clear hF hLv hFw
 by_cases h8:d < 8
 ·have d1:decide ((d:Int)+1≤8)=true:=decide_eq_true (by omega)
  have d1':decide ((d:Int) < 8)=true:=decide_eq_true (by omega)
  have d1'':decide (d < 8)=true:=decide_eq_true (by omega)
  go_enter Tryz.func179,Tryz.ntmps179
  go_wp2_with fail
  obtain⟨w1,hw1⟩:∃ w1,w1=w.alloc (.cells #[.int .i64 0,.int .i64 0,.int .i64 0,.slice none 0 0,.slice none 0 0] 264):=⟨_,rfl⟩
  have k1:Below w.heap.size w w1:=by rw [hw1];exact balloc (Below.refl _ _) _
  have hR1:rowV w1 w.heap.size 264 #[.int .i64 0,.int .i64 0,.int .i64 0,.slice none 0 0,.slice none 0 0]:=by rw [hw1];exact rowV.new w _ _
  have hs1:w1.heap.size=w.heap.size+1:=by rw [hw1];simp
  rw [←hw1]
  clear hw1 e0 e1 e2
  refine (demandF_ok _ _ _).mono ?_
  rintro e w2 ⟨rfl,hw2⟩
  obtain rfl:=hw2.symm
  have HF1:=Lib.hid (HF.out.below k1)
  have HLv1:=Lib.hid (HLv.out.below k1)
  have x1:w1.cell? ⟨cb,off+p * 2,none⟩=some (.int .i64 op):=(k1.cell (p:=⟨cb,off+p * 2,none⟩) hcb).trans x0
  obtain⟨e0,e1,e2⟩:=HF1.out.cells
  have hglt1:=HF1.out.row.lt
  have hcb1:cb < w1.heap.size:=by omega
  have HR1:=Lib.hid (And.intro hR1 (And.intro hs1 k1))
  clear hR1 k1 x0
  go_wp2_with fail
  go_region
  clear e0 e1 e2 x1 hglt1 hcb1
  obtain⟨w4,h4,g4,r4,k4,o4,l4⟩:=blk_boxes (op:=op) (p:=p) HR1.out.1 HR1.out.2.1 HR1.out.2.2
  have HF4:=Lib.hid (HF.out.below g4)
  have HLv4:=Lib.hid (HLv.out.below g4)
  have Hbx:=Lib.hid (And.intro r4 (And.intro k4 (And.intro o4 (And.intro l4 g4))))
  have y4:=(five_cellsV k4).1
  have y4b:=(five_cellsV k4).2.1
  clear r4 k4 o4 l4 g4 HR1
  go_upto_region 4 with fail
  rw [←h4]
  clear h4
  have HB4:=Lib.hid (BW.start (op:=op) HF.out HLv.out Hbx.out.2.2.2.2 Hbx.out.1 Hbx.out.2.1 Hbx.out.2.2.1)
  clear Hbx HF4 HLv4
  have HFwp:=Lib.hid (HFw.out.ext (LvExt.widen c p lv))
  obtain⟨sel,hsel⟩:∃ s:Option LV,s=if op=29 then some ⟨w.heap.size+1+1,none,0,0,[]⟩ else lv:=⟨_,rfl⟩
  have Hsel:=Lib.hid hsel
  clear hsel
  have Hopc:=Lib.hid hop
  clear hop
  obtain⟨b29,hb29⟩:∃ b,b=(op==29):=⟨_,rfl⟩
  have Hb29:=Lib.hid hb29
  go_upto_if 37 with fail
  go_cut [2] (fun s2 wx=>s2=lvPtr sel∧wx=w4)
  case first=>
   as_aux_lemma=>
    rcases Hopc.out with h27 | h29
    ·have q27:(op==29)=false:=by rw [h27];rfl
     have hs:sel=lv:=by rw [Hsel.out,if_neg (by omega)]
     go_wp2_with fail
     go_meet
     exact⟨by rw [hs],rfl⟩
    ·have q29:(op==29)=true:=by rw [h29];rfl
     have hs:sel=some ⟨w.heap.size+1+1,none,0,0,[]⟩:=by rw [Hsel.out,if_pos h29]
     go_wp2_with fail
     go_meet
     exact⟨by rw [hs];rfl,rfl⟩
  case rest=>
   as_aux_lemma=>
    obtain⟨rfl,rfl⟩:=hcut
    clear hb29 Hb29 y4 y4b
    obtain⟨e0,e1,e2⟩:=HB4.out.fr.cells
    have f1:=frozen_rowV' HB4.out.fr.row 1
    have HB5:=Lib.hid (HB4.out.setAt (p+1))
    have hB50:=HB5.out
    have hcall:=HL.out w0 (some ⟨cb,off,none⟩) n cc c hc0 hn g pb _ (d+1) sel (p+1) P HB5.out.fr (by rw [Hsel.out];split;exact HB5.out.lo;exact HB5.out.lvs) (by rw [Hsel.out];split;exact Nat.zero_le _;exact HFwp.out) (by omega) (by omega) (by omega)
    clear hB50
    have hsome:sel.isSome=(lv.isSome || decide (op=29)):=by
     rw [Hsel.out]
     by_cases h29:op=29
     ·rw [if_pos h29,decide_eq_true h29];simp
     ·rw [if_neg h29,decide_eq_false h29];simp
    rw [hsome] at hcall
    clear hsome
    have HC:=Lib.hid hcall
    clear hcall
    have Hblk:Hid (blkP c f d lv.isSome p=(lst c f (d+1) (lv.isSome || decide (op=29)) (p+1)).bind fun a m=>
      if m < c.length∧op=27∧oI c m=28 then
       (lst c f (d+1) lv.isSome (m+1)).bind fun e q=>if q < c.length∧oI c q=31 then .ok (.ife a e .nil) (q+1) else .bad q
      else if m < c.length∧oI c m=31 then .ok (if op=27 then .ift a .nil else .lp a .nil) (m+1) else .bad m):=by
     show _=_
     unfold blkP
     rw [if_neg (by omega),Hop.out]
    cases hl:lst c f (d+1) (lv.isSome || decide (op=29)) (p+1) with
    | bad q=>
     rw [hl] at HC Hblk
     clear hl
     go_wp2_with fail
     refine HC.out.mono ?_
     rintro e w6 ⟨rfl,hb6⟩
     refine⟨rfl,?_⟩
     rw [Hblk.out]
     exact⟨rfl,HB4.out.kx.below.trans ((belowCell (Below.refl _ _) HB4.out.fr.hg _).trans hb6)⟩
    | ok a m=>
     obtain⟨fa,ka,la,-,-⟩:=lst_ok hl
     rw [hl] at HC Hblk
     have Hfa:=Lib.hid fa
     have Hka:=Lib.hid ka
     have hpm:p < m:=by omega
     have hmn:m≤n:=by have:=Hlen.out;have:=la (by omega);omega
     clear hl fa ka la
     go_wp2_with fail
     refine HC.out.mono ?_
     intro e w6 hr
     obtain⟨A5,n5,c5,rfl,P6,vO6,lv6,hB6,hs6,hp6,hx6,hn6,hext6,hno6⟩:=list_sel HB5.out Hsel.out hr (by omega)
     clear hr HC HB5 e0 e1 e2 f1
     have HB6:=Lib.hid hB6
     have Hs6:=Lib.hid (And.intro hs6 (And.intro hp6 (And.intro hx6 (And.intro hn6 (And.intro hext6 hno6)))))
     have fB:=frozen_rowV' hB6.rB 3
     have HB7:=Lib.hid (hB6.setB 3 (.slice A5 n5 c5))
     clear hs6 hp6 hx6 hn6 hext6 hno6 hB6
     obtain⟨a0,a1,a2,a3,a4⟩:=five_cellsV HB6.out.rB
     obtain⟨b0,b1,b2,b3,b4⟩:=five_cellsV HB7.out.rB
     go_upto_region 9 with fail
     clear a0 a1 a2 a3 a4 fB HB6 b3 b4 b2
     obtain⟨W7,hW7⟩:∃ W,W=w6.setCell ⟨w.heap.size+1,3,none⟩ (.slice A5 n5 c5):=⟨_,rfl⟩
     rw [←hW7] at HB7 b0 b1 ⊢
     clear hW7
     go_cut [80] from 52 to 80 (fun s80 wx=>s80=.bool (decide (m < n∧op=27∧oI c m=28))∧∃ q,wx=W7.drewN q)
     case first=>
      as_aux_lemma=>
       obtain⟨e0,e1,e2⟩:=HB7.out.fr.cells
       rcases Hopc.out with h27 | h29
       ·by_cases hmn:m < n
        ·have dm:decide ((m:Int) < (n:Int))=true:=by simp;omega
         have dm':decide (m < n)=true:=by simp;omega
         have xm:W7.cell? ⟨cb,off+m * 2,none⟩=some (.int .i64 (oI c m)):=by
          obtain⟨b',off',h1,-,h2⟩:=(HB7.out.fr.codes hc0).get hmn
          injection h1 with h1
          injection h1 with h1 h1'
          subst h1 h1'
          exact (h2 m hmn).1
         have q27:(op==27)=true:=by rw [h27];rfl
         have Hd:=Lib.hid (show decide (m < n∧op=27∧oI c m=28)=decide (oI c m=28) from decide_eq_decide.2 ⟨fun h=>h.2.2,fun h=>⟨hmn,h27,h⟩⟩)
         obtain⟨om,hom⟩:∃ om,om=oI c m:=⟨_,rfl⟩
         rw [←hom] at xm
         have Hom:=Lib.hid hom
         clear h27 hom
         by_cases h28:om=28
         ·have q28:(om==28)=true:=by rw [h28];rfl
          have Hd2:Hid (decide (m < n∧op=27∧oI c m=28)=true):=by show _=_;rw [Hd.out,←Hom.out,decide_eq_true h28]
          clear h28
          go_quiet (fail)
          go_wp2_with fail
          go_meet
          exact⟨by rw [Hd2.out],_,rfl⟩
         ·have q28:(om==28)=false:=by simpa using h28
          have Hd2:Hid (decide (m < n∧op=27∧oI c m=28)=false):=by show _=_;rw [Hd.out,←Hom.out,decide_eq_false h28]
          clear h28
          go_quiet (fail)
          go_wp2_with fail
          go_meet
          exact⟨by rw [Hd2.out],_,rfl⟩
        ·have dm:decide ((m:Int) < (n:Int))=false:=by simp;omega
         have dm':decide (m < n)=false:=by simp;omega
         have q27:(op==27)=true:=by rw [h27];rfl
         have Hd2:=Lib.hid (show decide (m < n∧op=27∧oI c m=28)=false from decide_eq_false (fun h=>hmn h.1))
         clear h27
         go_quiet (fail)
         go_wp2_with fail
         go_meet
         exact⟨by rw [Hd2.out],_,rfl⟩
       ·have q27:(op==27)=false:=by rw [h29];rfl
        have Hd2:=Lib.hid (show decide (m < n∧op=27∧oI c m=28)=false from decide_eq_false (fun h=>by have:=h.2.1;omega))
        clear h29
        go_quiet (fail)
        go_wp2_with fail
        go_meet
        exact⟨by rw [Hd2.out],_,rfl⟩
     case rest=>
      as_aux_lemma=>
       obtain⟨hs80,q8,rfl⟩:=hcut
       obtain⟨bE,hbE⟩:∃ b,b=decide (m < n∧op=27∧oI c m=28):=⟨_,rfl⟩
       rw [←hbE] at hs80
       subst hs80
       have HbE:=Lib.hid hbE
       have HB8:=Lib.hid (HB7.out.drewN q8)
       clear HB7 b0 b1 hbE
       go_upto_if 80 with fail
       go_cut [9] from 81 to 106 (fun s9 wx=>∃ (last m':Nat) (Px:List Int) (Bx:Array Value) (vOx:LV) (lvx:Option LV) (t:Tr),s9=.int .i64 (last:Int)∧Hid (CutB w0 g pb w (some ⟨cb,off,none⟩) n cc c f d p op P lv wx last m' Px Bx vOx lvx t))
       case first=>
        as_aux_lemma=>
         obtain⟨W8,hW8⟩:∃ W,W=W7.drewN q8:=⟨_,rfl⟩
         rw [←hW8] at HB8 ⊢
         clear hW8
         have hcl:=Hlen.out
         cases bE with
         | false=>
          clear hcl
          go_wp2_with fail
          go_meet
          have hcl:=Hlen.out
          have hnE:=of_decide_eq_false HbE.out.symm
          have hop:=Hopc.out
          have hka:=Hka.out
          obtain⟨s1,s2,s3,s4,s5,s6⟩:=Hs6.out
          refine⟨p,m,P6,_,vO6,lv6,(if op=27 then .ift a .nil else .lp a .nil),rfl,Lib.hid ⟨HB8.out,?_,⟨hpm,hmn,Nat.le_refl _,hpm⟩,by rw [←Hop.out];omega,s3,s4,fun h1 h2 P' h3 h4=>?_,fun k hk=>s1 k (by omega),?_,⟨_,_,_,_,_,_,rfl⟩⟩⟩
          ·rw [Hblk.out]
           show (if m < c.length∧op=27∧oI c m=28 then _ else _)=_
           rw [if_neg (by rw [hcl];exact hnE)]
          ·have hpa:PartOk P' (p+1) a:=s2.same Hfa.out (fun k k1 k2 k3 k4=>h4 k (by omega) (by omega) (fun hk=>k3 hk.2.2))
           have hpp:gi P' p=(p+1+a.size:Nat):=by rw [h3,hka]
           split
           ·exact⟨hpp,hpa,trivial⟩
           ·exact⟨hpp,hpa,trivial⟩
          ·exact (LvExt.widen c p lv).trans s5 (by omega) (by omega)
         | true=>
          have hE:=of_decide_eq_true HbE.out.symm
          have hop:=hE.2.1
          have hE1:=hE.1
          have HE:=Lib.hid hE
          clear hE
          have hlen6:P6.length=n:=HB8.out.fr.len
          have pp:=HB8.out.fr.prt.cell (j:=p) 0 (by omega)
          have fp:=HB8.out.fr.prt.frozen p
          obtain⟨e0,e1,e2⟩:=HB8.out.fr.cells
          have HB9:=Lib.hid ((HB8.out.setP p (m:Int)).drewN 1)
          have hsl:sel=lv:=by rw [Hsel.out,if_neg (by omega)]
          have Hsl:=Lib.hid hsl
          have Hop27:=Lib.hid hop
          clear hsl hop hcl
          go_wp2_with fail
          go_region
          obtain⟨W9,hW9⟩:∃ W,W=(W8.setCell ⟨pb,p,none⟩ (.int .i64 (m:Int))).drew:=⟨_,rfl⟩
          have HB9:Hid (BW w0 g pb w (some ⟨cb,off,none⟩) n cc p op lv W9 m (P6.set p (m:Int)) #[.int .i64 op,.int .i64 (p:Int),.int .i64 0,.slice A5 n5 c5,.slice none 0 0] vO6 lv6):=by rw [hW9];exact HB9.out
          rw [←hW9]
          clear hW9 pp fp e0 e1 e2 HB8
          obtain⟨e0,e1,e2⟩:=HB9.out.fr.cells
          have f1:=frozen_rowV' HB9.out.fr.row 1
          have HB10:=Lib.hid (HB9.out.setAt (m+1))
          have hcall:=HL.out w0 (some ⟨cb,off,none⟩) n cc c hc0 hn g pb _ (d+1) lv6 (m+1) _ HB10.out.fr HB10.out.lvs ((HFwp.out.ext Hs6.out.2.2.2.2.1).ext (LvExt.widen c m lv6)) (by omega) (by omega) (by omega)
          rw [←Hs6.out.2.2.2.2.1.some,Hs6.out.2.2.2.2.1.ptr,←Hsl.out] at hcall
          have HC:=Lib.hid hcall
          clear hcall
          cases hl:lst c f (d+1) sel.isSome (m+1) with
          | bad q=>
           rw [hl] at HC
           have Hres:Hid (blkP c f d lv.isSome p=.bad q):=by
            show _=_
            have hcl:=Hlen.out
            rw [Hblk.out]
            show (if m < c.length∧op=27∧oI c m=28 then _ else _)=_
            rw [if_pos (by rw [hcl];exact HE.out),←Hsl.out,hl]
            rfl
           clear hl
           go_wp2_with fail
           refine HC.out.mono ?_
           rintro e w6 ⟨rfl,hb6⟩
           refine⟨rfl,?_⟩
           rw [Hres.out]
           exact⟨rfl,HB9.out.kx.below.trans ((belowCell (Below.refl _ _) HB9.out.fr.hg _).trans hb6)⟩
          | ok e q=>
           obtain⟨fe,ke,le,-,-⟩:=lst_ok hl
           rw [hl] at HC
           have Hres:Hid (blkP c f d lv.isSome p=if q < c.length∧oI c q=31 then .ok (.ife a e .nil) (q+1) else .bad q):=by
            show _=_
            have hcl:=Hlen.out
            rw [Hblk.out]
            show (if m < c.length∧op=27∧oI c m=28 then _ else _)=_
            rw [if_pos (by rw [hcl];exact HE.out),←Hsl.out,hl]
            rfl
           have Hfe:=Lib.hid fe
           have Hke:=Lib.hid ke
           have hmq:m < q:=by omega
           have hqn:q≤n:=by have:=Hlen.out;have:=le (by omega);omega
           clear hl fe ke le
           go_wp2_with fail
           refine HC.out.mono ?_
           intro en w10 hr
           obtain⟨⟨A7,n7,c7,rfl⟩,P7,lv7,g1,g2,g3,g4,g5,g6⟩:=hr
           have hB11:=HB10.out.listL g1 g4 g6
           clear HC HB10 e0 e1 e2 f1 g1 g4 g6
           have HB11:=Lib.hid hB11
           have Hg:=Lib.hid (And.intro g2 (And.intro g3 g5))
           obtain⟨a0,a1,a2,a3,a4⟩:=five_cellsV hB11.rB
           have fB:=frozen_rowV' hB11.rB 4
           have HB12:=Lib.hid (hB11.setB 4 (.slice A7 n7 c7))
           clear g2 g3 g5 hB11
           go_wp2_with fail
           go_meet
           have hka:=Hka.out
           have hke:=Hke.out
           obtain⟨s1,s2,s3,s4,s5,s6⟩:=Hs6.out
           obtain⟨g2,g3,g5⟩:=Hg.out
           have hop27:=Hop27.out
           refine⟨m,q,P7,_,vO6,lv7,.ife a e .nil,rfl,Lib.hid ⟨HB12.out,Hres.out,⟨by omega,hqn,by omega,hmq⟩,by rw [HE.out.2.2];decide,?_,s4,fun h1 h2 P' h3 h4=>?_,fun k hk=>?_,?_,⟨_,_,_,_,_,_,rfl⟩⟩⟩
           ·intro x hx
            rw [(s6 (by omega)).2] at hx
            exact absurd hx List.not_mem_nil
           ·refine⟨?_,?_,s2.same Hfa.out (fun k k1 k2 k3 k4=>?_),?_,trivial⟩
            ·rw [h4 p (by omega) (by omega) (by omega),g2 p (by omega),gi_setE2 (by omega),hka]
            ·rw [show p+1+a.size=m by omega,h3,hke];congr 1;omega
            ·rw [h4 k (by omega) (by omega) (fun h=>k3 h.2.2),g2 k (by omega),gi_setN2 (by omega)]
            ·rw [show p+2+a.size=m+1 by omega]
             exact g3.same Hfe.out (fun k k1 k2 k3 k4=>h4 k (by omega) (by omega) (fun h=>k3 h.2.2))
           ·have hk1:k < p∨q≤k:=hk
            rw [g2 k (by omega),gi_setN2 (by omega),s1 k (by omega)]
           ·exact (((LvExt.widen c p lv).trans s5 (by omega) (by omega)).trans (LvExt.widen c m lv6) (by omega) (by omega)).trans g5 (by omega) (by omega)
       case rest=>
        as_aux_lemma=>
         obtain⟨last,m2,Px,Bx,vOx,lvx,t,rfl,HCx⟩:=hcut
         clear HB8 Hs6 Hfa Hka Hblk HbE HFwp HB4 hpm hmn HL
         obtain⟨B5,n5',B5c,B6,n6',B6c,hBx⟩:=HCx.out.b5
         subst hBx
         obtain⟨hm1,hm2,hm3,hm4⟩:=HCx.out.hm
         obtain⟨e0,e1,e2⟩:=HCx.out.bw.fr.cells
         obtain⟨b0,b1,b2,b3,b4⟩:=five_cellsV HCx.out.bw.rB
         clear b0 b2 b3 b4
         by_cases hmn:m2 < n
         ·have dm:decide ((m2:Int) < (n:Int))=true:=by simp;omega
          have dm':decide (m2 < n)=true:=by simp;omega
          have xm:wc.cell? ⟨cb,off+m2 * 2,none⟩=some (.int .i64 (oI c m2)):=by
           obtain⟨b',off',h1,-,h2⟩:=(HCx.out.bw.fr.codes hc0).get hmn
           injection h1 with h1
           injection h1 with h1 h1'
           subst h1 h1'
           exact (h2 m2 hmn).1
          obtain⟨om,hom⟩:∃ om,om=oI c m2:=⟨_,rfl⟩
          rw [←hom] at xm
          have Hom:=Lib.hid hom
          clear hom
          by_cases h31:om=31
          ·subst h31
           have Hres:Hid (blkP c f d lv.isSome p=.ok t (m2+1)):=by
            show _=_
            rw [HCx.out.res,if_pos ⟨by have:=Hlen.out;omega,Hom.out.symm⟩]
           clear b1
           go_upto_region 14 with fail
           go_quiet (first | (go_at_call 137;exact (demandF_ok _ _ _).mono fun e w2 h=>⟨h.1,_,h.2⟩))
           obtain⟨w8,hw8⟩:∃ w8,w8=wc.drewN nq:=⟨_,rfl⟩
           have HB8:=Lib.hid (HCx.out.bw.drewN nq)
           rw [←hw8] at HB8 ⊢
           clear hw8 e0 e1 e2 xm
           have hlen6:Px.length=n:=HB8.out.fr.len
           have pp:=HB8.out.fr.prt.cell (j:=last) 0 (by omega)
           have pm:=HB8.out.fr.prt.cell (j:=m2) 0 (by omega)
           have fp:=HB8.out.fr.prt.frozen last
           have fm:=HB8.out.fr.prt.frozen m2
           obtain⟨b0,b1,b2,b3,b4⟩:=five_cellsV HB8.out.rB
           obtain⟨e0,e1,e2⟩:=HB8.out.fr.cells
           have hpm2:last≠m2:=by omega
           have hBa:=HB8.out.setP last (m2:Int)
           have hBb:=HB8.out.setP m2 (p:Int)
           obtain⟨b0a,b1a,b2a,b3a,b4a⟩:=five_cellsV hBa.rB
           obtain⟨b0b,b1b,b2b,b3b,b4b⟩:=five_cellsV hBb.rB
           obtain⟨e0a,e1a,e2a⟩:=hBa.fr.cells
           obtain⟨e0b,e1b,e2b⟩:=hBb.fr.cells
           have ppa:=hBa.fr.prt.cell (j:=m2) 0 (by rw [List.length_set];omega)
           have ppb:=hBb.fr.prt.cell (j:=last) 0 (by rw [List.length_set];omega)
           have fpa:=hBa.fr.prt.frozen m2
           have fpb:=hBb.fr.prt.frozen last
           have HBc:=Lib.hid (hBa.setP m2 (p:Int))
           have HBd:=Lib.hid (hBb.setP last (m2:Int))
           clear hBa hBb b0 b2 b3 b4 b0a b2a b3a b4a b0b b2b b3b b4b dm dm'
           go_wp2_with fail
           go_region
           obtain⟨w9,hw9⟩:∃ w9,w9=((w8.setCell ⟨pb,last,none⟩ (.int .i64 (m2:Int))).setCell ⟨pb,m2,none⟩ (.int .i64 (p:Int))).drew:=⟨_,rfl⟩
           have HB9:=Lib.hid (HBc.out.drewN 1)
           have HB9:Hid (BW w0 g pb w (some ⟨cb,off,none⟩) n cc p op lv w9 m2 ((Px.set last (m2:Int)).set m2 (p:Int)) #[.int .i64 op,.int .i64 (p:Int),.int .i64 0,.slice B5 n5' B5c,.slice B6 n6' B6c] vOx lvx):=by rw [hw9];exact HB9.out
           rw [←hw9]
           clear hw9 HBc HBd HB8 b1 e0 e1 e2 b1a e0a e1a e2a b1b e0b e1b e2b ppa ppb fpa fpb pp pm fp fm
           have HP9:Hid (gi ((Px.set last (m2:Int)).set m2 (p:Int)) last=(m2:Int)∧∀ j,j≠last→j≠m2→gi ((Px.set last (m2:Int)).set m2 (p:Int)) j=gi Px j):=set_two (by omega) (by omega) hpm2
           obtain⟨P9,hP9⟩:∃ P9,P9=(Px.set last (m2:Int)).set m2 (p:Int):=⟨_,rfl⟩
           rw [←hP9] at HB9 HP9
           clear hP9 hlen6
           have o0:w9.cell? ⟨w.heap.size+1+1,0,none⟩=some (.slice vOx.A vOx.n vOx.c):=by have:=cell_rowV HB9.out.lo.box (j:=0) rfl;rw [HB9.out.lb] at this;exact this
           have hvn:vOx.n≤1024:=HCx.out.lvn
           have Hmn:=Lib.hid (And.intro hmn (And.intro hm1 (And.intro hm2 (And.intro hm3 (And.intro hm4 hpm2)))))
           clear hmn hm1 hm3 hm4 hpm2
           go_wp2_with fail
           go_loopw [11,159] (fun _ i wr=>∃ (k:Nat) (Pk:List Int),k≤vOx.n∧i=.int .i64 (k:Int)∧Hid (BW w0 g pb w (some ⟨cb,off,none⟩) n cc p op lv wr m2 Pk #[.int .i64 op,.int .i64 (p:Int),.int .i64 0,.slice B5 n5' B5c,.slice B6 n6' B6c] vOx lvx)∧Hid (∀ j,¬ (p+1≤j∧j < m2∧oI c j=30)→gi Pk j=gi P9 j)) (fun _ i _=>vOx.n-(intOf i).toNat)
           case atStart=>exact⟨0,P9,Nat.zero_le _,rfl,HB9,Lib.hid (fun j _=>rfl)⟩
           case round=>
            as_aux_lemma=>
             clear HB9 o0
             obtain⟨k,Pk,hk,rfl,HBk,HPk⟩:=hrel
             by_cases hkl:k < vOx.n
             ·have d0:decide ((k:Int) < (vOx.n:Int))=true:=by simp;omega
              have d0':decide (k < vOx.n)=true:=by simp;omega
              obtain⟨ob,hA,-,-,hoc⟩:=HBk.out.lo.own.get (fun _=>rfl) (by decide) 0 (by omega)
              have hxl:k < vOx.L.length:=by rw [HBk.out.lo.own.length (fun _=>rfl) (by decide)];exact hkl
              have hmem:vOx.L.getD k 0∈vOx.L:=by rw [List.getD_eq_getElem?_getD,List.getElem?_eq_getElem hxl];exact List.getElem_mem hxl
              have hc0':=hoc k 0 _ hkl rfl
              obtain⟨j,hj0,hj1,hj2,hj3⟩:=HCx.out.lvL _ hmem
              have oc:wr.cell? ⟨ob,k,none⟩=some (.int .i64 (j:Int)):=by
               rw [←hj0]
               have h2:k * 1+0=k:=by omega
               rw [h2] at hc0'
               exact hc0'
              clear hc0' hoc hmem hj0 hxl
              have hlenk:Pk.length=n:=HBk.out.fr.len
              have pj:=HBk.out.fr.prt.cell (j:=j) 0 (by omega)
              have fj:=HBk.out.fr.prt.frozen j
              obtain⟨e0,e1,e2⟩:=HBk.out.fr.cells
              have hjn:j < n:=by omega
              have HBn:=Lib.hid ((HBk.out.setP j (m2:Int)).drewN 1)
              have Hj:=Lib.hid (And.intro hj1 (And.intro hj2 hj3))
              have HA:=Lib.hid hA
              have HLk:=Lib.hid hlenk
              clear hj1 hj2 hj3 hlenk
              rw [hA]
              clear hA
              go_wp2_with fail
              go_region
              obtain⟨w11,hw11⟩:∃ w11,w11=(wr.setCell ⟨pb,j,none⟩ (.int .i64 (m2:Int))).drew:=⟨_,rfl⟩
              have HBn:Hid (BW w0 g pb w (some ⟨cb,off,none⟩) n cc p op lv w11 m2 (Pk.set j (m2:Int)) #[.int .i64 op,.int .i64 (p:Int),.int .i64 0,.slice B5 n5' B5c,.slice B6 n6' B6c] vOx lvx):=by rw [hw11];exact HBn.out
              rw [←hw11]
              clear hw11 e0 e1 e2 pj fj oc HBk
              go_wp2_with fail
              go_roundw
              case rel=>
               refine⟨k+1,_,by omega,by go_num,HBn,Lib.hid (fun i hi=>?_)⟩
               rw [gi_setN2 (fun e=>hi (by rw [e];exact Hj.out)),HPk.out i hi]
              case measure=>(simp [intOf]) <;> omega
             ·have d0:decide ((k:Int) < (vOx.n:Int))=false:=by simp;omega
              have d0':decide (k < vOx.n)=false:=by simp;omega
              obtain⟨e0,e1,e2⟩:=HBk.out.fr.cells
              have f1:=frozen_rowV' HBk.out.fr.row 1
              have hBm:=HBk.out.setAt (m2+1)
              rw [show ((m2+1:Nat):Int)=(m2:Int)+1 by omega] at hBm
              obtain⟨e0',e1',e2'⟩:=hBm.fr.cells
              obtain⟨c0,c1,c2,c3,c4⟩:=five_cellsV hBm.rB
              have fB:=frozen_rowV' hBm.rB 2
              have HBn:=Lib.hid (hBm.setB 2 (.int .i64 ((m2:Int)+1)))
              clear hBm HBk c0 c1 c3 c4
              have HrB:=Lib.hid (show rowV ((wr.setCell ⟨g,1,none⟩ (.int .i64 ((m2:Int)+1))).setCell ⟨w.heap.size+1,2,none⟩ (.int .i64 ((m2:Int)+1))) (w.heap.size+1) 264 #[.int .i64 op,.int .i64 (p:Int),.int .i64 ((m2:Int)+1),.slice B5 n5' B5c,.slice B6 n6' B6c] from HBn.out.rB)
              have HrR:=Lib.hid HBn.out.rR
              go_wp2_with (first | refine wpList_load_row rfl 264 (.tmp 7) rfl _ rfl _ _ _ _ HrB.out Tryz.underlying264 rfl (hI5 _ _ _ _ _ _ _ _ _) ?_ | refine wpList_store_row rfl 264 (.tmp 6) (.tmp 186) rfl _ #[.int .i64 op,.int .i64 (p:Int),.int .i64 ((m2:Int)+1),.slice B5 n5' B5c,.slice B6 n6' B6c] rfl rfl _ _ HrR.out (hI5 _ _ _ _ _ _ _ _ _) rfl (hA5 _ _ _ _ _ _ _ _ _) ?_)
              obtain⟨z0,z1,z2,z3,z4⟩:=five_cellsV (setRow_heap ((wr.setCell ⟨g,1,none⟩ (.int .i64 ((m2:Int)+1))).setCell ⟨w.heap.size+1,2,none⟩ (.int .i64 ((m2:Int)+1))) w.heap.size _ #[.int .i64 op,.int .i64 (p:Int),.int .i64 ((m2:Int)+1),.slice B5 n5' B5c,.slice B6 n6' B6c] _ _ HrR.out)
              have hmm:=Hmn.out
              have hcl:=Hlen.out
              obtain⟨hF,hL,hK⟩:=HBn.out.fin #[.int .i64 op,.int .i64 (p:Int),.int .i64 ((m2:Int)+1),.slice B5 n5' B5c,.slice B6 n6' B6c]
              refine bodyPost_ret (v:=.agg #[.int .i64 op,.int .i64 (p:Int),.int .i64 ((m2:Int)+1),.slice B5 n5' B5c,.slice B6 n6' B6c]) (by simp [results,Tryz.results179,go_sem,z0,z1,z2,z3,z4]) rfl ?_
              rw [Hres.out]
              have h31:=Hom.out
              refine⟨⟨⟨op,(p:Int),(m2:Int)+1,B5,n5',B5c,B6,n6',B6c⟩,rfl⟩,Pk,lvx,hF,fun i hi=>?_,?_,hL,HCx.out.ext.trans (LvExt.widen c m2 lvx) (by omega) (by omega),hK⟩
              ·rw [HPk.out i (by omega),HP9.out.2 i (by omega) (by omega),HCx.out.same i (by omega)]
              ·refine HCx.out.part (by omega) h31.symm Pk ?_ (fun i h1 h2 h3=>?_)
               ·rw [HPk.out last (fun h=>HCx.out.hl h.2.2),HP9.out.1]
               ·rw [HPk.out i h3,HP9.out.2 i h1 h2]
          ·have q31:(om==31)=false:=by simpa using h31
           have Hres:Hid (blkP c f d lv.isSome p=.bad m2):=by
            show _=_
            rw [HCx.out.res,if_neg (by intro h;exact h31 (Hom.out.trans h.2))]
           clear h31
           go_upto_region 14 with fail
           refine wp_region_quiet_tail 28 (by kernel_rfl) (by kernel_rfl) ?_
           simp only [List.take_succ_cons,List.take_zero,List.drop_succ_cons,List.drop_zero]
           repeat (go_big_quiet_step (fail))
           refine wpQuiet_nil ?_
           intro _ hw'
           obtain⟨nr,hw''⟩:=hw'
           subst hw''
           go_wp2_with fail
           refine (demandF_bad _ _ _).mono ?_
           rintro e w2 ⟨rfl,hw2⟩
           subst hw2
           refine⟨rfl,?_⟩
           rw [Hres.out]
           exact⟨rfl,bdrew HCx.out.bw.kx.below nr⟩
         ·have dm:decide ((m2:Int) < (n:Int))=false:=by simp;omega
          have dm':decide (m2 < n)=false:=by simp;omega
          have Hres:Hid (blkP c f d lv.isSome p=.bad m2):=by
           show _=_
           rw [HCx.out.res,if_neg (by intro h;have:=Hlen.out;omega)]
          go_upto_region 14 with fail
          refine wp_region_quiet_tail 28 (by kernel_rfl) (by kernel_rfl) ?_
          simp only [List.take_succ_cons,List.take_zero,List.drop_succ_cons,List.drop_zero]
          repeat (go_big_quiet_step (fail))
          refine wpQuiet_nil ?_
          intro _ hw'
          obtain⟨nr,hw''⟩:=hw'
          subst hw''
          go_wp2_with fail
          refine (demandF_bad _ _ _).mono ?_
          rintro e w2 ⟨rfl,hw2⟩
          subst hw2
          refine⟨rfl,?_⟩
          rw [Hres.out]
          exact⟨rfl,bdrew HCx.out.bw.kx.below nr⟩
 ·have d1:decide ((d:Int)+1≤8)=false:=decide_eq_false (by omega)
  have d1':decide ((d:Int) < 8)=false:=decide_eq_false (by omega)
  have hR:blkP c f d lv.isSome p=.bad p:=by unfold blkP;rw [if_pos (by omega)]
  rw [hR]
  go_enter Tryz.func179,Tryz.ntmps179
  go_wp2_with fail
  refine (demandF_bad _ _ _).mono ?_
  rintro e w2 ⟨rfl,hw2⟩
  subst hw2
  exact⟨rfl,rfl,(balloc (Below.refl _ _) _).mono Hw0.out⟩
end Go.Proofs.YtpaplehcafeeaaaGreatDoor
