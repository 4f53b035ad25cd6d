/- Kb Kc Vh. -/
import Derived.Test.YtpaplehcafeeaaaGreatDoorLE02
import Derived.Test.YtpaplehcafeeaaaGreatDoorLE04
import Derived.Test.YtpaplehcafeeaaaGreatDoorLE08
import Derived.Test.YtpaplehcafeeaaaGreatDoorLE15
import Derived.Test.YtpaplehcafeeaaaGreatDoorLE19
import Derived.Test.YtpaplehcafeeaaaGreatDoorLE05
set_option maxRecDepth 100000
set_option maxHeartbeats 40000000
set_option linter.unusedVariables false
set_option linter.unusedSimpArgs false
namespace Go.Proofs.YtpaplehcafeeaaaGreatDoor
open Go.RowKit Go.Proofs
def kindP(op:Nat):List Bool:=
 if 8≤op∧op≤25∧op≠23 then [true,true,true,true]
 else if op=0∨op=32∨op=33∨op=38 then [true,true,false,false]
 else if op=3∨op=23∨op=26∨op=36 then [true,true,true,false]
 else if op=27∨op=30∨op=29∨op=34∨op=35∨op=37 then [true,false,true,false]
 else if op=28∨op=31 then [true,false,false,false]
 else if op=4 then [true,false,true,true]
 else [false,false,false,false]
def ordP:List (Nat × List Bool):=((List.range 18).map fun k=>(8+k,[true,true,true,true]))++([0,32,33,38].map fun o=>(o,[true,true,false,false]))++([3,23,26,36].map fun o=>(o,[true,true,true,false]))++([27,30,29,34,35,37].map fun o=>(o,[true,false,true,false]))++([28,31].map fun o=>(o,[true,false,false,false]))++[(4,[true,false,true,true])]
def putP(l:List Bool)(x:Nat × List Bool):List Bool:=(((l.set (x.1 * 4) (x.2.getD 0 false)).set (x.1 * 4+1) (x.2.getD 1 false)).set (x.1 * 4+2) (x.2.getD 2 false)).set (x.1 * 4+3) (x.2.getD 3 false)
def shL(m:Nat):List Bool:=(ordP.take m).foldl putP (List.replicate 156 false)
def shV(m:Nat):Array Value:=((shL m).map Value.bool).toArray
theorem shL_all:shL 35=(List.range 39).flatMap kindP:=by decide +kernel
theorem shL_step(m:Fin 35):shL (m+1)=putP (shL m) (ordP.getD m (0,[])):=by revert m;decide +kernel
theorem shV_set(l:List Bool)(j:Nat)(b:Bool):((l.map Value.bool).toArray).setIfInBounds j (.bool b)=((l.set j b).map Value.bool).toArray:=by simp [List.map_set]
theorem sh_step{w:World}{g:Nat}{t:TypeId}(m:Nat)(hm:m < 35)(o:Nat)(b0 b1 b2 b3:Bool)(ho:ordP.getD m (0,[])=(o,[b0,b1,b2,b3]))(r:rowV w g t (shV m)) :
  rowV ((((w.setCell ⟨g,o * 4,none⟩ (.bool b0)).setCell ⟨g,o * 4+1,none⟩ (.bool b1)).setCell ⟨g,o * 4+2,none⟩ (.bool b2)).setCell ⟨g,o * 4+3,none⟩ (.bool b3)) g t (shV (m+1)):=by
 have e:=shL_step ⟨m,hm⟩
 rw [ho] at e
 unfold putP at e
 simp only [List.getD_cons_zero,List.getD_cons_succ] at e
 have q:=(((rowV.set r (o * 4) (.bool b0)).set (o * 4+1) (.bool b1)).set (o * 4+2) (.bool b2)).set (o * 4+3) (.bool b3)
 unfold shV at q ⊢
 rw [shV_set,shV_set,shV_set,shV_set,←e] at q
 exact q
theorem shL_len(m:Fin 36):(shL m).length=156:=by revert m;decide +kernel
theorem sh_cell{w:World}{g:Nat}{t:TypeId}{m:Nat}(hm:m≤35)(r:rowV w g t (shV m)){j:Nat}(hj:j < 156):∃ v,w.cell? ⟨g,j,none⟩=some v:=by
 have hl:=shL_len ⟨m,by omega⟩
 unfold rowV at r
 unfold shV at r
 have hz:j < (shL m).length:=by rw [hl];exact hj
 exact⟨_,by simp [World.cell?,r,hz];rfl⟩
theorem ord_a{o:Nat}(h:8≤o∧o≤25):ordP.getD (o-8) (0,[])=(o,[true,true,true,true]):=by
 have q:∀ k:Fin 18,ordP.getD k (0,[])=(8+k.1,[true,true,true,true]):=by decide +kernel
 have e:=q ⟨o-8,by omega⟩
 rw [show 8+(o-8)=o by omega] at e
 exact e
theorem ord_b{k:Nat}(h:k < 4):∃ o:Nat,o < 39∧ordP.getD (18+k) (0,[])=(o,[true,true,false,false])∧(#[.int .i64 0,.int .i64 32,.int .i64 33,.int .i64 38]:Array Value)[k]?=some (.int .i64 (o:Int)):=by
 rcases k with _ | _ | _ | _ | k
 ·exact⟨0,by decide,by decide +kernel,rfl⟩
 ·exact⟨32,by decide,by decide +kernel,rfl⟩
 ·exact⟨33,by decide,by decide +kernel,rfl⟩
 ·exact⟨38,by decide,by decide +kernel,rfl⟩
 ·omega
theorem ord_c{k:Nat}(h:k < 4):∃ o:Nat,o < 39∧ordP.getD (22+k) (0,[])=(o,[true,true,true,false])∧(#[.int .i64 3,.int .i64 23,.int .i64 26,.int .i64 36]:Array Value)[k]?=some (.int .i64 (o:Int)):=by
 rcases k with _ | _ | _ | _ | k
 ·exact⟨3,by decide,by decide +kernel,rfl⟩
 ·exact⟨23,by decide,by decide +kernel,rfl⟩
 ·exact⟨26,by decide,by decide +kernel,rfl⟩
 ·exact⟨36,by decide,by decide +kernel,rfl⟩
 ·omega
theorem ord_d{k:Nat}(h:k < 6):∃ o:Nat,o < 39∧ordP.getD (26+k) (0,[])=(o,[true,false,true,false])∧(#[.int .i64 27,.int .i64 30,.int .i64 29,.int .i64 34,.int .i64 35,.int .i64 37]:Array Value)[k]?=some (.int .i64 (o:Int)):=by
 rcases k with _ | _ | _ | _ | _ | _ | k
 ·exact⟨27,by decide,by decide +kernel,rfl⟩
 ·exact⟨30,by decide,by decide +kernel,rfl⟩
 ·exact⟨29,by decide,by decide +kernel,rfl⟩
 ·exact⟨34,by decide,by decide +kernel,rfl⟩
 ·exact⟨35,by decide,by decide +kernel,rfl⟩
 ·exact⟨37,by decide,by decide +kernel,rfl⟩
 ·omega
theorem ord_e{k:Nat}(h:k < 2):∃ o:Nat,o < 39∧ordP.getD (32+k) (0,[])=(o,[true,false,false,false])∧(#[.int .i64 28,.int .i64 31]:Array Value)[k]?=some (.int .i64 (o:Int)):=by
 rcases k with _ | _ | k
 ·exact⟨28,by decide,by decide +kernel,rfl⟩
 ·exact⟨31,by decide,by decide +kernel,rfl⟩
 ·omega
theorem zSh(W:World):(zeroValue 103).run Tryz.prog W=.ok (.agg (shV 0)) W:=(Go.zero_of_info (n:=156) (by kernel_rfl)).1 W
theorem uSh:Tryz.prog.underlying 103=some (.array 39 97):=Tryz.underlying103
theorem iSh(m:Nat)(h:(shL m).length=156):(Tryz.prog.info? 103).map (·.size)=some (shV m).size:=by
 unfold shV
 simp only [List.size_toArray,List.length_map,h]
 kernel_rfl
theorem sh_sizes:(shV 0).size=(shV 35).size∧(shV 35).all (·.oneCell')=true:=by decide +kernel
theorem ord_f:ordP.getD 34 (0,[])=(4,[true,false,true,true]):=by decide +kernel
attribute [local irreducible] shV
theorem shapes_any(w:World):Calls Tryz.prog 48 #[] w fun e w'=>e=.returned (.agg (shV 35))∧Below w.heap.size w w':=by
 have z1:=zSh
 obtain⟨w0,hw0⟩:∃ z,z=w.alloc (.cells (shV 0) 103):=⟨_,rfl⟩
 have hs:w0.heap.size=w.heap.size+1:=by rw [hw0];simp
 have R0:=Lib.hid (show rowV w0 w.heap.size 103 (shV 0) by rw [hw0];exact rowV.new w _ _)
 have Ba:=Lib.hid (show Below w.heap.size w w0 by rw [hw0];exact balloc (Below.refl _ _) _)
 obtain⟨w1,hw1⟩:∃ z,z=w0.alloc (.cells (shV 0) 103):=⟨_,rfl⟩
 have b1:Below (w.heap.size+1) w0 w1:=by rw [hw1,←hs];exact balloc (Below.refl _ _) _
 have r1:rowV w1 (w.heap.size+1) 103 (shV 0):=by rw [hw1,←hs];exact rowV.new w0 _ _
 have Hs:=Lib.hid hs
 rw [hw0] at hw1
 clear hw0 hs
 have Hw1:=Lib.hid hw1
 clear hw1
 go_enter Tryz.func48,Tryz.ntmps48
 go_wp2_with fail
 rw [←Hw1.out]
 clear z1
 go_loopw [2] (fun i wx=>∃ o:Nat,8≤o∧o≤26∧i=.int .i64 (o:Int)∧rowV wx (w.heap.size+1) 103 (shV (o-8))∧Below (w.heap.size+1) w0 wx) (fun i _=>26-(intOf i).toNat)
 case atStart=>exact⟨8,Nat.le_refl _,by omega,rfl,r1,b1⟩
 case round=>
  clear r1 b1
  obtain⟨o,ho,hk,rfl,r,b⟩:=hrel
  by_cases hlt:o≤25
  ·have d0:decide ((o:Int)≤25)=true:=by simp;omega
   have f0:=frozen_rowV' r (o * 4)
   have f1:=frozen_rowV' r (o * 4+1)
   have f2:=frozen_rowV' r (o * 4+2)
   have f3:=frozen_rowV' r (o * 4+3)
   obtain⟨v0,c0⟩:=sh_cell (by omega) r (j:=o * 4) (by omega)
   obtain⟨v1,c1⟩:=sh_cell (by omega) r (j:=o * 4+1) (by omega)
   obtain⟨v2,c2⟩:=sh_cell (by omega) r (j:=o * 4+2) (by omega)
   obtain⟨v3,c3⟩:=sh_cell (by omega) r (j:=o * 4+3) (by omega)
   have hl:o < 39:=by omega
   have R:=Lib.hid (sh_step (o-8) (by omega) o true true true true (ord_a ⟨ho,hlt⟩) r)
   have B:=Lib.hid (belowCell (belowCell (belowCell (belowCell (j:=o * 4) (g:=w.heap.size+1) b (by omega) (.bool true)) (j:=o * 4+1) (g:=w.heap.size+1) (by omega) (.bool true)) (j:=o * 4+2) (g:=w.heap.size+1) (by omega) (.bool true)) (j:=o * 4+3) (g:=w.heap.size+1) (by omega) (.bool true))
   go_wp2_with fail
   go_roundw
   case rel=>exact⟨o+1,by omega,by omega,by go_num,by rw [show o+1-8=o-8+1 by omega];exact R.out,B.out⟩
   case measure=>(simp [intOf]) <;> omega
  ·obtain rfl:o=26:=by omega
   have hg:=Nat.lt_of_lt_of_le r.lt (Nat.le_refl _)
   have hs0:=b.size
   obtain⟨W0,hW0⟩:∃ z,z=wr.alloc (.cells #[.int .i64 0,.int .i64 32,.int .i64 33,.int .i64 38] 3):=⟨_,rfl⟩
   have q0:rowV W0 wr.heap.size 3 #[.int .i64 0,.int .i64 32,.int .i64 33,.int .i64 38]:=by rw [hW0];exact rowV.new _ _ _
   have b0:Below (w.heap.size+1) w0 W0:=by have b9:=b;rw [←Hs.out] at b9 ⊢;rw [hW0];exact balloc b9 _
   have r0:rowV W0 (w.heap.size+1) 103 (shV 18):=by rw [hW0];exact r.below (balloc (Below.refl _ _) _) r.lt
   have hn0:w.heap.size+1 < wr.heap.size:=r.lt
   have HW0:=Lib.hid hW0
   clear r b hW0
   go_wp2_with fail
   rw [←HW0.out]
   obtain⟨g0,hg0⟩:∃ z,z=wr.heap.size:=⟨_,rfl⟩
   rw [←hg0] at q0 hn0 ⊢
   clear hg0
   go_loopw [20] (fun i wx=>∃ k:Nat,k≤4∧i=.int .i64 (k:Int)∧rowV wx g0 3 #[.int .i64 0,.int .i64 32,.int .i64 33,.int .i64 38]∧rowV wx (w.heap.size+1) 103 (shV (18+k))∧Below (w.heap.size+1) w0 wx) (fun i _=>4-(intOf i).toNat)
   case atStart=>exact⟨0,Nat.zero_le _,rfl,q0,r0,b0⟩
   case round=>
    clear q0 r0 b0
    obtain⟨k,hk,rfl,q,r,b⟩:=hrel
    by_cases hlt:k < 4
    ·have d0:decide ((k:Int) < 4)=true:=by simp;omega
     have d0':decide (k < 4)=true:=by simp;omega
     obtain⟨o,ho,hd,hx⟩:=ord_b hlt
     have x0:=cell_rowV q hx
     have f0:=frozen_rowV' r (o * 4)
     obtain⟨v0,c0⟩:=sh_cell (by omega) r (j:=o * 4) (by omega)
     have f1:=frozen_rowV' r (o * 4+1)
     obtain⟨v1,c1⟩:=sh_cell (by omega) r (j:=o * 4+1) (by omega)
     have f2:=frozen_rowV' r (o * 4+2)
     obtain⟨v2,c2⟩:=sh_cell (by omega) r (j:=o * 4+2) (by omega)
     have f3:=frozen_rowV' r (o * 4+3)
     obtain⟨v3,c3⟩:=sh_cell (by omega) r (j:=o * 4+3) (by omega)
     have R:=Lib.hid (sh_step (18+k) (by omega) o true true false false hd r)
     have Q:=Lib.hid ((((q.setFar (p:=⟨w.heap.size+1,o * 4,none⟩) (by show g0≠w.heap.size+1;omega) (.bool true)).setFar (p:=⟨w.heap.size+1,o * 4+1,none⟩) (by show g0≠w.heap.size+1;omega) (.bool true)).setFar (p:=⟨w.heap.size+1,o * 4+2,none⟩) (by show g0≠w.heap.size+1;omega) (.bool false)).setFar (p:=⟨w.heap.size+1,o * 4+3,none⟩) (by show g0≠w.heap.size+1;omega) (.bool false))
     have B:=Lib.hid (belowCell (belowCell (belowCell (belowCell (j:=o * 4) (g:=w.heap.size+1) b (by omega) (.bool true)) (j:=o * 4+1) (g:=w.heap.size+1) (by omega) (.bool true)) (j:=o * 4+2) (g:=w.heap.size+1) (by omega) (.bool false)) (j:=o * 4+3) (g:=w.heap.size+1) (by omega) (.bool false))
     clear hx hd r q b
     go_wp2_with fail
     go_roundw
     case rel=>exact⟨k+1,by omega,by go_num,Q.out,R.out,B.out⟩
     case measure=>(simp [intOf]) <;> omega
    ·obtain rfl:k=4:=by omega
     have e0:decide (((4:Nat):Int) < 4)=false:=by decide
     have hs1:=b.size
     obtain⟨W1,hW1⟩:∃ z,z=wr.alloc (.cells #[.int .i64 3,.int .i64 23,.int .i64 26,.int .i64 36] 3):=⟨_,rfl⟩
     have q1:rowV W1 wr.heap.size 3 #[.int .i64 3,.int .i64 23,.int .i64 26,.int .i64 36]:=by rw [hW1];exact rowV.new _ _ _
     have b1:Below (w.heap.size+1) w0 W1:=by have b9:=b;rw [←Hs.out] at b9 ⊢;rw [hW1];exact balloc b9 _
     have r1:rowV W1 (w.heap.size+1) 103 (shV 22):=by rw [hW1];exact r.below (balloc (Below.refl _ _) _) r.lt
     have hn1:w.heap.size+1 < wr.heap.size:=r.lt
     have HW1:=Lib.hid hW1
     clear r b hW1
     go_wp2_with fail
     rw [←HW1.out]
     obtain⟨g1,hg1⟩:∃ z,z=wr.heap.size:=⟨_,rfl⟩
     rw [←hg1] at q1 hn1 ⊢
     clear hg1
     go_loopw [30] (fun i wx=>∃ k:Nat,k≤4∧i=.int .i64 (k:Int)∧rowV wx g1 3 #[.int .i64 3,.int .i64 23,.int .i64 26,.int .i64 36]∧rowV wx (w.heap.size+1) 103 (shV (22+k))∧Below (w.heap.size+1) w0 wx) (fun i _=>4-(intOf i).toNat)
     case atStart=>exact⟨0,Nat.zero_le _,rfl,q1,r1,b1⟩
     case round=>
      clear q1 r1 b1
      obtain⟨k,hk,rfl,q,r,b⟩:=hrel
      by_cases hlt:k < 4
      ·have d0:decide ((k:Int) < 4)=true:=by simp;omega
       have d0':decide (k < 4)=true:=by simp;omega
       obtain⟨o,ho,hd,hx⟩:=ord_c hlt
       have x0:=cell_rowV q hx
       have f0:=frozen_rowV' r (o * 4)
       obtain⟨v0,c0⟩:=sh_cell (by omega) r (j:=o * 4) (by omega)
       have f1:=frozen_rowV' r (o * 4+1)
       obtain⟨v1,c1⟩:=sh_cell (by omega) r (j:=o * 4+1) (by omega)
       have f2:=frozen_rowV' r (o * 4+2)
       obtain⟨v2,c2⟩:=sh_cell (by omega) r (j:=o * 4+2) (by omega)
       have f3:=frozen_rowV' r (o * 4+3)
       obtain⟨v3,c3⟩:=sh_cell (by omega) r (j:=o * 4+3) (by omega)
       have R:=Lib.hid (sh_step (22+k) (by omega) o true true true false hd r)
       have Q:=Lib.hid ((((q.setFar (p:=⟨w.heap.size+1,o * 4,none⟩) (by show g1≠w.heap.size+1;omega) (.bool true)).setFar (p:=⟨w.heap.size+1,o * 4+1,none⟩) (by show g1≠w.heap.size+1;omega) (.bool true)).setFar (p:=⟨w.heap.size+1,o * 4+2,none⟩) (by show g1≠w.heap.size+1;omega) (.bool true)).setFar (p:=⟨w.heap.size+1,o * 4+3,none⟩) (by show g1≠w.heap.size+1;omega) (.bool false))
       have B:=Lib.hid (belowCell (belowCell (belowCell (belowCell (j:=o * 4) (g:=w.heap.size+1) b (by omega) (.bool true)) (j:=o * 4+1) (g:=w.heap.size+1) (by omega) (.bool true)) (j:=o * 4+2) (g:=w.heap.size+1) (by omega) (.bool true)) (j:=o * 4+3) (g:=w.heap.size+1) (by omega) (.bool false))
       clear hx hd r q b
       go_wp2_with fail
       go_roundw
       case rel=>exact⟨k+1,by omega,by go_num,Q.out,R.out,B.out⟩
       case measure=>(simp [intOf]) <;> omega
      ·obtain rfl:k=4:=by omega
       have e1:decide (((4:Nat):Int) < 4)=false:=by decide
       have hs2:=b.size
       obtain⟨W2,hW2⟩:∃ z,z=wr.alloc (.cells #[.int .i64 27,.int .i64 30,.int .i64 29,.int .i64 34,.int .i64 35,.int .i64 37] 3):=⟨_,rfl⟩
       have q2:rowV W2 wr.heap.size 3 #[.int .i64 27,.int .i64 30,.int .i64 29,.int .i64 34,.int .i64 35,.int .i64 37]:=by rw [hW2];exact rowV.new _ _ _
       have b2:Below (w.heap.size+1) w0 W2:=by have b9:=b;rw [←Hs.out] at b9 ⊢;rw [hW2];exact balloc b9 _
       have r2:rowV W2 (w.heap.size+1) 103 (shV 26):=by rw [hW2];exact r.below (balloc (Below.refl _ _) _) r.lt
       have hn2:w.heap.size+1 < wr.heap.size:=r.lt
       have HW2:=Lib.hid hW2
       clear r b hW2
       go_wp2_with fail
       rw [←HW2.out]
       obtain⟨g2,hg2⟩:∃ z,z=wr.heap.size:=⟨_,rfl⟩
       rw [←hg2] at q2 hn2 ⊢
       clear hg2
       go_loopw [40] (fun i wx=>∃ k:Nat,k≤6∧i=.int .i64 (k:Int)∧rowV wx g2 3 #[.int .i64 27,.int .i64 30,.int .i64 29,.int .i64 34,.int .i64 35,.int .i64 37]∧rowV wx (w.heap.size+1) 103 (shV (26+k))∧Below (w.heap.size+1) w0 wx) (fun i _=>6-(intOf i).toNat)
       case atStart=>exact⟨0,Nat.zero_le _,rfl,q2,r2,b2⟩
       case round=>
        clear q2 r2 b2
        obtain⟨k,hk,rfl,q,r,b⟩:=hrel
        by_cases hlt:k < 6
        ·have d0:decide ((k:Int) < 6)=true:=by simp;omega
         have d0':decide (k < 6)=true:=by simp;omega
         obtain⟨o,ho,hd,hx⟩:=ord_d hlt
         have x0:=cell_rowV q hx
         have f0:=frozen_rowV' r (o * 4)
         obtain⟨v0,c0⟩:=sh_cell (by omega) r (j:=o * 4) (by omega)
         have f1:=frozen_rowV' r (o * 4+1)
         obtain⟨v1,c1⟩:=sh_cell (by omega) r (j:=o * 4+1) (by omega)
         have f2:=frozen_rowV' r (o * 4+2)
         obtain⟨v2,c2⟩:=sh_cell (by omega) r (j:=o * 4+2) (by omega)
         have f3:=frozen_rowV' r (o * 4+3)
         obtain⟨v3,c3⟩:=sh_cell (by omega) r (j:=o * 4+3) (by omega)
         have R:=Lib.hid (sh_step (26+k) (by omega) o true false true false hd r)
         have Q:=Lib.hid ((((q.setFar (p:=⟨w.heap.size+1,o * 4,none⟩) (by show g2≠w.heap.size+1;omega) (.bool true)).setFar (p:=⟨w.heap.size+1,o * 4+1,none⟩) (by show g2≠w.heap.size+1;omega) (.bool false)).setFar (p:=⟨w.heap.size+1,o * 4+2,none⟩) (by show g2≠w.heap.size+1;omega) (.bool true)).setFar (p:=⟨w.heap.size+1,o * 4+3,none⟩) (by show g2≠w.heap.size+1;omega) (.bool false))
         have B:=Lib.hid (belowCell (belowCell (belowCell (belowCell (j:=o * 4) (g:=w.heap.size+1) b (by omega) (.bool true)) (j:=o * 4+1) (g:=w.heap.size+1) (by omega) (.bool false)) (j:=o * 4+2) (g:=w.heap.size+1) (by omega) (.bool true)) (j:=o * 4+3) (g:=w.heap.size+1) (by omega) (.bool false))
         clear hx hd r q b
         go_wp2_with fail
         go_roundw
         case rel=>exact⟨k+1,by omega,by go_num,Q.out,R.out,B.out⟩
         case measure=>(simp [intOf]) <;> omega
        ·obtain rfl:k=6:=by omega
         have e2:decide (((6:Nat):Int) < 6)=false:=by decide
         have hs3:=b.size
         obtain⟨W3,hW3⟩:∃ z,z=wr.alloc (.cells #[.int .i64 28,.int .i64 31] 3):=⟨_,rfl⟩
         have q3:rowV W3 wr.heap.size 3 #[.int .i64 28,.int .i64 31]:=by rw [hW3];exact rowV.new _ _ _
         have b3:Below (w.heap.size+1) w0 W3:=by have b9:=b;rw [←Hs.out] at b9 ⊢;rw [hW3];exact balloc b9 _
         have r3:rowV W3 (w.heap.size+1) 103 (shV 32):=by rw [hW3];exact r.below (balloc (Below.refl _ _) _) r.lt
         have hn3:w.heap.size+1 < wr.heap.size:=r.lt
         have HW3:=Lib.hid hW3
         clear r b hW3
         go_wp2_with fail
         rw [←HW3.out]
         obtain⟨g3,hg3⟩:∃ z,z=wr.heap.size:=⟨_,rfl⟩
         rw [←hg3] at q3 hn3 ⊢
         clear hg3
         go_loopw [50] (fun i wx=>∃ k:Nat,k≤2∧i=.int .i64 (k:Int)∧rowV wx g3 3 #[.int .i64 28,.int .i64 31]∧rowV wx (w.heap.size+1) 103 (shV (32+k))∧Below (w.heap.size+1) w0 wx) (fun i _=>2-(intOf i).toNat)
         case atStart=>exact⟨0,Nat.zero_le _,rfl,q3,r3,b3⟩
         case round=>
          clear q3 r3 b3
          obtain⟨k,hk,rfl,q,r,b⟩:=hrel
          by_cases hlt:k < 2
          ·have d0:decide ((k:Int) < 2)=true:=by simp;omega
           have d0':decide (k < 2)=true:=by simp;omega
           obtain⟨o,ho,hd,hx⟩:=ord_e hlt
           have x0:=cell_rowV q hx
           have f0:=frozen_rowV' r (o * 4)
           obtain⟨v0,c0⟩:=sh_cell (by omega) r (j:=o * 4) (by omega)
           have f1:=frozen_rowV' r (o * 4+1)
           obtain⟨v1,c1⟩:=sh_cell (by omega) r (j:=o * 4+1) (by omega)
           have f2:=frozen_rowV' r (o * 4+2)
           obtain⟨v2,c2⟩:=sh_cell (by omega) r (j:=o * 4+2) (by omega)
           have f3:=frozen_rowV' r (o * 4+3)
           obtain⟨v3,c3⟩:=sh_cell (by omega) r (j:=o * 4+3) (by omega)
           have R:=Lib.hid (sh_step (32+k) (by omega) o true false false false hd r)
           have Q:=Lib.hid ((((q.setFar (p:=⟨w.heap.size+1,o * 4,none⟩) (by show g3≠w.heap.size+1;omega) (.bool true)).setFar (p:=⟨w.heap.size+1,o * 4+1,none⟩) (by show g3≠w.heap.size+1;omega) (.bool false)).setFar (p:=⟨w.heap.size+1,o * 4+2,none⟩) (by show g3≠w.heap.size+1;omega) (.bool false)).setFar (p:=⟨w.heap.size+1,o * 4+3,none⟩) (by show g3≠w.heap.size+1;omega) (.bool false))
           have B:=Lib.hid (belowCell (belowCell (belowCell (belowCell (j:=o * 4) (g:=w.heap.size+1) b (by omega) (.bool true)) (j:=o * 4+1) (g:=w.heap.size+1) (by omega) (.bool false)) (j:=o * 4+2) (g:=w.heap.size+1) (by omega) (.bool false)) (j:=o * 4+3) (g:=w.heap.size+1) (by omega) (.bool false))
           clear hx hd r q b
           go_wp2_with fail
           go_roundw
           case rel=>exact⟨k+1,by omega,by go_num,Q.out,R.out,B.out⟩
           case measure=>(simp [intOf]) <;> omega
          ·obtain rfl:k=2:=by omega
           have e3:decide (((2:Nat):Int) < 2)=false:=by decide
           have R:=Lib.hid (show rowV ((((wr.setCell ⟨w.heap.size+1,16,none⟩ (.bool true)).setCell ⟨w.heap.size+1,17,none⟩ (.bool false)).setCell ⟨w.heap.size+1,18,none⟩ (.bool true)).setCell ⟨w.heap.size+1,19,none⟩ (.bool true)) (w.heap.size+1) 103 (shV 35) from sh_step 34 (by decide) 4 true false true true ord_f r)
           have B:=Lib.hid (belowCell (belowCell (belowCell (belowCell (j:=16) (g:=w.heap.size+1) b (by omega) (.bool true)) (j:=17) (g:=w.heap.size+1) (by omega) (.bool false)) (j:=18) (g:=w.heap.size+1) (by omega) (.bool true)) (j:=19) (g:=w.heap.size+1) (by omega) (.bool true))
           have Z:=Lib.hid (R0.out.below B.out (Nat.lt_succ_self _))
           obtain⟨v0,c0⟩:=sh_cell (by omega) r (j:=16) (by omega)
           obtain⟨v1,c1⟩:=sh_cell (by omega) r (j:=17) (by omega)
           obtain⟨v2,c2⟩:=sh_cell (by omega) r (j:=18) (by omega)
           obtain⟨v3,c3⟩:=sh_cell (by omega) r (j:=19) (by omega)
           have f0:=frozen_rowV' r 16
           have f1:=frozen_rowV' r 17
           have f2:=frozen_rowV' r 18
           have f3:=frozen_rowV' r 19
           have hi:=Lib.hid (iSh 35 (shL_len ⟨35,by decide⟩))
           have ho:=Lib.hid sh_sizes.1
           have ha:=Lib.hid sh_sizes.2
           clear r b q
           go_wp2_with (first | refine wpList_load_row rfl 103 (.tmp 1) rfl _ rfl _ _ _ _ R.out uSh rfl hi.out ?_ | refine wpList_store_row rfl 103 (.tmp 0) (.tmp 60) rfl _ _ rfl rfl _ _ Z.out hi.out ho.out ha.out ?_)
           have b:=B.out
           have hs:=Hs.out
           obtain⟨W,hW⟩:∃ z,z=(((wr.setCell ⟨w.heap.size+1,16,none⟩ (.bool true)).setCell ⟨w.heap.size+1,17,none⟩ (.bool false)).setCell ⟨w.heap.size+1,18,none⟩ (.bool true)).setCell ⟨w.heap.size+1,19,none⟩ (.bool true):=⟨_,rfl⟩
           have z:=Z.out
           rw [←hW] at b z ⊢
           have r6:=setRow_heap W w.heap.size _ (shV 35) _ _ z
           have hb:=Ba.out.trans (b.mono (Nat.le_succ _))
           have hb6:Below w.heap.size w (W.setRow w.heap.size (shV 35)):=⟨hb.1,hb.2,hb.3,by rw [size_setRow];exact hb.4,fun i hi=>(setRow_other W _ i _ (by omega)).trans (hb.5 i hi)⟩
           exact bodyPost_ret (v:=.agg (shV 35)) (results_cell_row rfl _ _ _ _ _ _ _ rfl r6 uSh rfl hi.out) rfl ⟨rfl,hb6⟩
end Go.Proofs.YtpaplehcafeeaaaGreatDoor
namespace Go.Proofs.YtpaplehcafeeaaaGreatDoor
open Go.RowKit Go.Proofs
def kindI(op:Int):List Bool:=if 0≤op∧op < 39 then kindP op.toNat else [false,false,false,false]
theorem kindP_four(k:Nat):∃ a b c d,kindP k=[a,b,c,d]:=by
 unfold kindP
 repeat' split
 all_goals exact⟨_,_,_,_,rfl⟩
theorem shapes_part{k:Nat}(hk:k < 39):(shV 35).extract (k * 4) (k * 4+4)=((kindP k).map Value.bool).toArray:=by
 have h:∀ j:Fin 39,(((List.range 39).flatMap kindP).drop (j * 4)).take 4=kindP j:=by decide +kernel
 apply Array.toList_inj.1
 unfold shV
 rw [Array.toList_extract]
 simp only [List.extract_eq_take_drop,Nat.add_sub_cancel_left]
 rw [shL_all,←List.map_drop,←List.map_take,h ⟨k,hk⟩]
theorem size_parts(W:World):(sizeOf 97).run Tryz.prog W=.ok 4 W:=by kernel_rfl
theorem run_index_shapes{k:Nat}(hk:k < 39)(W:World):(Instr.index 103 (.agg (shV 35)) (.int .i64 (k:Int))).run Tryz.prog W=.ok (.agg ((kindP k).map Value.bool).toArray) W:=by
 have hs:=size_parts W
 have hp:=shapes_part hk
 simp [Instr.index,go_sem,hk,part,hs]
 exact hp
attribute [local irreducible] shV
theorem shape_any(op:Int)(w:World):Calls Tryz.prog 42 #[.int .i64 op] w fun e w'=>e=.returned (.agg ((kindI op).map Value.bool).toArray)∧Below w.heap.size w w':=by
 by_cases h1:op < 0
 ·have d1:decide (op < 0)=true:=by simpa using h1
  have hX:Hid (kindI op=[false,false,false,false]):=by unfold kindI;exact if_neg (by omega)
  go_enter Tryz.func42,Tryz.ntmps42
  go_wp2_with fail
  rw [hX.out]
  refine bodyPost_ret (v:=.agg #[.bool false,.bool false,.bool false,.bool false]) (by simp [results,Tryz.results42,go_sem]) rfl ⟨rfl,?_⟩
  repeat' (first | exact balloc (Below.refl _ _) _ | refine Below.setCell ?_ (Nat.le_refl _) _)
 ·have d1:decide (op < 0)=false:=by simpa using h1
  by_cases h2:39≤op
  ·have d2:decide (39≤op)=true:=by simpa using h2
   have hX:Hid (kindI op=[false,false,false,false]):=by unfold kindI;exact if_neg (by omega)
   go_enter Tryz.func42,Tryz.ntmps42
   go_wp2_with fail
   rw [hX.out]
   refine bodyPost_ret (v:=.agg #[.bool false,.bool false,.bool false,.bool false]) (by simp [results,Tryz.results42,go_sem]) rfl ⟨rfl,?_⟩
   repeat' (first | exact balloc (Below.refl _ _) _ | refine Below.setCell ?_ (Nat.le_refl _) _)
  ·have d2:decide (39≤op)=false:=by simpa using h2
   obtain⟨k,rfl⟩:∃ k:Nat,op=(k:Int):=⟨op.toNat,by omega⟩
   have hix:=run_index_shapes (k:=k) (by omega)
   have hX:Hid (kindI (k:Int)=kindP k):=by unfold kindI;rw [if_pos (by omega)];rfl
   obtain⟨a,b,c,d,he⟩:=kindP_four k
   rw [he] at hix hX
   simp only [List.map_cons,List.map_nil] at hix
   clear he h1 h2
   obtain⟨w0,hw0⟩:∃ z,z=w.alloc (.cells #[.bool false,.bool false,.bool false,.bool false] 97):=⟨_,rfl⟩
   have hb0:Below w.heap.size w w0:=by rw [hw0];exact balloc (Below.refl _ _) _
   have r0:rowV w0 w.heap.size 97 #[.bool false,.bool false,.bool false,.bool false]:=by rw [hw0];exact rowV.new w _ _
   have Hw0:=Lib.hid hw0
   clear hw0
   go_enter Tryz.func42,Tryz.ntmps42
   go_wp2_with fail
   rw [←Hw0.out]
   refine (shapes_any _).mono ?_
   rintro e w1 ⟨rfl,hb1⟩
   have b1:=hb0.trans (hb1.mono hb0.size)
   have r1:=r0.below hb1 r0.lt
   have x0:=cell_rowV r1 (j:=0) rfl
   have x1:=cell_rowV r1 (j:=1) rfl
   have x2:=cell_rowV r1 (j:=2) rfl
   have x3:=cell_rowV r1 (j:=3) rfl
   have f0:=frozen_rowV' r1 0
   have f1:=frozen_rowV' r1 1
   have f2:=frozen_rowV' r1 2
   have f3:=frozen_rowV' r1 3
   have B:=Lib.hid (belowCell (belowCell (belowCell (belowCell (j:=0) (g:=w.heap.size) b1 (Nat.le_refl _) (.bool a)) (j:=1) (g:=w.heap.size) (Nat.le_refl _) (.bool b)) (j:=2) (g:=w.heap.size) (Nat.le_refl _) (.bool c)) (j:=3) (g:=w.heap.size) (Nat.le_refl _) (.bool d))
   have R:=Lib.hid ((((r1.set 0 (.bool a)).set 1 (.bool b)).set 2 (.bool c)).set 3 (.bool d))
   clear hb0 r0 hb1 r1 b1
   go_wp2_with fail
   rw [hX.out]
   have y0:=cell_rowV R.out (j:=0) (v:=.bool a) rfl
   have y1:=cell_rowV R.out (j:=1) (v:=.bool b) rfl
   have y2:=cell_rowV R.out (j:=2) (v:=.bool c) rfl
   have y3:=cell_rowV R.out (j:=3) (v:=.bool d) rfl
   refine bodyPost_ret (v:=.agg #[.bool a,.bool b,.bool c,.bool d]) (by simp [results,Tryz.results42,go_sem,y0,y1,y2,y3]) rfl ⟨rfl,B.out⟩
end Go.Proofs.YtpaplehcafeeaaaGreatDoor
namespace Go.Proofs.YtpaplehcafeeaaaGreatDoor
open Go.RowKit Go.Proofs
def ivV(x:Iv):Value:=.agg #[.int .i64 x.lo,.int .i64 x.hi]
theorem four_cellsV{w:World}{g:Nat}{t:TypeId}{a b c d:Value}(h:rowV w g t #[a,b,c,d]):w.cell? ⟨g,0,none⟩=some a∧w.cell? ⟨g,1,none⟩=some b∧w.cell? ⟨g,2,none⟩=some c∧w.cell? ⟨g,3,none⟩=some d:=⟨cell_rowV h rfl,cell_rowV h rfl,cell_rowV h rfl,cell_rowV h rfl⟩
theorem boxesO(w:World)(a b c d:Int):∃ w0,w0=(w.alloc (.cells #[.int .i64 a,.int .i64 b,.int .i64 c,.int .i64 d] 286)).alloc (.cells #[.int .i64 0,.int .i64 0] 148)∧Below w.heap.size w w0∧rowV w0 w.heap.size 286 #[.int .i64 a,.int .i64 b,.int .i64 c,.int .i64 d]∧rowV w0 (w.heap.size+1) 148 #[.int .i64 0,.int .i64 0]:=by
 have r1:=rowV.new w 286 #[.int .i64 a,.int .i64 b,.int .i64 c,.int .i64 d]
 have r2:=rowV.new (w.alloc (.cells #[.int .i64 a,.int .i64 b,.int .i64 c,.int .i64 d] 286)) 148 #[.int .i64 0,.int .i64 0]
 have k1:=balloc (Below.refl _ (w.alloc (.cells #[.int .i64 a,.int .i64 b,.int .i64 c,.int .i64 d] 286))) (.cells #[.int .i64 0,.int .i64 0] 148)
 have e1:(w.alloc (.cells #[.int .i64 a,.int .i64 b,.int .i64 c,.int .i64 d] 286)).heap.size=w.heap.size+1:=by simp
 rw [e1] at r2
 exact⟨_,rfl,balloc (balloc (Below.refl _ _) _) _,r1.below k1 r1.lt,r2⟩
theorem shifted_any(lo hi:Int)(h1:-8589934592≤lo)(h2:hi≤17179869184)(h3:lo≤hi)(w:World):Calls Tryz.prog 232 #[.int .i64 lo,.int .i64 hi] w fun e w'=>e=.returned (ivV (shiftI lo hi))∧Below w.heap.size w w':=by
 unfold shiftI
 by_cases c1:0≤lo
 ·have d1:decide (0≤lo)=true:=decide_eq_true c1
  by_cases c2:hi≤4294967295
  ·have d2:decide (hi≤4294967295)=true:=decide_eq_true c2
   rw [if_pos ⟨c1,c2⟩]
   go_enter Tryz.func232,Tryz.ntmps232
   go_wp2_with fail
   refine bodyPost_ret (v:=.agg #[.int .i64 lo,.int .i64 hi]) (by simp [results,Tryz.results232,go_sem]) rfl ⟨rfl,balloc (Below.refl _ _) _⟩
  ·have d2:decide (hi≤4294967295)=false:=decide_eq_false c2
   rw [if_neg (by omega)]
   by_cases c3:4294967295 < lo
   ·have d3:decide (4294967295 < lo)=true:=decide_eq_true c3
    rw [if_pos c3]
    have e1:lo-4294967295-1=lo-4294967296:=by omega
    have e2:hi-4294967295-1=hi-4294967296:=by omega
    go_enter Tryz.func232,Tryz.ntmps232
    go_wp2_with fail
    refine bodyPost_ret (v:=.agg #[.int .i64 (lo-4294967296),.int .i64 (hi-4294967296)]) (by simp [results,Tryz.results232,go_sem]) rfl ⟨rfl,balloc (Below.refl _ _) _⟩
   ·have d3:decide (4294967295 < lo)=false:=decide_eq_false c3
    have d4:decide (hi < 0)=false:=decide_eq_false (by omega)
    rw [if_neg c3,if_neg (by omega)]
    go_enter Tryz.func232,Tryz.ntmps232
    have r2:=rowV.new w 148 #[.int .i64 0,.int .i64 0]
    go_wp2_with fail
    refine (full_any _).mono ?_
    rintro e w1 ⟨rfl,hb1⟩
    have Hr:=Lib.hid (r2.below hb1 r2.lt)
    go_wp2_with (refine wpList_store_row rfl 148 (.tmp 4) (.tmp 35) rfl _ #[.int .i64 0,.int .i64 4294967295] rfl rfl _ _ Hr.out (hI2 _ _) rfl (hA2 _ _) ?_)
    obtain⟨z1,z2⟩:=two_cellsV (setRow_heap w1 w.heap.size _ #[.int .i64 0,.int .i64 4294967295] _ _ Hr.out)
    refine bodyPost_ret (v:=.agg #[.int .i64 0,.int .i64 4294967295]) (by simp [results,Tryz.results232,go_sem,z1,z2]) rfl ⟨rfl,belowRow ((balloc (Below.refl _ _) _).trans (hb1.mono (by simp))) (by omega) _⟩
 ·have d1:decide (0≤lo)=false:=decide_eq_false c1
  rw [if_neg (by omega)]
  have d3:decide (4294967295 < lo)=false:=decide_eq_false (by omega)
  rw [if_neg (by omega)]
  by_cases c4:hi < 0
  ·have d4:decide (hi < 0)=true:=decide_eq_true c4
   rw [if_pos c4]
   have e1:lo+4294967295+1=lo+4294967296:=by omega
   have e2:hi+4294967295+1=hi+4294967296:=by omega
   go_enter Tryz.func232,Tryz.ntmps232
   go_wp2_with fail
   refine bodyPost_ret (v:=.agg #[.int .i64 (lo+4294967296),.int .i64 (hi+4294967296)]) (by simp [results,Tryz.results232,go_sem]) rfl ⟨rfl,balloc (Below.refl _ _) _⟩
  ·have d4:decide (hi < 0)=false:=decide_eq_false c4
   rw [if_neg c4]
   go_enter Tryz.func232,Tryz.ntmps232
   have r2:=rowV.new w 148 #[.int .i64 0,.int .i64 0]
   go_wp2_with fail
   refine (full_any _).mono ?_
   rintro e w1 ⟨rfl,hb1⟩
   have Hr:=Lib.hid (r2.below hb1 r2.lt)
   go_wp2_with (refine wpList_store_row rfl 148 (.tmp 4) (.tmp 35) rfl _ #[.int .i64 0,.int .i64 4294967295] rfl rfl _ _ Hr.out (hI2 _ _) rfl (hA2 _ _) ?_)
   obtain⟨z1,z2⟩:=two_cellsV (setRow_heap w1 w.heap.size _ #[.int .i64 0,.int .i64 4294967295] _ _ Hr.out)
   refine bodyPost_ret (v:=.agg #[.int .i64 0,.int .i64 4294967295]) (by simp [results,Tryz.results232,go_sem,z1,z2]) rfl ⟨rfl,belowRow ((balloc (Below.refl _ _) _).trans (hb1.mono (by simp))) (by omega) _⟩
theorem onesN_bits{n:Nat}(hn:n < 4294967296):onesN n=2 ^ Lib.bitLen n-1∧Lib.bitLen n≤32:=by
 unfold onesN
 by_cases h0:n=0
 ·subst h0
  exact⟨by decide,by decide⟩
 ·obtain⟨h1,h2,h3⟩:=bitLen_bounds (n:=n) (by omega) h0
  have h4:n.log2=Lib.bitLen n-1:=(Nat.log2_eq_iff h0).2 ⟨h2,by rw [Nat.sub_add_cancel h1];exact h3⟩
  have h5:n.log2 < 32:=(Nat.log2_lt h0).2 (by omega)
  rw [if_neg h0,h4,Nat.sub_add_cancel h1]
  exact⟨rfl,by omega⟩
theorem ones_any(n:Nat)(hn:n < 4294967296)(w:World):Calls Tryz.prog 233 #[.int .i64 n] w fun e w'=>e=.returned (.int .i64 (onesN n:Nat))∧w'=w:=by
 have H:=Tryz.bits_Len (n:Int) w (by omega) (by omega)
 rw [Int.toNat_natCast] at H
 obtain⟨h1,h2⟩:=onesN_bits hn
 rw [h1]
 obtain⟨k,hk⟩:∃ k,k=Lib.bitLen n:=⟨_,rfl⟩
 rw [←hk] at H h2 ⊢
 clear hk h1
 have HH:=Lib.hid H;clear H
 have hw:IntKind.u64.wrap (n:Int)=(n:Int):=by simp [IntKind.wrap,IntKind.bits,IntKind.signed];omega
 go_enter Tryz.func233,Tryz.ntmps233
 go_wp2_with fail
 refine HH.out.mono ?_
 rintro e w1 ⟨rfl,hw1⟩
 obtain rfl:w=w1:=hw1.symm
 go_wp2_with fail
 have e1:wrap64 (wrap64 (2 ^ k)-1)=((2 ^ k-1:Nat):Int):=(by decide +kernel:∀ k:Fin 33,wrap64 (wrap64 (2 ^ k.val)-1)=((2 ^ k.val-1:Nat):Int)) ⟨k,by omega⟩
 rw [e1]
 go_ret
 exact⟨rfl,rfl⟩
theorem m_add(a b c d:Int)(ha:0≤a)(hab:a≤b)(hb:b≤4294967295)(hc:0≤c)(hcd:c≤d)(hd:d≤4294967295)(w:World):Calls Tryz.prog 202 #[.agg #[.int .i64 a,.int .i64 b,.int .i64 c,.int .i64 d]] w fun e w'=>e=.returned (ivV (ruleI 8 a b c d))∧Below w.heap.size w w':=by
 rw [show ruleI 8 a b c d=shiftI (a+c) (b+d) from rfl]
 obtain⟨w0,hw0,g0,r1,r2⟩:=boxesO w a b c d
 have hw:=Lib.hid hw0;clear hw0
 have H:=Lib.hid (shifted_any (a+c) (b+d) (by omega) (by omega) (by omega) w0)
 obtain⟨⟨lo,hi⟩,hs⟩:∃ z,z=shiftI (a+c) (b+d):=⟨_,rfl⟩
 rw [←hs] at H ⊢
 clear hs
 unfold ivV at H
 go_enter Tryz.func202,Tryz.ntmps202
 go_wp2_with fail
 rw [←hw.out]
 refine H.out.mono ?_
 rintro e w1 ⟨rfl,hb1⟩
 have Hr:=Lib.hid (r2.below hb1 r2.lt)
 go_wp2_with (refine wpList_store_row rfl 148 (.tmp 2) (.tmp 13) rfl _ #[.int .i64 lo,.int .i64 hi] rfl rfl _ _ Hr.out (hI2 _ _) rfl (hA2 _ _) ?_)
 obtain⟨z1,z2⟩:=two_cellsV (setRow_heap w1 (w.heap.size+1) _ #[.int .i64 lo,.int .i64 hi] _ _ Hr.out)
 refine bodyPost_ret (v:=.agg #[.int .i64 lo,.int .i64 hi]) (by simp [results,Tryz.results202,go_sem,z1,z2]) rfl ⟨rfl,belowRow (g0.trans (hb1.mono g0.size)) (by omega) _⟩
theorem m_sub(a b c d:Int)(ha:0≤a)(hab:a≤b)(hb:b≤4294967295)(hc:0≤c)(hcd:c≤d)(hd:d≤4294967295)(w:World):Calls Tryz.prog 203 #[.agg #[.int .i64 a,.int .i64 b,.int .i64 c,.int .i64 d]] w fun e w'=>e=.returned (ivV (ruleI 9 a b c d))∧Below w.heap.size w w':=by
 rw [show ruleI 9 a b c d=shiftI (a-d) (b-c) from rfl]
 obtain⟨w0,hw0,g0,r1,r2⟩:=boxesO w a b c d
 have hw:=Lib.hid hw0;clear hw0
 have H:=Lib.hid (shifted_any (a-d) (b-c) (by omega) (by omega) (by omega) w0)
 obtain⟨⟨lo,hi⟩,hs⟩:∃ z,z=shiftI (a-d) (b-c):=⟨_,rfl⟩
 rw [←hs] at H ⊢
 clear hs
 unfold ivV at H
 go_enter Tryz.func203,Tryz.ntmps203
 go_wp2_with fail
 rw [←hw.out]
 refine H.out.mono ?_
 rintro e w1 ⟨rfl,hb1⟩
 have Hr:=Lib.hid (r2.below hb1 r2.lt)
 go_wp2_with (refine wpList_store_row rfl 148 (.tmp 2) (.tmp 13) rfl _ #[.int .i64 lo,.int .i64 hi] rfl rfl _ _ Hr.out (hI2 _ _) rfl (hA2 _ _) ?_)
 obtain⟨z1,z2⟩:=two_cellsV (setRow_heap w1 (w.heap.size+1) _ #[.int .i64 lo,.int .i64 hi] _ _ Hr.out)
 refine bodyPost_ret (v:=.agg #[.int .i64 lo,.int .i64 hi]) (by simp [results,Tryz.results203,go_sem,z1,z2]) rfl ⟨rfl,belowRow (g0.trans (hb1.mono g0.size)) (by omega) _⟩
theorem m_least(a b c d:Int)(ha:0≤a)(hab:a≤b)(hb:b≤4294967295)(hc:0≤c)(hcd:c≤d)(hd:d≤4294967295)(w:World):Calls Tryz.prog 212 #[.agg #[.int .i64 a,.int .i64 b,.int .i64 c,.int .i64 d]] w fun e w'=>e=.returned (ivV (ruleI 18 a b c d))∧Below w.heap.size w w':=by
 rw [show ruleI 18 a b c d=⟨min a c,min b d⟩ from rfl]
 go_enter Tryz.func212,Tryz.ntmps212
 go_wp2_with fail
 refine bodyPost_ret (v:=.agg #[.int .i64 (min a c),.int .i64 (min b d)]) (by simp [results,Tryz.results212,go_sem]) rfl ⟨rfl,balloc (balloc (Below.refl _ _) _) _⟩
theorem m_greatest(a b c d:Int)(ha:0≤a)(hab:a≤b)(hb:b≤4294967295)(hc:0≤c)(hcd:c≤d)(hd:d≤4294967295)(w:World):Calls Tryz.prog 213 #[.agg #[.int .i64 a,.int .i64 b,.int .i64 c,.int .i64 d]] w fun e w'=>e=.returned (ivV (ruleI 19 a b c d))∧Below w.heap.size w w':=by
 rw [show ruleI 19 a b c d=⟨max a c,max b d⟩ from rfl]
 go_enter Tryz.func213,Tryz.ntmps213
 go_wp2_with fail
 refine bodyPost_ret (v:=.agg #[.int .i64 (max a c),.int .i64 (max b d)]) (by simp [results,Tryz.results213,go_sem]) rfl ⟨rfl,balloc (balloc (Below.refl _ _) _) _⟩
theorem m_and(a b c d:Int)(ha:0≤a)(hab:a≤b)(hb:b≤4294967295)(hc:0≤c)(hcd:c≤d)(hd:d≤4294967295)(w:World):Calls Tryz.prog 207 #[.agg #[.int .i64 a,.int .i64 b,.int .i64 c,.int .i64 d]] w fun e w'=>e=.returned (ivV (ruleI 13 a b c d))∧Below w.heap.size w w':=by
 rw [show ruleI 13 a b c d=⟨0,min b d⟩ from rfl]
 go_enter Tryz.func207,Tryz.ntmps207
 go_wp2_with fail
 refine bodyPost_ret (v:=.agg #[.int .i64 0,.int .i64 (min b d)]) (by simp [results,Tryz.results207,go_sem]) rfl ⟨rfl,balloc (balloc (Below.refl _ _) _) _⟩
theorem m_hash(a b c d:Int)(ha:0≤a)(hab:a≤b)(hb:b≤4294967295)(hc:0≤c)(hcd:c≤d)(hd:d≤4294967295)(w:World):Calls Tryz.prog 214 #[.agg #[.int .i64 a,.int .i64 b,.int .i64 c,.int .i64 d]] w fun e w'=>e=.returned (ivV (ruleI 20 a b c d))∧Below w.heap.size w w':=by
 rw [show ruleI 20 a b c d=ivFull from rfl]
 obtain⟨w0,hw0,g0,r1,r2⟩:=boxesO w a b c d
 have hw:=Lib.hid hw0;clear hw0
 go_enter Tryz.func214,Tryz.ntmps214
 go_wp2_with fail
 rw [←hw.out]
 refine (full_any _).mono ?_
 rintro e w1 ⟨rfl,hb1⟩
 have Hr:=Lib.hid (r2.below hb1 r2.lt)
 go_wp2_with (refine wpList_store_row rfl 148 (.tmp 2) (.tmp 3) rfl _ #[.int .i64 0,.int .i64 4294967295] rfl rfl _ _ Hr.out (hI2 _ _) rfl (hA2 _ _) ?_)
 obtain⟨z1,z2⟩:=two_cellsV (setRow_heap w1 (w.heap.size+1) _ #[.int .i64 0,.int .i64 4294967295] _ _ Hr.out)
 refine bodyPost_ret (v:=.agg #[.int .i64 0,.int .i64 4294967295]) (by simp [results,Tryz.results214,go_sem,z1,z2]) rfl ⟨rfl,belowRow (g0.trans (hb1.mono g0.size)) (by omega) _⟩
theorem m_mod(a b c d:Int)(ha:0≤a)(hab:a≤b)(hb:b≤4294967295)(hc:0≤c)(hcd:c≤d)(hd:d≤4294967295)(h0:c≠0)(w:World):Calls Tryz.prog 206 #[.agg #[.int .i64 a,.int .i64 b,.int .i64 c,.int .i64 d]] w fun e w'=>e=.returned (ivV (ruleI 12 a b c d))∧Below w.heap.size w w':=by
 rw [show ruleI 12 a b c d=(if b < c then ⟨a,b⟩ else ⟨0,min b (d-1)⟩) from rfl]
 by_cases h1:b < c
 ·have d1:decide (b < c)=true:=decide_eq_true h1
  rw [if_pos h1]
  go_enter Tryz.func206,Tryz.ntmps206
  go_wp2_with fail
  refine bodyPost_ret (v:=.agg #[.int .i64 a,.int .i64 b]) (by simp [results,Tryz.results206,go_sem]) rfl ⟨rfl,balloc (balloc (Below.refl _ _) _) _⟩
 ·have d1:decide (b < c)=false:=decide_eq_false h1
  rw [if_neg h1]
  go_enter Tryz.func206,Tryz.ntmps206
  go_wp2_with fail
  refine bodyPost_ret (v:=.agg #[.int .i64 0,.int .i64 (min b (d-1))]) (by simp [results,Tryz.results206,go_sem]) rfl ⟨rfl,balloc (balloc (Below.refl _ _) _) _⟩
theorem m_div(a b c d:Int)(ha:0≤a)(hab:a≤b)(hb:b≤4294967295)(hc:0≤c)(hcd:c≤d)(hd:d≤4294967295)(h0:c≠0)(w:World):Calls Tryz.prog 205 #[.agg #[.int .i64 a,.int .i64 b,.int .i64 c,.int .i64 d]] w fun e w'=>e=.returned (ivV (ruleI 11 a b c d))∧Below w.heap.size w w':=by
 rw [show ruleI 11 a b c d=⟨a / d,b / c⟩ from rfl]
 have t1:Int.tdiv a d=a / d:=Int.tdiv_eq_ediv_of_nonneg ha
 have t2:Int.tdiv b c=b / c:=Int.tdiv_eq_ediv_of_nonneg (by omega)
 have q1:(d==0)=false:=by simp;omega
 have q2:(c==0)=false:=by simp;omega
 have q3:d≠0:=by omega
 have u1:=Int.ediv_nonneg ha (by omega:0≤d)
 have u2:=Int.ediv_le_self d ha
 have u3:=Int.ediv_nonneg (by omega:0≤b) hc
 have u4:=Int.ediv_le_self c (by omega:0≤b)
 obtain⟨w0,hw0,g0,r1,r2⟩:=boxesO w a b c d
 have hw:=Lib.hid hw0;clear hw0
 obtain⟨c1,c2,c3,c4⟩:=four_cellsV r1
 go_enter Tryz.func205,Tryz.ntmps205
 go_wp2_with fail
 rw [←hw.out]
 refine wp_region_quiet_tail 11 (by kernel_rfl) (by kernel_rfl) ?_
 simp only [List.take_succ_cons,List.take_zero,List.drop_succ_cons,List.drop_zero]
 repeat (go_big_quiet_step (fail))
 refine wpQuiet_nil ?_
 intro _ hw'
 obtain⟨nr,hw''⟩:=hw'
 subst hw''
 have Hr:=Lib.hid (show rowV (w0.drewN nr) (w.heap.size+1) 148 #[.int .i64 0,.int .i64 0] from r2)
 go_wp2_with (refine wpList_store_row rfl 148 (.tmp 2) (.tmp 13) rfl _ #[.int .i64 (a / d),.int .i64 (b / c)] rfl rfl _ _ Hr.out (hI2 _ _) rfl (hA2 _ _) ?_)
 obtain⟨z1,z2⟩:=two_cellsV (setRow_heap (w0.drewN nr) (w.heap.size+1) _ #[.int .i64 (a / d),.int .i64 (b / c)] _ _ Hr.out)
 refine bodyPost_ret (v:=.agg #[.int .i64 (a / d),.int .i64 (b / c)]) (by simp [results,Tryz.results205,go_sem,z1,z2]) rfl ⟨rfl,belowRow (bdrew g0 nr) (by omega) _⟩
theorem m_mul(a b c d:Int)(ha:0≤a)(hab:a≤b)(hb:b≤4294967295)(hc:0≤c)(hcd:c≤d)(hd:d≤4294967295)(w:World):Calls Tryz.prog 204 #[.agg #[.int .i64 a,.int .i64 b,.int .i64 c,.int .i64 d]] w fun e w'=>e=.returned (ivV (ruleI 10 a b c d))∧Below w.heap.size w w':=by
 rw [show ruleI 10 a b c d=(if 0 < d∧4294967295 / d < b then ivFull else ⟨a * c,b * d⟩) from rfl]
 have t1:Int.tdiv 4294967295 d=4294967295 / d:=Int.tdiv_eq_ediv_of_nonneg (by omega)
 have u1:=Int.ediv_nonneg (by omega:(0:Int)≤4294967295) (by omega:0≤d)
 have u2:=Int.ediv_le_self d (by omega:(0:Int)≤4294967295)
 by_cases h1:0 < d
 ·have d1:decide (0 < d)=true:=decide_eq_true h1
  have q1:(d==0)=false:=by simp;omega
  have q3:d≠0:=by omega
  by_cases h2:4294967295 / d < b
  ·have d2:decide (4294967295 / d < b)=true:=decide_eq_true h2
   rw [if_pos ⟨h1,h2⟩]
   obtain⟨w0,hw0,g0,r1,r2⟩:=boxesO w a b c d
   have hw:=Lib.hid hw0;clear hw0
   obtain⟨c1,c2,c3,c4⟩:=four_cellsV r1
   go_enter Tryz.func204,Tryz.ntmps204
   go_wp2_with fail
   rw [←hw.out]
   go_quiet (fail)
   go_wp2_with fail
   refine (full_any _).mono ?_
   rintro e w1 ⟨rfl,hb1⟩
   have Hr:=Lib.hid ((show rowV (w0.drewN nq) (w.heap.size+1) 148 #[.int .i64 0,.int .i64 0] from r2).below hb1 (show w.heap.size+1 < (w0.drewN nq).heap.size from r2.lt))
   go_wp2_with (refine wpList_store_row rfl 148 (.tmp 2) (.tmp 14) rfl _ #[.int .i64 0,.int .i64 4294967295] rfl rfl _ _ Hr.out (hI2 _ _) rfl (hA2 _ _) ?_)
   obtain⟨z1,z2⟩:=two_cellsV (setRow_heap w1 (w.heap.size+1) _ #[.int .i64 0,.int .i64 4294967295] _ _ Hr.out)
   refine bodyPost_ret (v:=.agg #[.int .i64 0,.int .i64 4294967295]) (by simp [results,Tryz.results204,go_sem,z1,z2]) rfl ⟨rfl,belowRow ((bdrew g0 nq).trans (hb1.mono (bdrew g0 nq).size)) (by omega) _⟩
  ·have d2:decide (4294967295 / d < b)=false:=decide_eq_false h2
   rw [if_neg (by omega)]
   have k1:b≤4294967295 / d:=by omega
   have k2:=Int.mul_le_mul_of_nonneg_right k1 (Int.le_of_lt h1)
   have k3:=Int.ediv_mul_le 4294967295 (by omega:d≠0)
   have k4:a * c≤b * d:=Int.mul_le_mul hab hcd hc (by omega)
   have k5:0≤a * c:=Int.mul_nonneg ha hc
   have k6:b * d≤4294967295:=Int.le_trans k2 k3
   have k7:a * c≤4294967295:=Int.le_trans k4 k6
   have k8:0≤b * d:=Int.le_trans k5 k4
   clear k2 k3
   obtain⟨w0,hw0,g0,r1,r2⟩:=boxesO w a b c d
   have hw:=Lib.hid hw0;clear hw0
   obtain⟨c1,c2,c3,c4⟩:=four_cellsV r1
   go_enter Tryz.func204,Tryz.ntmps204
   go_wp2_with fail
   rw [←hw.out]
   go_quiet (fail)
   have Hr:=Lib.hid (show rowV (w0.drewN nq) (w.heap.size+1) 148 #[.int .i64 0,.int .i64 0] from r2)
   go_wp2_with (refine wpList_store_row rfl 148 (.tmp 2) (.tmp 25) rfl _ #[.int .i64 (a * c),.int .i64 (b * d)] rfl rfl _ _ Hr.out (hI2 _ _) rfl (hA2 _ _) ?_)
   obtain⟨z1,z2⟩:=two_cellsV (setRow_heap (w0.drewN nq) (w.heap.size+1) _ #[.int .i64 (a * c),.int .i64 (b * d)] _ _ Hr.out)
   refine bodyPost_ret (v:=.agg #[.int .i64 (a * c),.int .i64 (b * d)]) (by simp [results,Tryz.results204,go_sem,z1,z2]) rfl ⟨rfl,belowRow (bdrew g0 nq) (by omega) _⟩
 ·have d1:decide (0 < d)=false:=decide_eq_false h1
  obtain rfl:d=0:=by omega
  obtain rfl:c=0:=by omega
  rw [if_neg (by omega)]
  have k5:a * 0=0:=by omega
  have k6:b * 0=0:=by omega
  rw [k5,k6]
  obtain⟨w0,hw0,g0,r1,r2⟩:=boxesO w a b 0 0
  have hw:=Lib.hid hw0;clear hw0
  obtain⟨c1,c2,c3,c4⟩:=four_cellsV r1
  go_enter Tryz.func204,Tryz.ntmps204
  go_wp2_with fail
  rw [←hw.out]
  go_quiet (fail)
  have Hr:=Lib.hid (show rowV (w0.drewN nq) (w.heap.size+1) 148 #[.int .i64 0,.int .i64 0] from r2)
  go_wp2_with (refine wpList_store_row rfl 148 (.tmp 2) (.tmp 25) rfl _ #[.int .i64 0,.int .i64 0] rfl rfl _ _ Hr.out (hI2 _ _) rfl (hA2 _ _) ?_)
  obtain⟨z1,z2⟩:=two_cellsV (setRow_heap (w0.drewN nq) (w.heap.size+1) _ #[.int .i64 0,.int .i64 0] _ _ Hr.out)
  refine bodyPost_ret (v:=.agg #[.int .i64 0,.int .i64 0]) (by simp [results,Tryz.results204,go_sem,z1,z2]) rfl ⟨rfl,belowRow (bdrew g0 nq) (by omega) _⟩
theorem m_xor(a b c d:Int)(ha:0≤a)(hab:a≤b)(hb:b≤4294967295)(hc:0≤c)(hcd:c≤d)(hd:d≤4294967295)(w:World):Calls Tryz.prog 209 #[.agg #[.int .i64 a,.int .i64 b,.int .i64 c,.int .i64 d]] w fun e w'=>e=.returned (ivV (ruleI 15 a b c d))∧Below w.heap.size w w':=by
 rw [show ruleI 15 a b c d=⟨0,onesI (max b d)⟩ from rfl]
 obtain⟨n,hn⟩:∃ n:Nat,max b d=(n:Int):=⟨(max b d).toNat,by omega⟩
 have hN:Int.toNat (n:Int)=n:=Int.toNat_natCast n
 unfold onesI
 rw [hn,hN]
 have hn':n < 4294967296:=by omega
 obtain⟨z,hz⟩:∃ z,z=onesN n:=⟨_,rfl⟩
 have H:=Lib.hid (ones_any n hn')
 rw [←hz] at H ⊢
 clear hz hN
 obtain⟨w0,hw0,g0,r1,r2⟩:=boxesO w a b c d
 have hw:=Lib.hid hw0;clear hw0
 obtain⟨c1,c2,c3,c4⟩:=four_cellsV r1
 go_enter Tryz.func209,Tryz.ntmps209
 go_wp2_with fail
 rw [←hw.out]
 refine (H.out _).mono ?_
 rintro e w1 ⟨rfl,hw1⟩
 obtain rfl:w0=w1:=hw1.symm
 have Hr:=Lib.hid (show rowV w0 (w.heap.size+1) 148 #[.int .i64 0,.int .i64 0] from r2)
 go_wp2_with (refine wpList_store_row rfl 148 (.tmp 2) (.tmp 9) rfl _ #[.int .i64 0,.int .i64 z] rfl rfl _ _ Hr.out (hI2 _ _) rfl (hA2 _ _) ?_)
 obtain⟨z1,z2⟩:=two_cellsV (setRow_heap w0 (w.heap.size+1) _ #[.int .i64 0,.int .i64 z] _ _ Hr.out)
 refine bodyPost_ret (v:=.agg #[.int .i64 0,.int .i64 z]) (by simp [results,Tryz.results209,go_sem,z1,z2]) rfl ⟨rfl,belowRow g0 (by omega) _⟩
theorem m_or(a b c d:Int)(ha:0≤a)(hab:a≤b)(hb:b≤4294967295)(hc:0≤c)(hcd:c≤d)(hd:d≤4294967295)(w:World):Calls Tryz.prog 208 #[.agg #[.int .i64 a,.int .i64 b,.int .i64 c,.int .i64 d]] w fun e w'=>e=.returned (ivV (ruleI 14 a b c d))∧Below w.heap.size w w':=by
 rw [show ruleI 14 a b c d=⟨max a c,onesI (max b d)⟩ from rfl]
 obtain⟨n,hn⟩:∃ n:Nat,max b d=(n:Int):=⟨(max b d).toNat,by omega⟩
 have hN:Int.toNat (n:Int)=n:=Int.toNat_natCast n
 unfold onesI
 rw [hn,hN]
 have hn':n < 4294967296:=by omega
 obtain⟨z,hz⟩:∃ z,z=onesN n:=⟨_,rfl⟩
 have H:=Lib.hid (ones_any n hn')
 rw [←hz] at H ⊢
 clear hz hN
 obtain⟨w0,hw0,g0,r1,r2⟩:=boxesO w a b c d
 have hw:=Lib.hid hw0;clear hw0
 obtain⟨c1,c2,c3,c4⟩:=four_cellsV r1
 go_enter Tryz.func208,Tryz.ntmps208
 go_wp2_with fail
 rw [←hw.out]
 refine wp_region_quiet_tail 12 (by kernel_rfl) (by kernel_rfl) ?_
 simp only [List.take_succ_cons,List.take_zero,List.drop_succ_cons,List.drop_zero]
 repeat (go_big_quiet_step (first | (go_at_call_of 233 (Value.int .i64 n);exact (H.out _).mono fun e w2 h=>⟨h.1,_,h.2⟩)))
 refine wpQuiet_nil ?_
 intro _ hw'
 obtain⟨nr,hw''⟩:=hw'
 subst hw''
 have Hr:=Lib.hid (show rowV (w0.drewN nr) (w.heap.size+1) 148 #[.int .i64 0,.int .i64 0] from r2)
 go_wp2_with (refine wpList_store_row rfl 148 (.tmp 2) (.tmp 14) rfl _ #[.int .i64 (max a c),.int .i64 z] rfl rfl _ _ Hr.out (hI2 _ _) rfl (hA2 _ _) ?_)
 obtain⟨z1,z2⟩:=two_cellsV (setRow_heap (w0.drewN nr) (w.heap.size+1) _ #[.int .i64 (max a c),.int .i64 z] _ _ Hr.out)
 refine bodyPost_ret (v:=.agg #[.int .i64 (max a c),.int .i64 z]) (by simp [results,Tryz.results208,go_sem,z1,z2]) rfl ⟨rfl,belowRow (bdrew g0 nr) (by omega) _⟩
theorem m_shl(a b c d:Int)(ha:0≤a)(hab:a≤b)(hb:b≤4294967295)(hc:0≤c)(hcd:c≤d)(hd:d≤4294967295)(w:World):Calls Tryz.prog 210 #[.agg #[.int .i64 a,.int .i64 b,.int .i64 c,.int .i64 d]] w fun e w'=>e=.returned (ivV (ruleI 16 a b c d))∧Below w.heap.size w w':=by
 rw [show ruleI 16 a b c d=(if c≠d∨4294967295 / 2 ^ (c % 32).toNat < b then ivFull else ⟨a * 2 ^ (c % 32).toNat,b * 2 ^ (c % 32).toNat⟩) from rfl]
 obtain⟨k,hk⟩:∃ k:Nat,c % 32=(k:Int):=⟨(c % 32).toNat,by omega⟩
 have hk32:k < 32:=by omega
 have t0:Int.tmod c 32=(k:Int):=by rw [Int.tmod_eq_emod_of_nonneg hc,hk]
 rw [hk,Int.toNat_natCast]
 have p1:=two_pow_int k
 have p2:(2:Int) ^ k≤2 ^ 31:=two_pow_le (by omega)
 have u1:=Int.ediv_nonneg (by omega:(0:Int)≤4294967295) (Int.le_of_lt p1)
 have u2:=Int.ediv_le_self (2 ^ k) (by omega:(0:Int)≤4294967295)
 obtain⟨T,hT⟩:∃ T:Int,T=2 ^ k:=⟨_,rfl⟩
 obtain⟨w0,hw0,g0,r1,r2⟩:=boxesO w a b c d
 have hw:=Lib.hid hw0;clear hw0
 obtain⟨c1,c2,c3,c4⟩:=four_cellsV r1
 by_cases h1:c=d
 ·have q1:(c != d)=false:=by simpa using h1
  by_cases h2:4294967295 / 2 ^ k < b
  ·rw [if_pos (.inr h2)]
   have d2:decide (4294967295 / 2 ^ k < b)=true:=decide_eq_true h2
   subst h1
   go_enter Tryz.func210,Tryz.ntmps210
   go_wp2_with fail
   rw [←hw.out]
   go_quiet (fail)
   go_wp2_with fail
   refine (full_any _).mono ?_
   rintro e w1 ⟨rfl,hb1⟩
   have Hr:=Lib.hid ((show rowV (w0.drewN nq) (w.heap.size+1) 148 #[.int .i64 0,.int .i64 0] from r2).below hb1 (show w.heap.size+1 < (w0.drewN nq).heap.size from r2.lt))
   go_wp2_with (refine wpList_store_row rfl 148 (.tmp 2) (.tmp 19) rfl _ #[.int .i64 0,.int .i64 4294967295] rfl rfl _ _ Hr.out (hI2 _ _) rfl (hA2 _ _) ?_)
   obtain⟨z1,z2⟩:=two_cellsV (setRow_heap w1 (w.heap.size+1) _ #[.int .i64 0,.int .i64 4294967295] _ _ Hr.out)
   refine bodyPost_ret (v:=.agg #[.int .i64 0,.int .i64 4294967295]) (by simp [results,Tryz.results210,go_sem,z1,z2]) rfl ⟨rfl,belowRow ((bdrew g0 nq).trans (hb1.mono (bdrew g0 nq).size)) (by omega) _⟩
  ·rw [if_neg (by omega)]
   have d2:decide (4294967295 / 2 ^ k < b)=false:=decide_eq_false h2
   have k1:b≤4294967295 / 2 ^ k:=by omega
   have k2:=Int.mul_le_mul_of_nonneg_right k1 (Int.le_of_lt p1)
   have k3:=Int.ediv_mul_le 4294967295 (b:=2 ^ k) (by omega)
   have k4:b * 2 ^ k≤4294967295:=Int.le_trans k2 k3
   have k5:=Int.mul_le_mul_of_nonneg_right hab (Int.le_of_lt p1)
   have k6:=Int.mul_nonneg ha (Int.le_of_lt p1)
   have e1:wrap64 (a * 2 ^ k)=a * 2 ^ k:=by unfold wrap64;omega
   have e2:wrap64 (b * 2 ^ k)=b * 2 ^ k:=by unfold wrap64;omega
   clear k2 k3
   subst h1
   go_enter Tryz.func210,Tryz.ntmps210
   go_wp2_with fail
   rw [←hw.out]
   go_quiet (fail)
   go_wp2_with fail
   refine wp_region_quiet_tail 9 (by kernel_rfl) (by kernel_rfl) ?_
   simp only [List.take_succ_cons,List.take_zero,List.drop_succ_cons,List.drop_zero]
   repeat (go_big_quiet_step (fail))
   refine wpQuiet_nil ?_
   intro _ hw'
   obtain⟨nr,hw''⟩:=hw'
   subst hw''
   have Hr:=Lib.hid (show rowV ((w0.drewN nq).drewN nr) (w.heap.size+1) 148 #[.int .i64 0,.int .i64 0] from r2)
   go_wp2_with (refine wpList_store_row rfl 148 (.tmp 2) (.tmp 28) rfl _ #[.int .i64 (a * 2 ^ k),.int .i64 (b * 2 ^ k)] rfl rfl _ _ Hr.out (hI2 _ _) rfl (hA2 _ _) ?_)
   obtain⟨z1,z2⟩:=two_cellsV (setRow_heap (w0.drewN (nq+nr)) (w.heap.size+1) _ #[.int .i64 (a * 2 ^ k),.int .i64 (b * 2 ^ k)] _ _ Hr.out)
   refine bodyPost_ret (v:=.agg #[.int .i64 (a * 2 ^ k),.int .i64 (b * 2 ^ k)]) (by simp [results,Tryz.results210,go_sem,z1,z2]) rfl ⟨rfl,belowRow (bdrew (bdrew g0 nq) nr) (by omega) _⟩
 ·have q1:(c != d)=true:=by simpa using h1
  rw [if_pos (.inl h1)]
  go_enter Tryz.func210,Tryz.ntmps210
  go_wp2_with fail
  rw [←hw.out]
  go_quiet (fail)
  go_wp2_with fail
  refine (full_any _).mono ?_
  rintro e w1 ⟨rfl,hb1⟩
  have Hr:=Lib.hid ((show rowV (w0.drewN nq) (w.heap.size+1) 148 #[.int .i64 0,.int .i64 0] from r2).below hb1 (show w.heap.size+1 < (w0.drewN nq).heap.size from r2.lt))
  go_wp2_with (refine wpList_store_row rfl 148 (.tmp 2) (.tmp 19) rfl _ #[.int .i64 0,.int .i64 4294967295] rfl rfl _ _ Hr.out (hI2 _ _) rfl (hA2 _ _) ?_)
  obtain⟨z1,z2⟩:=two_cellsV (setRow_heap w1 (w.heap.size+1) _ #[.int .i64 0,.int .i64 4294967295] _ _ Hr.out)
  refine bodyPost_ret (v:=.agg #[.int .i64 0,.int .i64 4294967295]) (by simp [results,Tryz.results210,go_sem,z1,z2]) rfl ⟨rfl,belowRow ((bdrew g0 nq).trans (hb1.mono (bdrew g0 nq).size)) (by omega) _⟩
theorem m_shr(a b c d:Int)(ha:0≤a)(hab:a≤b)(hb:b≤4294967295)(hc:0≤c)(hcd:c≤d)(hd:d≤4294967295)(w:World):Calls Tryz.prog 211 #[.agg #[.int .i64 a,.int .i64 b,.int .i64 c,.int .i64 d]] w fun e w'=>e=.returned (ivV (ruleI 17 a b c d))∧Below w.heap.size w w':=by
 rw [show ruleI 17 a b c d=(if d≤31 then ⟨a / 2 ^ d.toNat,b / 2 ^ c.toNat⟩ else if c=d then ⟨a / 2 ^ (c % 32).toNat,b / 2 ^ (c % 32).toNat⟩ else ⟨0,b⟩) from rfl]
 obtain⟨w0,hw0,g0,r1,r2⟩:=boxesO w a b c d
 have hw:=Lib.hid hw0;clear hw0
 obtain⟨c1,c2,c3,c4⟩:=four_cellsV r1
 by_cases h1:d≤31
 ·have d1:decide (d≤31)=true:=decide_eq_true h1
  rw [if_pos h1]
  obtain⟨k,rfl⟩:∃ k:Nat,d=(k:Int):=⟨d.toNat,by omega⟩
  obtain⟨j,rfl⟩:∃ j:Nat,c=(j:Int):=⟨c.toNat,by omega⟩
  rw [Int.toNat_natCast,Int.toNat_natCast]
  have p1:=two_pow_int k
  have p2:=two_pow_int j
  have u1:=Int.ediv_nonneg ha (Int.le_of_lt p1)
  have u2:=Int.ediv_le_self (2 ^ k) ha
  have u3:=Int.ediv_nonneg (by omega:0≤b) (Int.le_of_lt p2)
  have u4:=Int.ediv_le_self (2 ^ j) (by omega:0≤b)
  go_enter Tryz.func211,Tryz.ntmps211
  go_wp2_with fail
  rw [←hw.out]
  refine wp_region_quiet_tail 11 (by kernel_rfl) (by kernel_rfl) ?_
  simp only [List.take_succ_cons,List.take_zero,List.drop_succ_cons,List.drop_zero]
  repeat (go_big_quiet_step (fail))
  refine wpQuiet_nil ?_
  intro _ hw'
  obtain⟨nr,hw''⟩:=hw'
  subst hw''
  have Hr:=Lib.hid (show rowV (w0.drewN nr) (w.heap.size+1) 148 #[.int .i64 0,.int .i64 0] from r2)
  go_wp2_with (refine wpList_store_row rfl 148 (.tmp 2) (.tmp 17) rfl _ #[.int .i64 (a / 2 ^ k),.int .i64 (b / 2 ^ j)] rfl rfl _ _ Hr.out (hI2 _ _) rfl (hA2 _ _) ?_)
  obtain⟨z1,z2⟩:=two_cellsV (setRow_heap (w0.drewN nr) (w.heap.size+1) _ #[.int .i64 (a / 2 ^ k),.int .i64 (b / 2 ^ j)] _ _ Hr.out)
  refine bodyPost_ret (v:=.agg #[.int .i64 (a / 2 ^ k),.int .i64 (b / 2 ^ j)]) (by simp [results,Tryz.results211,go_sem,z1,z2]) rfl ⟨rfl,belowRow (bdrew g0 nr) (by omega) _⟩
 ·have d1:decide (d≤31)=false:=decide_eq_false h1
  rw [if_neg h1]
  by_cases h2:c=d
  ·have q1:(c==d)=true:=by simpa using h2
   rw [if_pos h2]
   obtain⟨k,hk⟩:∃ k:Nat,c % 32=(k:Int):=⟨(c % 32).toNat,by omega⟩
   have t0:Int.tmod c 32=(k:Int):=by rw [Int.tmod_eq_emod_of_nonneg hc,hk]
   rw [hk,Int.toNat_natCast]
   have p1:=two_pow_int k
   have u1:=Int.ediv_nonneg ha (Int.le_of_lt p1)
   have u2:=Int.ediv_le_self (2 ^ k) ha
   have u3:=Int.ediv_nonneg (by omega:0≤b) (Int.le_of_lt p1)
   have u4:=Int.ediv_le_self (2 ^ k) (by omega:0≤b)
   subst h2
   go_enter Tryz.func211,Tryz.ntmps211
   go_wp2_with fail
   rw [←hw.out]
   go_wp2_with fail
   refine wp_region_quiet_tail 13 (by kernel_rfl) (by kernel_rfl) ?_
   simp only [List.take_succ_cons,List.take_zero,List.drop_succ_cons,List.drop_zero]
   repeat (go_big_quiet_step (fail))
   refine wpQuiet_nil ?_
   intro _ hw'
   obtain⟨nr,hw''⟩:=hw'
   subst hw''
   have Hr:=Lib.hid (show rowV (w0.drewN nr) (w.heap.size+1) 148 #[.int .i64 0,.int .i64 0] from r2)
   go_wp2_with (refine wpList_store_row rfl 148 (.tmp 2) (.tmp 36) rfl _ #[.int .i64 (a / 2 ^ k),.int .i64 (b / 2 ^ k)] rfl rfl _ _ Hr.out (hI2 _ _) rfl (hA2 _ _) ?_)
   obtain⟨z1,z2⟩:=two_cellsV (setRow_heap (w0.drewN nr) (w.heap.size+1) _ #[.int .i64 (a / 2 ^ k),.int .i64 (b / 2 ^ k)] _ _ Hr.out)
   refine bodyPost_ret (v:=.agg #[.int .i64 (a / 2 ^ k),.int .i64 (b / 2 ^ k)]) (by simp [results,Tryz.results211,go_sem,z1,z2]) rfl ⟨rfl,belowRow (bdrew g0 nr) (by omega) _⟩
  ·have q1:(c==d)=false:=by simpa using h2
   rw [if_neg h2]
   go_enter Tryz.func211,Tryz.ntmps211
   go_wp2_with fail
   refine bodyPost_ret (v:=.agg #[.int .i64 0,.int .i64 b]) (by simp [results,Tryz.results211,go_sem]) rfl ⟨rfl,balloc (balloc (Below.refl _ _) _) _⟩
end Go.Proofs.YtpaplehcafeeaaaGreatDoor
