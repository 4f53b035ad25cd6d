/- Vg Vh. -/
import Derived.Test.YtepoclhdklgnhaaGreatDoorRV20
import Derived.Test.YtepoclhdklgnhaaGreatDoorRV03
set_option maxRecDepth 100000
set_option maxHeartbeats 40000000
set_option linter.unusedVariables false
set_option linter.unusedSimpArgs false
namespace Go.Proofs.YtepoclhdklgnhaaGreatDoor
open Go.RowKit Go.Proofs
theorem row2_set0{w:World}{g:Nat}{t:TypeId}{a b:Value}(h:rowV w g t #[a,b])(v:Value):rowV (w.setCell ⟨g,0,none⟩ v) g t #[v,b]:=by have:=h.set 0 v;simpa using this
theorem row2_set1{w:World}{g:Nat}{t:TypeId}{a b:Value}(h:rowV w g t #[a,b])(v:Value):rowV (w.setCell ⟨g,1,none⟩ v) g t #[a,v]:=by have:=h.set 1 v;simpa using this
theorem belowCell{N:Nat}{w w1:World}{g j:Nat}(h:Below N w w1)(hg:N≤g)(v:Value):Below N w (w1.setCell ⟨g,j,none⟩ v):=⟨h.1,h.2,h.3,by simpa [World.setCell] using h.4,fun i hi=>(Below.heap_setCell w1 ⟨g,j,none⟩ v i (by show i≠g;omega)).trans (h.5 i hi)⟩
theorem ix3(W:World):(Instr.index 194 (.agg #[.int .i64 255,.int .i64 65535,.int .i64 4294967295]) (.int .i64 0)).run Tryz.prog W=.ok (.int .i64 255) W∧(Instr.index 194 (.agg #[.int .i64 255,.int .i64 65535,.int .i64 4294967295]) (.int .i64 1)).run Tryz.prog W=.ok (.int .i64 65535) W∧(Instr.index 194 (.agg #[.int .i64 255,.int .i64 65535,.int .i64 4294967295]) (.int .i64 2)).run Tryz.prog W=.ok (.int .i64 4294967295) W:=⟨by kernel_rfl,by kernel_rfl,by kernel_rfl⟩
theorem widen_any(x y:Iv)(w:World):Calls Tryz.prog 62 #[.agg #[.int .i64 x.lo,.int .i64 x.hi],.agg #[.int .i64 y.lo,.int .i64 y.hi]] w fun e w'=>e=.returned (.agg #[.int .i64 (ivWiden x y).lo,.int .i64 (ivWiden x y).hi])∧Below w.heap.size w w':=by
 have hE:Hid (ivWiden x y=if ivOk x && ivOk y then ⟨if y.lo < x.lo then 0 else x.lo,if x.hi < y.hi then (if y.hi≤255 then 255 else if y.hi≤65535 then 65535 else 4294967295) else x.hi⟩ else ⟨0,0⟩):=rfl
 obtain⟨w0,hw0,g0,r1,r2,r3⟩:=boxes3 w x.lo x.hi y.lo y.hi 0 0
 have H:=Lib.hid (ordered_any x y w0)
 obtain⟨a,b⟩:=x
 obtain⟨c,d⟩:=y
 dsimp only at H hE hw0 r1 r2 ⊢
 have hw:=Lib.hid hw0;clear hw0
 have hod:(ivOk ⟨a,b⟩ && ivOk ⟨c,d⟩)=true→d≤4294967295:=fun h=>by
  simp only [Bool.and_eq_true,ivOk_iff] at h;omega
 obtain⟨o,ho⟩:∃ o,o=(ivOk ⟨a,b⟩ && ivOk ⟨c,d⟩):=⟨_,rfl⟩
 rw [←ho] at H hE hod
 clear ho
 cases o with
 | false=>
  rw [if_neg (by decide)] at hE
  rw [hE.out]
  go_enter Tryz.func62,Tryz.ntmps62
  go_wp2_with fail
  rw [←hw.out]
  refine H.out.mono ?_
  rintro e w1 ⟨rfl,hb1⟩
  have Hr:=Lib.hid (r3.below hb1 r3.lt)
  go_wp2_with (refine wpList_store_row rfl 55 (.tmp 4) (.tmp 11) rfl _ #[.int .i64 0,.int .i64 0] rfl rfl _ _ Hr.out (hI2 _ _) rfl (hA2 _ _) ?_)
  obtain⟨c1,c2⟩:=two_cellsV (setRow_heap w1 (w.heap.size+1+1) _ #[.int .i64 0,.int .i64 0] _ _ Hr.out)
  refine bodyPost_ret (v:=.agg #[.int .i64 0,.int .i64 0]) (by simp [results,Tryz.results62,go_sem,c1,c2]) rfl ⟨rfl,belowRow (g0.trans (hb1.mono g0.size)) (by omega) _⟩
 | true=>
  rw [if_pos rfl] at hE
  have hd:=hod rfl
  clear hod
  by_cases hl:c < a
  ·skip
   have d1:decide (c < a)=true:=decide_eq_true hl
   rw [if_pos hl] at hE
   by_cases hh:b < d
   ·have d2:decide (b < d)=true:=decide_eq_true hh
    rw [if_pos hh] at hE
    by_cases h1:d≤255
    ·have d3:decide (d≤255)=true:=decide_eq_true h1
     rw [if_pos h1] at hE
     rw [hE.out]
     go_enter Tryz.func62,Tryz.ntmps62
     go_wp2_with fail
     rw [←hw.out]
     refine H.out.mono ?_
     rintro e w1 ⟨rfl,hb1⟩
     have b1:=g0.trans (hb1.mono g0.size)
     have r1:=r1.below hb1 r1.lt
     have r2:=r2.below hb1 r2.lt
     have r3:=r3.below hb1 r3.lt
     clear g0 hb1 hw H
     obtain⟨c1,c2⟩:=two_cellsV r1
     obtain⟨c3,c4⟩:=two_cellsV r2
     have f1:=frozen_rowV' r1 0
     have s1:=row2_set0 r1 (.int .i64 0)
     have s2:=r2.setFar (p:=⟨w.heap.size,0,none⟩) (by show w.heap.size+1≠w.heap.size;omega) (.int .i64 0)
     have s3:=r3.setFar (p:=⟨w.heap.size,0,none⟩) (by show w.heap.size+1+1≠w.heap.size;omega) (.int .i64 0)
     have b2:=belowCell (j:=0) b1 (Nat.le_refl _) (.int .i64 0)
     obtain⟨e1,e2⟩:=two_cellsV s1
     obtain⟨e3,e4⟩:=two_cellsV s2
     have f2:=frozen_rowV' s1 1
     have t1:=row2_set1 s1 (.int .i64 255)
     have t3:=s3.setFar (p:=⟨w.heap.size,1,none⟩) (by show w.heap.size+1+1≠w.heap.size;omega) (.int .i64 255)
     have b3:=belowCell (j:=1) b2 (Nat.le_refl _) (.int .i64 255)
     obtain⟨k1,k2⟩:=two_cellsV t1
     have Hr:=Lib.hid t3
     clear r1 r2 r3 s1 s2 s3 t3 t1
     have x0:=fun W=>(ix3 W).1;have x1:=fun W=>(ix3 W).2.1;have x2:=fun W=>(ix3 W).2.2
     go_wp2_with fail
     refine wp_loop_rounds 1 ?_
     rw [rounds_succ]
     go_wp2_with (refine wpList_store_row rfl 55 (.tmp 4) (.tmp 34) rfl _ #[.int .i64 0,.int .i64 255] rfl rfl _ _ Hr.out (hI2 _ _) rfl (hA2 _ _) ?_)
     obtain⟨z1,z2⟩:=two_cellsV (setRow_heap ((w1.setCell ⟨w.heap.size,0,none⟩ (.int .i64 0)).setCell ⟨w.heap.size,1,none⟩ (.int .i64 255)) (w.heap.size+1+1) _ #[.int .i64 0,.int .i64 255] _ _ Hr.out)
     refine bodyPost_ret (v:=.agg #[.int .i64 0,.int .i64 255]) (by simp [results,Tryz.results62,go_sem,z1,z2]) rfl ⟨rfl,belowRow b3 (by omega) _⟩
    ·have d3:decide (d≤255)=false:=decide_eq_false h1
     rw [if_neg h1] at hE
     by_cases h2:d≤65535
     ·have d4:decide (d≤65535)=true:=decide_eq_true h2
      rw [if_pos h2] at hE
      rw [hE.out]
      go_enter Tryz.func62,Tryz.ntmps62
      go_wp2_with fail
      rw [←hw.out]
      refine H.out.mono ?_
      rintro e w1 ⟨rfl,hb1⟩
      have b1:=g0.trans (hb1.mono g0.size)
      have r1:=r1.below hb1 r1.lt
      have r2:=r2.below hb1 r2.lt
      have r3:=r3.below hb1 r3.lt
      clear g0 hb1 hw H
      obtain⟨c1,c2⟩:=two_cellsV r1
      obtain⟨c3,c4⟩:=two_cellsV r2
      have f1:=frozen_rowV' r1 0
      have s1:=row2_set0 r1 (.int .i64 0)
      have s2:=r2.setFar (p:=⟨w.heap.size,0,none⟩) (by show w.heap.size+1≠w.heap.size;omega) (.int .i64 0)
      have s3:=r3.setFar (p:=⟨w.heap.size,0,none⟩) (by show w.heap.size+1+1≠w.heap.size;omega) (.int .i64 0)
      have b2:=belowCell (j:=0) b1 (Nat.le_refl _) (.int .i64 0)
      obtain⟨e1,e2⟩:=two_cellsV s1
      obtain⟨e3,e4⟩:=two_cellsV s2
      have f2:=frozen_rowV' s1 1
      have t1:=row2_set1 s1 (.int .i64 65535)
      have t3:=s3.setFar (p:=⟨w.heap.size,1,none⟩) (by show w.heap.size+1+1≠w.heap.size;omega) (.int .i64 65535)
      have b3:=belowCell (j:=1) b2 (Nat.le_refl _) (.int .i64 65535)
      obtain⟨k1,k2⟩:=two_cellsV t1
      have Hr:=Lib.hid t3
      clear r1 r2 r3 s1 s2 s3 t3 t1
      have x0:=fun W=>(ix3 W).1;have x1:=fun W=>(ix3 W).2.1;have x2:=fun W=>(ix3 W).2.2
      go_wp2_with fail
      refine wp_loop_rounds 2 ?_
      rw [rounds_succ]
      go_wp2_with fail
      rw [rounds_succ]
      go_wp2_with (refine wpList_store_row rfl 55 (.tmp 4) (.tmp 34) rfl _ #[.int .i64 0,.int .i64 65535] rfl rfl _ _ Hr.out (hI2 _ _) rfl (hA2 _ _) ?_)
      obtain⟨z1,z2⟩:=two_cellsV (setRow_heap ((w1.setCell ⟨w.heap.size,0,none⟩ (.int .i64 0)).setCell ⟨w.heap.size,1,none⟩ (.int .i64 65535)) (w.heap.size+1+1) _ #[.int .i64 0,.int .i64 65535] _ _ Hr.out)
      refine bodyPost_ret (v:=.agg #[.int .i64 0,.int .i64 65535]) (by simp [results,Tryz.results62,go_sem,z1,z2]) rfl ⟨rfl,belowRow b3 (by omega) _⟩
     ·have d4:decide (d≤65535)=false:=decide_eq_false h2
      have d5:decide (d≤4294967295)=true:=decide_eq_true hd
      rw [if_neg h2] at hE
      rw [hE.out]
      go_enter Tryz.func62,Tryz.ntmps62
      go_wp2_with fail
      rw [←hw.out]
      refine H.out.mono ?_
      rintro e w1 ⟨rfl,hb1⟩
      have b1:=g0.trans (hb1.mono g0.size)
      have r1:=r1.below hb1 r1.lt
      have r2:=r2.below hb1 r2.lt
      have r3:=r3.below hb1 r3.lt
      clear g0 hb1 hw H
      obtain⟨c1,c2⟩:=two_cellsV r1
      obtain⟨c3,c4⟩:=two_cellsV r2
      have f1:=frozen_rowV' r1 0
      have s1:=row2_set0 r1 (.int .i64 0)
      have s2:=r2.setFar (p:=⟨w.heap.size,0,none⟩) (by show w.heap.size+1≠w.heap.size;omega) (.int .i64 0)
      have s3:=r3.setFar (p:=⟨w.heap.size,0,none⟩) (by show w.heap.size+1+1≠w.heap.size;omega) (.int .i64 0)
      have b2:=belowCell (j:=0) b1 (Nat.le_refl _) (.int .i64 0)
      obtain⟨e1,e2⟩:=two_cellsV s1
      obtain⟨e3,e4⟩:=two_cellsV s2
      have f2:=frozen_rowV' s1 1
      have t1:=row2_set1 s1 (.int .i64 4294967295)
      have t3:=s3.setFar (p:=⟨w.heap.size,1,none⟩) (by show w.heap.size+1+1≠w.heap.size;omega) (.int .i64 4294967295)
      have b3:=belowCell (j:=1) b2 (Nat.le_refl _) (.int .i64 4294967295)
      obtain⟨k1,k2⟩:=two_cellsV t1
      have Hr:=Lib.hid t3
      clear r1 r2 r3 s1 s2 s3 t3 t1
      have x0:=fun W=>(ix3 W).1;have x1:=fun W=>(ix3 W).2.1;have x2:=fun W=>(ix3 W).2.2
      go_wp2_with fail
      refine wp_loop_rounds 3 ?_
      rw [rounds_succ]
      go_wp2_with fail
      rw [rounds_succ]
      go_wp2_with fail
      rw [rounds_succ]
      go_wp2_with (refine wpList_store_row rfl 55 (.tmp 4) (.tmp 34) rfl _ #[.int .i64 0,.int .i64 4294967295] rfl rfl _ _ Hr.out (hI2 _ _) rfl (hA2 _ _) ?_)
      obtain⟨z1,z2⟩:=two_cellsV (setRow_heap ((w1.setCell ⟨w.heap.size,0,none⟩ (.int .i64 0)).setCell ⟨w.heap.size,1,none⟩ (.int .i64 4294967295)) (w.heap.size+1+1) _ #[.int .i64 0,.int .i64 4294967295] _ _ Hr.out)
      refine bodyPost_ret (v:=.agg #[.int .i64 0,.int .i64 4294967295]) (by simp [results,Tryz.results62,go_sem,z1,z2]) rfl ⟨rfl,belowRow b3 (by omega) _⟩
   ·have d2:decide (b < d)=false:=decide_eq_false hh
    rw [if_neg hh] at hE
    rw [hE.out]
    go_enter Tryz.func62,Tryz.ntmps62
    go_wp2_with fail
    rw [←hw.out]
    refine H.out.mono ?_
    rintro e w1 ⟨rfl,hb1⟩
    have b1:=g0.trans (hb1.mono g0.size)
    have r1:=r1.below hb1 r1.lt
    have r2:=r2.below hb1 r2.lt
    have r3:=r3.below hb1 r3.lt
    clear g0 hb1 hw H
    obtain⟨c1,c2⟩:=two_cellsV r1
    obtain⟨c3,c4⟩:=two_cellsV r2
    have f1:=frozen_rowV' r1 0
    have s1:=row2_set0 r1 (.int .i64 0)
    have s2:=r2.setFar (p:=⟨w.heap.size,0,none⟩) (by show w.heap.size+1≠w.heap.size;omega) (.int .i64 0)
    have s3:=r3.setFar (p:=⟨w.heap.size,0,none⟩) (by show w.heap.size+1+1≠w.heap.size;omega) (.int .i64 0)
    have b2:=belowCell (j:=0) b1 (Nat.le_refl _) (.int .i64 0)
    obtain⟨e1,e2⟩:=two_cellsV s1
    obtain⟨e3,e4⟩:=two_cellsV s2
    have t3:=s3
    have b3:=b2
    have Hr:=Lib.hid t3
    clear r1 r2 r3 s1 s2 s3 t3
    go_wp2_with (refine wpList_store_row rfl 55 (.tmp 4) (.tmp 34) rfl _ #[.int .i64 0,.int .i64 b] rfl rfl _ _ Hr.out (hI2 _ _) rfl (hA2 _ _) ?_)
    obtain⟨z1,z2⟩:=two_cellsV (setRow_heap (w1.setCell ⟨w.heap.size,0,none⟩ (.int .i64 0)) (w.heap.size+1+1) _ #[.int .i64 0,.int .i64 b] _ _ Hr.out)
    refine bodyPost_ret (v:=.agg #[.int .i64 0,.int .i64 b]) (by simp [results,Tryz.results62,go_sem,z1,z2]) rfl ⟨rfl,belowRow b3 (by omega) _⟩
  ·skip
   have d1:decide (c < a)=false:=decide_eq_false hl
   rw [if_neg hl] at hE
   by_cases hh:b < d
   ·have d2:decide (b < d)=true:=decide_eq_true hh
    rw [if_pos hh] at hE
    by_cases h1:d≤255
    ·have d3:decide (d≤255)=true:=decide_eq_true h1
     rw [if_pos h1] at hE
     rw [hE.out]
     go_enter Tryz.func62,Tryz.ntmps62
     go_wp2_with fail
     rw [←hw.out]
     refine H.out.mono ?_
     rintro e w1 ⟨rfl,hb1⟩
     have b1:=g0.trans (hb1.mono g0.size)
     have r1:=r1.below hb1 r1.lt
     have r2:=r2.below hb1 r2.lt
     have r3:=r3.below hb1 r3.lt
     clear g0 hb1 hw H
     obtain⟨c1,c2⟩:=two_cellsV r1
     obtain⟨c3,c4⟩:=two_cellsV r2
     have s1:=r1
     have s2:=r2
     have s3:=r3
     have b2:=b1
     have f2:=frozen_rowV' s1 1
     have t1:=row2_set1 s1 (.int .i64 255)
     have t3:=s3.setFar (p:=⟨w.heap.size,1,none⟩) (by show w.heap.size+1+1≠w.heap.size;omega) (.int .i64 255)
     have b3:=belowCell (j:=1) b2 (Nat.le_refl _) (.int .i64 255)
     obtain⟨k1,k2⟩:=two_cellsV t1
     have Hr:=Lib.hid t3
     clear r1 r2 r3 s1 s2 s3 t3 t1
     have x0:=fun W=>(ix3 W).1;have x1:=fun W=>(ix3 W).2.1;have x2:=fun W=>(ix3 W).2.2
     go_wp2_with fail
     refine wp_loop_rounds 1 ?_
     rw [rounds_succ]
     go_wp2_with (refine wpList_store_row rfl 55 (.tmp 4) (.tmp 34) rfl _ #[.int .i64 a,.int .i64 255] rfl rfl _ _ Hr.out (hI2 _ _) rfl (hA2 _ _) ?_)
     obtain⟨z1,z2⟩:=two_cellsV (setRow_heap (w1.setCell ⟨w.heap.size,1,none⟩ (.int .i64 255)) (w.heap.size+1+1) _ #[.int .i64 a,.int .i64 255] _ _ Hr.out)
     refine bodyPost_ret (v:=.agg #[.int .i64 a,.int .i64 255]) (by simp [results,Tryz.results62,go_sem,z1,z2]) rfl ⟨rfl,belowRow b3 (by omega) _⟩
    ·have d3:decide (d≤255)=false:=decide_eq_false h1
     rw [if_neg h1] at hE
     by_cases h2:d≤65535
     ·have d4:decide (d≤65535)=true:=decide_eq_true h2
      rw [if_pos h2] at hE
      rw [hE.out]
      go_enter Tryz.func62,Tryz.ntmps62
      go_wp2_with fail
      rw [←hw.out]
      refine H.out.mono ?_
      rintro e w1 ⟨rfl,hb1⟩
      have b1:=g0.trans (hb1.mono g0.size)
      have r1:=r1.below hb1 r1.lt
      have r2:=r2.below hb1 r2.lt
      have r3:=r3.below hb1 r3.lt
      clear g0 hb1 hw H
      obtain⟨c1,c2⟩:=two_cellsV r1
      obtain⟨c3,c4⟩:=two_cellsV r2
      have s1:=r1
      have s2:=r2
      have s3:=r3
      have b2:=b1
      have f2:=frozen_rowV' s1 1
      have t1:=row2_set1 s1 (.int .i64 65535)
      have t3:=s3.setFar (p:=⟨w.heap.size,1,none⟩) (by show w.heap.size+1+1≠w.heap.size;omega) (.int .i64 65535)
      have b3:=belowCell (j:=1) b2 (Nat.le_refl _) (.int .i64 65535)
      obtain⟨k1,k2⟩:=two_cellsV t1
      have Hr:=Lib.hid t3
      clear r1 r2 r3 s1 s2 s3 t3 t1
      have x0:=fun W=>(ix3 W).1;have x1:=fun W=>(ix3 W).2.1;have x2:=fun W=>(ix3 W).2.2
      go_wp2_with fail
      refine wp_loop_rounds 2 ?_
      rw [rounds_succ]
      go_wp2_with fail
      rw [rounds_succ]
      go_wp2_with (refine wpList_store_row rfl 55 (.tmp 4) (.tmp 34) rfl _ #[.int .i64 a,.int .i64 65535] rfl rfl _ _ Hr.out (hI2 _ _) rfl (hA2 _ _) ?_)
      obtain⟨z1,z2⟩:=two_cellsV (setRow_heap (w1.setCell ⟨w.heap.size,1,none⟩ (.int .i64 65535)) (w.heap.size+1+1) _ #[.int .i64 a,.int .i64 65535] _ _ Hr.out)
      refine bodyPost_ret (v:=.agg #[.int .i64 a,.int .i64 65535]) (by simp [results,Tryz.results62,go_sem,z1,z2]) rfl ⟨rfl,belowRow b3 (by omega) _⟩
     ·have d4:decide (d≤65535)=false:=decide_eq_false h2
      have d5:decide (d≤4294967295)=true:=decide_eq_true hd
      rw [if_neg h2] at hE
      rw [hE.out]
      go_enter Tryz.func62,Tryz.ntmps62
      go_wp2_with fail
      rw [←hw.out]
      refine H.out.mono ?_
      rintro e w1 ⟨rfl,hb1⟩
      have b1:=g0.trans (hb1.mono g0.size)
      have r1:=r1.below hb1 r1.lt
      have r2:=r2.below hb1 r2.lt
      have r3:=r3.below hb1 r3.lt
      clear g0 hb1 hw H
      obtain⟨c1,c2⟩:=two_cellsV r1
      obtain⟨c3,c4⟩:=two_cellsV r2
      have s1:=r1
      have s2:=r2
      have s3:=r3
      have b2:=b1
      have f2:=frozen_rowV' s1 1
      have t1:=row2_set1 s1 (.int .i64 4294967295)
      have t3:=s3.setFar (p:=⟨w.heap.size,1,none⟩) (by show w.heap.size+1+1≠w.heap.size;omega) (.int .i64 4294967295)
      have b3:=belowCell (j:=1) b2 (Nat.le_refl _) (.int .i64 4294967295)
      obtain⟨k1,k2⟩:=two_cellsV t1
      have Hr:=Lib.hid t3
      clear r1 r2 r3 s1 s2 s3 t3 t1
      have x0:=fun W=>(ix3 W).1;have x1:=fun W=>(ix3 W).2.1;have x2:=fun W=>(ix3 W).2.2
      go_wp2_with fail
      refine wp_loop_rounds 3 ?_
      rw [rounds_succ]
      go_wp2_with fail
      rw [rounds_succ]
      go_wp2_with fail
      rw [rounds_succ]
      go_wp2_with (refine wpList_store_row rfl 55 (.tmp 4) (.tmp 34) rfl _ #[.int .i64 a,.int .i64 4294967295] rfl rfl _ _ Hr.out (hI2 _ _) rfl (hA2 _ _) ?_)
      obtain⟨z1,z2⟩:=two_cellsV (setRow_heap (w1.setCell ⟨w.heap.size,1,none⟩ (.int .i64 4294967295)) (w.heap.size+1+1) _ #[.int .i64 a,.int .i64 4294967295] _ _ Hr.out)
      refine bodyPost_ret (v:=.agg #[.int .i64 a,.int .i64 4294967295]) (by simp [results,Tryz.results62,go_sem,z1,z2]) rfl ⟨rfl,belowRow b3 (by omega) _⟩
   ·have d2:decide (b < d)=false:=decide_eq_false hh
    rw [if_neg hh] at hE
    rw [hE.out]
    go_enter Tryz.func62,Tryz.ntmps62
    go_wp2_with fail
    rw [←hw.out]
    refine H.out.mono ?_
    rintro e w1 ⟨rfl,hb1⟩
    have b1:=g0.trans (hb1.mono g0.size)
    have r1:=r1.below hb1 r1.lt
    have r2:=r2.below hb1 r2.lt
    have r3:=r3.below hb1 r3.lt
    clear g0 hb1 hw H
    obtain⟨c1,c2⟩:=two_cellsV r1
    obtain⟨c3,c4⟩:=two_cellsV r2
    have s1:=r1
    have s2:=r2
    have s3:=r3
    have b2:=b1
    have t3:=s3
    have b3:=b2
    have Hr:=Lib.hid t3
    clear r1 r2 r3 s1 s2 s3 t3
    go_wp2_with (refine wpList_store_row rfl 55 (.tmp 4) (.tmp 34) rfl _ #[.int .i64 a,.int .i64 b] rfl rfl _ _ Hr.out (hI2 _ _) rfl (hA2 _ _) ?_)
    obtain⟨z1,z2⟩:=two_cellsV (setRow_heap w1 (w.heap.size+1+1) _ #[.int .i64 a,.int .i64 b] _ _ Hr.out)
    refine bodyPost_ret (v:=.agg #[.int .i64 a,.int .i64 b]) (by simp [results,Tryz.results62,go_sem,z1,z2]) rfl ⟨rfl,belowRow b3 (by omega) _⟩
def ivV(x:Iv):Value:=.agg #[.int .i64 x.lo,.int .i64 x.hi]
theorem four_cellsV{w:World}{g:Nat}{t:TypeId}{a b c d:Value}(h:rowV w g t #[a,b,c,d]):w.cell? ⟨g,0,none⟩=some a∧w.cell? ⟨g,1,none⟩=some b∧w.cell? ⟨g,2,none⟩=some c∧w.cell? ⟨g,3,none⟩=some d:=⟨cell_rowV h rfl,cell_rowV h rfl,cell_rowV h rfl,cell_rowV h rfl⟩
theorem boxesO(w:World)(a b c d:Int):∃ w0,w0=(w.alloc (.cells #[.int .i64 a,.int .i64 b,.int .i64 c,.int .i64 d] 260)).alloc (.cells #[.int .i64 0,.int .i64 0] 55)∧Below w.heap.size w w0∧rowV w0 w.heap.size 260 #[.int .i64 a,.int .i64 b,.int .i64 c,.int .i64 d]∧rowV w0 (w.heap.size+1) 55 #[.int .i64 0,.int .i64 0]:=by
 have r1:=rowV.new w 260 #[.int .i64 a,.int .i64 b,.int .i64 c,.int .i64 d]
 have r2:=rowV.new (w.alloc (.cells #[.int .i64 a,.int .i64 b,.int .i64 c,.int .i64 d] 260)) 55 #[.int .i64 0,.int .i64 0]
 have k1:=balloc (Below.refl _ (w.alloc (.cells #[.int .i64 a,.int .i64 b,.int .i64 c,.int .i64 d] 260))) (.cells #[.int .i64 0,.int .i64 0] 55)
 have e1:(w.alloc (.cells #[.int .i64 a,.int .i64 b,.int .i64 c,.int .i64 d] 260)).heap.size=w.heap.size+1:=by simp
 rw [e1] at r2
 exact⟨_,rfl,balloc (balloc (Below.refl _ _) _) _,r1.below k1 r1.lt,r2⟩
theorem shifted_any(lo hi:Int)(h1:-8589934592≤lo)(h2:hi≤17179869184)(h3:lo≤hi)(w:World):Calls Tryz.prog 207 #[.int .i64 lo,.int .i64 hi] w fun e w'=>e=.returned (ivV (shiftI lo hi))∧Below w.heap.size w w':=by
 unfold shiftI
 by_cases c1:0≤lo
 ·have d1:decide (0≤lo)=true:=decide_eq_true c1
  by_cases c2:hi≤4294967295
  ·have d2:decide (hi≤4294967295)=true:=decide_eq_true c2
   rw [if_pos ⟨c1,c2⟩]
   go_enter Tryz.func207,Tryz.ntmps207
   go_wp2_with fail
   refine bodyPost_ret (v:=.agg #[.int .i64 lo,.int .i64 hi]) (by simp [results,Tryz.results207,go_sem]) rfl ⟨rfl,balloc (Below.refl _ _) _⟩
  ·have d2:decide (hi≤4294967295)=false:=decide_eq_false c2
   rw [if_neg (by omega)]
   by_cases c3:4294967295 < lo
   ·have d3:decide (4294967295 < lo)=true:=decide_eq_true c3
    rw [if_pos c3]
    have e1:lo-4294967295-1=lo-4294967296:=by omega
    have e2:hi-4294967295-1=hi-4294967296:=by omega
    go_enter Tryz.func207,Tryz.ntmps207
    go_wp2_with fail
    refine bodyPost_ret (v:=.agg #[.int .i64 (lo-4294967296),.int .i64 (hi-4294967296)]) (by simp [results,Tryz.results207,go_sem]) rfl ⟨rfl,balloc (Below.refl _ _) _⟩
   ·have d3:decide (4294967295 < lo)=false:=decide_eq_false c3
    have d4:decide (hi < 0)=false:=decide_eq_false (by omega)
    rw [if_neg c3,if_neg (by omega)]
    go_enter Tryz.func207,Tryz.ntmps207
    have r2:=rowV.new w 55 #[.int .i64 0,.int .i64 0]
    go_wp2_with fail
    refine (full_any _).mono ?_
    rintro e w1 ⟨rfl,hb1⟩
    have Hr:=Lib.hid (r2.below hb1 r2.lt)
    go_wp2_with (refine wpList_store_row rfl 55 (.tmp 4) (.tmp 35) rfl _ #[.int .i64 0,.int .i64 4294967295] rfl rfl _ _ Hr.out (hI2 _ _) rfl (hA2 _ _) ?_)
    obtain⟨z1,z2⟩:=two_cellsV (setRow_heap w1 w.heap.size _ #[.int .i64 0,.int .i64 4294967295] _ _ Hr.out)
    refine bodyPost_ret (v:=.agg #[.int .i64 0,.int .i64 4294967295]) (by simp [results,Tryz.results207,go_sem,z1,z2]) rfl ⟨rfl,belowRow ((balloc (Below.refl _ _) _).trans (hb1.mono (by simp))) (by omega) _⟩
 ·have d1:decide (0≤lo)=false:=decide_eq_false c1
  rw [if_neg (by omega)]
  have d3:decide (4294967295 < lo)=false:=decide_eq_false (by omega)
  rw [if_neg (by omega)]
  by_cases c4:hi < 0
  ·have d4:decide (hi < 0)=true:=decide_eq_true c4
   rw [if_pos c4]
   have e1:lo+4294967295+1=lo+4294967296:=by omega
   have e2:hi+4294967295+1=hi+4294967296:=by omega
   go_enter Tryz.func207,Tryz.ntmps207
   go_wp2_with fail
   refine bodyPost_ret (v:=.agg #[.int .i64 (lo+4294967296),.int .i64 (hi+4294967296)]) (by simp [results,Tryz.results207,go_sem]) rfl ⟨rfl,balloc (Below.refl _ _) _⟩
  ·have d4:decide (hi < 0)=false:=decide_eq_false c4
   rw [if_neg c4]
   go_enter Tryz.func207,Tryz.ntmps207
   have r2:=rowV.new w 55 #[.int .i64 0,.int .i64 0]
   go_wp2_with fail
   refine (full_any _).mono ?_
   rintro e w1 ⟨rfl,hb1⟩
   have Hr:=Lib.hid (r2.below hb1 r2.lt)
   go_wp2_with (refine wpList_store_row rfl 55 (.tmp 4) (.tmp 35) rfl _ #[.int .i64 0,.int .i64 4294967295] rfl rfl _ _ Hr.out (hI2 _ _) rfl (hA2 _ _) ?_)
   obtain⟨z1,z2⟩:=two_cellsV (setRow_heap w1 w.heap.size _ #[.int .i64 0,.int .i64 4294967295] _ _ Hr.out)
   refine bodyPost_ret (v:=.agg #[.int .i64 0,.int .i64 4294967295]) (by simp [results,Tryz.results207,go_sem,z1,z2]) rfl ⟨rfl,belowRow ((balloc (Below.refl _ _) _).trans (hb1.mono (by simp))) (by omega) _⟩
theorem onesN_bits{n:Nat}(hn:n < 4294967296):onesN n=2 ^ Lib.bitLen n-1∧Lib.bitLen n≤32:=by
 unfold onesN
 by_cases h0:n=0
 ·subst h0
  exact⟨by decide,by decide⟩
 ·obtain⟨h1,h2,h3⟩:=bitLen_bounds (n:=n) (by omega) h0
  have h4:n.log2=Lib.bitLen n-1:=(Nat.log2_eq_iff h0).2 ⟨h2,by rw [Nat.sub_add_cancel h1];exact h3⟩
  have h5:n.log2 < 32:=(Nat.log2_lt h0).2 (by omega)
  rw [if_neg h0,h4,Nat.sub_add_cancel h1]
  exact⟨rfl,by omega⟩
theorem ones_any(n:Nat)(hn:n < 4294967296)(w:World):Calls Tryz.prog 208 #[.int .i64 n] w fun e w'=>e=.returned (.int .i64 (onesN n:Nat))∧w'=w:=by
 have H:=Tryz.bits_Len (n:Int) w (by omega) (by omega)
 rw [Int.toNat_natCast] at H
 obtain⟨h1,h2⟩:=onesN_bits hn
 rw [h1]
 obtain⟨k,hk⟩:∃ k,k=Lib.bitLen n:=⟨_,rfl⟩
 rw [←hk] at H h2 ⊢
 clear hk h1
 have HH:=Lib.hid H;clear H
 have hw:IntKind.u64.wrap (n:Int)=(n:Int):=by simp [IntKind.wrap,IntKind.bits,IntKind.signed];omega
 go_enter Tryz.func208,Tryz.ntmps208
 go_wp2_with fail
 refine HH.out.mono ?_
 rintro e w1 ⟨rfl,hw1⟩
 obtain rfl:w=w1:=hw1.symm
 go_wp2_with fail
 have e1:wrap64 (wrap64 (2 ^ k)-1)=((2 ^ k-1:Nat):Int):=(by decide +kernel:∀ k:Fin 33,wrap64 (wrap64 (2 ^ k.val)-1)=((2 ^ k.val-1:Nat):Int)) ⟨k,by omega⟩
 rw [e1]
 go_ret
 exact⟨rfl,rfl⟩
theorem m_add(a b c d:Int)(ha:0≤a)(hab:a≤b)(hb:b≤4294967295)(hc:0≤c)(hcd:c≤d)(hd:d≤4294967295)(w:World):Calls Tryz.prog 184 #[.agg #[.int .i64 a,.int .i64 b,.int .i64 c,.int .i64 d]] w fun e w'=>e=.returned (ivV (ruleI 8 a b c d))∧Below w.heap.size w w':=by
 rw [show ruleI 8 a b c d=shiftI (a+c) (b+d) from rfl]
 obtain⟨w0,hw0,g0,r1,r2⟩:=boxesO w a b c d
 have hw:=Lib.hid hw0;clear hw0
 have H:=Lib.hid (shifted_any (a+c) (b+d) (by omega) (by omega) (by omega) w0)
 obtain⟨⟨lo,hi⟩,hs⟩:∃ z,z=shiftI (a+c) (b+d):=⟨_,rfl⟩
 rw [←hs] at H ⊢
 clear hs
 unfold ivV at H
 go_enter Tryz.func184,Tryz.ntmps184
 go_wp2_with fail
 rw [←hw.out]
 refine H.out.mono ?_
 rintro e w1 ⟨rfl,hb1⟩
 have Hr:=Lib.hid (r2.below hb1 r2.lt)
 go_wp2_with (refine wpList_store_row rfl 55 (.tmp 2) (.tmp 13) rfl _ #[.int .i64 lo,.int .i64 hi] rfl rfl _ _ Hr.out (hI2 _ _) rfl (hA2 _ _) ?_)
 obtain⟨z1,z2⟩:=two_cellsV (setRow_heap w1 (w.heap.size+1) _ #[.int .i64 lo,.int .i64 hi] _ _ Hr.out)
 refine bodyPost_ret (v:=.agg #[.int .i64 lo,.int .i64 hi]) (by simp [results,Tryz.results184,go_sem,z1,z2]) rfl ⟨rfl,belowRow (g0.trans (hb1.mono g0.size)) (by omega) _⟩
theorem m_sub(a b c d:Int)(ha:0≤a)(hab:a≤b)(hb:b≤4294967295)(hc:0≤c)(hcd:c≤d)(hd:d≤4294967295)(w:World):Calls Tryz.prog 185 #[.agg #[.int .i64 a,.int .i64 b,.int .i64 c,.int .i64 d]] w fun e w'=>e=.returned (ivV (ruleI 9 a b c d))∧Below w.heap.size w w':=by
 rw [show ruleI 9 a b c d=shiftI (a-d) (b-c) from rfl]
 obtain⟨w0,hw0,g0,r1,r2⟩:=boxesO w a b c d
 have hw:=Lib.hid hw0;clear hw0
 have H:=Lib.hid (shifted_any (a-d) (b-c) (by omega) (by omega) (by omega) w0)
 obtain⟨⟨lo,hi⟩,hs⟩:∃ z,z=shiftI (a-d) (b-c):=⟨_,rfl⟩
 rw [←hs] at H ⊢
 clear hs
 unfold ivV at H
 go_enter Tryz.func185,Tryz.ntmps185
 go_wp2_with fail
 rw [←hw.out]
 refine H.out.mono ?_
 rintro e w1 ⟨rfl,hb1⟩
 have Hr:=Lib.hid (r2.below hb1 r2.lt)
 go_wp2_with (refine wpList_store_row rfl 55 (.tmp 2) (.tmp 13) rfl _ #[.int .i64 lo,.int .i64 hi] rfl rfl _ _ Hr.out (hI2 _ _) rfl (hA2 _ _) ?_)
 obtain⟨z1,z2⟩:=two_cellsV (setRow_heap w1 (w.heap.size+1) _ #[.int .i64 lo,.int .i64 hi] _ _ Hr.out)
 refine bodyPost_ret (v:=.agg #[.int .i64 lo,.int .i64 hi]) (by simp [results,Tryz.results185,go_sem,z1,z2]) rfl ⟨rfl,belowRow (g0.trans (hb1.mono g0.size)) (by omega) _⟩
theorem m_least(a b c d:Int)(ha:0≤a)(hab:a≤b)(hb:b≤4294967295)(hc:0≤c)(hcd:c≤d)(hd:d≤4294967295)(w:World):Calls Tryz.prog 194 #[.agg #[.int .i64 a,.int .i64 b,.int .i64 c,.int .i64 d]] w fun e w'=>e=.returned (ivV (ruleI 18 a b c d))∧Below w.heap.size w w':=by
 rw [show ruleI 18 a b c d=⟨min a c,min b d⟩ from rfl]
 go_enter Tryz.func194,Tryz.ntmps194
 go_wp2_with fail
 refine bodyPost_ret (v:=.agg #[.int .i64 (min a c),.int .i64 (min b d)]) (by simp [results,Tryz.results194,go_sem]) rfl ⟨rfl,balloc (balloc (Below.refl _ _) _) _⟩
theorem m_greatest(a b c d:Int)(ha:0≤a)(hab:a≤b)(hb:b≤4294967295)(hc:0≤c)(hcd:c≤d)(hd:d≤4294967295)(w:World):Calls Tryz.prog 195 #[.agg #[.int .i64 a,.int .i64 b,.int .i64 c,.int .i64 d]] w fun e w'=>e=.returned (ivV (ruleI 19 a b c d))∧Below w.heap.size w w':=by
 rw [show ruleI 19 a b c d=⟨max a c,max b d⟩ from rfl]
 go_enter Tryz.func195,Tryz.ntmps195
 go_wp2_with fail
 refine bodyPost_ret (v:=.agg #[.int .i64 (max a c),.int .i64 (max b d)]) (by simp [results,Tryz.results195,go_sem]) rfl ⟨rfl,balloc (balloc (Below.refl _ _) _) _⟩
theorem m_and(a b c d:Int)(ha:0≤a)(hab:a≤b)(hb:b≤4294967295)(hc:0≤c)(hcd:c≤d)(hd:d≤4294967295)(w:World):Calls Tryz.prog 189 #[.agg #[.int .i64 a,.int .i64 b,.int .i64 c,.int .i64 d]] w fun e w'=>e=.returned (ivV (ruleI 13 a b c d))∧Below w.heap.size w w':=by
 rw [show ruleI 13 a b c d=⟨0,min b d⟩ from rfl]
 go_enter Tryz.func189,Tryz.ntmps189
 go_wp2_with fail
 refine bodyPost_ret (v:=.agg #[.int .i64 0,.int .i64 (min b d)]) (by simp [results,Tryz.results189,go_sem]) rfl ⟨rfl,balloc (balloc (Below.refl _ _) _) _⟩
theorem m_hash(a b c d:Int)(ha:0≤a)(hab:a≤b)(hb:b≤4294967295)(hc:0≤c)(hcd:c≤d)(hd:d≤4294967295)(w:World):Calls Tryz.prog 196 #[.agg #[.int .i64 a,.int .i64 b,.int .i64 c,.int .i64 d]] w fun e w'=>e=.returned (ivV (ruleI 20 a b c d))∧Below w.heap.size w w':=by
 rw [show ruleI 20 a b c d=ivFull from rfl]
 obtain⟨w0,hw0,g0,r1,r2⟩:=boxesO w a b c d
 have hw:=Lib.hid hw0;clear hw0
 go_enter Tryz.func196,Tryz.ntmps196
 go_wp2_with fail
 rw [←hw.out]
 refine (full_any _).mono ?_
 rintro e w1 ⟨rfl,hb1⟩
 have Hr:=Lib.hid (r2.below hb1 r2.lt)
 go_wp2_with (refine wpList_store_row rfl 55 (.tmp 2) (.tmp 3) rfl _ #[.int .i64 0,.int .i64 4294967295] rfl rfl _ _ Hr.out (hI2 _ _) rfl (hA2 _ _) ?_)
 obtain⟨z1,z2⟩:=two_cellsV (setRow_heap w1 (w.heap.size+1) _ #[.int .i64 0,.int .i64 4294967295] _ _ Hr.out)
 refine bodyPost_ret (v:=.agg #[.int .i64 0,.int .i64 4294967295]) (by simp [results,Tryz.results196,go_sem,z1,z2]) rfl ⟨rfl,belowRow (g0.trans (hb1.mono g0.size)) (by omega) _⟩
theorem m_mod(a b c d:Int)(ha:0≤a)(hab:a≤b)(hb:b≤4294967295)(hc:0≤c)(hcd:c≤d)(hd:d≤4294967295)(h0:c≠0)(w:World):Calls Tryz.prog 188 #[.agg #[.int .i64 a,.int .i64 b,.int .i64 c,.int .i64 d]] w fun e w'=>e=.returned (ivV (ruleI 12 a b c d))∧Below w.heap.size w w':=by
 rw [show ruleI 12 a b c d=(if b < c then ⟨a,b⟩ else ⟨0,min b (d-1)⟩) from rfl]
 by_cases h1:b < c
 ·have d1:decide (b < c)=true:=decide_eq_true h1
  rw [if_pos h1]
  go_enter Tryz.func188,Tryz.ntmps188
  go_wp2_with fail
  refine bodyPost_ret (v:=.agg #[.int .i64 a,.int .i64 b]) (by simp [results,Tryz.results188,go_sem]) rfl ⟨rfl,balloc (balloc (Below.refl _ _) _) _⟩
 ·have d1:decide (b < c)=false:=decide_eq_false h1
  rw [if_neg h1]
  go_enter Tryz.func188,Tryz.ntmps188
  go_wp2_with fail
  refine bodyPost_ret (v:=.agg #[.int .i64 0,.int .i64 (min b (d-1))]) (by simp [results,Tryz.results188,go_sem]) rfl ⟨rfl,balloc (balloc (Below.refl _ _) _) _⟩
theorem m_div(a b c d:Int)(ha:0≤a)(hab:a≤b)(hb:b≤4294967295)(hc:0≤c)(hcd:c≤d)(hd:d≤4294967295)(h0:c≠0)(w:World):Calls Tryz.prog 187 #[.agg #[.int .i64 a,.int .i64 b,.int .i64 c,.int .i64 d]] w fun e w'=>e=.returned (ivV (ruleI 11 a b c d))∧Below w.heap.size w w':=by
 rw [show ruleI 11 a b c d=⟨a / d,b / c⟩ from rfl]
 have t1:Int.tdiv a d=a / d:=Int.tdiv_eq_ediv_of_nonneg ha
 have t2:Int.tdiv b c=b / c:=Int.tdiv_eq_ediv_of_nonneg (by omega)
 have q1:(d==0)=false:=by simp;omega
 have q2:(c==0)=false:=by simp;omega
 have q3:d≠0:=by omega
 have u1:=Int.ediv_nonneg ha (by omega:0≤d)
 have u2:=Int.ediv_le_self d ha
 have u3:=Int.ediv_nonneg (by omega:0≤b) hc
 have u4:=Int.ediv_le_self c (by omega:0≤b)
 obtain⟨w0,hw0,g0,r1,r2⟩:=boxesO w a b c d
 have hw:=Lib.hid hw0;clear hw0
 obtain⟨c1,c2,c3,c4⟩:=four_cellsV r1
 go_enter Tryz.func187,Tryz.ntmps187
 go_wp2_with fail
 rw [←hw.out]
 refine wp_region_quiet_tail 11 (by kernel_rfl) (by kernel_rfl) ?_
 simp only [List.take_succ_cons,List.take_zero,List.drop_succ_cons,List.drop_zero]
 repeat (go_big_quiet_step (fail))
 refine wpQuiet_nil ?_
 intro _ hw'
 obtain⟨nr,hw''⟩:=hw'
 subst hw''
 have Hr:=Lib.hid (show rowV (w0.drewN nr) (w.heap.size+1) 55 #[.int .i64 0,.int .i64 0] from r2)
 go_wp2_with (refine wpList_store_row rfl 55 (.tmp 2) (.tmp 13) rfl _ #[.int .i64 (a / d),.int .i64 (b / c)] rfl rfl _ _ Hr.out (hI2 _ _) rfl (hA2 _ _) ?_)
 obtain⟨z1,z2⟩:=two_cellsV (setRow_heap (w0.drewN nr) (w.heap.size+1) _ #[.int .i64 (a / d),.int .i64 (b / c)] _ _ Hr.out)
 refine bodyPost_ret (v:=.agg #[.int .i64 (a / d),.int .i64 (b / c)]) (by simp [results,Tryz.results187,go_sem,z1,z2]) rfl ⟨rfl,belowRow (bdrew g0 nr) (by omega) _⟩
theorem m_mul(a b c d:Int)(ha:0≤a)(hab:a≤b)(hb:b≤4294967295)(hc:0≤c)(hcd:c≤d)(hd:d≤4294967295)(w:World):Calls Tryz.prog 186 #[.agg #[.int .i64 a,.int .i64 b,.int .i64 c,.int .i64 d]] w fun e w'=>e=.returned (ivV (ruleI 10 a b c d))∧Below w.heap.size w w':=by
 rw [show ruleI 10 a b c d=(if 0 < d∧4294967295 / d < b then ivFull else ⟨a * c,b * d⟩) from rfl]
 have t1:Int.tdiv 4294967295 d=4294967295 / d:=Int.tdiv_eq_ediv_of_nonneg (by omega)
 have u1:=Int.ediv_nonneg (by omega:(0:Int)≤4294967295) (by omega:0≤d)
 have u2:=Int.ediv_le_self d (by omega:(0:Int)≤4294967295)
 by_cases h1:0 < d
 ·have d1:decide (0 < d)=true:=decide_eq_true h1
  have q1:(d==0)=false:=by simp;omega
  have q3:d≠0:=by omega
  by_cases h2:4294967295 / d < b
  ·have d2:decide (4294967295 / d < b)=true:=decide_eq_true h2
   rw [if_pos ⟨h1,h2⟩]
   obtain⟨w0,hw0,g0,r1,r2⟩:=boxesO w a b c d
   have hw:=Lib.hid hw0;clear hw0
   obtain⟨c1,c2,c3,c4⟩:=four_cellsV r1
   go_enter Tryz.func186,Tryz.ntmps186
   go_wp2_with fail
   rw [←hw.out]
   go_quiet (fail)
   go_wp2_with fail
   refine (full_any _).mono ?_
   rintro e w1 ⟨rfl,hb1⟩
   have Hr:=Lib.hid ((show rowV (w0.drewN nq) (w.heap.size+1) 55 #[.int .i64 0,.int .i64 0] from r2).below hb1 (show w.heap.size+1 < (w0.drewN nq).heap.size from r2.lt))
   go_wp2_with (refine wpList_store_row rfl 55 (.tmp 2) (.tmp 14) rfl _ #[.int .i64 0,.int .i64 4294967295] rfl rfl _ _ Hr.out (hI2 _ _) rfl (hA2 _ _) ?_)
   obtain⟨z1,z2⟩:=two_cellsV (setRow_heap w1 (w.heap.size+1) _ #[.int .i64 0,.int .i64 4294967295] _ _ Hr.out)
   refine bodyPost_ret (v:=.agg #[.int .i64 0,.int .i64 4294967295]) (by simp [results,Tryz.results186,go_sem,z1,z2]) rfl ⟨rfl,belowRow ((bdrew g0 nq).trans (hb1.mono (bdrew g0 nq).size)) (by omega) _⟩
  ·have d2:decide (4294967295 / d < b)=false:=decide_eq_false h2
   rw [if_neg (by omega)]
   have k1:b≤4294967295 / d:=by omega
   have k2:=Int.mul_le_mul_of_nonneg_right k1 (Int.le_of_lt h1)
   have k3:=Int.ediv_mul_le 4294967295 (by omega:d≠0)
   have k4:a * c≤b * d:=Int.mul_le_mul hab hcd hc (by omega)
   have k5:0≤a * c:=Int.mul_nonneg ha hc
   have k6:b * d≤4294967295:=Int.le_trans k2 k3
   have k7:a * c≤4294967295:=Int.le_trans k4 k6
   have k8:0≤b * d:=Int.le_trans k5 k4
   clear k2 k3
   obtain⟨w0,hw0,g0,r1,r2⟩:=boxesO w a b c d
   have hw:=Lib.hid hw0;clear hw0
   obtain⟨c1,c2,c3,c4⟩:=four_cellsV r1
   go_enter Tryz.func186,Tryz.ntmps186
   go_wp2_with fail
   rw [←hw.out]
   go_quiet (fail)
   have Hr:=Lib.hid (show rowV (w0.drewN nq) (w.heap.size+1) 55 #[.int .i64 0,.int .i64 0] from r2)
   go_wp2_with (refine wpList_store_row rfl 55 (.tmp 2) (.tmp 25) rfl _ #[.int .i64 (a * c),.int .i64 (b * d)] rfl rfl _ _ Hr.out (hI2 _ _) rfl (hA2 _ _) ?_)
   obtain⟨z1,z2⟩:=two_cellsV (setRow_heap (w0.drewN nq) (w.heap.size+1) _ #[.int .i64 (a * c),.int .i64 (b * d)] _ _ Hr.out)
   refine bodyPost_ret (v:=.agg #[.int .i64 (a * c),.int .i64 (b * d)]) (by simp [results,Tryz.results186,go_sem,z1,z2]) rfl ⟨rfl,belowRow (bdrew g0 nq) (by omega) _⟩
 ·have d1:decide (0 < d)=false:=decide_eq_false h1
  obtain rfl:d=0:=by omega
  obtain rfl:c=0:=by omega
  rw [if_neg (by omega)]
  have k5:a * 0=0:=by omega
  have k6:b * 0=0:=by omega
  rw [k5,k6]
  obtain⟨w0,hw0,g0,r1,r2⟩:=boxesO w a b 0 0
  have hw:=Lib.hid hw0;clear hw0
  obtain⟨c1,c2,c3,c4⟩:=four_cellsV r1
  go_enter Tryz.func186,Tryz.ntmps186
  go_wp2_with fail
  rw [←hw.out]
  go_quiet (fail)
  have Hr:=Lib.hid (show rowV (w0.drewN nq) (w.heap.size+1) 55 #[.int .i64 0,.int .i64 0] from r2)
  go_wp2_with (refine wpList_store_row rfl 55 (.tmp 2) (.tmp 25) rfl _ #[.int .i64 0,.int .i64 0] rfl rfl _ _ Hr.out (hI2 _ _) rfl (hA2 _ _) ?_)
  obtain⟨z1,z2⟩:=two_cellsV (setRow_heap (w0.drewN nq) (w.heap.size+1) _ #[.int .i64 0,.int .i64 0] _ _ Hr.out)
  refine bodyPost_ret (v:=.agg #[.int .i64 0,.int .i64 0]) (by simp [results,Tryz.results186,go_sem,z1,z2]) rfl ⟨rfl,belowRow (bdrew g0 nq) (by omega) _⟩
theorem m_xor(a b c d:Int)(ha:0≤a)(hab:a≤b)(hb:b≤4294967295)(hc:0≤c)(hcd:c≤d)(hd:d≤4294967295)(w:World):Calls Tryz.prog 191 #[.agg #[.int .i64 a,.int .i64 b,.int .i64 c,.int .i64 d]] w fun e w'=>e=.returned (ivV (ruleI 15 a b c d))∧Below w.heap.size w w':=by
 rw [show ruleI 15 a b c d=⟨0,onesI (max b d)⟩ from rfl]
 obtain⟨n,hn⟩:∃ n:Nat,max b d=(n:Int):=⟨(max b d).toNat,by omega⟩
 have hN:Int.toNat (n:Int)=n:=Int.toNat_natCast n
 unfold onesI
 rw [hn,hN]
 have hn':n < 4294967296:=by omega
 obtain⟨z,hz⟩:∃ z,z=onesN n:=⟨_,rfl⟩
 have H:=Lib.hid (ones_any n hn')
 rw [←hz] at H ⊢
 clear hz hN
 obtain⟨w0,hw0,g0,r1,r2⟩:=boxesO w a b c d
 have hw:=Lib.hid hw0;clear hw0
 obtain⟨c1,c2,c3,c4⟩:=four_cellsV r1
 go_enter Tryz.func191,Tryz.ntmps191
 go_wp2_with fail
 rw [←hw.out]
 refine (H.out _).mono ?_
 rintro e w1 ⟨rfl,hw1⟩
 obtain rfl:w0=w1:=hw1.symm
 have Hr:=Lib.hid (show rowV w0 (w.heap.size+1) 55 #[.int .i64 0,.int .i64 0] from r2)
 go_wp2_with (refine wpList_store_row rfl 55 (.tmp 2) (.tmp 9) rfl _ #[.int .i64 0,.int .i64 z] rfl rfl _ _ Hr.out (hI2 _ _) rfl (hA2 _ _) ?_)
 obtain⟨z1,z2⟩:=two_cellsV (setRow_heap w0 (w.heap.size+1) _ #[.int .i64 0,.int .i64 z] _ _ Hr.out)
 refine bodyPost_ret (v:=.agg #[.int .i64 0,.int .i64 z]) (by simp [results,Tryz.results191,go_sem,z1,z2]) rfl ⟨rfl,belowRow g0 (by omega) _⟩
theorem m_or(a b c d:Int)(ha:0≤a)(hab:a≤b)(hb:b≤4294967295)(hc:0≤c)(hcd:c≤d)(hd:d≤4294967295)(w:World):Calls Tryz.prog 190 #[.agg #[.int .i64 a,.int .i64 b,.int .i64 c,.int .i64 d]] w fun e w'=>e=.returned (ivV (ruleI 14 a b c d))∧Below w.heap.size w w':=by
 rw [show ruleI 14 a b c d=⟨max a c,onesI (max b d)⟩ from rfl]
 obtain⟨n,hn⟩:∃ n:Nat,max b d=(n:Int):=⟨(max b d).toNat,by omega⟩
 have hN:Int.toNat (n:Int)=n:=Int.toNat_natCast n
 unfold onesI
 rw [hn,hN]
 have hn':n < 4294967296:=by omega
 obtain⟨z,hz⟩:∃ z,z=onesN n:=⟨_,rfl⟩
 have H:=Lib.hid (ones_any n hn')
 rw [←hz] at H ⊢
 clear hz hN
 obtain⟨w0,hw0,g0,r1,r2⟩:=boxesO w a b c d
 have hw:=Lib.hid hw0;clear hw0
 obtain⟨c1,c2,c3,c4⟩:=four_cellsV r1
 go_enter Tryz.func190,Tryz.ntmps190
 go_wp2_with fail
 rw [←hw.out]
 refine wp_region_quiet_tail 12 (by kernel_rfl) (by kernel_rfl) ?_
 simp only [List.take_succ_cons,List.take_zero,List.drop_succ_cons,List.drop_zero]
 repeat (go_big_quiet_step (first | (go_at_call_of 208 (Value.int .i64 n);exact (H.out _).mono fun e w2 h=>⟨h.1,_,h.2⟩)))
 refine wpQuiet_nil ?_
 intro _ hw'
 obtain⟨nr,hw''⟩:=hw'
 subst hw''
 have Hr:=Lib.hid (show rowV (w0.drewN nr) (w.heap.size+1) 55 #[.int .i64 0,.int .i64 0] from r2)
 go_wp2_with (refine wpList_store_row rfl 55 (.tmp 2) (.tmp 14) rfl _ #[.int .i64 (max a c),.int .i64 z] rfl rfl _ _ Hr.out (hI2 _ _) rfl (hA2 _ _) ?_)
 obtain⟨z1,z2⟩:=two_cellsV (setRow_heap (w0.drewN nr) (w.heap.size+1) _ #[.int .i64 (max a c),.int .i64 z] _ _ Hr.out)
 refine bodyPost_ret (v:=.agg #[.int .i64 (max a c),.int .i64 z]) (by simp [results,Tryz.results190,go_sem,z1,z2]) rfl ⟨rfl,belowRow (bdrew g0 nr) (by omega) _⟩
theorem m_shl(a b c d:Int)(ha:0≤a)(hab:a≤b)(hb:b≤4294967295)(hc:0≤c)(hcd:c≤d)(hd:d≤4294967295)(w:World):Calls Tryz.prog 192 #[.agg #[.int .i64 a,.int .i64 b,.int .i64 c,.int .i64 d]] w fun e w'=>e=.returned (ivV (ruleI 16 a b c d))∧Below w.heap.size w w':=by
 rw [show ruleI 16 a b c d=(if c≠d∨4294967295 / 2 ^ (c % 32).toNat < b then ivFull else ⟨a * 2 ^ (c % 32).toNat,b * 2 ^ (c % 32).toNat⟩) from rfl]
 obtain⟨k,hk⟩:∃ k:Nat,c % 32=(k:Int):=⟨(c % 32).toNat,by omega⟩
 have hk32:k < 32:=by omega
 have t0:Int.tmod c 32=(k:Int):=by rw [Int.tmod_eq_emod_of_nonneg hc,hk]
 rw [hk,Int.toNat_natCast]
 have p1:=two_pow_int k
 have p2:(2:Int) ^ k≤2 ^ 31:=two_pow_le (by omega)
 have u1:=Int.ediv_nonneg (by omega:(0:Int)≤4294967295) (Int.le_of_lt p1)
 have u2:=Int.ediv_le_self (2 ^ k) (by omega:(0:Int)≤4294967295)
 obtain⟨T,hT⟩:∃ T:Int,T=2 ^ k:=⟨_,rfl⟩
 obtain⟨w0,hw0,g0,r1,r2⟩:=boxesO w a b c d
 have hw:=Lib.hid hw0;clear hw0
 obtain⟨c1,c2,c3,c4⟩:=four_cellsV r1
 by_cases h1:c=d
 ·have q1:(c != d)=false:=by simpa using h1
  by_cases h2:4294967295 / 2 ^ k < b
  ·rw [if_pos (.inr h2)]
   have d2:decide (4294967295 / 2 ^ k < b)=true:=decide_eq_true h2
   subst h1
   go_enter Tryz.func192,Tryz.ntmps192
   go_wp2_with fail
   rw [←hw.out]
   go_quiet (fail)
   go_wp2_with fail
   refine (full_any _).mono ?_
   rintro e w1 ⟨rfl,hb1⟩
   have Hr:=Lib.hid ((show rowV (w0.drewN nq) (w.heap.size+1) 55 #[.int .i64 0,.int .i64 0] from r2).below hb1 (show w.heap.size+1 < (w0.drewN nq).heap.size from r2.lt))
   go_wp2_with (refine wpList_store_row rfl 55 (.tmp 2) (.tmp 19) rfl _ #[.int .i64 0,.int .i64 4294967295] rfl rfl _ _ Hr.out (hI2 _ _) rfl (hA2 _ _) ?_)
   obtain⟨z1,z2⟩:=two_cellsV (setRow_heap w1 (w.heap.size+1) _ #[.int .i64 0,.int .i64 4294967295] _ _ Hr.out)
   refine bodyPost_ret (v:=.agg #[.int .i64 0,.int .i64 4294967295]) (by simp [results,Tryz.results192,go_sem,z1,z2]) rfl ⟨rfl,belowRow ((bdrew g0 nq).trans (hb1.mono (bdrew g0 nq).size)) (by omega) _⟩
  ·rw [if_neg (by omega)]
   have d2:decide (4294967295 / 2 ^ k < b)=false:=decide_eq_false h2
   have k1:b≤4294967295 / 2 ^ k:=by omega
   have k2:=Int.mul_le_mul_of_nonneg_right k1 (Int.le_of_lt p1)
   have k3:=Int.ediv_mul_le 4294967295 (b:=2 ^ k) (by omega)
   have k4:b * 2 ^ k≤4294967295:=Int.le_trans k2 k3
   have k5:=Int.mul_le_mul_of_nonneg_right hab (Int.le_of_lt p1)
   have k6:=Int.mul_nonneg ha (Int.le_of_lt p1)
   have e1:wrap64 (a * 2 ^ k)=a * 2 ^ k:=by unfold wrap64;omega
   have e2:wrap64 (b * 2 ^ k)=b * 2 ^ k:=by unfold wrap64;omega
   clear k2 k3
   subst h1
   go_enter Tryz.func192,Tryz.ntmps192
   go_wp2_with fail
   rw [←hw.out]
   go_quiet (fail)
   go_wp2_with fail
   refine wp_region_quiet_tail 9 (by kernel_rfl) (by kernel_rfl) ?_
   simp only [List.take_succ_cons,List.take_zero,List.drop_succ_cons,List.drop_zero]
   repeat (go_big_quiet_step (fail))
   refine wpQuiet_nil ?_
   intro _ hw'
   obtain⟨nr,hw''⟩:=hw'
   subst hw''
   have Hr:=Lib.hid (show rowV ((w0.drewN nq).drewN nr) (w.heap.size+1) 55 #[.int .i64 0,.int .i64 0] from r2)
   go_wp2_with (refine wpList_store_row rfl 55 (.tmp 2) (.tmp 28) rfl _ #[.int .i64 (a * 2 ^ k),.int .i64 (b * 2 ^ k)] rfl rfl _ _ Hr.out (hI2 _ _) rfl (hA2 _ _) ?_)
   obtain⟨z1,z2⟩:=two_cellsV (setRow_heap (w0.drewN (nq+nr)) (w.heap.size+1) _ #[.int .i64 (a * 2 ^ k),.int .i64 (b * 2 ^ k)] _ _ Hr.out)
   refine bodyPost_ret (v:=.agg #[.int .i64 (a * 2 ^ k),.int .i64 (b * 2 ^ k)]) (by simp [results,Tryz.results192,go_sem,z1,z2]) rfl ⟨rfl,belowRow (bdrew (bdrew g0 nq) nr) (by omega) _⟩
 ·have q1:(c != d)=true:=by simpa using h1
  rw [if_pos (.inl h1)]
  go_enter Tryz.func192,Tryz.ntmps192
  go_wp2_with fail
  rw [←hw.out]
  go_quiet (fail)
  go_wp2_with fail
  refine (full_any _).mono ?_
  rintro e w1 ⟨rfl,hb1⟩
  have Hr:=Lib.hid ((show rowV (w0.drewN nq) (w.heap.size+1) 55 #[.int .i64 0,.int .i64 0] from r2).below hb1 (show w.heap.size+1 < (w0.drewN nq).heap.size from r2.lt))
  go_wp2_with (refine wpList_store_row rfl 55 (.tmp 2) (.tmp 19) rfl _ #[.int .i64 0,.int .i64 4294967295] rfl rfl _ _ Hr.out (hI2 _ _) rfl (hA2 _ _) ?_)
  obtain⟨z1,z2⟩:=two_cellsV (setRow_heap w1 (w.heap.size+1) _ #[.int .i64 0,.int .i64 4294967295] _ _ Hr.out)
  refine bodyPost_ret (v:=.agg #[.int .i64 0,.int .i64 4294967295]) (by simp [results,Tryz.results192,go_sem,z1,z2]) rfl ⟨rfl,belowRow ((bdrew g0 nq).trans (hb1.mono (bdrew g0 nq).size)) (by omega) _⟩
theorem m_shr(a b c d:Int)(ha:0≤a)(hab:a≤b)(hb:b≤4294967295)(hc:0≤c)(hcd:c≤d)(hd:d≤4294967295)(w:World):Calls Tryz.prog 193 #[.agg #[.int .i64 a,.int .i64 b,.int .i64 c,.int .i64 d]] w fun e w'=>e=.returned (ivV (ruleI 17 a b c d))∧Below w.heap.size w w':=by
 rw [show ruleI 17 a b c d=(if d≤31 then ⟨a / 2 ^ d.toNat,b / 2 ^ c.toNat⟩ else if c=d then ⟨a / 2 ^ (c % 32).toNat,b / 2 ^ (c % 32).toNat⟩ else ⟨0,b⟩) from rfl]
 obtain⟨w0,hw0,g0,r1,r2⟩:=boxesO w a b c d
 have hw:=Lib.hid hw0;clear hw0
 obtain⟨c1,c2,c3,c4⟩:=four_cellsV r1
 by_cases h1:d≤31
 ·have d1:decide (d≤31)=true:=decide_eq_true h1
  rw [if_pos h1]
  obtain⟨k,rfl⟩:∃ k:Nat,d=(k:Int):=⟨d.toNat,by omega⟩
  obtain⟨j,rfl⟩:∃ j:Nat,c=(j:Int):=⟨c.toNat,by omega⟩
  rw [Int.toNat_natCast,Int.toNat_natCast]
  have p1:=two_pow_int k
  have p2:=two_pow_int j
  have u1:=Int.ediv_nonneg ha (Int.le_of_lt p1)
  have u2:=Int.ediv_le_self (2 ^ k) ha
  have u3:=Int.ediv_nonneg (by omega:0≤b) (Int.le_of_lt p2)
  have u4:=Int.ediv_le_self (2 ^ j) (by omega:0≤b)
  go_enter Tryz.func193,Tryz.ntmps193
  go_wp2_with fail
  rw [←hw.out]
  refine wp_region_quiet_tail 11 (by kernel_rfl) (by kernel_rfl) ?_
  simp only [List.take_succ_cons,List.take_zero,List.drop_succ_cons,List.drop_zero]
  repeat (go_big_quiet_step (fail))
  refine wpQuiet_nil ?_
  intro _ hw'
  obtain⟨nr,hw''⟩:=hw'
  subst hw''
  have Hr:=Lib.hid (show rowV (w0.drewN nr) (w.heap.size+1) 55 #[.int .i64 0,.int .i64 0] from r2)
  go_wp2_with (refine wpList_store_row rfl 55 (.tmp 2) (.tmp 17) rfl _ #[.int .i64 (a / 2 ^ k),.int .i64 (b / 2 ^ j)] rfl rfl _ _ Hr.out (hI2 _ _) rfl (hA2 _ _) ?_)
  obtain⟨z1,z2⟩:=two_cellsV (setRow_heap (w0.drewN nr) (w.heap.size+1) _ #[.int .i64 (a / 2 ^ k),.int .i64 (b / 2 ^ j)] _ _ Hr.out)
  refine bodyPost_ret (v:=.agg #[.int .i64 (a / 2 ^ k),.int .i64 (b / 2 ^ j)]) (by simp [results,Tryz.results193,go_sem,z1,z2]) rfl ⟨rfl,belowRow (bdrew g0 nr) (by omega) _⟩
 ·have d1:decide (d≤31)=false:=decide_eq_false h1
  rw [if_neg h1]
  by_cases h2:c=d
  ·have q1:(c==d)=true:=by simpa using h2
   rw [if_pos h2]
   obtain⟨k,hk⟩:∃ k:Nat,c % 32=(k:Int):=⟨(c % 32).toNat,by omega⟩
   have t0:Int.tmod c 32=(k:Int):=by rw [Int.tmod_eq_emod_of_nonneg hc,hk]
   rw [hk,Int.toNat_natCast]
   have p1:=two_pow_int k
   have u1:=Int.ediv_nonneg ha (Int.le_of_lt p1)
   have u2:=Int.ediv_le_self (2 ^ k) ha
   have u3:=Int.ediv_nonneg (by omega:0≤b) (Int.le_of_lt p1)
   have u4:=Int.ediv_le_self (2 ^ k) (by omega:0≤b)
   subst h2
   go_enter Tryz.func193,Tryz.ntmps193
   go_wp2_with fail
   rw [←hw.out]
   go_wp2_with fail
   refine wp_region_quiet_tail 13 (by kernel_rfl) (by kernel_rfl) ?_
   simp only [List.take_succ_cons,List.take_zero,List.drop_succ_cons,List.drop_zero]
   repeat (go_big_quiet_step (fail))
   refine wpQuiet_nil ?_
   intro _ hw'
   obtain⟨nr,hw''⟩:=hw'
   subst hw''
   have Hr:=Lib.hid (show rowV (w0.drewN nr) (w.heap.size+1) 55 #[.int .i64 0,.int .i64 0] from r2)
   go_wp2_with (refine wpList_store_row rfl 55 (.tmp 2) (.tmp 36) rfl _ #[.int .i64 (a / 2 ^ k),.int .i64 (b / 2 ^ k)] rfl rfl _ _ Hr.out (hI2 _ _) rfl (hA2 _ _) ?_)
   obtain⟨z1,z2⟩:=two_cellsV (setRow_heap (w0.drewN nr) (w.heap.size+1) _ #[.int .i64 (a / 2 ^ k),.int .i64 (b / 2 ^ k)] _ _ Hr.out)
   refine bodyPost_ret (v:=.agg #[.int .i64 (a / 2 ^ k),.int .i64 (b / 2 ^ k)]) (by simp [results,Tryz.results193,go_sem,z1,z2]) rfl ⟨rfl,belowRow (bdrew g0 nr) (by omega) _⟩
  ·have q1:(c==d)=false:=by simpa using h2
   rw [if_neg h2]
   go_enter Tryz.func193,Tryz.ntmps193
   go_wp2_with fail
   refine bodyPost_ret (v:=.agg #[.int .i64 0,.int .i64 b]) (by simp [results,Tryz.results193,go_sem]) rfl ⟨rfl,balloc (balloc (Below.refl _ _) _) _⟩
end Go.Proofs.YtepoclhdklgnhaaGreatDoor
