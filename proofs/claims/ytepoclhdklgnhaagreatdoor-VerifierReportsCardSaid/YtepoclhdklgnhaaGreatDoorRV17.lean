/- As At. -/
import Derived.Test.YtepoclhdklgnhaaGreatDoorRV16
set_option maxRecDepth 100000
set_option maxHeartbeats 40000000
set_option linter.unusedVariables false
set_option linter.unusedSimpArgs false
namespace Go.Proofs.YtepoclhdklgnhaaGreatDoor
open Go.RowKit Go.Proofs
theorem fresh_ok(B g n:Nat)(v:RVs)(s:AS)(ws:List Wd)(w:World)(h:RD B g n w s ws v)(x:List UInt8)(z:Nat)(hx:nextW n ws=(x,z))(hN:nameL x=true)(hlen:x.length≤9000)(hc:(conF s x).isSome=false)(ha:s.an.contains x=false)(hl:s.ln.contains x=false) :
  Calls Tryz.prog 160 #[.pointer (some ⟨g,0,none⟩)] w fun e w'=>e=.returned (.agg #[.string (strB x),.int .i64 (z:Int)])∧NxV B g n v s ws.tail w w':=by
 have hgl:=h.row.lt
 have hB:=h.hB
 have rz0:=rowV.new w 172 #[.string ⟨#[]⟩,.int .i64 0]
 have hzg:w.heap.size≠g:=by omega
 have hr0:=h.row.below (balloc (Below.refl w.heap.size w) (.cells #[.string ⟨#[]⟩,.int .i64 0] 172)) hgl
 have hw0:=h.wm.below ((balloc (Below.refl w.heap.size w) (.cells #[.string ⟨#[]⟩,.int .i64 0] 172)).mono (by omega))
 have H1:Calls Tryz.prog 162 #[.pointer (some ⟨g,0,none⟩)] (w.alloc (.cells #[.string ⟨#[]⟩,.int .i64 0] 172)) fun e w'=>e=.returned (.agg #[.string (strB x),.int .i64 (z:Int)])∧NxV B g n v s ws.tail (w.alloc (.cells #[.string ⟨#[]⟩,.int .i64 0] 172)) w':=by
  have:=asmName_ok B g v.A v.k v.c n _ _ _ _ _ _ ws _ hr0 hw0 h.hk h.hB (by rw [hx];exact hN)
  rw [hx] at this
  exact this
 have H1':=Lib.hid H1
 have HC:=Lib.hid hc
 have HA:=Lib.hid ha
 have HL:=Lib.hid hl
 clear hr0 hw0 H1 hc ha hl
 obtain⟨H⟩:Nonempty (PLift (RD B g n w s ws v)):=⟨⟨h⟩⟩
 have hnn:v.nn≤100000:=by have:=h.on.length (fun _=>rfl) (by decide);have:=h.fm.an;have:=h.fm.few;omega
 have hnl:v.nl≤100000:=by have:=h.ol.length (fun _=>rfl) (by decide);have:=h.fm.locs;omega
 go_enter Tryz.func160,Tryz.ntmps160
 go_wp2_with fail
 refine H1'.out.mono ?_
 rintro e w1 ⟨rfl,A',k',c',hk1',hr1,hw1,hg1⟩
 have hk1:=Lib.hid hk1'
 have rz1:=rz0.grown hg1 (fun e=>hzg (by injection e))
 have hg:=grownBy.trans' (World.grownBy_alloc w (.cells #[.string ⟨#[]⟩,.int .i64 0] 172) (some g)) hg1
 have D1:=h.next' (by rw [List.length_tail];omega) hk1' hr1 hw1 hg
 clear H1' hk1' rz0 h H
 have r2:=rowV.new w1 172 #[.string (strB x),.int .i64 (z:Int)]
 have hl2:=r2.lt
 have b12:Below w1.heap.size w1 (w1.alloc (.cells #[.string (strB x),.int .i64 (z:Int)] 172)):=balloc (Below.refl _ _) _
 obtain⟨w2,hw2⟩:∃ w2,w2=w1.alloc (.cells #[.string (strB x),.int .i64 (z:Int)] 172):=⟨_,rfl⟩
 rw [←hw2] at r2 hl2 b12
 obtain⟨a0,a1⟩:=two_cellsV r2
 have D2:=D1.below b12
 have c7:w2.cell? ⟨g,7,none⟩=some (.map (some v.m)):=cell_rowV D2.row rfl
 have c5:w2.cell? ⟨g,5,none⟩=some (.slice v.An v.nn v.cn):=cell_rowV D2.row rfl
 have c6:w2.cell? ⟨g,6,none⟩=some (.slice v.Al v.nl v.cl):=cell_rowV D2.row rfl
 have hlk:∀ q,(Instr.lookup 111 (.map (some v.m)) (.string (strB x)) true).run Tryz.prog (w2.drewN q)=.ok (.tuple #[.int .i64 ((conF s x).getD 0),.bool false]) (w2.drewN q):=fun q=>by
  have:=MapIs.run_getok D2.mp 111 uS uMc uInt zInt x (by simp [maxLen];omega) q
  rw [HC.out] at this
  exact this
 have HK1:Hid (∀ q,Calls Tryz.prog 178 #[.slice v.An v.nn v.cn,.string (strB x)] (w2.drewN q) fun e w'=>e=.returned (.bool false)∧w'=w2.drewN q):=fun q=>by
  have:=contains_any B v.An v.nn v.cn s.an x w2 D2.on hnn q
  rw [HA.out] at this
  exact this
 have HK2:Hid (∀ q,Calls Tryz.prog 178 #[.slice v.Al v.nl v.cl,.string (strB x)] (w2.drewN q) fun e w'=>e=.returned (.bool false)∧w'=w2.drewN q):=fun q=>by
  have:=contains_any B v.Al v.nl v.cl s.ln x w2 D2.ol hnl q
  rw [HL.out] at this
  exact this
 clear D1 D2
 go_wp2_with fail
 rw [←hw2]
 clear hw2
 go_quiet (fail)
 go_wp2_with fail
 refine wp_region_quiet_tail 23 (by kernel_rfl) (by kernel_rfl) ?_
 simp only [List.take_succ_cons,List.take_zero,List.drop_succ_cons,List.drop_zero]
 repeat (go_big_quiet_step (first | (go_at_call_of 178 (Value.slice v.An v.nn v.cn);exact (HK1.out _).mono fun e w2 h=>⟨h.1,_,h.2⟩) | (go_at_call_of 178 (Value.slice v.Al v.nl v.cl);exact (HK2.out _).mono fun e w2 h=>⟨h.1,_,h.2⟩)))
 refine wpQuiet_nil ?_
 intro _ hw'
 obtain⟨nr,hw''⟩:=hw'
 subst hw''
 go_wp2_with fail
 refine (demand_ok x z 8 _).mono ?_
 rintro e w6 ⟨rfl,hb6⟩
 have b16:Below w1.heap.size w1 w6:=(bdrew b12 (nq+nr)).trans (hb6.mono (bdrew b12 (nq+nr)).size)
 have r6:=(r2.below (w':=w2.drewN (nq+nr)) ((Drawn.drewN _ _).below _) hl2).below hb6 (r2.below (w':=w2.drewN (nq+nr)) ((Drawn.drewN _ _).below _) hl2).lt
 obtain⟨f0,f1⟩:=two_cellsV r6
 have rz6:=rz1.below b16 rz1.lt
 obtain⟨y0,y1⟩:=two_cellsV rz6
 have z0:=frozen_rowV' rz6 0
 have z1:=frozen_rowV' rz6 1
 have G6:w.grownBy w6 (some g):=grownBy.below' hg b16
 have hr6:=hr1.below b16 hr1.lt
 have hw6:=hw1.below (b16.mono (Nat.le_trans hB (Nat.le_of_lt hr1.lt)))
 have rz7:rowV ((w6.setCell ⟨w.heap.size,0,none⟩ (.string (strB x))).setCell ⟨w.heap.size,1,none⟩ (.int .i64 (z:Int))) w.heap.size 172 #[.string (strB x),.int .i64 (z:Int)]:=(rz6.set 0 _).set 1 _
 have hE:Hid (NxV B g n v s ws.tail w ((w6.setCell ⟨w.heap.size,0,none⟩ (.string (strB x))).setCell ⟨w.heap.size,1,none⟩ (.int .i64 (z:Int)))):=
  ⟨A',k',c',hk1.out,(hr6.setFar (p:=⟨w.heap.size,0,none⟩) (Ne.symm hzg) _).setFar (p:=⟨w.heap.size,1,none⟩) (Ne.symm hzg) _,(hw6.setFar (p:=⟨w.heap.size,0,none⟩) (by show B≤w.heap.size;omega) _).setFar (p:=⟨w.heap.size,1,none⟩) (by show B≤w.heap.size;omega) _,grownBy.setNew (grownBy.setNew G6 (p:=⟨w.heap.size,0,none⟩) (Nat.le_refl _) _) (p:=⟨w.heap.size,1,none⟩) (Nat.le_refl _) _⟩
 have HZ:=Lib.hid (two_cellsV rz7)
 clear rz7 hr6 hw6 G6 rz6 r6 b16 hb6
 go_wp2_with fail
 obtain⟨z7,z8⟩:=HZ.out
 refine bodyPost_ret (v:=.agg #[.string (strB x),.int .i64 (z:Int)]) ?_ rfl ⟨rfl,hE.out⟩
 simp [results,Tryz.results160,go_sem,z7,z8]
theorem fresh_bad1(B g n:Nat)(v:RVs)(s:AS)(ws:List Wd)(w:World)(h:RD B g n w s ws v)(x:List UInt8)(z:Nat)(hx:nextW n ws=(x,z))(hN:nameL x=true)(hlen:x.length≤9000)(hc:(conF s x).isSome=true) :
  Calls Tryz.prog 160 #[.pointer (some ⟨g,0,none⟩)] w fun e w'=>FailsB B w z 8 e w':=by
 have hgl:=h.row.lt
 have hB:=h.hB
 have rz0:=rowV.new w 172 #[.string ⟨#[]⟩,.int .i64 0]
 have hzg:w.heap.size≠g:=by omega
 have hr0:=h.row.below (balloc (Below.refl w.heap.size w) (.cells #[.string ⟨#[]⟩,.int .i64 0] 172)) hgl
 have hw0:=h.wm.below ((balloc (Below.refl w.heap.size w) (.cells #[.string ⟨#[]⟩,.int .i64 0] 172)).mono (by omega))
 have H1:Calls Tryz.prog 162 #[.pointer (some ⟨g,0,none⟩)] (w.alloc (.cells #[.string ⟨#[]⟩,.int .i64 0] 172)) fun e w'=>e=.returned (.agg #[.string (strB x),.int .i64 (z:Int)])∧NxV B g n v s ws.tail (w.alloc (.cells #[.string ⟨#[]⟩,.int .i64 0] 172)) w':=by
  have:=asmName_ok B g v.A v.k v.c n _ _ _ _ _ _ ws _ hr0 hw0 h.hk h.hB (by rw [hx];exact hN)
  rw [hx] at this
  exact this
 have H1':=Lib.hid H1
 have HC:=Lib.hid hc
 clear hr0 hw0 H1 hc
 obtain⟨H⟩:Nonempty (PLift (RD B g n w s ws v)):=⟨⟨h⟩⟩
 have hnn:v.nn≤100000:=by have:=h.on.length (fun _=>rfl) (by decide);have:=h.fm.an;have:=h.fm.few;omega
 have hnl:v.nl≤100000:=by have:=h.ol.length (fun _=>rfl) (by decide);have:=h.fm.locs;omega
 go_enter Tryz.func160,Tryz.ntmps160
 go_wp2_with fail
 refine H1'.out.mono ?_
 rintro e w1 ⟨rfl,A',k',c',hk1',hr1,hw1,hg1⟩
 have hk1:=Lib.hid hk1'
 have rz1:=rz0.grown hg1 (fun e=>hzg (by injection e))
 have hg:=grownBy.trans' (World.grownBy_alloc w (.cells #[.string ⟨#[]⟩,.int .i64 0] 172) (some g)) hg1
 have D1:=h.next' (by rw [List.length_tail];omega) hk1' hr1 hw1 hg
 clear H1' hk1' rz0 h H
 have r2:=rowV.new w1 172 #[.string (strB x),.int .i64 (z:Int)]
 have hl2:=r2.lt
 have b12:Below w1.heap.size w1 (w1.alloc (.cells #[.string (strB x),.int .i64 (z:Int)] 172)):=balloc (Below.refl _ _) _
 obtain⟨w2,hw2⟩:∃ w2,w2=w1.alloc (.cells #[.string (strB x),.int .i64 (z:Int)] 172):=⟨_,rfl⟩
 rw [←hw2] at r2 hl2 b12
 obtain⟨a0,a1⟩:=two_cellsV r2
 have D2:=D1.below b12
 have c7:w2.cell? ⟨g,7,none⟩=some (.map (some v.m)):=cell_rowV D2.row rfl
 have c5:w2.cell? ⟨g,5,none⟩=some (.slice v.An v.nn v.cn):=cell_rowV D2.row rfl
 have c6:w2.cell? ⟨g,6,none⟩=some (.slice v.Al v.nl v.cl):=cell_rowV D2.row rfl
 have hlk:∀ q,(Instr.lookup 111 (.map (some v.m)) (.string (strB x)) true).run Tryz.prog (w2.drewN q)=.ok (.tuple #[.int .i64 ((conF s x).getD 0),.bool true]) (w2.drewN q):=fun q=>by
  have:=MapIs.run_getok D2.mp 111 uS uMc uInt zInt x (by simp [maxLen];omega) q
  rw [HC.out] at this
  exact this
 clear D1 D2
 go_wp2_with fail
 rw [←hw2]
 clear hw2
 go_quiet (fail)
 go_wp2_with fail
 refine wp_region_quiet_tail 23 (by kernel_rfl) (by kernel_rfl) ?_
 simp only [List.take_succ_cons,List.take_zero,List.drop_succ_cons,List.drop_zero]
 repeat (go_big_quiet_step (fail))
 refine wpQuiet_nil ?_
 intro _ hw'
 obtain⟨nr,hw''⟩:=hw'
 subst hw''
 go_wp2_with fail
 refine (demand_bad x z 8 _).mono ?_
 rintro e w6 ⟨rfl,hb6⟩
 have b16:Below w1.heap.size w1 w6:=(bdrew b12 (nq+nr)).trans (hb6.mono (bdrew b12 (nq+nr)).size)
 have hE:=Lib.hid (Below.ofGrown (grownBy.below' hg b16) hB (Nat.le_trans hB (Nat.le_of_lt hgl)))
 go_wp2_with fail
 exact⟨rfl,rfl,hE.out⟩
theorem fresh_bad2(B g n:Nat)(v:RVs)(s:AS)(ws:List Wd)(w:World)(h:RD B g n w s ws v)(x:List UInt8)(z:Nat)(hx:nextW n ws=(x,z))(hN:nameL x=true)(hlen:x.length≤9000)(hc:(conF s x).isSome=false)(ha:s.an.contains x=true) :
  Calls Tryz.prog 160 #[.pointer (some ⟨g,0,none⟩)] w fun e w'=>FailsB B w z 8 e w':=by
 have hgl:=h.row.lt
 have hB:=h.hB
 have rz0:=rowV.new w 172 #[.string ⟨#[]⟩,.int .i64 0]
 have hzg:w.heap.size≠g:=by omega
 have hr0:=h.row.below (balloc (Below.refl w.heap.size w) (.cells #[.string ⟨#[]⟩,.int .i64 0] 172)) hgl
 have hw0:=h.wm.below ((balloc (Below.refl w.heap.size w) (.cells #[.string ⟨#[]⟩,.int .i64 0] 172)).mono (by omega))
 have H1:Calls Tryz.prog 162 #[.pointer (some ⟨g,0,none⟩)] (w.alloc (.cells #[.string ⟨#[]⟩,.int .i64 0] 172)) fun e w'=>e=.returned (.agg #[.string (strB x),.int .i64 (z:Int)])∧NxV B g n v s ws.tail (w.alloc (.cells #[.string ⟨#[]⟩,.int .i64 0] 172)) w':=by
  have:=asmName_ok B g v.A v.k v.c n _ _ _ _ _ _ ws _ hr0 hw0 h.hk h.hB (by rw [hx];exact hN)
  rw [hx] at this
  exact this
 have H1':=Lib.hid H1
 have HC:=Lib.hid hc
 have HA:=Lib.hid ha
 clear hr0 hw0 H1 hc ha
 obtain⟨H⟩:Nonempty (PLift (RD B g n w s ws v)):=⟨⟨h⟩⟩
 have hnn:v.nn≤100000:=by have:=h.on.length (fun _=>rfl) (by decide);have:=h.fm.an;have:=h.fm.few;omega
 have hnl:v.nl≤100000:=by have:=h.ol.length (fun _=>rfl) (by decide);have:=h.fm.locs;omega
 go_enter Tryz.func160,Tryz.ntmps160
 go_wp2_with fail
 refine H1'.out.mono ?_
 rintro e w1 ⟨rfl,A',k',c',hk1',hr1,hw1,hg1⟩
 have hk1:=Lib.hid hk1'
 have rz1:=rz0.grown hg1 (fun e=>hzg (by injection e))
 have hg:=grownBy.trans' (World.grownBy_alloc w (.cells #[.string ⟨#[]⟩,.int .i64 0] 172) (some g)) hg1
 have D1:=h.next' (by rw [List.length_tail];omega) hk1' hr1 hw1 hg
 clear H1' hk1' rz0 h H
 have r2:=rowV.new w1 172 #[.string (strB x),.int .i64 (z:Int)]
 have hl2:=r2.lt
 have b12:Below w1.heap.size w1 (w1.alloc (.cells #[.string (strB x),.int .i64 (z:Int)] 172)):=balloc (Below.refl _ _) _
 obtain⟨w2,hw2⟩:∃ w2,w2=w1.alloc (.cells #[.string (strB x),.int .i64 (z:Int)] 172):=⟨_,rfl⟩
 rw [←hw2] at r2 hl2 b12
 obtain⟨a0,a1⟩:=two_cellsV r2
 have D2:=D1.below b12
 have c7:w2.cell? ⟨g,7,none⟩=some (.map (some v.m)):=cell_rowV D2.row rfl
 have c5:w2.cell? ⟨g,5,none⟩=some (.slice v.An v.nn v.cn):=cell_rowV D2.row rfl
 have c6:w2.cell? ⟨g,6,none⟩=some (.slice v.Al v.nl v.cl):=cell_rowV D2.row rfl
 have hlk:∀ q,(Instr.lookup 111 (.map (some v.m)) (.string (strB x)) true).run Tryz.prog (w2.drewN q)=.ok (.tuple #[.int .i64 ((conF s x).getD 0),.bool false]) (w2.drewN q):=fun q=>by
  have:=MapIs.run_getok D2.mp 111 uS uMc uInt zInt x (by simp [maxLen];omega) q
  rw [HC.out] at this
  exact this
 have HK1:Hid (∀ q,Calls Tryz.prog 178 #[.slice v.An v.nn v.cn,.string (strB x)] (w2.drewN q) fun e w'=>e=.returned (.bool true)∧w'=w2.drewN q):=fun q=>by
  have:=contains_any B v.An v.nn v.cn s.an x w2 D2.on hnn q
  rw [HA.out] at this
  exact this
 clear D1 D2
 go_wp2_with fail
 rw [←hw2]
 clear hw2
 go_quiet (fail)
 go_wp2_with fail
 refine wp_region_quiet_tail 23 (by kernel_rfl) (by kernel_rfl) ?_
 simp only [List.take_succ_cons,List.take_zero,List.drop_succ_cons,List.drop_zero]
 repeat (go_big_quiet_step (first | (go_at_call_of 178 (Value.slice v.An v.nn v.cn);exact (HK1.out _).mono fun e w2 h=>⟨h.1,_,h.2⟩)))
 refine wpQuiet_nil ?_
 intro _ hw'
 obtain⟨nr,hw''⟩:=hw'
 subst hw''
 go_wp2_with fail
 refine (demand_bad x z 8 _).mono ?_
 rintro e w6 ⟨rfl,hb6⟩
 have b16:Below w1.heap.size w1 w6:=(bdrew b12 (nq+nr)).trans (hb6.mono (bdrew b12 (nq+nr)).size)
 have hE:=Lib.hid (Below.ofGrown (grownBy.below' hg b16) hB (Nat.le_trans hB (Nat.le_of_lt hgl)))
 go_wp2_with fail
 exact⟨rfl,rfl,hE.out⟩
theorem fresh_bad3(B g n:Nat)(v:RVs)(s:AS)(ws:List Wd)(w:World)(h:RD B g n w s ws v)(x:List UInt8)(z:Nat)(hx:nextW n ws=(x,z))(hN:nameL x=true)(hlen:x.length≤9000)(hc:(conF s x).isSome=false)(ha:s.an.contains x=false)(hl:s.ln.contains x=true) :
  Calls Tryz.prog 160 #[.pointer (some ⟨g,0,none⟩)] w fun e w'=>FailsB B w z 8 e w':=by
 have hgl:=h.row.lt
 have hB:=h.hB
 have rz0:=rowV.new w 172 #[.string ⟨#[]⟩,.int .i64 0]
 have hzg:w.heap.size≠g:=by omega
 have hr0:=h.row.below (balloc (Below.refl w.heap.size w) (.cells #[.string ⟨#[]⟩,.int .i64 0] 172)) hgl
 have hw0:=h.wm.below ((balloc (Below.refl w.heap.size w) (.cells #[.string ⟨#[]⟩,.int .i64 0] 172)).mono (by omega))
 have H1:Calls Tryz.prog 162 #[.pointer (some ⟨g,0,none⟩)] (w.alloc (.cells #[.string ⟨#[]⟩,.int .i64 0] 172)) fun e w'=>e=.returned (.agg #[.string (strB x),.int .i64 (z:Int)])∧NxV B g n v s ws.tail (w.alloc (.cells #[.string ⟨#[]⟩,.int .i64 0] 172)) w':=by
  have:=asmName_ok B g v.A v.k v.c n _ _ _ _ _ _ ws _ hr0 hw0 h.hk h.hB (by rw [hx];exact hN)
  rw [hx] at this
  exact this
 have H1':=Lib.hid H1
 have HC:=Lib.hid hc
 have HA:=Lib.hid ha
 have HL:=Lib.hid hl
 clear hr0 hw0 H1 hc ha hl
 obtain⟨H⟩:Nonempty (PLift (RD B g n w s ws v)):=⟨⟨h⟩⟩
 have hnn:v.nn≤100000:=by have:=h.on.length (fun _=>rfl) (by decide);have:=h.fm.an;have:=h.fm.few;omega
 have hnl:v.nl≤100000:=by have:=h.ol.length (fun _=>rfl) (by decide);have:=h.fm.locs;omega
 go_enter Tryz.func160,Tryz.ntmps160
 go_wp2_with fail
 refine H1'.out.mono ?_
 rintro e w1 ⟨rfl,A',k',c',hk1',hr1,hw1,hg1⟩
 have hk1:=Lib.hid hk1'
 have rz1:=rz0.grown hg1 (fun e=>hzg (by injection e))
 have hg:=grownBy.trans' (World.grownBy_alloc w (.cells #[.string ⟨#[]⟩,.int .i64 0] 172) (some g)) hg1
 have D1:=h.next' (by rw [List.length_tail];omega) hk1' hr1 hw1 hg
 clear H1' hk1' rz0 h H
 have r2:=rowV.new w1 172 #[.string (strB x),.int .i64 (z:Int)]
 have hl2:=r2.lt
 have b12:Below w1.heap.size w1 (w1.alloc (.cells #[.string (strB x),.int .i64 (z:Int)] 172)):=balloc (Below.refl _ _) _
 obtain⟨w2,hw2⟩:∃ w2,w2=w1.alloc (.cells #[.string (strB x),.int .i64 (z:Int)] 172):=⟨_,rfl⟩
 rw [←hw2] at r2 hl2 b12
 obtain⟨a0,a1⟩:=two_cellsV r2
 have D2:=D1.below b12
 have c7:w2.cell? ⟨g,7,none⟩=some (.map (some v.m)):=cell_rowV D2.row rfl
 have c5:w2.cell? ⟨g,5,none⟩=some (.slice v.An v.nn v.cn):=cell_rowV D2.row rfl
 have c6:w2.cell? ⟨g,6,none⟩=some (.slice v.Al v.nl v.cl):=cell_rowV D2.row rfl
 have hlk:∀ q,(Instr.lookup 111 (.map (some v.m)) (.string (strB x)) true).run Tryz.prog (w2.drewN q)=.ok (.tuple #[.int .i64 ((conF s x).getD 0),.bool false]) (w2.drewN q):=fun q=>by
  have:=MapIs.run_getok D2.mp 111 uS uMc uInt zInt x (by simp [maxLen];omega) q
  rw [HC.out] at this
  exact this
 have HK1:Hid (∀ q,Calls Tryz.prog 178 #[.slice v.An v.nn v.cn,.string (strB x)] (w2.drewN q) fun e w'=>e=.returned (.bool false)∧w'=w2.drewN q):=fun q=>by
  have:=contains_any B v.An v.nn v.cn s.an x w2 D2.on hnn q
  rw [HA.out] at this
  exact this
 have HK2:Hid (∀ q,Calls Tryz.prog 178 #[.slice v.Al v.nl v.cl,.string (strB x)] (w2.drewN q) fun e w'=>e=.returned (.bool true)∧w'=w2.drewN q):=fun q=>by
  have:=contains_any B v.Al v.nl v.cl s.ln x w2 D2.ol hnl q
  rw [HL.out] at this
  exact this
 clear D1 D2
 go_wp2_with fail
 rw [←hw2]
 clear hw2
 go_quiet (fail)
 go_wp2_with fail
 refine wp_region_quiet_tail 23 (by kernel_rfl) (by kernel_rfl) ?_
 simp only [List.take_succ_cons,List.take_zero,List.drop_succ_cons,List.drop_zero]
 repeat (go_big_quiet_step (first | (go_at_call_of 178 (Value.slice v.An v.nn v.cn);exact (HK1.out _).mono fun e w2 h=>⟨h.1,_,h.2⟩) | (go_at_call_of 178 (Value.slice v.Al v.nl v.cl);exact (HK2.out _).mono fun e w2 h=>⟨h.1,_,h.2⟩)))
 refine wpQuiet_nil ?_
 intro _ hw'
 obtain⟨nr,hw''⟩:=hw'
 subst hw''
 go_wp2_with fail
 refine (demand_bad x z 8 _).mono ?_
 rintro e w6 ⟨rfl,hb6⟩
 have b16:Below w1.heap.size w1 w6:=(bdrew b12 (nq+nr)).trans (hb6.mono (bdrew b12 (nq+nr)).size)
 have hE:=Lib.hid (Below.ofGrown (grownBy.below' hg b16) hB (Nat.le_trans hB (Nat.le_of_lt hgl)))
 go_wp2_with fail
 exact⟨rfl,rfl,hE.out⟩
theorem fresh_bad0(B g n:Nat)(v:RVs)(s:AS)(ws:List Wd)(w:World)(h:RD B g n w s ws v)(x:List UInt8)(z:Nat)(hx:nextW n ws=(x,z))(hN:nameL x=false)(hlen:x.length≤9000) :
  Calls Tryz.prog 160 #[.pointer (some ⟨g,0,none⟩)] w fun e w'=>FailsB B w z 4 e w':=by
 have hgl:=h.row.lt
 have hB:=h.hB
 have b0:=balloc (Below.refl w.heap.size w) (.cells #[.string ⟨#[]⟩,.int .i64 0] 172)
 have hr0:=h.row.below b0 hgl
 have hw0:=h.wm.below (b0.mono (by omega))
 have H1:Calls Tryz.prog 162 #[.pointer (some ⟨g,0,none⟩)] (w.alloc (.cells #[.string ⟨#[]⟩,.int .i64 0] 172)) fun e w'=>FailsB B (w.alloc (.cells #[.string ⟨#[]⟩,.int .i64 0] 172)) z 4 e w':=by
  have:=asmName_bad B g v.A v.k v.c n _ _ _ _ _ _ ws _ hr0 hw0 h.hk h.hB (by rw [hx];exact hN)
  rw [hx] at this
  exact this
 have H1':=Lib.hid H1
 have hb0:Hid (Below B w (w.alloc (.cells #[.string ⟨#[]⟩,.int .i64 0] 172))):=b0.mono (by omega)
 clear hr0 hw0 H1 h b0
 go_enter Tryz.func160,Tryz.ntmps160
 go_wp2_with fail
 refine H1'.out.mono ?_
 rintro e w1 ⟨rfl,hb1⟩
 go_wp2_with fail
 exact⟨rfl,rfl,hb0.out.trans hb1⟩
theorem conF_isSome(s:AS)(x:List UInt8):(conF s x).isSome=(conOf s x).isSome:=by unfold conF;cases conOf s x <;> rfl
theorem asmFresh_ok(B g n:Nat)(v:RVs)(s:AS)(ws:List Wd)(w:World)(h:RD B g n w s ws v)(hF:freshE s (nextW n ws).1=0) :
  Calls Tryz.prog 160 #[.pointer (some ⟨g,0,none⟩)] w fun e w'=>e=.returned (.agg #[.string (strB (nextW n ws).1),.int .i64 ((nextW n ws).2:Int)])∧NxV B g n v s ws.tail w w':=by
 have hl:=next_len h.wm (n:=n)
 obtain⟨x,z,hx⟩:∃ x z,nextW n ws=(x,z):=⟨_,_,rfl⟩
 rw [hx] at hF hl ⊢
 dsimp only at hF hl ⊢
 unfold freshE at hF
 cases hN:nameL x with
 | false=>rw [hN] at hF;simp at hF
 | true=>
  rw [hN] at hF
  simp only [Bool.true_eq_false,if_false] at hF
  split at hF
  ·simp at hF
  ·rename_i h1
   simp only [Bool.or_eq_true,not_or,Bool.not_eq_true] at h1
   exact fresh_ok B g n v s ws w h x z hx hN hl (by rw [conF_isSome];exact h1.1.1) h1.1.2 h1.2
theorem asmFresh_bad(B g n:Nat)(v:RVs)(s:AS)(ws:List Wd)(w:World)(h:RD B g n w s ws v)(hF:freshE s (nextW n ws).1≠0) :
  Calls Tryz.prog 160 #[.pointer (some ⟨g,0,none⟩)] w fun e w'=>FailsB B w ((nextW n ws).2:Int) (freshE s (nextW n ws).1) e w':=by
 have hl:=next_len h.wm (n:=n)
 obtain⟨x,z,hx⟩:∃ x z,nextW n ws=(x,z):=⟨_,_,rfl⟩
 rw [hx] at hF hl ⊢
 dsimp only at hF hl ⊢
 unfold freshE at hF ⊢
 cases hN:nameL x with
 | false=>rw [if_pos rfl];exact fresh_bad0 B g n v s ws w h x z hx hN hl
 | true=>
  rw [hN] at hF
  simp only [Bool.true_eq_false,if_false] at hF ⊢
  cases h1:(conOf s x).isSome with
  | true=>simp only [Bool.true_or,if_true];exact fresh_bad1 B g n v s ws w h x z hx hN hl (by rw [conF_isSome];exact h1)
  | false=>
   cases h2:s.an.contains x with
   | true=>simp only [Bool.or_true,Bool.true_or,if_true];exact fresh_bad2 B g n v s ws w h x z hx hN hl (by rw [conF_isSome];exact h1) h2
   | false=>
    cases h3:s.ln.contains x with
    | true=>simp only [Bool.or_true,if_true];exact fresh_bad3 B g n v s ws w h x z hx hN hl (by rw [conF_isSome];exact h1) h2 h3
    | false=>rw [h1,h2,h3] at hF;simp at hF
theorem index_ok(B g n:Nat)(v:RVs)(s:AS)(ws:List Wd)(w:World)(h:RD B g n w s ws v)(A2:Option Addr)(n2 c2:Nat)(l:List (List UInt8))(ho:OwnS encSt 1 w B 9 A2 n2 c2 l)(hn2:n2≤100000)(x:List UInt8)(z:Nat)(hx:nextW n ws=(x,z))(hN:nameL x=true)(hI:l.contains x=true) :
  Calls Tryz.prog 127 #[.pointer (some ⟨g,0,none⟩),.slice A2 n2 c2] w fun e w'=>e=.returned (.int .i64 ((l.idxOf x:Nat):Int))∧NxV B g n v s ws.tail w w':=by
 have hgl:=h.row.lt
 have hB:=h.hB
 have H1:Calls Tryz.prog 162 #[.pointer (some ⟨g,0,none⟩)] w fun e w'=>e=.returned (.agg #[.string (strB x),.int .i64 (z:Int)])∧NxV B g n v s ws.tail w w':=by
  have:=asmName_ok B g v.A v.k v.c n _ _ _ _ _ _ ws _ h.row h.wm h.hk h.hB (by rw [hx];exact hN)
  rw [hx] at this
  exact this
 have H1':=Lib.hid H1
 have HI0:=Lib.hid hI
 have hrow:=h.row
 clear H1 hI h
 go_enter Tryz.func127,Tryz.ntmps127
 go_wp2_with fail
 refine H1'.out.mono ?_
 rintro e w1 ⟨rfl,A',k',c',hk1',hr1,hw1,hg1⟩
 have hk1:=Lib.hid hk1'
 have ho1:=ho.grown hg1 (ho.ne_row hrow (by decide))
 clear H1' hk1' ho hrow
 have r2:=rowV.new w1 172 #[.string (strB x),.int .i64 (z:Int)]
 have hl2:=r2.lt
 have b12:Below w1.heap.size w1 (w1.alloc (.cells #[.string (strB x),.int .i64 (z:Int)] 172)):=balloc (Below.refl _ _) _
 obtain⟨w2,hw2⟩:∃ w2,w2=w1.alloc (.cells #[.string (strB x),.int .i64 (z:Int)] 172):=⟨_,rfl⟩
 rw [←hw2] at r2 hl2 b12
 obtain⟨a0,a1⟩:=two_cellsV r2
 have ho2:=ho1.below b12
 have HK:Hid (Calls Tryz.prog 163 #[.slice A2 n2 c2,.string (strB x)] w2 fun e w'=>e=.returned (.int .i64 (((l.idxOf x:Nat):Int)))∧w'=w2):=by
  show Calls _ _ _ _ _
  have:=index_any B A2 n2 c2 l x w2 ho2 hn2
  rw [HI0.out] at this
  exact this
 clear ho1 ho2
 go_wp2_with fail
 rw [←hw2]
 clear hw2
 obtain⟨ix,hix⟩:∃ ix,ix=l.idxOf x:=⟨_,rfl⟩
 rw [←hix] at HK
 have dix:decide ((0:Int)≤(ix:Int))=true:=by simp
 refine HK.out.mono ?_
 rintro e w3 ⟨rfl,hw3⟩
 obtain rfl:w2=w3:=hw3.symm
 go_wp2_with fail
 refine (demand_ok x z 7 _).mono ?_
 rintro e w6 ⟨rfl,hb6⟩
 have b16:Below w1.heap.size w1 w6:=b12.trans (hb6.mono b12.size)
 have hE:Hid (NxV B g n v s ws.tail w w6):=⟨A',k',c',hk1.out,hr1.below b16 hr1.lt,hw1.below (b16.mono (Nat.le_trans hB (Nat.le_of_lt hr1.lt))),grownBy.below' hg1 b16⟩
 go_wp2_with fail
 go_ret
 exact⟨rfl,hE.out⟩
theorem index_bad7(B g n:Nat)(v:RVs)(s:AS)(ws:List Wd)(w:World)(h:RD B g n w s ws v)(A2:Option Addr)(n2 c2:Nat)(l:List (List UInt8))(ho:OwnS encSt 1 w B 9 A2 n2 c2 l)(hn2:n2≤100000)(x:List UInt8)(z:Nat)(hx:nextW n ws=(x,z))(hN:nameL x=true)(hI:l.contains x=false) :
  Calls Tryz.prog 127 #[.pointer (some ⟨g,0,none⟩),.slice A2 n2 c2] w fun e w'=>FailsB B w z 7 e w':=by
 have hgl:=h.row.lt
 have hB:=h.hB
 have H1:Calls Tryz.prog 162 #[.pointer (some ⟨g,0,none⟩)] w fun e w'=>e=.returned (.agg #[.string (strB x),.int .i64 (z:Int)])∧NxV B g n v s ws.tail w w':=by
  have:=asmName_ok B g v.A v.k v.c n _ _ _ _ _ _ ws _ h.row h.wm h.hk h.hB (by rw [hx];exact hN)
  rw [hx] at this
  exact this
 have H1':=Lib.hid H1
 have HI0:=Lib.hid hI
 have hrow:=h.row
 clear H1 hI h
 go_enter Tryz.func127,Tryz.ntmps127
 go_wp2_with fail
 refine H1'.out.mono ?_
 rintro e w1 ⟨rfl,A',k',c',hk1',hr1,hw1,hg1⟩
 have hk1:=Lib.hid hk1'
 have ho1:=ho.grown hg1 (ho.ne_row hrow (by decide))
 clear H1' hk1' ho hrow
 have r2:=rowV.new w1 172 #[.string (strB x),.int .i64 (z:Int)]
 have hl2:=r2.lt
 have b12:Below w1.heap.size w1 (w1.alloc (.cells #[.string (strB x),.int .i64 (z:Int)] 172)):=balloc (Below.refl _ _) _
 obtain⟨w2,hw2⟩:∃ w2,w2=w1.alloc (.cells #[.string (strB x),.int .i64 (z:Int)] 172):=⟨_,rfl⟩
 rw [←hw2] at r2 hl2 b12
 obtain⟨a0,a1⟩:=two_cellsV r2
 have ho2:=ho1.below b12
 have HK:Hid (Calls Tryz.prog 163 #[.slice A2 n2 c2,.string (strB x)] w2 fun e w'=>e=.returned (.int .i64 (-1))∧w'=w2):=by
  show Calls _ _ _ _ _
  have:=index_any B A2 n2 c2 l x w2 ho2 hn2
  rw [HI0.out] at this
  exact this
 clear ho1 ho2
 go_wp2_with fail
 rw [←hw2]
 clear hw2
 refine HK.out.mono ?_
 rintro e w3 ⟨rfl,hw3⟩
 obtain rfl:w2=w3:=hw3.symm
 go_wp2_with fail
 refine (demand_bad x z 7 _).mono ?_
 rintro e w6 ⟨rfl,hb6⟩
 have b16:Below w1.heap.size w1 w6:=b12.trans (hb6.mono b12.size)
 have hE:=Lib.hid (Below.ofGrown (grownBy.below' hg1 b16) hB (Nat.le_trans hB (Nat.le_of_lt hgl)))
 go_wp2_with fail
 exact⟨rfl,rfl,hE.out⟩
theorem index_bad4(B g n:Nat)(v:RVs)(s:AS)(ws:List Wd)(w:World)(h:RD B g n w s ws v)(A2:Option Addr)(n2 c2:Nat)(l:List (List UInt8))(ho:OwnS encSt 1 w B 9 A2 n2 c2 l)(hn2:n2≤100000)(x:List UInt8)(z:Nat)(hx:nextW n ws=(x,z))(hN:nameL x=false) :
  Calls Tryz.prog 127 #[.pointer (some ⟨g,0,none⟩),.slice A2 n2 c2] w fun e w'=>FailsB B w z 4 e w':=by
 have hgl:=h.row.lt
 have hB:=h.hB
 have H1:Calls Tryz.prog 162 #[.pointer (some ⟨g,0,none⟩)] w fun e w'=>FailsB B w z 4 e w':=by
  have:=asmName_bad B g v.A v.k v.c n _ _ _ _ _ _ ws _ h.row h.wm h.hk h.hB (by rw [hx];exact hN)
  rw [hx] at this
  exact this
 have H1':=Lib.hid H1
 clear H1 h ho
 go_enter Tryz.func127,Tryz.ntmps127
 go_wp2_with fail
 refine H1'.out.mono ?_
 rintro e w1 ⟨rfl,hb1⟩
 go_wp2_with fail
 exact⟨rfl,rfl,hb1⟩
theorem asmIndex_ok(B g n:Nat)(v:RVs)(s:AS)(ws:List Wd)(w:World)(h:RD B g n w s ws v)(A2:Option Addr)(n2 c2:Nat)(l:List (List UInt8))(ho:OwnS encSt 1 w B 9 A2 n2 c2 l)(hn2:n2≤100000)(hI:(indexL l (nextW n ws).1).2=0) :
  Calls Tryz.prog 127 #[.pointer (some ⟨g,0,none⟩),.slice A2 n2 c2] w fun e w'=>e=.returned (.int .i64 (((indexL l (nextW n ws).1).1:Nat):Int))∧NxV B g n v s ws.tail w w':=by
 obtain⟨x,z,hx⟩:∃ x z,nextW n ws=(x,z):=⟨_,_,rfl⟩
 rw [hx] at hI ⊢
 dsimp only at hI ⊢
 unfold indexL at hI ⊢
 cases hN:nameL x with
 | false=>rw [hN] at hI;simp at hI
 | true=>
  cases hc:l.contains x with
  | false=>rw [hN,hc] at hI;simp at hI
  | true=>
   simp only [Bool.true_eq_false,if_false]
   exact index_ok B g n v s ws w h A2 n2 c2 l ho hn2 x z hx hN hc
theorem asmIndex_bad(B g n:Nat)(v:RVs)(s:AS)(ws:List Wd)(w:World)(h:RD B g n w s ws v)(A2:Option Addr)(n2 c2:Nat)(l:List (List UInt8))(ho:OwnS encSt 1 w B 9 A2 n2 c2 l)(hn2:n2≤100000)(hI:(indexL l (nextW n ws).1).2≠0) :
  Calls Tryz.prog 127 #[.pointer (some ⟨g,0,none⟩),.slice A2 n2 c2] w fun e w'=>FailsB B w ((nextW n ws).2:Int) (indexL l (nextW n ws).1).2 e w':=by
 obtain⟨x,z,hx⟩:∃ x z,nextW n ws=(x,z):=⟨_,_,rfl⟩
 rw [hx] at hI ⊢
 dsimp only at hI ⊢
 unfold indexL at hI ⊢
 cases hN:nameL x with
 | false=>simp only [if_true];exact index_bad4 B g n v s ws w h A2 n2 c2 l ho hn2 x z hx hN
 | true=>
  cases hc:l.contains x with
  | false=>simp only [Bool.true_eq_false,if_false,if_true];exact index_bad7 B g n v s ws w h A2 n2 c2 l ho hn2 x z hx hN hc
  | true=>rw [hN,hc] at hI;simp at hI
theorem value_num(B g n:Nat)(v:RVs)(s:AS)(x:List UInt8)(z:Nat)(t:List Wd)(w:World)(h:RD B g n w s ((x,z) :: t) v)(nn:Nat)(hv:numL x=some nn) :
  Calls Tryz.prog 126 #[.pointer (some ⟨g,0,none⟩)] w fun e w'=>e=.returned (.tuple #[.int .i64 (nn:Int),.agg #[.string (strB x),.int .i64 (z:Int)]])∧NxV B g n v s t w w':=by
 have hgl:=h.row.lt
 have hB:=h.hB
 have hlen:x.length≤9000:=(h.wm.2.2.1 (x,z) (by simp)).1
 have hkl:v.k=t.length+1:=by have:=h.wm.1;simpa using this.symm
 have rz0:=rowV.new w 172 #[.string ⟨#[]⟩,.int .i64 0]
 have hzg:w.heap.size≠g:=by omega
 have b0:=balloc (Below.refl w.heap.size w) (.cells #[.string ⟨#[]⟩,.int .i64 0] 172)
 obtain⟨w0,hw0⟩:∃ w0,w0=w.alloc (.cells #[.string ⟨#[]⟩,.int .i64 0] 172):=⟨_,rfl⟩
 rw [←hw0] at rz0 b0
 have D0:=h.below b0
 obtain⟨b,off,hA,hbl,hcell⟩:=h.wm.2.2.2 (by omega)
 obtain⟨q1,q2⟩:=hcell 0 (by omega)
 have q1':w.cell? ⟨b,off,none⟩=some (.string (strB x)):=by simpa [gW] using q1
 have c0:w.cell? ⟨g,0,none⟩=some (.slice (some ⟨b,off,none⟩) v.k v.c):=by rw [←hA];exact cell_rowV h.row rfl
 obtain⟨kk,hkk⟩:∃ kk,kk=v.k:=⟨_,rfl⟩
 rw [←hkk] at c0 hkl
 have k0:decide ((0:Int) < (kk:Int))=true:=by simp;omega
 have k0':decide (0 < kk)=true:=by simp;omega
 have k1:0 < kk:=by omega
 have k2:(1:Int)≤(kk:Int):=by omega
 have hbw:b < w.heap.size:=World.block_lt_of_cell? w _ q1'
 have HNum:Hid (Calls Tryz.prog 161 #[.string (strB x)] w0 fun e w'=>e=.returned (.tuple #[.int .i64 (nn:Int),.bool true])∧Below w0.heap.size w0 w'):=by
  show Calls _ _ _ _ _
  refine (asmNumber_any x w0 hlen D0.err).mono ?_
  rintro e w' ⟨vn,rfl,hvn,hb⟩
  rw [hvn nn hv,hv]
  exact⟨rfl,hb⟩
 have h0k:=Lib.hid h.hk
 clear q1 q2 hcell hA hv h
 go_enter Tryz.func126,Tryz.ntmps126
 go_wp2_with fail
 rw [←hw0]
 clear hw0
 refine HNum.out.mono ?_
 rintro e w1 ⟨rfl,hb1⟩
 have D1:=D0.below hb1
 have rz1:=rz0.below hb1 rz0.lt
 have G1:w.grownBy w1 (some g):=grownBy.below' (World.grownBy.refl w (some g)) (b0.trans (hb1.mono b0.size))
 have HX:Hid (Calls Tryz.prog 88 #[.pointer (some ⟨g,0,none⟩)] w1 fun e w'=>∃ A' k' c',e=.returned (.agg #[.string (strB x),.int .i64 (z:Int)])∧k'=v.k-1∧rowV w' g 113 (rdC A' k' c' n (.slice v.Aa v.na v.ca) (.int .i64 (s.ln.length:Int)) (.slice v.Ac v.nc v.cc) (.slice v.An v.nn v.cn) (.slice v.Al v.nl v.cl) (.map (some v.m)))∧WordsM B w' A' k' c' t∧w1.grownBy w' (some g)):=next_any B g v.A v.k v.c n _ _ _ _ _ _ ((x,z) :: t) w1 D1.row D1.wm D1.hk D1.hB
 clear D0 D1 HNum q1' c0
 go_wp2_with fail
 refine HX.out.mono ?_
 rintro e w2 ⟨A',k',c',rfl,hke,hr2,hw2,hg2⟩
 have hk1:Hid (k'≤9000):=by show _≤_;have:=h0k.out;omega
 have G2:=grownBy.trans' G1 hg2
 have rz6:=rz1.grown hg2 (fun e=>hzg (by injection e))
 obtain⟨y0,y1⟩:=two_cellsV rz6
 have z0:=frozen_rowV' rz6 0
 have z1:=frozen_rowV' rz6 1
 have rz7:rowV ((w2.setCell ⟨w.heap.size,0,none⟩ (.string (strB x))).setCell ⟨w.heap.size,1,none⟩ (.int .i64 (z:Int))) w.heap.size 172 #[.string (strB x),.int .i64 (z:Int)]:=(rz6.set 0 _).set 1 _
 have hE:Hid (NxV B g n v s t w ((w2.setCell ⟨w.heap.size,0,none⟩ (.string (strB x))).setCell ⟨w.heap.size,1,none⟩ (.int .i64 (z:Int)))):=
  ⟨A',k',c',hk1.out,(hr2.setFar (p:=⟨w.heap.size,0,none⟩) (Ne.symm hzg) _).setFar (p:=⟨w.heap.size,1,none⟩) (Ne.symm hzg) _,(hw2.setFar (p:=⟨w.heap.size,0,none⟩) (by show B≤w.heap.size;omega) _).setFar (p:=⟨w.heap.size,1,none⟩) (by show B≤w.heap.size;omega) _,grownBy.setNew (grownBy.setNew G2 (p:=⟨w.heap.size,0,none⟩) (Nat.le_refl _) _) (p:=⟨w.heap.size,1,none⟩) (Nat.le_refl _) _⟩
 have HZ:=Lib.hid (two_cellsV rz7)
 clear HX hke rz7 hr2 hw2 G2 rz6 rz1 rz0
 go_wp2_with fail
 obtain⟨z7,z8⟩:=HZ.out
 refine bodyPost_ret (v:=.tuple #[.int .i64 (nn:Int),.agg #[.string (strB x),.int .i64 (z:Int)]]) ?_ rfl ⟨rfl,hE.out⟩
 simp [results,Tryz.results126,go_sem,z7,z8]
theorem value_con(B g n:Nat)(v:RVs)(s:AS)(x:List UInt8)(z:Nat)(t:List Wd)(w:World)(h:RD B g n w s ((x,z) :: t) v)(nn:Nat)(hv:numL x=none)(hN:nameL x=true)(hC:conOf s x=some nn) :
  Calls Tryz.prog 126 #[.pointer (some ⟨g,0,none⟩)] w fun e w'=>e=.returned (.tuple #[.int .i64 (nn:Int),.agg #[.string (strB x),.int .i64 (z:Int)]])∧NxV B g n v s t w w':=by
 have hgl:=h.row.lt
 have hB:=h.hB
 have hlen:x.length≤9000:=(h.wm.2.2.1 (x,z) (by simp)).1
 have hkl:v.k=t.length+1:=by have:=h.wm.1;simpa using this.symm
 have rz0:=rowV.new w 172 #[.string ⟨#[]⟩,.int .i64 0]
 have hzg:w.heap.size≠g:=by omega
 have b0:=balloc (Below.refl w.heap.size w) (.cells #[.string ⟨#[]⟩,.int .i64 0] 172)
 obtain⟨w0,hw0⟩:∃ w0,w0=w.alloc (.cells #[.string ⟨#[]⟩,.int .i64 0] 172):=⟨_,rfl⟩
 rw [←hw0] at rz0 b0
 have D0:=h.below b0
 obtain⟨b,off,hA,hbl,hcell⟩:=h.wm.2.2.2 (by omega)
 obtain⟨q1,q2⟩:=hcell 0 (by omega)
 have q1':w.cell? ⟨b,off,none⟩=some (.string (strB x)):=by simpa [gW] using q1
 have c0:w.cell? ⟨g,0,none⟩=some (.slice (some ⟨b,off,none⟩) v.k v.c):=by rw [←hA];exact cell_rowV h.row rfl
 obtain⟨kk,hkk⟩:∃ kk,kk=v.k:=⟨_,rfl⟩
 rw [←hkk] at c0 hkl
 have k0:decide ((0:Int) < (kk:Int))=true:=by simp;omega
 have k0':decide (0 < kk)=true:=by simp;omega
 have k1:0 < kk:=by omega
 have k2:(1:Int)≤(kk:Int):=by omega
 have hbw:b < w.heap.size:=World.block_lt_of_cell? w _ q1'
 have HNum:Hid (Calls Tryz.prog 161 #[.string (strB x)] w0 fun e w'=>∃ vn:Int,e=.returned (.tuple #[.int .i64 vn,.bool false])∧Below w0.heap.size w0 w'):=by
  show Calls _ _ _ _ _
  refine (asmNumber_any x w0 hlen D0.err).mono ?_
  rintro e w' ⟨vn,rfl,hvn,hb⟩
  rw [hv]
  exact⟨vn,rfl,hb⟩
 have HC:=Lib.hid hC
 have HN:=Lib.hid hN
 clear q1 q2 hcell hA hv h hC hN
 go_enter Tryz.func126,Tryz.ntmps126
 go_wp2_with fail
 rw [←hw0]
 clear hw0
 refine HNum.out.mono ?_
 rintro e w1 ⟨vn,rfl,hb1⟩
 have D1:=D0.below hb1
 have rz1:=rz0.below hb1 rz0.lt
 have G1:w.grownBy w1 (some g):=grownBy.below' (World.grownBy.refl w (some g)) (b0.trans (hb1.mono b0.size))
 have H1:Hid (Calls Tryz.prog 162 #[.pointer (some ⟨g,0,none⟩)] w1 fun e w'=>e=.returned (.agg #[.string (strB x),.int .i64 (z:Int)])∧NxV B g n v s t w1 w'):=asmName_ok B g v.A v.k v.c n _ _ _ _ _ _ ((x,z) :: t) _ D1.row D1.wm D1.hk D1.hB HN.out
 clear D0 HNum q1' c0
 go_wp2_with fail
 refine H1.out.mono ?_
 rintro e w2 ⟨rfl,A',k',c',hk1',hr2,hw2,hg2⟩
 have hk1:=Lib.hid hk1'
 have D2:=D1.next' (ws':=t) (by simp) hk1' hr2 hw2 hg2
 have G2:=grownBy.trans' G1 hg2
 have rz2:=rz1.grown hg2 (fun e=>hzg (by injection e))
 have r3:=rowV.new w2 172 #[.string (strB x),.int .i64 (z:Int)]
 have hl3:=r3.lt
 have b23:Below w2.heap.size w2 (w2.alloc (.cells #[.string (strB x),.int .i64 (z:Int)] 172)):=balloc (Below.refl _ _) _
 obtain⟨w3,hw3⟩:∃ w3,w3=w2.alloc (.cells #[.string (strB x),.int .i64 (z:Int)] 172):=⟨_,rfl⟩
 rw [←hw3] at r3 hl3 b23
 obtain⟨a0,a1⟩:=two_cellsV r3
 have D3:=D2.below b23
 have c7:w3.cell? ⟨g,7,none⟩=some (.map (some v.m)):=cell_rowV D3.row rfl
 have hlk:∀ q,(Instr.lookup 111 (.map (some v.m)) (.string (strB x)) true).run Tryz.prog (w3.drewN q)=.ok (.tuple #[.int .i64 (nn:Int),.bool true]) (w3.drewN q):=fun q=>by
  have:=MapIs.run_getok D3.mp 111 uS uMc uInt zInt x (by simp [maxLen];omega) q
  have hcf:conF s x=some (nn:Int):=by unfold conF;rw [HC.out];rfl
  rw [hcf] at this
  exact this
 clear D1 D2 D3 H1 hk1' rz1 rz0
 go_wp2_with fail
 rw [←hw3]
 clear hw3
 go_quiet (fail)
 go_wp2_with fail
 refine (demand_ok x z 7 _).mono ?_
 rintro e w6 ⟨rfl,hb6⟩
 have b26:Below w2.heap.size w2 w6:=(bdrew b23 nq).trans (hb6.mono (bdrew b23 nq).size)
 have r6:=(r3.below (w':=w3.drewN nq) ((Drawn.drewN _ _).below _) hl3).below hb6 (r3.below (w':=w3.drewN nq) ((Drawn.drewN _ _).below _) hl3).lt
 obtain⟨f0,f1⟩:=two_cellsV r6
 have rz6:=rz2.below b26 rz2.lt
 obtain⟨y0,y1⟩:=two_cellsV rz6
 have z0:=frozen_rowV' rz6 0
 have z1:=frozen_rowV' rz6 1
 have G6:w.grownBy w6 (some g):=grownBy.below' G2 b26
 have hr6:=hr2.below b26 hr2.lt
 have hw6:=hw2.below (b26.mono (Nat.le_trans hB (Nat.le_of_lt hr2.lt)))
 have hE:Hid (∀ q,rowV (((w6.drewN q).setCell ⟨w.heap.size,0,none⟩ (.string (strB x))).setCell ⟨w.heap.size,1,none⟩ (.int .i64 (z:Int))) w.heap.size 172 #[.string (strB x),.int .i64 (z:Int)]∧NxV B g n v s t w (((w6.drewN q).setCell ⟨w.heap.size,0,none⟩ (.string (strB x))).setCell ⟨w.heap.size,1,none⟩ (.int .i64 (z:Int)))):=fun q=>
  ⟨((rz6.below (w':=w6.drewN q) ((Drawn.drewN _ _).below _) rz6.lt).set 0 _).set 1 _,A',k',c',hk1.out,((hr6.below (w':=w6.drewN q) ((Drawn.drewN _ _).below _) hr6.lt).setFar (p:=⟨w.heap.size,0,none⟩) (Ne.symm hzg) _).setFar (p:=⟨w.heap.size,1,none⟩) (Ne.symm hzg) _,((hw6.below ((Drawn.drewN w6 q).below _)).setFar (p:=⟨w.heap.size,0,none⟩) (by show B≤w.heap.size;omega) _).setFar (p:=⟨w.heap.size,1,none⟩) (by show B≤w.heap.size;omega) _,grownBy.setNew (grownBy.setNew (grownBy.drewN' G6 q) (p:=⟨w.heap.size,0,none⟩) (Nat.le_refl _) _) (p:=⟨w.heap.size,1,none⟩) (Nat.le_refl _) _⟩
 clear hr6 hw6 G6 rz6 r6 rz2 hr2 hw2 G2 c7 hlk
 go_wp2_with fail
 refine wp_region_quiet_tail 3 (by kernel_rfl) (by kernel_rfl) ?_
 simp only [List.take_succ_cons,List.take_zero,List.drop_succ_cons,List.drop_zero]
 repeat (go_big_quiet_step (fail))
 refine wpQuiet_nil ?_
 intro _ hw'
 obtain⟨nr,hw''⟩:=hw'
 subst hw''
 go_wp2_with fail
 obtain⟨rz7,hE7⟩:=hE.out nr
 obtain⟨z7,z8⟩:=two_cellsV rz7
 refine bodyPost_ret (v:=.tuple #[.int .i64 (nn:Int),.agg #[.string (strB x),.int .i64 (z:Int)]]) ?_ rfl ⟨rfl,hE7⟩
 simp [results,Tryz.results126,go_sem,z7,z8]
theorem value_bad7(B g n:Nat)(v:RVs)(s:AS)(x:List UInt8)(z:Nat)(t:List Wd)(w:World)(h:RD B g n w s ((x,z) :: t) v)(hv:numL x=none)(hN:nameL x=true)(hC:conOf s x=none) :
  Calls Tryz.prog 126 #[.pointer (some ⟨g,0,none⟩)] w fun e w'=>FailsB B w z 7 e w':=by
 have hgl:=h.row.lt
 have hB:=h.hB
 have hlen:x.length≤9000:=(h.wm.2.2.1 (x,z) (by simp)).1
 have hkl:v.k=t.length+1:=by have:=h.wm.1;simpa using this.symm
 have rz0:=rowV.new w 172 #[.string ⟨#[]⟩,.int .i64 0]
 have hzg:w.heap.size≠g:=by omega
 have b0:=balloc (Below.refl w.heap.size w) (.cells #[.string ⟨#[]⟩,.int .i64 0] 172)
 obtain⟨w0,hw0⟩:∃ w0,w0=w.alloc (.cells #[.string ⟨#[]⟩,.int .i64 0] 172):=⟨_,rfl⟩
 rw [←hw0] at rz0 b0
 have D0:=h.below b0
 obtain⟨b,off,hA,hbl,hcell⟩:=h.wm.2.2.2 (by omega)
 obtain⟨q1,q2⟩:=hcell 0 (by omega)
 have q1':w.cell? ⟨b,off,none⟩=some (.string (strB x)):=by simpa [gW] using q1
 have c0:w.cell? ⟨g,0,none⟩=some (.slice (some ⟨b,off,none⟩) v.k v.c):=by rw [←hA];exact cell_rowV h.row rfl
 obtain⟨kk,hkk⟩:∃ kk,kk=v.k:=⟨_,rfl⟩
 rw [←hkk] at c0 hkl
 have k0:decide ((0:Int) < (kk:Int))=true:=by simp;omega
 have k0':decide (0 < kk)=true:=by simp;omega
 have k1:0 < kk:=by omega
 have k2:(1:Int)≤(kk:Int):=by omega
 have hbw:b < w.heap.size:=World.block_lt_of_cell? w _ q1'
 have HNum:Hid (Calls Tryz.prog 161 #[.string (strB x)] w0 fun e w'=>∃ vn:Int,e=.returned (.tuple #[.int .i64 vn,.bool false])∧Below w0.heap.size w0 w'):=by
  show Calls _ _ _ _ _
  refine (asmNumber_any x w0 hlen D0.err).mono ?_
  rintro e w' ⟨vn,rfl,hvn,hb⟩
  rw [hv]
  exact⟨vn,rfl,hb⟩
 have HC:=Lib.hid hC
 have HN:=Lib.hid hN
 clear q1 q2 hcell hA hv h hC hN
 go_enter Tryz.func126,Tryz.ntmps126
 go_wp2_with fail
 rw [←hw0]
 clear hw0
 refine HNum.out.mono ?_
 rintro e w1 ⟨vn,rfl,hb1⟩
 have D1:=D0.below hb1
 have rz1:=rz0.below hb1 rz0.lt
 have G1:w.grownBy w1 (some g):=grownBy.below' (World.grownBy.refl w (some g)) (b0.trans (hb1.mono b0.size))
 have H1:Hid (Calls Tryz.prog 162 #[.pointer (some ⟨g,0,none⟩)] w1 fun e w'=>e=.returned (.agg #[.string (strB x),.int .i64 (z:Int)])∧NxV B g n v s t w1 w'):=asmName_ok B g v.A v.k v.c n _ _ _ _ _ _ ((x,z) :: t) _ D1.row D1.wm D1.hk D1.hB HN.out
 clear D0 HNum q1' c0
 go_wp2_with fail
 refine H1.out.mono ?_
 rintro e w2 ⟨rfl,A',k',c',hk1',hr2,hw2,hg2⟩
 have hk1:=Lib.hid hk1'
 have D2:=D1.next' (ws':=t) (by simp) hk1' hr2 hw2 hg2
 have G2:=grownBy.trans' G1 hg2
 have rz2:=rz1.grown hg2 (fun e=>hzg (by injection e))
 have r3:=rowV.new w2 172 #[.string (strB x),.int .i64 (z:Int)]
 have hl3:=r3.lt
 have b23:Below w2.heap.size w2 (w2.alloc (.cells #[.string (strB x),.int .i64 (z:Int)] 172)):=balloc (Below.refl _ _) _
 obtain⟨w3,hw3⟩:∃ w3,w3=w2.alloc (.cells #[.string (strB x),.int .i64 (z:Int)] 172):=⟨_,rfl⟩
 rw [←hw3] at r3 hl3 b23
 obtain⟨a0,a1⟩:=two_cellsV r3
 have D3:=D2.below b23
 have c7:w3.cell? ⟨g,7,none⟩=some (.map (some v.m)):=cell_rowV D3.row rfl
 have hlk:∀ q,(Instr.lookup 111 (.map (some v.m)) (.string (strB x)) true).run Tryz.prog (w3.drewN q)=.ok (.tuple #[.int .i64 0,.bool false]) (w3.drewN q):=fun q=>by
  have:=MapIs.run_getok D3.mp 111 uS uMc uInt zInt x (by simp [maxLen];omega) q
  have hcf:conF s x=none:=by unfold conF;rw [HC.out];rfl
  rw [hcf] at this
  exact this
 clear D1 D2 D3 H1 hk1' rz1 rz0
 go_wp2_with fail
 rw [←hw3]
 clear hw3
 go_quiet (fail)
 go_wp2_with fail
 refine (demand_bad x z 7 _).mono ?_
 rintro e w6 ⟨rfl,hb6⟩
 have b26:Below w2.heap.size w2 w6:=(bdrew b23 nq).trans (hb6.mono (bdrew b23 nq).size)
 have hE:=Lib.hid (Below.ofGrown (grownBy.below' G2 b26) hB (Nat.le_trans hB (Nat.le_of_lt hgl)))
 go_wp2_with fail
 exact⟨rfl,rfl,hE.out⟩
theorem value_bad4(B g n:Nat)(v:RVs)(s:AS)(x:List UInt8)(z:Nat)(t:List Wd)(w:World)(h:RD B g n w s ((x,z) :: t) v)(hv:numL x=none)(hN:nameL x=false) :
  Calls Tryz.prog 126 #[.pointer (some ⟨g,0,none⟩)] w fun e w'=>FailsB B w z 4 e w':=by
 have hgl:=h.row.lt
 have hB:=h.hB
 have hlen:x.length≤9000:=(h.wm.2.2.1 (x,z) (by simp)).1
 have hkl:v.k=t.length+1:=by have:=h.wm.1;simpa using this.symm
 have rz0:=rowV.new w 172 #[.string ⟨#[]⟩,.int .i64 0]
 have hzg:w.heap.size≠g:=by omega
 have b0:=balloc (Below.refl w.heap.size w) (.cells #[.string ⟨#[]⟩,.int .i64 0] 172)
 obtain⟨w0,hw0⟩:∃ w0,w0=w.alloc (.cells #[.string ⟨#[]⟩,.int .i64 0] 172):=⟨_,rfl⟩
 rw [←hw0] at rz0 b0
 have D0:=h.below b0
 obtain⟨b,off,hA,hbl,hcell⟩:=h.wm.2.2.2 (by omega)
 obtain⟨q1,q2⟩:=hcell 0 (by omega)
 have q1':w.cell? ⟨b,off,none⟩=some (.string (strB x)):=by simpa [gW] using q1
 have c0:w.cell? ⟨g,0,none⟩=some (.slice (some ⟨b,off,none⟩) v.k v.c):=by rw [←hA];exact cell_rowV h.row rfl
 obtain⟨kk,hkk⟩:∃ kk,kk=v.k:=⟨_,rfl⟩
 rw [←hkk] at c0 hkl
 have k0:decide ((0:Int) < (kk:Int))=true:=by simp;omega
 have k0':decide (0 < kk)=true:=by simp;omega
 have k1:0 < kk:=by omega
 have k2:(1:Int)≤(kk:Int):=by omega
 have hbw:b < w.heap.size:=World.block_lt_of_cell? w _ q1'
 have HNum:Hid (Calls Tryz.prog 161 #[.string (strB x)] w0 fun e w'=>∃ vn:Int,e=.returned (.tuple #[.int .i64 vn,.bool false])∧Below w0.heap.size w0 w'):=by
  show Calls _ _ _ _ _
  refine (asmNumber_any x w0 hlen D0.err).mono ?_
  rintro e w' ⟨vn,rfl,hvn,hb⟩
  rw [hv]
  exact⟨vn,rfl,hb⟩
 have HN:=Lib.hid hN
 clear q1 q2 hcell hA hv h hN
 go_enter Tryz.func126,Tryz.ntmps126
 go_wp2_with fail
 rw [←hw0]
 clear hw0
 refine HNum.out.mono ?_
 rintro e w1 ⟨vn,rfl,hb1⟩
 have D1:=D0.below hb1
 have rz1:=rz0.below hb1 rz0.lt
 have G1:w.grownBy w1 (some g):=grownBy.below' (World.grownBy.refl w (some g)) (b0.trans (hb1.mono b0.size))
 have H1:Hid (Calls Tryz.prog 162 #[.pointer (some ⟨g,0,none⟩)] w1 fun e w'=>FailsB B w1 z 4 e w'):=asmName_bad B g v.A v.k v.c n _ _ _ _ _ _ ((x,z) :: t) _ D1.row D1.wm D1.hk D1.hB HN.out
 have hE0:=Lib.hid (Below.ofGrown G1 hB (Nat.le_trans hB (Nat.le_of_lt hgl)))
 clear D0 D1 HNum q1' c0
 go_wp2_with fail
 refine H1.out.mono ?_
 rintro e w2 ⟨rfl,hb2⟩
 have hE:=Lib.hid (hE0.out.trans hb2)
 go_wp2_with fail
 exact⟨rfl,rfl,hE.out⟩
theorem value_bad0(B g n:Nat)(v:RVs)(s:AS)(w:World)(h:RD B g n w s [] v) :
  Calls Tryz.prog 126 #[.pointer (some ⟨g,0,none⟩)] w fun e w'=>FailsB B w n 4 e w':=by
 have hgl:=h.row.lt
 have hB:=h.hB
 have hkl:v.k=0:=by have:=h.wm.1;simpa using this.symm
 have b0:=balloc (Below.refl w.heap.size w) (.cells #[.string ⟨#[]⟩,.int .i64 0] 172)
 obtain⟨w0,hw0⟩:∃ w0,w0=w.alloc (.cells #[.string ⟨#[]⟩,.int .i64 0] 172):=⟨_,rfl⟩
 rw [←hw0] at b0
 have D0:=h.below b0
 have c0:w.cell? ⟨g,0,none⟩=some (.slice v.A 0 v.c):=by
  have:=cell_rowV h.row (j:=0) (v:=.slice v.A v.k v.c) rfl
  rwa [hkl] at this
 have H1:Hid (Calls Tryz.prog 162 #[.pointer (some ⟨g,0,none⟩)] w0 fun e w'=>FailsB B w0 n 4 e w'):=asmName_bad B g v.A v.k v.c n _ _ _ _ _ _ [] _ D0.row D0.wm D0.hk D0.hB nameL_nil
 have hE0:Hid (Below B w w0):=b0.mono (by omega)
 clear h D0 b0 hkl
 go_enter Tryz.func126,Tryz.ntmps126
 go_wp2_with fail
 rw [←hw0]
 clear hw0
 refine H1.out.mono ?_
 rintro e w2 ⟨rfl,hb2⟩
 have hE:=Lib.hid (hE0.out.trans hb2)
 go_wp2_with fail
 exact⟨rfl,rfl,hE.out⟩
theorem asmValue_ok(B g n:Nat)(v:RVs)(s:AS)(ws:List Wd)(w:World)(h:RD B g n w s ws v)(hV:(valueL s (nextW n ws).1).2=0) :
  Calls Tryz.prog 126 #[.pointer (some ⟨g,0,none⟩)] w fun e w'=>e=.returned (.tuple #[.int .i64 (((valueL s (nextW n ws).1).1:Nat):Int),.agg #[.string (strB (nextW n ws).1),.int .i64 ((nextW n ws).2:Int)]])∧NxV B g n v s ws.tail w w':=by
 rcases ws with _ | ⟨⟨x,z⟩,t⟩
 ·exact absurd hV (by show ¬ (4:Int)=0;decide)
 ·have hV':(valueL s x).2=0:=hV
  show Calls _ _ _ _ fun e w'=>e=.returned (.tuple #[.int .i64 (((valueL s x).1:Nat):Int),.agg #[.string (strB x),.int .i64 (z:Int)]])∧NxV B g n v s t w w'
  unfold valueL at hV' ⊢
  cases hn:numL x with
  | some nn=>exact value_num B g n v s x z t w h nn hn
  | none=>
   rw [hn] at hV'
   dsimp only at hV' ⊢
   cases hN:nameL x with
   | false=>rw [hN] at hV';simp at hV'
   | true=>
    rw [hN] at hV'
    simp only [Bool.true_eq_false,if_false] at hV' ⊢
    cases hC:conOf s x with
    | none=>rw [hC] at hV';simp at hV'
    | some nn=>exact value_con B g n v s x z t w h nn hn hN hC
theorem asmValue_bad(B g n:Nat)(v:RVs)(s:AS)(ws:List Wd)(w:World)(h:RD B g n w s ws v)(hV:(valueL s (nextW n ws).1).2≠0) :
  Calls Tryz.prog 126 #[.pointer (some ⟨g,0,none⟩)] w fun e w'=>FailsB B w ((nextW n ws).2:Int) (valueL s (nextW n ws).1).2 e w':=by
 rcases ws with _ | ⟨⟨x,z⟩,t⟩
 ·exact value_bad0 B g n v s w h
 ·have hV':(valueL s x).2≠0:=hV
  show Calls _ _ _ _ fun e w'=>FailsB B w (z:Int) (valueL s x).2 e w'
  unfold valueL at hV' ⊢
  cases hn:numL x with
  | some nn=>rw [hn] at hV';simp at hV'
  | none=>
   rw [hn] at hV'
   dsimp only at hV' ⊢
   cases hN:nameL x with
   | false=>simp only [if_true];exact value_bad4 B g n v s x z t w h hn hN
   | true=>
    rw [hN] at hV'
    simp only [Bool.true_eq_false,if_false] at hV' ⊢
    cases hC:conOf s x with
    | none=>exact value_bad7 B g n v s x z t w h hn hN hC
    | some nn=>rw [hC] at hV';simp at hV'
end Go.Proofs.YtepoclhdklgnhaaGreatDoor
