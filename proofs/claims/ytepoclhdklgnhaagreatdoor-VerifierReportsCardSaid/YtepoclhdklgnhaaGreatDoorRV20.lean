/- Gg Gh Gj Ve Vf. -/
import Derived.Test.YtepoclhdklgnhaaGreatDoorRV19
import Derived.Defers
import Derived.Recover
import Derived.Laws.Pointers
import Derived.WalkMore
import Derived.Test.YtepoclhdklgnhaaGreatDoorRV13
import Derived.Test.YtepoclhdklgnhaaGreatDoorRV06
import Derived.Test.YtepoclhdklgnhaaGreatDoorRV08
set_option maxRecDepth 100000
set_option maxHeartbeats 40000000
set_option linter.unusedVariables false
set_option linter.unusedSimpArgs false
namespace Go.Proofs.YtepoclhdklgnhaaGreatDoor
open Go.RowKit Go.Proofs
theorem catch_idle(r0 r1 r2:Nat)(w:World) :
  CallsD Tryz.prog 85 #[.pointer (some ⟨r0,0,none⟩),.pointer (some ⟨r1,0,none⟩),.pointer (some ⟨r2,0,none⟩)] .returning w fun e u' w'=>e=.returned (.tuple #[])∧u'=.returning∧w'=w:=by
 refine callsD_of_wpS Tryz.func85 rfl fun c₀ cs hu=>?_
 apply wpS_seq
 apply wpS_region
 simp [wpOpsS,go_sem,recoverD,hu,Tryz.ntmps85,Exit.thenS]
 apply wpS_seq
 apply wpS_region
 simp [wpOpsS,go_sem,Exit.thenS]
 refine wpS_cond (t:=false) (by simp [Act.eval,Array.replicate]) ?_
 simp only [Bool.false_eq_true,if_false]
 refine wpS_of_wp (wp_skip ?_)
 cases c₀
 simp_all [bodyPostS,results,Tryz.results85]
theorem catch_bad(B r0 r1 r2:Nat)(x:Value)(y z a er:Int)(w:World)(h0:rowV w r0 106 #[x])(h1:rowV w r1 3 #[.int .i64 y])(h2:rowV w r2 28 #[.int .i64 z])(hB0:B≤r0)(hB1:B≤r1)(hB2:B≤r2)(h01:r0≠r1)(h02:r0≠r2)(h12:r1≠r2) :
  CallsD Tryz.prog 85 #[.pointer (some ⟨r0,0,none⟩),.pointer (some ⟨r1,0,none⟩),.pointer (some ⟨r2,0,none⟩)] (.panicking [{ v:=failV a er,recovered:=false }]) w fun e u' w'=>
   e=.returned (.tuple #[])∧u'=.panicking [{ v:=failV a er,recovered:=true }]∧w'.cell? ⟨r0,0,none⟩=some (.pointer none)∧w'.cell? ⟨r1,0,none⟩=some (.int .i64 a)∧w'.cell? ⟨r2,0,none⟩=some (.int .i64 er)∧Below B w w':=by
 refine callsD_of_wpS Tryz.func85 rfl fun c₀ cs hu=>?_
 apply wpS_seq
 apply wpS_region
 simp [wpOpsS,go_sem,recoverD,hu,Tryz.ntmps85,Exit.thenS,failV]
 apply wpS_seq
 apply wpS_region
 simp [wpOpsS,go_sem,Exit.thenS]
 refine wpS_cond (t:=true) (by simp [Act.eval,Array.replicate]) ?_
 simp only [if_true]
 refine wpS_of_wp ?_
 go_hide hQ
 have HQ:=Lib.hid hQ
 have HU:=Lib.hid hu
 clear hQ hu
 simp only [List.size_toArray,List.length_cons,List.length_nil,Nat.reduceAdd,Nat.reduceSub,Array.replicate_succ,Array.replicate_zero,List.push_toArray,List.append_toArray,List.nil_append,List.cons_append,List.setIfInBounds_toArray,List.set_cons_zero,List.set_cons_succ]
 have hta:∀ W:World,(Instr.typeAssert (Value.iface 166 (.agg #[.int .i64 a,.int .i64 er])) 20 166 true).run Tryz.prog W=.ok (.tuple #[.agg #[.int .i64 a,.int .i64 er],.bool true]) W:=fun W=>by
  simp [Instr.typeAssert,go_sem,Tryz.underlying166]
 have z0:=frozen_rowV' h0 0
 have z1:=frozen_rowV' h1 0
 have z2:=frozen_rowV' h2 0
 have y0:=cell_rowV h0 (j:=0) rfl
 have y1:=cell_rowV h1 (j:=0) rfl
 have y2:=cell_rowV h2 (j:=0) rfl
 have l0:=h0.lt
 have l1:=h1.lt
 have l2:=h2.lt
 have HH:=Lib.hid (And.intro h0 (And.intro h1 h2))
 clear h0 h1 h2
 go_wp2_with fail
 go_region
 all_goals
  go_wp2_with fail
 all_goals
  obtain⟨h0,h1,h2⟩:=HH.out
  have b3:Below ((((w.setCell ⟨r0,0,none⟩ (.pointer none)).setCell ⟨r1,0,none⟩ (.int .i64 a)).setCell ⟨r2,0,none⟩ (.int .i64 er))).heap.size (((w.setCell ⟨r0,0,none⟩ (.pointer none)).setCell ⟨r1,0,none⟩ (.int .i64 a)).setCell ⟨r2,0,none⟩ (.int .i64 er)) ((((w.setCell ⟨r0,0,none⟩ (.pointer none)).setCell ⟨r1,0,none⟩ (.int .i64 a)).setCell ⟨r2,0,none⟩ (.int .i64 er)).alloc (.cells #[.int .i64 a,.int .i64 er] 166)).drew:=
   bdrew (balloc (Below.refl _ _) _) 1
  have q0:rowV (((w.setCell ⟨r0,0,none⟩ (.pointer none)).setCell ⟨r1,0,none⟩ (.int .i64 a)).setCell ⟨r2,0,none⟩ (.int .i64 er)) r0 106 #[.pointer none]:=((h0.set 0 _).setFar (p:=⟨r1,0,none⟩) h01 _).setFar (p:=⟨r2,0,none⟩) h02 _
  have q1:rowV (((w.setCell ⟨r0,0,none⟩ (.pointer none)).setCell ⟨r1,0,none⟩ (.int .i64 a)).setCell ⟨r2,0,none⟩ (.int .i64 er)) r1 3 #[.int .i64 a]:=((h1.setFar (p:=⟨r0,0,none⟩) h01.symm _).set 0 _).setFar (p:=⟨r2,0,none⟩) h12 _
  have q2:rowV (((w.setCell ⟨r0,0,none⟩ (.pointer none)).setCell ⟨r1,0,none⟩ (.int .i64 a)).setCell ⟨r2,0,none⟩ (.int .i64 er)) r2 28 #[.int .i64 er]:=((h2.setFar (p:=⟨r0,0,none⟩) h02.symm _).setFar (p:=⟨r1,0,none⟩) h12.symm _).set 0 _
  have e0:=cell_rowV (q0.below b3 q0.lt) (j:=0) rfl
  have e1:=cell_rowV (q1.below b3 q1.lt) (j:=0) rfl
  have e2:=cell_rowV (q2.below b3 q2.lt) (j:=0) rfl
  have bb:Below B w ((((w.setCell ⟨r0,0,none⟩ (.pointer none)).setCell ⟨r1,0,none⟩ (.int .i64 a)).setCell ⟨r2,0,none⟩ (.int .i64 er)).alloc (.cells #[.int .i64 a,.int .i64 er] 166)).drew:=
   ((Below.setG hB0 _).trans ((Below.setG hB1 _).trans (Below.setG hB2 _))).trans (b3.mono (Nat.le_trans hB0 (Nat.le_of_lt q0.lt)))
  obtain⟨W,hW⟩:∃ W,W=((((w.setCell ⟨r0,0,none⟩ (.pointer none)).setCell ⟨r1,0,none⟩ (.int .i64 a)).setCell ⟨r2,0,none⟩ (.int .i64 er)).alloc (.cells #[.int .i64 a,.int .i64 er] 166)).drew:=⟨_,rfl⟩
  rw [←hW] at e0 e1 e2 bb ⊢
  have hQ:=HQ.out
  have hu:=HU.out
  rw [←hQ]
  clear hW b3 q0 q1 q2 HQ HU HH h0 h1 h2 z0 z1 z2 y0 y1 y2 hta hQ
  cases c₀
  simp_all [bodyPostS,results,Tryz.results85]
end Go.Proofs.YtepoclhdklgnhaaGreatDoor
namespace Go.Proofs.YtepoclhdklgnhaaGreatDoor
open Go.RowKit Go.Proofs
theorem setCell_same{w:World}{k:Nat}{t:TypeId}{x:Value}(h:rowV w k t #[x]):w.setCell ⟨k,0,none⟩ x=w:=by
 unfold rowV at h
 have hh:(w.setCell ⟨k,0,none⟩ x).heap=w.heap:=by
  apply Array.ext
  ·simp [World.setCell]
  ·intro i h1 h2
   have e:(w.setCell ⟨k,0,none⟩ x).heap[i]?=w.heap[i]?:=by
    by_cases hi:i=k
    ·subst hi
     simp [World.setCell,Array.getElem?_modify,h]
    ·exact Below.heap_setCell w ⟨k,0,none⟩ x i hi
   rw [Array.getElem?_eq_getElem h1,Array.getElem?_eq_getElem h2] at e
   injection e
 show { w with heap:=(w.setCell ⟨k,0,none⟩ x).heap }=w
 rw [hh]
theorem DoesL.mono{B g n:Nat}{w w0:World}{r:AR}{e:Ending}{w':World}(h:DoesL B g n w r e w')(hb:Below B w0 w):DoesL B g n w0 r e w':=by
 unfold DoesL at h ⊢
 cases r with
 | bad a er=>exact⟨h.1,hb.trans h.2⟩
 | ok s ws=>exact⟨h.1,hb.trans h.2.1,h.2.2⟩
theorem decl1_any(B g n c:Nat)(v:RVs)(s:AS)(ws:List Wd)(w:World)(h:RD B g n w s ws v)(hc:rowV w c 106 #[.pointer (some ⟨g,0,none⟩)]) :
  Calls Tryz.prog 119 #[.pointer (some ⟨c,0,none⟩)] w (DoesL B g n w (arrayL n false s ws)):=by
 have H:=Lib.hid (array_any B g n v s ws w false h)
 have hcell:=cell_rowV hc (j:=0) rfl
 cases hr:arrayL n false s ws with
 | bad a er=>
  rw [hr] at H
  clear h hc hr
  go_enter Tryz.func119,Tryz.ntmps119
  go_wp2_with fail
  refine H.out.mono ?_
  rintro e w1 ⟨rfl,hb⟩
  go_wp2_with fail
  exact⟨rfl,rfl,hb⟩
 | ok s' ws'=>
  rw [hr] at H
  clear h hc hr
  go_enter Tryz.func119,Tryz.ntmps119
  go_wp2_with fail
  refine H.out.mono ?_
  rintro e w1 ⟨rfl,hb,hv⟩
  have HV:=Lib.hid hv
  clear hv
  go_wp2_with fail
  exact⟨rfl,_,results_none rfl _ _ _,rfl,hb,HV.out⟩
theorem decl2_any(B g n c:Nat)(v:RVs)(s:AS)(ws:List Wd)(w:World)(h:RD B g n w s ws v)(hc:rowV w c 106 #[.pointer (some ⟨g,0,none⟩)]) :
  Calls Tryz.prog 121 #[.pointer (some ⟨c,0,none⟩)] w (DoesL B g n w (arrayL n true s ws)):=by
 have H:=Lib.hid (array_any B g n v s ws w true h)
 have hcell:=cell_rowV hc (j:=0) rfl
 cases hr:arrayL n true s ws with
 | bad a er=>
  rw [hr] at H
  clear h hc hr
  go_enter Tryz.func121,Tryz.ntmps121
  go_wp2_with fail
  refine H.out.mono ?_
  rintro e w1 ⟨rfl,hb⟩
  go_wp2_with fail
  exact⟨rfl,rfl,hb⟩
 | ok s' ws'=>
  rw [hr] at H
  clear h hc hr
  go_enter Tryz.func121,Tryz.ntmps121
  go_wp2_with fail
  refine H.out.mono ?_
  rintro e w1 ⟨rfl,hb,hv⟩
  have HV:=Lib.hid hv
  clear hv
  go_wp2_with fail
  exact⟨rfl,_,results_none rfl _ _ _,rfl,hb,HV.out⟩
theorem decl_hit1{w:World}{m c g:Nat}(h:DeclM w m c g):(Instr.lookup 169 (.map (some m)) (.string (strB [98,121,116,101,115])) true).run Tryz.prog w=.ok (.tuple #[.func (.func 119) #[] #[.pointer (some ⟨c,0,none⟩)],.bool true]) w:=run_mapget_hit uM uS h.1 (decl_find _ c g) _ ⟨0,rfl⟩
theorem decl_hit2{w:World}{m c g:Nat}(h:DeclM w m c g):(Instr.lookup 169 (.map (some m)) (.string (strB [119,111,114,100,115])) true).run Tryz.prog w=.ok (.tuple #[.func (.func 121) #[] #[.pointer (some ⟨c,0,none⟩)],.bool true]) w:=run_mapget_hit uM uS h.1 (decl_find _ c g) _ ⟨0,rfl⟩
theorem decl_hit3{w:World}{m c g:Nat}(h:DeclM w m c g):(Instr.lookup 169 (.map (some m)) (.string (strB [108,111,99,97,108])) true).run Tryz.prog w=.ok (.tuple #[.func (.func 122) #[.pointer (some ⟨g,0,none⟩)] #[],.bool true]) w:=run_mapget_hit uM uS h.1 (decl_find _ c g) _ ⟨0,rfl⟩
theorem decl_hit4{w:World}{m c g:Nat}(h:DeclM w m c g):(Instr.lookup 169 (.map (some m)) (.string (strB [99,111,110,115,116])) true).run Tryz.prog w=.ok (.tuple #[.func (.func 123) #[.pointer (some ⟨g,0,none⟩)] #[],.bool true]) w:=run_mapget_hit uM uS h.1 (decl_find _ c g) _ ⟨0,rfl⟩
theorem decl_no{w:World}{m c g:Nat}(h:DeclM w m c g){x:List UInt8}(h1:x≠[98,121,116,101,115])(h2:x≠[119,111,114,100,115])(h3:x≠[108,111,99,97,108])(h4:x≠[99,111,110,115,116]):(Instr.lookup 169 (.map (some m)) (.string (strB x)) true).run Tryz.prog w=.ok (.tuple #[.nilFunc,.bool false]) w:=
 run_mapget_miss uM uS zM h.1 (by rw [decl_find,if_neg h1,if_neg h2,if_neg h3,if_neg h4]) _ ⟨0,rfl⟩
def ReadP(src:List UInt8)(w:World)(e:Ending)(w':World):Prop:=match readL src with
 | .bad a er=>e=.returned (.tuple #[.pointer none,.int .i64 (a:Int),.int .i64 er])∧Below w.heap.size w w'
 | .ok s r=>∃ g B v,e=.returned (.tuple #[.pointer (some ⟨g,0,none⟩),.int .i64 0,.int .i64 0])∧w.heap.size≤B∧RD B g src.length w' s r v∧Below w.heap.size w w'
theorem read_long(src:List UInt8)(w:World)(hs:8192 < src.length)(hs2:src.length≤100000000):Calls Tryz.prog 44 #[.string (strB src)] w (ReadP src w):=by
 have hl:readL src=.bad 0 5:=by unfold readL;rw [if_pos hs]
 unfold ReadP
 rw [hl]
 dsimp only
 have hsz:=strB_size' src
 have d1:decide ((8192:Int) < (src.length:Int))=true:=by simp;omega
 have d1':decide (8192 < src.length)=true:=by simp;omega
 have hmf:∀ (fn:Fn) (first cap:Array Value) (w:World),(Instr.makeFunc fn first cap).run Tryz.prog w=.ok (.func fn first cap) w:=fun _ _ _ _=>rfl
 have hb:Below w.heap.size w (((w.alloc (.cells #[.pointer none] 106)).alloc (.cells #[.int .i64 0] 3)).alloc (.cells #[.int .i64 5] 28)):=balloc (balloc (balloc (Below.refl _ _) _) _) _
 have HB:=Lib.hid hb
 clear hb hl
 go_enter_defers Tryz.func44,Tryz.ntmps44
 go_wp2_with fail
 refine leaves_cons (f:=85) (args:=#[.pointer (some ⟨w.heap.size,0,none⟩),.pointer (some ⟨w.heap.size+1,0,none⟩),.pointer (some ⟨w.heap.size+1+1,0,none⟩)]) (by simp) (by simp [go_sem]) ?_
 refine (catch_idle _ _ _ _).mono ?_
 rintro e u' w'' ⟨rfl,rfl,rfl⟩
 simp [Leaves,settle,results,Tryz.results44,go_sem]
 exact HB.out
end Go.Proofs.YtepoclhdklgnhaaGreatDoor
namespace Go.Proofs.YtepoclhdklgnhaaGreatDoor
open Go.RowKit Go.Proofs
theorem wordsA_bnd{src:List UInt8}:∀ i,i≤src.length→(wordsA src i).length≤src.length-i∧∀ x∈wordsA src i,x.1.length≤src.length∧x.2≤src.length:=by
 refine wordsA_cases _ (fun i hi=>?_) (fun i hi ih=>?_)
 ·rw [wordsA_end (by omega)];simp
 ·rcases wordsA_next hi with ⟨h1,h2,h3,h4⟩ | ⟨h1,h2,h4⟩ | ⟨h1,h2,h3,h4⟩
  ·rw [h4];have:=ih _ h2 h3;exact⟨by omega,this.2⟩
  ·rw [h4];have:=ih (i+1) (by omega) (by omega);exact⟨by omega,this.2⟩
  ·rw [h4]
   have:=ih _ h2 h3
   refine⟨by simp only [List.length_cons];omega,fun x hx=>?_⟩
   rcases List.mem_cons.1 hx with rfl | hx
   ·exact⟨by dsimp only;rw [List.length_take];omega,by dsimp only;omega⟩
   ·exact this.2 x hx
theorem words_mem{w:World}{B0 B:Nat}{A:Option Addr}{k c:Nat}{l:List Wd}(h:OwnS encW 2 w B0 172 A k c l)(hB:w.heap.size≤B)(hl:∀ x∈l,x.1.length≤9000∧x.2≤9000):WordsM B w A k c l:=by
 refine⟨h.length (fun _=>rfl) (by decide),h.cap,hl,fun hn=>?_⟩
 obtain⟨b,hA,_,hlt,hc⟩:=h.get (fun _=>rfl) (by decide) (([],0):Wd) hn
 refine⟨b,0,hA,by omega,fun i hi=>⟨?_,?_⟩⟩
 ·have:=hc i 0 (.string (strB (gW l i).1)) hi rfl
  simpa using this
 ·have:=hc i 1 (.int .i64 ((gW l i).2:Int)) hi rfl
  simpa using this
def ReadQ(r:AR)(n:Nat)(w:World)(e:Ending)(w':World):Prop:=match r with
 | .bad a er=>e=.returned (.tuple #[.pointer none,.int .i64 (a:Int),.int .i64 er])∧Below w.heap.size w w'
 | .ok s r=>∃ g B v,e=.returned (.tuple #[.pointer (some ⟨g,0,none⟩),.int .i64 0,.int .i64 0])∧w.heap.size≤B∧RD B g n w' s r v∧Below w.heap.size w w'
theorem read_main(src:List UInt8)(w:World)(hs:src.length≤8192)(hE:ErrR w):Calls Tryz.prog 44 #[.string (strB src)] w (ReadP src w):=by
 have hl:readL src=readW src.length AS.start (wordsL src):=readL_eq hs
 have hbn:=wordsA_bnd (src:=src) 0 (Nat.zero_le _)
 have hbw:(wordsL src).length≤8192∧∀ x∈wordsL src,x.1.length≤9000∧x.2≤9000:=⟨by have:=hbn.1;show (wordsA src 0).length≤8192;omega,fun x hx=>by have:=hbn.2 x hx;omega⟩
 show Calls _ _ _ _ (ReadQ (readL src) src.length w)
 rw [hl]
 obtain⟨WL,hWL⟩:∃ WL,WL=wordsL src:=⟨_,rfl⟩
 have hsz:=strB_size' src
 have d1:decide ((8192:Int) < (src.length:Int))=false:=by simp;omega
 have d1':decide (8192 < src.length)=false:=by simp;omega
 have hmf:∀ (fn:Fn) (first cap:Array Value) (w:World),(Instr.makeFunc fn first cap).run Tryz.prog w=.ok (.func fn first cap) w:=fun _ _ _ _=>rfl
 have hmk:∀ W:World,(Instr.makeMap 111 none).run Tryz.prog W=.ok (.map (some W.heap.size)) (W.alloc (.map #[] 0)):=fun W=>run_makeMap_plain W _
 have g7:2 < w.heap.size:=by obtain⟨ev,h1,_⟩:=hE;exact World.block_lt_of_cell? w _ h1
 obtain⟨W3,hW3⟩:∃ W3,W3=((w.alloc (.cells #[.pointer none] 106)).alloc (.cells #[.int .i64 0] 3)).alloc (.cells #[.int .i64 0] 28):=⟨_,rfl⟩
 have b3:Below w.heap.size w W3:=by rw [hW3];exact balloc (balloc (balloc (Below.refl _ _) _) _) _
 have s3:W3.heap.size=w.heap.size+3:=by rw [hW3];simp
 have p0:rowV W3 w.heap.size 106 #[.pointer none]:=by
  rw [hW3]
  have r:=rowV.new w 106 #[.pointer none]
  exact (r.below (balloc (Below.refl _ _) _) r.lt).below (balloc (Below.refl _ _) _) (r.below (balloc (Below.refl _ _) _) r.lt).lt
 have p1:rowV W3 (w.heap.size+1) 3 #[.int .i64 0]:=by
  rw [hW3]
  have r:=rowV.new (w.alloc (.cells #[.pointer none] 106)) 3 #[.int .i64 0]
  have r':=r.below (balloc (Below.refl _ _) (.cells #[.int .i64 0] 28)) r.lt
  simpa using r'
 have p2:rowV W3 (w.heap.size+1+1) 28 #[.int .i64 0]:=by
  rw [hW3]
  have r:=rowV.new ((w.alloc (.cells #[.pointer none] 106)).alloc (.cells #[.int .i64 0] 3)) 28 #[.int .i64 0]
  simpa using r
 have HSp:=Lib.hid (split_any ixAny src W3 hs)
 have HE0:=Lib.hid hE
 rw [←hWL] at HSp hbw ⊢
 obtain⟨RR,hRR⟩:∃ RR,RR=readW src.length AS.start WL:=⟨_,rfl⟩
 rw [←hRR]
 have HRR:=Lib.hid hRR
 clear hRR
 have HBW:=Lib.hid hbw
 have HP:=Lib.hid (And.intro p0 (And.intro p1 (And.intro p2 (And.intro b3 s3))))
 clear hl hbn hbw hWL p0 p1 p2 b3 s3 hE
 go_enter_defers Tryz.func44,Tryz.ntmps44
 go_wp2_with fail
 rw [←hW3]
 clear hW3
 refine HSp.out.mono ?_
 rintro e w4 ⟨A,k,c,rfl,ho,hb4⟩
 obtain⟨p0,p1,p2,b3,s3⟩:=HP.out
 have hw4:w.heap.size+3≤w4.heap.size:=by have:=hb4.size;omega
 have p0':=p0.below hb4 p0.lt
 have p1':=p1.below hb4 p1.lt
 have p2':=p2.below hb4 p2.lt
 have hw4l:w.heap.size < w4.heap.size:=by omega
 have y0:=cell_rowV p0' (j:=0) rfl
 have z0:=frozen_rowV' p0' 0
 have hk4:k≤8192:=by have:=ho.length (fun _=>rfl) (by decide);have:=HBW.out.1;omega
 obtain⟨E,hEq⟩:∃ E,E=((w4.setCell ⟨w.heap.size,0,none⟩ (.pointer (some ⟨w4.heap.size+1,0,none⟩))).alloc (.map #[] 0)).alloc (.cells #[.slice A k c,.int .i64 (src.length:Int),.slice none 0 0,.int .i64 0,.slice none 0 0,.slice none 0 0,.slice none 0 0,.map (some w4.heap.size)] 113):=⟨_,rfl⟩
 have sE:E.heap.size=w4.heap.size+2:=by rw [hEq];simp [World.setCell]
 have bS:Below w.heap.size w (w4.setCell ⟨w.heap.size,0,none⟩ (.pointer (some ⟨w4.heap.size+1,0,none⟩))):=(b3.trans (hb4.mono b3.size)).trans (Below.setG (Nat.le_refl _) _)
 have bE:Below w.heap.size w E:=by rw [hEq];exact balloc (balloc bS _) _
 have aE:∀ {j:Nat} {o:Obj},j < w4.heap.size→(w4.setCell ⟨w.heap.size,0,none⟩ (.pointer (some ⟨w4.heap.size+1,0,none⟩))).heap[j]?=some o→E.heap[j]?=some o:=fun {j o} hj h=>by
  have hj':j < (w4.setCell ⟨w.heap.size,0,none⟩ (.pointer (some ⟨w4.heap.size+1,0,none⟩))).heap.size:=(Array.getElem?_eq_some_iff.1 h).1
  have hb:=balloc (balloc (Below.refl (w4.setCell ⟨w.heap.size,0,none⟩ (.pointer (some ⟨w4.heap.size+1,0,none⟩))).heap.size (w4.setCell ⟨w.heap.size,0,none⟩ (.pointer (some ⟨w4.heap.size+1,0,none⟩)))) (.map #[] 0)) (.cells #[.slice A k c,.int .i64 (src.length:Int),.slice none 0 0,.int .i64 0,.slice none 0 0,.slice none 0 0,.slice none 0 0,.map (some w4.heap.size)] 113)
  rw [←hEq] at hb
  exact (hb.block j hj').trans h
 have q0:rowV E w.heap.size 106 #[.pointer (some ⟨w4.heap.size+1,0,none⟩)]:=aE (by omega) (p0'.set 0 _)
 have q1:rowV E (w.heap.size+1) 3 #[.int .i64 0]:=aE (by omega) (p1'.setFar (p:=⟨w.heap.size,0,none⟩) (by show w.heap.size+1≠w.heap.size;omega) _)
 have q2:rowV E (w.heap.size+1+1) 28 #[.int .i64 0]:=aE (by omega) (p2'.setFar (p:=⟨w.heap.size,0,none⟩) (by show w.heap.size+1+1≠w.heap.size;omega) _)
 have rE:rowV E (w4.heap.size+1) 113 #[.slice A k c,.int .i64 (src.length:Int),.slice none 0 0,.int .i64 0,.slice none 0 0,.slice none 0 0,.slice none 0 0,.map (some w4.heap.size)]:=by
  have r:=rowV.new ((w4.setCell ⟨w.heap.size,0,none⟩ (.pointer (some ⟨w4.heap.size+1,0,none⟩))).alloc (.map #[] 0)) 113 #[.slice A k c,.int .i64 (src.length:Int),.slice none 0 0,.int .i64 0,.slice none 0 0,.slice none 0 0,.slice none 0 0,.map (some w4.heap.size)]
  rw [←hEq] at r
  have es:((w4.setCell ⟨w.heap.size,0,none⟩ (.pointer (some ⟨w4.heap.size+1,0,none⟩))).alloc (.map #[] 0)).heap.size=w4.heap.size+1:=by simp [World.setCell]
  rw [es] at r
  exact r
 have mE:MapIs Tryz.prog 9 3 .i64 E w4.heap.size 0 (fun _=>none):=by
  have r:=MapIs.made (P:=Tryz.prog) (k:=9) (e:=3) (q:=.i64) (w4.setCell ⟨w.heap.size,0,none⟩ (.pointer (some ⟨w4.heap.size+1,0,none⟩)))
  have es:(w4.setCell ⟨w.heap.size,0,none⟩ (.pointer (some ⟨w4.heap.size+1,0,none⟩))).heap.size=w4.heap.size:=by simp [World.setCell]
  rw [es] at r
  have hb:=balloc (Below.refl ((w4.setCell ⟨w.heap.size,0,none⟩ (.pointer (some ⟨w4.heap.size+1,0,none⟩))).alloc (.map #[] 0)).heap.size _) (.cells #[.slice A k c,.int .i64 (src.length:Int),.slice none 0 0,.int .i64 0,.slice none 0 0,.slice none 0 0,.slice none 0 0,.map (some w4.heap.size)] 113)
  rw [←hEq] at hb
  exact r.below hb
 have wE:WordsM w4.heap.size E A k c WL:=by
  have h1:=words_mem ho (Nat.le_refl w4.heap.size) HBW.out.2
  refine⟨h1.1,h1.2.1,h1.2.2.1,fun hn=>?_⟩
  obtain⟨b,off,hA,hlt,hcell⟩:=h1.2.2.2 hn
  refine⟨b,off,hA,hlt,fun i hi=>?_⟩
  obtain⟨q,hq⟩:∃ o,w4.heap[b]?=some o:=⟨_,Array.getElem?_eq_getElem hlt⟩
  have hbne:b≠w.heap.size:=fun e=>by
   have hc0:=(hcell 0 hn).1
   rw [e] at hc0
   have:=p0'
   unfold rowV at this
   simp only [World.cell?,this] at hc0
   rcases off with _ | off
   ·simp at hc0
   ·simp at hc0
  have hEb:E.heap[b]?=w4.heap[b]?:=by rw [hq];exact aE hlt ((Below.heap_setCell w4 ⟨w.heap.size,0,none⟩ _ b hbne).trans hq)
  exact⟨(World.cell?_of_block (a:=⟨b,off+i * 2,none⟩) hEb).trans (hcell i hi).1,(World.cell?_of_block (a:=⟨b,off+i * 2+1,none⟩) hEb).trans (hcell i hi).2⟩
 have eE:ErrR E:=HE0.out.below bE
 have HPE:=Lib.hid (And.intro q0 (And.intro q1 (And.intro q2 (And.intro rE (And.intro mE (And.intro wE (And.intro eE (And.intro bE sE))))))))
 have hfew:WL.length≤8192:=HBW.out.1
 clear q0 q1 q2 rE mE wE eE bE aE bS ho hb4 p0 p1 p2 p0' p1' p2' b3 s3 sE HSp HP
 go_wp2_with fail
 rw [←hEq]
 clear hEq y0 z0
 refine (declarations_at (w4.heap.size+1) E).mono ?_
 rintro e w6 ⟨rfl,hD,hb6⟩
 obtain⟨q0,q1,q2,rE,mE,wE,eE,bE,sE⟩:=HPE.out
 have hb6':Below w4.heap.size E w6:=hb6.mono (by omega)
 have D0:RD w4.heap.size (w4.heap.size+1) src.length w6 AS.start WL ⟨A,k,c,none,0,0,none,0,0,none,0,0,none,0,0,w4.heap.size⟩:=
  ⟨rE.below hb6 rE.lt,wE.below hb6',by show k≤9000;omega,by omega,Nat.le_refl _,OwnS.nil _ _ _ _ _,OwnS.nil _ _ _ _ _,OwnS.nil _ _ _ _ _,OwnS.nil _ _ _ _ _,(fun b hb=>by cases hb),mE.below hb6,by show 0+WL.length≤9000;omega,eE.below hb6,by omega,Formed.start,by rw [sE] at hD;exact hD,by show w4.heap.size+1+2≠w4.heap.size;omega⟩
 have HS0:=Lib.hid (And.intro D0 (And.intro (q0.below hb6 q0.lt) (And.intro (q1.below hb6 q1.lt) (And.intro (q2.below hb6 q2.lt) (bE.trans (hb6.mono bE.size))))))
 have hmE:E.heap.size+1=w4.heap.size+1+2:=by omega
 rw [hmE]
 clear D0 hD hb6 hb6' q0 q1 q2 rE mE wE eE bE sE HPE hmE HE0
 go_wp2_with fail
 go_loopg [6,7,8] WL.length (fun gk _ _ _ wr=>∃ (s:AS) (ws:List Wd) (v:RVs),ws.length≤gk∧RD w4.heap.size (w4.heap.size+1) src.length wr s ws v∧Hid (readW src.length s ws=readW src.length AS.start WL)∧rowV wr w.heap.size 106 #[.pointer (some ⟨w4.heap.size+1,0,none⟩)]∧rowV wr (w.heap.size+1) 3 #[.int .i64 0]∧rowV wr (w.heap.size+1+1) 28 #[.int .i64 0]∧Below w.heap.size w wr)
 case atStart=>exact⟨AS.start,WL,_,Nat.le_refl _,HS0.out.1,rfl,HS0.out.2.1,HS0.out.2.2.1,HS0.out.2.2.2.1,HS0.out.2.2.2.2⟩
 case round=>
  clear HS0
  obtain⟨s,ws,v,hlen,D,HR,t0,t1,t2,hb⟩:=hrel
  have y0:wr.cell? ⟨w.heap.size,0,none⟩=some (.pointer (some ⟨w4.heap.size+1,0,none⟩)):=cell_rowV t0 (j:=0) rfl
  rcases ws with _ | ⟨⟨x,z⟩,t⟩
  ·have hk0:v.k=0:=by have:=D.wm.1;simpa using this.symm
   have c0:wr.cell? ⟨w4.heap.size+1,0,none⟩=some (.slice v.A 0 v.c):=by
    have:=cell_rowV D.row (j:=0) (v:=.slice v.A v.k v.c) rfl
    rwa [hk0] at this
   have HR2:Hid (RR=.ok s []):=by
    show _=_
    rw [HRR.out,←HR.out,readW_nil]
   have y1:wr.cell? ⟨w.heap.size+1,0,none⟩=some (.int .i64 0):=cell_rowV t1 (j:=0) rfl
   have y2:wr.cell? ⟨w.heap.size+1+1,0,none⟩=some (.int .i64 0):=cell_rowV t2 (j:=0) rfl
   have z0:=frozen_rowV' t0 0
   have z1:=frozen_rowV' t1 0
   have z2:=frozen_rowV' t2 0
   have hsame:((wr.setCell ⟨w.heap.size,0,none⟩ (.pointer (some ⟨w4.heap.size+1,0,none⟩))).setCell ⟨w.heap.size+1,0,none⟩ (.int .i64 0)).setCell ⟨w.heap.size+1+1,0,none⟩ (.int .i64 0)=wr:=by
    rw [setCell_same t0,setCell_same t1,setCell_same t2]
   have HSM:=Lib.hid hsame
   have HD:=Lib.hid D
   have HB:=Lib.hid hb
   clear hsame D hb HR hlen hk0
   go_wp2_with fail
   rw [HSM.out]
   refine leaves_cons (f:=85) (args:=#[.pointer (some ⟨w.heap.size,0,none⟩),.pointer (some ⟨w.heap.size+1,0,none⟩),.pointer (some ⟨w.heap.size+1+1,0,none⟩)]) (by simp) (by simp [go_sem]) ?_
   refine (catch_idle _ _ _ _).mono ?_
   rintro e u' w'' ⟨rfl,rfl,rfl⟩
   simp [Leaves,settle,results,Tryz.results44,go_sem,y0,y1,y2]
   rw [HR2.out]
   exact⟨_,_,_,rfl,by omega,HD.out,HB.out⟩
  ·cases gk with
   | zero=>simp at hlen
   | succ g=>
    have hkl:v.k=t.length+1:=by have:=D.wm.1;simpa using this.symm
    have c0:wr.cell? ⟨w4.heap.size+1,0,none⟩=some (.slice v.A v.k v.c):=cell_rowV D.row rfl
    obtain⟨kk,hkk⟩:∃ kk,kk=v.k:=⟨_,rfl⟩
    rw [←hkk] at c0 hkl
    clear hkk
    have k0:decide ((0:Int) < (kk:Int))=true:=by simp;omega
    have k0':decide (0 < kk)=true:=by simp;omega
    have HX:Hid (Calls Tryz.prog 88 #[.pointer (some ⟨w4.heap.size+1,0,none⟩)] wr fun e w'=>∃ A' k' c',e=.returned (.agg #[.string (strB x),.int .i64 (z:Int)])∧k'≤9000∧RD w4.heap.size (w4.heap.size+1) src.length w' s t (v.at_ A' k' c')∧wr.grownBy w' (some (w4.heap.size+1))):=by
     show Calls _ _ _ _ _
     refine (next_any w4.heap.size (w4.heap.size+1) v.A v.k v.c src.length _ _ _ _ _ _ ((x,z) :: t) wr D.row D.wm D.hk D.hB).mono ?_
     rintro e w' ⟨A',k',c',rfl,rfl,hr1,hw1,hg1⟩
     have hk9:v.k-1≤9000:=by have:=D.hk;omega
     exact⟨A',_,c',rfl,hk9,D.next' (ws':=t) (by simp) hk9 hr1 hw1 hg1,hg1⟩
    have HD:=Lib.hid D
    have HB:=Lib.hid hb
    clear D hb hkl
    go_wp2_with fail
    refine HX.out.mono ?_
    rintro e w1 ⟨A',k',c',rfl,hk1,D1,hg1⟩
    have r2:=rowV.new w1 172 #[.string (strB x),.int .i64 (z:Int)]
    have b12:Below w1.heap.size w1 (w1.alloc (.cells #[.string (strB x),.int .i64 (z:Int)] 172)):=balloc (Below.refl _ _) _
    obtain⟨w2,hw2⟩:∃ w2,w2=w1.alloc (.cells #[.string (strB x),.int .i64 (z:Int)] 172):=⟨_,rfl⟩
    rw [←hw2] at r2 b12
    have D2:=D1.below b12
    obtain⟨a0,a1⟩:=two_cellsV r2
    have t01:=t0.below (HD.out.toBelow hg1) (by omega)
    have y01:w1.cell? ⟨w.heap.size,0,none⟩=some (.pointer (some ⟨w4.heap.size+1,0,none⟩)):=cell_rowV t01 (j:=0) rfl
    have l01:=t01.lt
    clear t01
    have hBr2:Below w4.heap.size wr w2:=(HD.out.toBelow hg1).trans (b12.mono D1.le)
    have t0:=t0.below hBr2 (by omega)
    have t1:=t1.below hBr2 (by omega)
    have t2:=t2.below hBr2 (by omega)
    have y0:w2.cell? ⟨w.heap.size,0,none⟩=some (.pointer (some ⟨w4.heap.size+1,0,none⟩)):=cell_rowV t0 (j:=0) rfl
    have hwB:w.heap.size≤w4.heap.size:=by omega
    have hB2:=Lib.hid (HB.out.trans (hBr2.mono hwB))
    clear HX hk1 D1 hg1 HD HB hBr2 b12 c0
    by_cases h1:x=[98,121,116,101,115]
    ·subst h1
     have hst:stepL src.length ([98,121,116,101,115],z) s t=arrayL src.length false s t:=by
      unfold stepL
      dsimp only
      rw [if_pos rfl]
     have hlk:=decl_hit1 D2.dcl
     rw [hw2] at hlk
     have H3:Hid (Calls Tryz.prog 119 #[.pointer (some ⟨w4.heap.size+1+1,0,none⟩)] w2 (DoesL w4.heap.size (w4.heap.size+1) src.length w2 (arrayL src.length false s t))):=decl1_any w4.heap.size (w4.heap.size+1) src.length (w4.heap.size+1+1) _ s t w2 D2 D2.dcl.2
     go_wp2_with fail
     rw [←hw2]
     cases hr:arrayL src.length false s t with
     | bad a er=>
      have HR2:Hid (RR=.bad a er):=by
       show _=_
       rw [HRR.out,←HR.out,readW_bad (show stepL src.length ([98,121,116,101,115],z) s t=.bad a er from hst.trans hr)]
      rw [hr] at H3
      clear hr
      refine H3.out.mono ?_
      rintro e w3 ⟨rfl,hb3⟩
      have u0:=t0.below hb3 (by omega)
      have u1:=t1.below hb3 (by omega)
      have u2:=t2.below hb3 (by omega)
      have HBF:=Lib.hid (hB2.out.trans (hb3.mono hwB))
      go_wp2_with fail
      refine leaves_cons (f:=85) (args:=#[.pointer (some ⟨w.heap.size,0,none⟩),.pointer (some ⟨w.heap.size+1,0,none⟩),.pointer (some ⟨w.heap.size+1+1,0,none⟩)]) (by simp) (by simp [go_sem]) ?_
      refine (catch_bad w.heap.size w.heap.size (w.heap.size+1) (w.heap.size+1+1) _ _ _ a er w3 u0 u1 u2 (by omega) (by omega) (by omega) (by omega) (by omega) (by omega)).mono ?_
      rintro e u' w5 ⟨rfl,rfl,k0,k1,k2,hb5⟩
      simp [Leaves,settle,results,Tryz.results44,go_sem,k0,k1,k2]
      rw [HR2.out]
      exact⟨rfl,HBF.out.trans hb5⟩
     | ok s' t'=>
      have hst':stepL src.length ([98,121,116,101,115],z) s t=.ok s' t':=hst.trans hr
      have HR2:Hid (readW src.length s' t'=readW src.length AS.start WL):=by
       show _=_
       rw [←HR.out,readW_ok hst']
      have hl2:t'.length≤g:=by
       have:=(stepL_grew hst').1
       rw [this,List.length_drop]
       simp at hlen;omega
      rw [hr] at H3
      clear hr hst'
      refine H3.out.mono ?_
      rintro e w3 ⟨rfl,hb3,v3,D3⟩
      have u0:=t0.below hb3 (by omega)
      have u1:=t1.below hb3 (by omega)
      have u2:=t2.below hb3 (by omega)
      have HBF:=Lib.hid (hB2.out.trans (hb3.mono hwB))
      have HD3:=Lib.hid D3
      clear D3 D2
      go_wp2_with fail
      go_roundg g
      case measure=>omega
      case rel=>exact⟨s',t',v3,hl2,HD3.out,HR2.out,u0,u1,u2,HBF.out⟩
    by_cases h2:x=[119,111,114,100,115]
    ·subst h2
     have hst:stepL src.length ([119,111,114,100,115],z) s t=arrayL src.length true s t:=by
      unfold stepL
      dsimp only
      rw [if_neg (by decide),if_pos rfl]
     have hlk:=decl_hit2 D2.dcl
     rw [hw2] at hlk
     have H3:Hid (Calls Tryz.prog 121 #[.pointer (some ⟨w4.heap.size+1+1,0,none⟩)] w2 (DoesL w4.heap.size (w4.heap.size+1) src.length w2 (arrayL src.length true s t))):=decl2_any w4.heap.size (w4.heap.size+1) src.length (w4.heap.size+1+1) _ s t w2 D2 D2.dcl.2
     go_wp2_with fail
     rw [←hw2]
     cases hr:arrayL src.length true s t with
     | bad a er=>
      have HR2:Hid (RR=.bad a er):=by
       show _=_
       rw [HRR.out,←HR.out,readW_bad (show stepL src.length ([119,111,114,100,115],z) s t=.bad a er from hst.trans hr)]
      rw [hr] at H3
      clear hr
      refine H3.out.mono ?_
      rintro e w3 ⟨rfl,hb3⟩
      have u0:=t0.below hb3 (by omega)
      have u1:=t1.below hb3 (by omega)
      have u2:=t2.below hb3 (by omega)
      have HBF:=Lib.hid (hB2.out.trans (hb3.mono hwB))
      go_wp2_with fail
      refine leaves_cons (f:=85) (args:=#[.pointer (some ⟨w.heap.size,0,none⟩),.pointer (some ⟨w.heap.size+1,0,none⟩),.pointer (some ⟨w.heap.size+1+1,0,none⟩)]) (by simp) (by simp [go_sem]) ?_
      refine (catch_bad w.heap.size w.heap.size (w.heap.size+1) (w.heap.size+1+1) _ _ _ a er w3 u0 u1 u2 (by omega) (by omega) (by omega) (by omega) (by omega) (by omega)).mono ?_
      rintro e u' w5 ⟨rfl,rfl,k0,k1,k2,hb5⟩
      simp [Leaves,settle,results,Tryz.results44,go_sem,k0,k1,k2]
      rw [HR2.out]
      exact⟨rfl,HBF.out.trans hb5⟩
     | ok s' t'=>
      have hst':stepL src.length ([119,111,114,100,115],z) s t=.ok s' t':=hst.trans hr
      have HR2:Hid (readW src.length s' t'=readW src.length AS.start WL):=by
       show _=_
       rw [←HR.out,readW_ok hst']
      have hl2:t'.length≤g:=by
       have:=(stepL_grew hst').1
       rw [this,List.length_drop]
       simp at hlen;omega
      rw [hr] at H3
      clear hr hst'
      refine H3.out.mono ?_
      rintro e w3 ⟨rfl,hb3,v3,D3⟩
      have u0:=t0.below hb3 (by omega)
      have u1:=t1.below hb3 (by omega)
      have u2:=t2.below hb3 (by omega)
      have HBF:=Lib.hid (hB2.out.trans (hb3.mono hwB))
      have HD3:=Lib.hid D3
      clear D3 D2
      go_wp2_with fail
      go_roundg g
      case measure=>omega
      case rel=>exact⟨s',t',v3,hl2,HD3.out,HR2.out,u0,u1,u2,HBF.out⟩
    by_cases h3:x=[108,111,99,97,108]
    ·subst h3
     have hst:stepL src.length ([108,111,99,97,108],z) s t=localL src.length s t:=by
      unfold stepL
      dsimp only
      rw [if_neg (by decide),if_neg (by decide),if_pos rfl]
     have hlk:=decl_hit3 D2.dcl
     rw [hw2] at hlk
     have H3:Hid (Calls Tryz.prog 122 #[.pointer (some ⟨w4.heap.size+1,0,none⟩)] w2 (DoesL w4.heap.size (w4.heap.size+1) src.length w2 (localL src.length s t))):=local_any w4.heap.size (w4.heap.size+1) src.length _ s t w2 D2
     go_wp2_with fail
     rw [←hw2]
     cases hr:localL src.length s t with
     | bad a er=>
      have HR2:Hid (RR=.bad a er):=by
       show _=_
       rw [HRR.out,←HR.out,readW_bad (show stepL src.length ([108,111,99,97,108],z) s t=.bad a er from hst.trans hr)]
      rw [hr] at H3
      clear hr
      refine H3.out.mono ?_
      rintro e w3 ⟨rfl,hb3⟩
      have u0:=t0.below hb3 (by omega)
      have u1:=t1.below hb3 (by omega)
      have u2:=t2.below hb3 (by omega)
      have HBF:=Lib.hid (hB2.out.trans (hb3.mono hwB))
      go_wp2_with fail
      refine leaves_cons (f:=85) (args:=#[.pointer (some ⟨w.heap.size,0,none⟩),.pointer (some ⟨w.heap.size+1,0,none⟩),.pointer (some ⟨w.heap.size+1+1,0,none⟩)]) (by simp) (by simp [go_sem]) ?_
      refine (catch_bad w.heap.size w.heap.size (w.heap.size+1) (w.heap.size+1+1) _ _ _ a er w3 u0 u1 u2 (by omega) (by omega) (by omega) (by omega) (by omega) (by omega)).mono ?_
      rintro e u' w5 ⟨rfl,rfl,k0,k1,k2,hb5⟩
      simp [Leaves,settle,results,Tryz.results44,go_sem,k0,k1,k2]
      rw [HR2.out]
      exact⟨rfl,HBF.out.trans hb5⟩
     | ok s' t'=>
      have hst':stepL src.length ([108,111,99,97,108],z) s t=.ok s' t':=hst.trans hr
      have HR2:Hid (readW src.length s' t'=readW src.length AS.start WL):=by
       show _=_
       rw [←HR.out,readW_ok hst']
      have hl2:t'.length≤g:=by
       have:=(stepL_grew hst').1
       rw [this,List.length_drop]
       simp at hlen;omega
      rw [hr] at H3
      clear hr hst'
      refine H3.out.mono ?_
      rintro e w3 ⟨rfl,hb3,v3,D3⟩
      have u0:=t0.below hb3 (by omega)
      have u1:=t1.below hb3 (by omega)
      have u2:=t2.below hb3 (by omega)
      have HBF:=Lib.hid (hB2.out.trans (hb3.mono hwB))
      have HD3:=Lib.hid D3
      clear D3 D2
      go_wp2_with fail
      go_roundg g
      case measure=>omega
      case rel=>exact⟨s',t',v3,hl2,HD3.out,HR2.out,u0,u1,u2,HBF.out⟩
    by_cases h4:x=[99,111,110,115,116]
    ·subst h4
     have hst:stepL src.length ([99,111,110,115,116],z) s t=constL src.length s t:=by
      unfold stepL
      dsimp only
      rw [if_neg (by decide),if_neg (by decide),if_neg (by decide),if_pos rfl]
     have hlk:=decl_hit4 D2.dcl
     rw [hw2] at hlk
     have H3:Hid (Calls Tryz.prog 123 #[.pointer (some ⟨w4.heap.size+1,0,none⟩)] w2 (DoesL w4.heap.size (w4.heap.size+1) src.length w2 (constL src.length s t))):=constant_any w4.heap.size (w4.heap.size+1) src.length _ s t w2 D2
     go_wp2_with fail
     rw [←hw2]
     cases hr:constL src.length s t with
     | bad a er=>
      have HR2:Hid (RR=.bad a er):=by
       show _=_
       rw [HRR.out,←HR.out,readW_bad (show stepL src.length ([99,111,110,115,116],z) s t=.bad a er from hst.trans hr)]
      rw [hr] at H3
      clear hr
      refine H3.out.mono ?_
      rintro e w3 ⟨rfl,hb3⟩
      have u0:=t0.below hb3 (by omega)
      have u1:=t1.below hb3 (by omega)
      have u2:=t2.below hb3 (by omega)
      have HBF:=Lib.hid (hB2.out.trans (hb3.mono hwB))
      go_wp2_with fail
      refine leaves_cons (f:=85) (args:=#[.pointer (some ⟨w.heap.size,0,none⟩),.pointer (some ⟨w.heap.size+1,0,none⟩),.pointer (some ⟨w.heap.size+1+1,0,none⟩)]) (by simp) (by simp [go_sem]) ?_
      refine (catch_bad w.heap.size w.heap.size (w.heap.size+1) (w.heap.size+1+1) _ _ _ a er w3 u0 u1 u2 (by omega) (by omega) (by omega) (by omega) (by omega) (by omega)).mono ?_
      rintro e u' w5 ⟨rfl,rfl,k0,k1,k2,hb5⟩
      simp [Leaves,settle,results,Tryz.results44,go_sem,k0,k1,k2]
      rw [HR2.out]
      exact⟨rfl,HBF.out.trans hb5⟩
     | ok s' t'=>
      have hst':stepL src.length ([99,111,110,115,116],z) s t=.ok s' t':=hst.trans hr
      have HR2:Hid (readW src.length s' t'=readW src.length AS.start WL):=by
       show _=_
       rw [←HR.out,readW_ok hst']
      have hl2:t'.length≤g:=by
       have:=(stepL_grew hst').1
       rw [this,List.length_drop]
       simp at hlen;omega
      rw [hr] at H3
      clear hr hst'
      refine H3.out.mono ?_
      rintro e w3 ⟨rfl,hb3,v3,D3⟩
      have u0:=t0.below hb3 (by omega)
      have u1:=t1.below hb3 (by omega)
      have u2:=t2.below hb3 (by omega)
      have HBF:=Lib.hid (hB2.out.trans (hb3.mono hwB))
      have HD3:=Lib.hid D3
      clear D3 D2
      go_wp2_with fail
      go_roundg g
      case measure=>omega
      case rel=>exact⟨s',t',v3,hl2,HD3.out,HR2.out,u0,u1,u2,HBF.out⟩
    have hst:stepL src.length (x,z) s t=instrL src.length (x,z) s t:=by
     unfold stepL
     rw [if_neg h1,if_neg h2,if_neg h3,if_neg h4]
    have hlk:=decl_no D2.dcl h1 h2 h3 h4
    rw [hw2] at hlk
    have H3:Hid (Calls Tryz.prog 89 #[.pointer (some ⟨w4.heap.size+1,0,none⟩),.agg #[.string (strB x),.int .i64 (z:Int)]] w2 (DoesL w4.heap.size (w4.heap.size+1) src.length w2 (instrL src.length (x,z) s t))):=instr_any w4.heap.size (w4.heap.size+1) src.length _ s t w2 x z D2
    go_wp2_with fail
    rw [←hw2]
    cases hr:instrL src.length (x,z) s t with
    | bad a er=>
     have HR2:Hid (RR=.bad a er):=by
      show _=_
      rw [HRR.out,←HR.out,readW_bad (show stepL src.length (x,z) s t=.bad a er from hst.trans hr)]
     rw [hr] at H3
     clear hr
     refine H3.out.mono ?_
     rintro e w3 ⟨rfl,hb3⟩
     have u0:=t0.below hb3 (by omega)
     have u1:=t1.below hb3 (by omega)
     have u2:=t2.below hb3 (by omega)
     have HBF:=Lib.hid (hB2.out.trans (hb3.mono hwB))
     go_wp2_with fail
     refine leaves_cons (f:=85) (args:=#[.pointer (some ⟨w.heap.size,0,none⟩),.pointer (some ⟨w.heap.size+1,0,none⟩),.pointer (some ⟨w.heap.size+1+1,0,none⟩)]) (by simp) (by simp [go_sem]) ?_
     refine (catch_bad w.heap.size w.heap.size (w.heap.size+1) (w.heap.size+1+1) _ _ _ a er w3 u0 u1 u2 (by omega) (by omega) (by omega) (by omega) (by omega) (by omega)).mono ?_
     rintro e u' w5 ⟨rfl,rfl,k0,k1,k2,hb5⟩
     simp [Leaves,settle,results,Tryz.results44,go_sem,k0,k1,k2]
     rw [HR2.out]
     exact⟨rfl,HBF.out.trans hb5⟩
    | ok s' t'=>
     have hst':stepL src.length (x,z) s t=.ok s' t':=hst.trans hr
     have HR2:Hid (readW src.length s' t'=readW src.length AS.start WL):=by
      show _=_
      rw [←HR.out,readW_ok hst']
     have hl2:t'.length≤g:=by
      have:=(stepL_grew hst').1
      rw [this,List.length_drop]
      simp at hlen;omega
     rw [hr] at H3
     clear hr hst'
     refine H3.out.mono ?_
     rintro e w3 ⟨rfl,hb3,v3,D3⟩
     have u0:=t0.below hb3 (by omega)
     have u1:=t1.below hb3 (by omega)
     have u2:=t2.below hb3 (by omega)
     have HBF:=Lib.hid (hB2.out.trans (hb3.mono hwB))
     have HD3:=Lib.hid D3
     clear D3 D2
     go_wp2_with fail
     go_roundg g
     case measure=>omega
     case rel=>exact⟨s',t',v3,hl2,HD3.out,HR2.out,u0,u1,u2,HBF.out⟩
theorem read_any(src:List UInt8)(w:World)(hs:src.length≤100000000)(hE:ErrR w):Calls Tryz.prog 44 #[.string (strB src)] w (ReadP src w):=by
 rcases Nat.lt_or_ge 8192 src.length with h | h
 ·exact read_long src w h hs
 ·exact read_main src w h hE
end Go.Proofs.YtepoclhdklgnhaaGreatDoor
namespace Go.Proofs.YtepoclhdklgnhaaGreatDoor
open Go.RowKit Go.Proofs
theorem stepL_ne{n:Nat}{w:Wd}{s:AS}{r:List Wd}{a:Nat}{e:Int}(h:stepL n w s r=.bad a e):e≠0:=by
 have arr:∀ b,arrayL n b s r=.bad a e→e≠0:=fun b h=>by
  unfold arrayL at h
  dsimp only at h
  split at h
  ·rename_i h1;injection h with _ h;rw [←h];exact h1
  split at h
  ·injection h with _ h;rw [←h];decide
  split at h
  ·rename_i h1;injection h with _ h;rw [←h];exact h1
  split at h
  ·injection h with _ h;rw [←h];decide
  ·cases h
 unfold stepL at h
 split at h
 ·exact arr _ h
 split at h
 ·exact arr _ h
 split at h
 ·unfold localL at h
  dsimp only at h
  split at h
  ·rename_i h1;injection h with _ h;rw [←h];exact h1
  split at h
  ·injection h with _ h;rw [←h];decide
  ·cases h
 split at h
 ·unfold constL at h
  dsimp only at h
  split at h
  ·rename_i h1;injection h with _ h;rw [←h];exact h1
  split at h
  ·rename_i h1;injection h with _ h;rw [←h];exact h1
  ·cases h
 rw [instrL_eq] at h
 split at h
 ·injection h with _ h;rw [←h];decide
 split at h
 ·injection h with _ h;rw [←h];decide
 split at h
 ·split at h
  ·rename_i h1;injection h with _ h;rw [←h];exact h1
  ·cases h
 ·cases h
theorem readW_ne{n:Nat}:∀ (f:Nat) (ws:List Wd) (s:AS) (a:Nat) (e:Int),ws.length < f→readW n s ws=.bad a e→e≠0
 | 0,_,_,_,_,h,_=>by omega
 | f+1,[],s,a,e,_,h=>by rw [readW_nil] at h;cases h
 | f+1,w :: t,s,a,e,hf,h=>by
  cases hs:stepL n w s t with
  | bad a1 e1=>rw [readW_bad hs] at h;injection h with _ h;rw [←h];exact stepL_ne hs
  | ok s1 r1=>
   rw [readW_ok hs] at h
   have hl:r1.length≤t.length:=by rw [(stepL_grew hs).1,List.length_drop];omega
   exact readW_ne f r1 s1 a e (by simp at hf;omega) h
theorem readL_ne{src:List UInt8}{a:Nat}{e:Int}(h:readL src=.bad a e):e≠0:=by
 unfold readL at h
 split at h
 ·injection h with _ h;rw [←h];decide
 ·exact readW_ne _ _ _ _ _ (Nat.lt_succ_self _) h
theorem OwnS.toCodes{w:World}{B:Nat}{A:Option Addr}{n c:Nat}{l:List Ins}(h:OwnS encIn 2 w B 53 A n c l)(hwf:∀ x∈l,0≤x.arg∧x.arg < 4294967296∧(Lit.int .i64 x.op).wf=true):Codes w A n c l:=by
 refine⟨h.length (fun _=>rfl) (by decide),h.cap,hwf,fun hn=>?_⟩
 obtain⟨b,hA,_,hlt,hc⟩:=h.get (fun _=>rfl) (by decide) (⟨0,0⟩:Ins) hn
 refine⟨b,0,hA,hlt,fun i hi=>⟨?_,?_⟩⟩
 ·have:=hc i 0 (.int .i64 (gI l i).op) hi rfl
  simpa using this
 ·have:=hc i 1 (.int .u32 (gI l i).arg) hi rfl
  simpa using this
def AsmP(r:AR)(w:World)(e:Ending)(w':World):Prop:=match r with
 | .bad a er=>e=.returned (.tuple #[.agg #[.slice none 0 0,.int .i64 0,.slice none 0 0],.int .i64 (a:Int),.int .i64 er])∧Below w.heap.size w w'
 | .ok s r=>∃ A n c A' n' c',e=.returned (.tuple #[.agg #[.slice A n c,.int .i64 (s.ln.length:Int),.slice A' n' c'],.int .i64 0,.int .i64 0])∧Progs w' A n c (s.ln.length:Int) A' n' c' (prgOf s)∧Below w.heap.size w w'
theorem three_cellsV{w:World}{g:Nat}{t:TypeId}{a b c:Value}(h:rowV w g t #[a,b,c]):w.cell? ⟨g,0,none⟩=some a∧w.cell? ⟨g,1,none⟩=some b∧w.cell? ⟨g,2,none⟩=some c:=⟨cell_rowV h rfl,cell_rowV h rfl,cell_rowV h rfl⟩
theorem assemble_any(src:List UInt8)(w:World)(hs:src.length≤100000000)(hE:ErrR w):Calls Tryz.prog 25 #[.string (strB src)] w (AsmP (readL src) w):=by
 have b0:=balloc (Below.refl w.heap.size w) (.cells #[.slice none 0 0,.int .i64 0,.slice none 0 0] 25)
 have rz:=rowV.new w 25 #[.slice none 0 0,.int .i64 0,.slice none 0 0]
 have HR:=read_any src (w.alloc (.cells #[.slice none 0 0,.int .i64 0,.slice none 0 0] 25)) hs (hE.below b0)
 obtain⟨w0,hw0⟩:∃ w0,w0=w.alloc (.cells #[.slice none 0 0,.int .i64 0,.slice none 0 0] 25):=⟨_,rfl⟩
 rw [←hw0] at HR b0 rz
 have hlt0:w.heap.size < w0.heap.size:=rz.lt
 unfold ReadP at HR
 cases hr:readL src with
 | bad a er=>
  have hne:=readL_ne hr
  rw [hr] at HR
  have HR':=Lib.hid HR
  have dne:(er != 0)=true:=by simpa using hne
  clear HR hr hE hs
  go_enter Tryz.func25,Tryz.ntmps25
  go_wp2_with fail
  rw [←hw0]
  clear hw0
  refine HR'.out.mono ?_
  rintro e w1 ⟨rfl,hb1⟩
  have r1:=rz.below hb1 rz.lt
  obtain⟨y0,y1,y2⟩:=three_cellsV r1
  have z0:=frozen_rowV' r1 0
  have z1:=frozen_rowV' r1 1
  have z2:=frozen_rowV' r1 2
  have HB:=Lib.hid (b0.trans (hb1.mono b0.size))
  clear hb1 rz b0
  go_wp2_with fail
  have rz7:rowV (((w1.setCell ⟨w.heap.size,0,none⟩ (.slice none 0 0)).setCell ⟨w.heap.size,1,none⟩ (.int .i64 0)).setCell ⟨w.heap.size,2,none⟩ (.slice none 0 0)) w.heap.size 25 #[.slice none 0 0,.int .i64 0,.slice none 0 0]:=((r1.set 0 _).set 1 _).set 2 _
  obtain⟨q0,q1,q2⟩:=three_cellsV rz7
  have hbW:Below w.heap.size w (((w1.setCell ⟨w.heap.size,0,none⟩ (.slice none 0 0)).setCell ⟨w.heap.size,1,none⟩ (.int .i64 0)).setCell ⟨w.heap.size,2,none⟩ (.slice none 0 0)):=HB.out.trans ((Below.setG (Nat.le_refl _) _).trans ((Below.setG (Nat.le_refl _) _).trans (Below.setG (Nat.le_refl _) _)))
  refine bodyPost_ret (v:=.tuple #[.agg #[.slice none 0 0,.int .i64 0,.slice none 0 0],.int .i64 (a:Int),.int .i64 er]) ?_ rfl ⟨rfl,hbW⟩
  simp [results,Tryz.results25,go_sem,q0,q1,q2]
 | ok s r=>
  rw [hr] at HR
  have HR':=Lib.hid HR
  clear HR hr hE hs
  go_enter Tryz.func25,Tryz.ntmps25
  go_wp2_with fail
  rw [←hw0]
  clear hw0
  refine HR'.out.mono ?_
  rintro e w1 ⟨g,B,v,rfl,hB,D,hb1⟩
  have r1:=rz.below hb1 rz.lt
  obtain⟨y0,y1,y2⟩:=three_cellsV r1
  have z0:=frozen_rowV' r1 0
  have z1:=frozen_rowV' r1 1
  have z2:=frozen_rowV' r1 2
  have HB:=Lib.hid (b0.trans (hb1.mono b0.size))
  have c2:w1.cell? ⟨g,2,none⟩=some (.slice v.Aa v.na v.ca):=cell_rowV D.row rfl
  have c3:w1.cell? ⟨g,3,none⟩=some (.int .i64 (s.ln.length:Int)):=cell_rowV D.row rfl
  have c4:w1.cell? ⟨g,4,none⟩=some (.slice v.Ac v.nc v.cc):=cell_rowV D.row rfl
  have HD:=Lib.hid D
  clear hb1 rz b0 D
  go_wp2_with fail
  have rz7:rowV (((w1.setCell ⟨w.heap.size,0,none⟩ (.slice v.Aa v.na v.ca)).setCell ⟨w.heap.size,1,none⟩ (.int .i64 (s.ln.length:Int))).setCell ⟨w.heap.size,2,none⟩ (.slice v.Ac v.nc v.cc)) w.heap.size 25 #[.slice v.Aa v.na v.ca,.int .i64 (s.ln.length:Int),.slice v.Ac v.nc v.cc]:=((r1.set 0 _).set 1 _).set 2 _
  obtain⟨q0,q1,q2⟩:=three_cellsV rz7
  have hbW:Below w.heap.size w (((w1.setCell ⟨w.heap.size,0,none⟩ (.slice v.Aa v.na v.ca)).setCell ⟨w.heap.size,1,none⟩ (.int .i64 (s.ln.length:Int))).setCell ⟨w.heap.size,2,none⟩ (.slice v.Ac v.nc v.cc)):=HB.out.trans ((Below.setG (Nat.le_refl _) _).trans ((Below.setG (Nat.le_refl _) _).trans (Below.setG (Nat.le_refl _) _)))
  have hlow:w.heap.size < B:=Nat.lt_of_lt_of_le hlt0 hB
  have hkeep:∀ k o,B≤k→w1.heap[k]?=some o→o.isCells=true→(((w1.setCell ⟨w.heap.size,0,none⟩ (.slice v.Aa v.na v.ca)).setCell ⟨w.heap.size,1,none⟩ (.int .i64 (s.ln.length:Int))).setCell ⟨w.heap.size,2,none⟩ (.slice v.Ac v.nc v.cc)).heap[k]?=some o:=fun k o hk ho _=>by
   have hne:k≠w.heap.size:=by omega
   exact (Below.heap_setCell _ ⟨w.heap.size,2,none⟩ _ k hne).trans ((Below.heap_setCell _ ⟨w.heap.size,1,none⟩ _ k hne).trans ((Below.heap_setCell _ ⟨w.heap.size,0,none⟩ _ k hne).trans ho))
  have F:=HD.out.fm
  have hP:Progs (((w1.setCell ⟨w.heap.size,0,none⟩ (.slice v.Aa v.na v.ca)).setCell ⟨w.heap.size,1,none⟩ (.int .i64 (s.ln.length:Int))).setCell ⟨w.heap.size,2,none⟩ (.slice v.Ac v.nc v.cc)) v.Aa v.na v.ca (s.ln.length:Int) v.Ac v.nc v.cc (prgOf s):=
   ⟨(HD.out.oa.keep hkeep).toArrs (fun x hx=>WalkArith.wf_i64 (by have:=F.sizes x hx;omega)),rfl,(HD.out.oc.keep hkeep).toCodes (fun x hx=>by
    obtain⟨h1,h2,h3,h4,_⟩:=F.ins x hx
    exact⟨h3,h4,WalkArith.wf_i64 (by omega)⟩),WalkArith.wf_i64 (by have:=F.locs;omega)⟩
  refine bodyPost_ret (v:=.tuple #[.agg #[.slice v.Aa v.na v.ca,.int .i64 (s.ln.length:Int),.slice v.Ac v.nc v.cc],.int .i64 0,.int .i64 0]) ?_ rfl ⟨_,_,_,_,_,_,rfl,hP,hbW⟩
  simp [results,Tryz.results25,go_sem,q0,q1,q2]
end Go.Proofs.YtepoclhdklgnhaaGreatDoor
namespace Go.Proofs.YtepoclhdklgnhaaGreatDoor
open Go.RowKit Go.Proofs
theorem stIn:Tryz.prog.stoodInHeld 53=false:=by kernel_rfl
theorem utIn:Tryz.prog.underlying 53=some (.struct (Tryz.prog.fieldsOf 53)):=by kernel_rfl
def StrsM(w:World)(A:Option Addr)(n c:Nat)(l:List (List UInt8)):Prop:=l.length=n∧n≤c∧Cells w A n (fun i=>.string (strB (l.getD i [])))
theorem StrsM.below{w w':World}{A:Option Addr}{n c:Nat}{l:List (List UInt8)}(h:StrsM w A n c l)(hb:Below w.heap.size w w'):StrsM w' A n c l:=⟨h.1,h.2.1,h.2.2.below hb⟩
end Go.Proofs.YtepoclhdklgnhaaGreatDoor
namespace Go.Proofs.YtepoclhdklgnhaaGreatDoor
open Go.RowKit Go.Proofs
theorem full_any(w:World):Calls Tryz.prog 64 #[] w fun e w'=>e=.returned (.agg #[.int .i64 0,.int .i64 4294967295])∧Below w.heap.size w w':=by
 go_enter Tryz.func64,Tryz.ntmps64
 go_wp2_with fail
 refine bodyPost_ret (v:=.agg #[.int .i64 0,.int .i64 4294967295]) (by simp [results,Tryz.results64,go_sem]) rfl ⟨rfl,balloc (Below.refl _ _) _⟩
theorem exact_any(n:Nat)(hn:n < 4294967296)(w:World):Calls Tryz.prog 55 #[.int .u32 n] w fun e w'=>e=.returned (.agg #[.int .i64 n,.int .i64 n])∧Below w.heap.size w w':=by
 have hw:IntKind.i64.wrap (n:Int)=n:=by simp [IntKind.wrap,IntKind.bits,IntKind.signed];omega
 go_enter Tryz.func55,Tryz.ntmps55
 go_wp2_with fail
 refine bodyPost_ret (v:=.agg #[.int .i64 n,.int .i64 n]) (by simp [results,Tryz.results55,go_sem]) rfl ⟨rfl,balloc (Below.refl _ _) _⟩
theorem checkI_any(x:Iv)(w:World):Calls Tryz.prog 21 #[.agg #[.int .i64 x.lo,.int .i64 x.hi]] w fun e w'=>e=.returned (.int .i64 (ivE x))∧Below w.heap.size w w':=by
 obtain⟨lo,hi⟩:=x
 have hE:Hid (ivE ⟨lo,hi⟩=if lo < 0∨4294967295 < lo∨hi < 0∨4294967295 < hi then 2 else if hi < lo then 29 else 0):=rfl
 dsimp only
 by_cases h1:lo < 0
 ·have d1:decide (lo < 0)=true:=decide_eq_true h1
  rw [if_pos (.inl h1)] at hE
  rw [hE.out]
  go_enter Tryz.func21,Tryz.ntmps21
  go_wp2_with fail
  go_ret
  exact⟨rfl,balloc (Below.refl _ _) _⟩
 have d1:decide (lo < 0)=false:=decide_eq_false h1
 by_cases h2:4294967295 < lo
 ·have d2:decide (4294967295 < lo)=true:=decide_eq_true h2
  rw [if_pos (.inr (.inl h2))] at hE
  rw [hE.out]
  go_enter Tryz.func21,Tryz.ntmps21
  go_wp2_with fail
  go_ret
  exact⟨rfl,balloc (Below.refl _ _) _⟩
 have d2:decide (4294967295 < lo)=false:=decide_eq_false h2
 by_cases h3:hi < 0
 ·have d3:decide (hi < 0)=true:=decide_eq_true h3
  rw [if_pos (.inr (.inr (.inl h3)))] at hE
  rw [hE.out]
  go_enter Tryz.func21,Tryz.ntmps21
  go_wp2_with fail
  go_ret
  exact⟨rfl,balloc (Below.refl _ _) _⟩
 have d3:decide (hi < 0)=false:=decide_eq_false h3
 by_cases h4:4294967295 < hi
 ·have d4:decide (4294967295 < hi)=true:=decide_eq_true h4
  rw [if_pos (.inr (.inr (.inr h4)))] at hE
  rw [hE.out]
  go_enter Tryz.func21,Tryz.ntmps21
  go_wp2_with fail
  go_ret
  exact⟨rfl,balloc (Below.refl _ _) _⟩
 have d4:decide (4294967295 < hi)=false:=decide_eq_false h4
 rw [if_neg (by omega)] at hE
 by_cases h5:hi < lo
 ·have d5:decide (hi < lo)=true:=decide_eq_true h5
  rw [if_pos h5] at hE
  rw [hE.out]
  go_enter Tryz.func21,Tryz.ntmps21
  go_wp2_with fail
  go_ret
  exact⟨rfl,balloc (Below.refl _ _) _⟩
 have d5:decide (hi < lo)=false:=decide_eq_false h5
 rw [if_neg h5] at hE
 rw [hE.out]
 go_enter Tryz.func21,Tryz.ntmps21
 go_wp2_with fail
 go_ret
 exact⟨rfl,balloc (Below.refl _ _) _⟩
theorem eq0_false{e:Int}(h:e≠0):(e==0)=false:=by simpa using h
theorem ordered_any(x y:Iv)(w:World):Calls Tryz.prog 104 #[.agg #[.int .i64 x.lo,.int .i64 x.hi],.agg #[.int .i64 y.lo,.int .i64 y.hi]] w fun e w'=>e=.returned (.bool (ivOk x && ivOk y))∧Below w.heap.size w w':=by
 have hX:ivOk x=decide (ivE x=0):=by rw [Bool.eq_iff_iff,decide_eq_true_eq];exact ivE_iff.symm
 have hY:ivOk y=decide (ivE y=0):=by rw [Bool.eq_iff_iff,decide_eq_true_eq];exact ivE_iff.symm
 have H1:=Lib.hid (checkI_any x);have H2:=Lib.hid (checkI_any y)
 obtain⟨a,b⟩:=x
 obtain⟨c,d⟩:=y
 rw [hX,hY]
 clear hX hY
 dsimp only at H1 H2 ⊢
 obtain⟨e1,he1⟩:∃ e1,e1=ivE ⟨a,b⟩:=⟨_,rfl⟩
 obtain⟨e2,he2⟩:∃ e2,e2=ivE ⟨c,d⟩:=⟨_,rfl⟩
 rw [←he1] at H1 ⊢
 rw [←he2] at H2 ⊢
 clear he1 he2
 have g0:Below w.heap.size w ((w.alloc (.cells #[.int .i64 a,.int .i64 b] 55)).alloc (.cells #[.int .i64 c,.int .i64 d] 55)):=balloc (balloc (Below.refl _ _) _) _
 obtain⟨w0,hw0⟩:∃ w0,w0=(w.alloc (.cells #[.int .i64 a,.int .i64 b] 55)).alloc (.cells #[.int .i64 c,.int .i64 d] 55):=⟨_,rfl⟩
 have r2:rowV w0 (w.heap.size+1) 55 #[.int .i64 c,.int .i64 d]:=by rw [hw0];have:=rowV.new (w.alloc (.cells #[.int .i64 a,.int .i64 b] 55)) 55 #[.int .i64 c,.int .i64 d];simpa using this
 rw [←hw0] at g0
 by_cases h1:e1=0
 ·subst h1
  by_cases h2:e2=0
  ·subst h2
   go_enter Tryz.func104,Tryz.ntmps104
   go_wp2_with fail
   rw [←hw0]
   clear hw0
   refine (H1.out _).mono ?_
   rintro e w1 ⟨rfl,hb1⟩
   have r2:=r2.below hb1 r2.lt
   obtain⟨c1,c2⟩:=two_cellsV r2
   have b1:=g0.trans (hb1.mono g0.size)
   go_wp2_with fail
   refine (H2.out _).mono ?_
   rintro e w2 ⟨rfl,hb2⟩
   go_wp2_with fail
   go_ret
   exact⟨rfl,b1.trans (hb2.mono b1.size)⟩
  ·have q:=eq0_false h2
   rw [decide_eq_false h2]
   go_enter Tryz.func104,Tryz.ntmps104
   go_wp2_with fail
   rw [←hw0]
   clear hw0
   refine (H1.out _).mono ?_
   rintro e w1 ⟨rfl,hb1⟩
   have r2:=r2.below hb1 r2.lt
   obtain⟨c1,c2⟩:=two_cellsV r2
   have b1:=g0.trans (hb1.mono g0.size)
   go_wp2_with fail
   refine (H2.out _).mono ?_
   rintro e w2 ⟨rfl,hb2⟩
   go_wp2_with fail
   go_ret
   exact⟨rfl,b1.trans (hb2.mono b1.size)⟩
 ·have q:=eq0_false h1
  rw [decide_eq_false h1]
  go_enter Tryz.func104,Tryz.ntmps104
  go_wp2_with fail
  rw [←hw0]
  clear hw0
  refine (H1.out _).mono ?_
  rintro e w1 ⟨rfl,hb1⟩
  have b1:=g0.trans (hb1.mono g0.size)
  go_wp2_with fail
  go_ret
  exact⟨by simp,b1⟩
theorem belowRow{N:Nat}{w w1:World}{g:Nat}(h:Below N w w1)(hg:N≤g)(cs:Array Value):Below N w (w1.setRow g cs):=⟨h.1,h.2,h.3,by rw [size_setRow];exact h.4,fun i hi=>(setRow_other w1 _ i _ (by omega)).trans (h.5 i hi)⟩
theorem hI2(a b:Int):(Tryz.prog.info? 55).map (·.size)=some (#[Value.int .i64 a,.int .i64 b]:Array Value).size:=by kernel_rfl
theorem hA2(a b:Int):(#[Value.int .i64 a,.int .i64 b]:Array Value).all (·.oneCell')=true:=by simp [Value.oneCell']
theorem boxes3(w:World)(a b c d e f:Int):∃ w0,w0=((w.alloc (.cells #[.int .i64 a,.int .i64 b] 55)).alloc (.cells #[.int .i64 c,.int .i64 d] 55)).alloc (.cells #[.int .i64 e,.int .i64 f] 55)∧Below w.heap.size w w0∧rowV w0 w.heap.size 55 #[.int .i64 a,.int .i64 b]∧rowV w0 (w.heap.size+1) 55 #[.int .i64 c,.int .i64 d]∧rowV w0 (w.heap.size+1+1) 55 #[.int .i64 e,.int .i64 f]:=by
 have r1:=rowV.new w 55 #[.int .i64 a,.int .i64 b]
 have r2:=rowV.new (w.alloc (.cells #[.int .i64 a,.int .i64 b] 55)) 55 #[.int .i64 c,.int .i64 d]
 have r3:=rowV.new ((w.alloc (.cells #[.int .i64 a,.int .i64 b] 55)).alloc (.cells #[.int .i64 c,.int .i64 d] 55)) 55 #[.int .i64 e,.int .i64 f]
 have h1:=Below.refl w.heap.size w
 have h2:=balloc h1 (.cells #[.int .i64 a,.int .i64 b] 55)
 have h3:=balloc h2 (.cells #[.int .i64 c,.int .i64 d] 55)
 have k1:=balloc (Below.refl _ (w.alloc (.cells #[.int .i64 a,.int .i64 b] 55))) (.cells #[.int .i64 c,.int .i64 d] 55)
 have k2:=balloc (Below.refl _ ((w.alloc (.cells #[.int .i64 a,.int .i64 b] 55)).alloc (.cells #[.int .i64 c,.int .i64 d] 55))) (.cells #[.int .i64 e,.int .i64 f] 55)
 have e1:(w.alloc (.cells #[.int .i64 a,.int .i64 b] 55)).heap.size=w.heap.size+1:=by simp
 have e2:((w.alloc (.cells #[.int .i64 a,.int .i64 b] 55)).alloc (.cells #[.int .i64 c,.int .i64 d] 55)).heap.size=w.heap.size+1+1:=by simp
 have q1:=r1.below k1 r1.lt
 rw [e1] at r2
 rw [e2] at r3
 exact⟨_,rfl,balloc h3 _,q1.below k2 q1.lt,r2.below k2 r2.lt,r3⟩
theorem boxes2(w:World)(a b c d:Int):∃ w0,w0=(w.alloc (.cells #[.int .i64 a,.int .i64 b] 55)).alloc (.cells #[.int .i64 c,.int .i64 d] 55)∧Below w.heap.size w w0∧rowV w0 w.heap.size 55 #[.int .i64 a,.int .i64 b]∧rowV w0 (w.heap.size+1) 55 #[.int .i64 c,.int .i64 d]:=by
 have r1:=rowV.new w 55 #[.int .i64 a,.int .i64 b]
 have r2:=rowV.new (w.alloc (.cells #[.int .i64 a,.int .i64 b] 55)) 55 #[.int .i64 c,.int .i64 d]
 have k1:=balloc (Below.refl _ (w.alloc (.cells #[.int .i64 a,.int .i64 b] 55))) (.cells #[.int .i64 c,.int .i64 d] 55)
 have e1:(w.alloc (.cells #[.int .i64 a,.int .i64 b] 55)).heap.size=w.heap.size+1:=by simp
 rw [e1] at r2
 exact⟨_,rfl,balloc (balloc (Below.refl _ _) _) _,r1.below k1 r1.lt,r2⟩
theorem within_any(x y:Iv)(w:World):Calls Tryz.prog 114 #[.agg #[.int .i64 x.lo,.int .i64 x.hi],.agg #[.int .i64 y.lo,.int .i64 y.hi]] w fun e w'=>e=.returned (.bool (ivIn x y))∧Below w.heap.size w w':=by
 have hE:Hid (ivIn x y=((ivOk x && ivOk y) && decide (y.lo≤x.lo) && decide (x.hi≤y.hi))):=rfl
 obtain⟨w0,hw0,g0,r1,r2⟩:=boxes2 w x.lo x.hi y.lo y.hi
 have H:=Lib.hid (ordered_any x y w0)
 obtain⟨a,b⟩:=x
 obtain⟨c,d⟩:=y
 dsimp only at H hE hw0 r1 r2 ⊢
 have hw:=Lib.hid hw0;clear hw0
 obtain⟨o,ho⟩:∃ o,o=(ivOk ⟨a,b⟩ && ivOk ⟨c,d⟩):=⟨_,rfl⟩
 rw [←ho] at H hE
 clear ho
 cases o with
 | false=>
  go_enter Tryz.func114,Tryz.ntmps114
  go_wp2_with fail
  rw [←hw.out]
  refine H.out.mono ?_
  rintro e w1 ⟨rfl,hb1⟩
  go_wp2_with fail
  rw [hE.out]
  go_ret
  exact⟨rfl,g0.trans (hb1.mono g0.size)⟩
 | true=>
  obtain⟨p,hp⟩:∃ p,decide (c≤a)=p:=⟨_,rfl⟩
  obtain⟨q,hq⟩:∃ q,decide (b≤d)=q:=⟨_,rfl⟩
  rw [hp,hq] at hE
  cases p with
  | false=>
   go_enter Tryz.func114,Tryz.ntmps114
   go_wp2_with fail
   rw [←hw.out]
   refine H.out.mono ?_
   rintro e w1 ⟨rfl,hb1⟩
   obtain⟨c1,c2⟩:=two_cellsV (r1.below hb1 r1.lt)
   obtain⟨c3,c4⟩:=two_cellsV (r2.below hb1 r2.lt)
   go_wp2_with fail
   rw [hE.out]
   go_ret
   exact⟨rfl,g0.trans (hb1.mono g0.size)⟩
  | true=>
   go_enter Tryz.func114,Tryz.ntmps114
   go_wp2_with fail
   rw [←hw.out]
   refine H.out.mono ?_
   rintro e w1 ⟨rfl,hb1⟩
   obtain⟨c1,c2⟩:=two_cellsV (r1.below hb1 r1.lt)
   obtain⟨c3,c4⟩:=two_cellsV (r2.below hb1 r2.lt)
   go_wp2_with fail
   rw [hE.out]
   go_ret
   exact⟨by simp,g0.trans (hb1.mono g0.size)⟩
theorem join_any(x y:Iv)(w:World):Calls Tryz.prog 63 #[.agg #[.int .i64 x.lo,.int .i64 x.hi],.agg #[.int .i64 y.lo,.int .i64 y.hi]] w fun e w'=>e=.returned (.agg #[.int .i64 (ivJoin x y).lo,.int .i64 (ivJoin x y).hi])∧Below w.heap.size w w':=by
 have hE:Hid (ivJoin x y=if ivOk x && ivOk y then ⟨min x.lo y.lo,max x.hi y.hi⟩ else ⟨0,0⟩):=rfl
 obtain⟨w0,hw0,g0,r1,r2,r3⟩:=boxes3 w x.lo x.hi y.lo y.hi 0 0
 have H:=Lib.hid (ordered_any x y w0)
 obtain⟨a,b⟩:=x
 obtain⟨c,d⟩:=y
 dsimp only at H hE hw0 r1 r2 ⊢
 have hw:=Lib.hid hw0;clear hw0
 obtain⟨o,ho⟩:∃ o,o=(ivOk ⟨a,b⟩ && ivOk ⟨c,d⟩):=⟨_,rfl⟩
 rw [←ho] at H hE
 clear ho
 cases o with
 | false=>
  rw [if_neg (by decide)] at hE
  rw [hE.out]
  go_enter Tryz.func63,Tryz.ntmps63
  go_wp2_with fail
  rw [←hw.out]
  refine H.out.mono ?_
  rintro e w1 ⟨rfl,hb1⟩
  have Hr:=Lib.hid (r3.below hb1 r3.lt)
  go_wp2_with (refine wpList_store_row rfl 55 (.tmp 4) (.tmp 9) rfl _ #[.int .i64 0,.int .i64 0] rfl rfl _ _ Hr.out (hI2 _ _) rfl (hA2 _ _) ?_)
  obtain⟨c1,c2⟩:=two_cellsV (setRow_heap w1 (w.heap.size+1+1) _ #[.int .i64 0,.int .i64 0] _ _ Hr.out)
  refine bodyPost_ret (v:=.agg #[.int .i64 0,.int .i64 0]) (by simp [results,Tryz.results63,go_sem,c1,c2]) rfl ⟨rfl,belowRow (g0.trans (hb1.mono g0.size)) (by omega) _⟩
 | true=>
  rw [if_pos rfl] at hE
  rw [hE.out]
  go_enter Tryz.func63,Tryz.ntmps63
  go_wp2_with fail
  rw [←hw.out]
  refine H.out.mono ?_
  rintro e w1 ⟨rfl,hb1⟩
  obtain⟨c1,c2⟩:=two_cellsV (r1.below hb1 r1.lt)
  obtain⟨c3,c4⟩:=two_cellsV (r2.below hb1 r2.lt)
  have Hr:=Lib.hid (r3.below hb1 r3.lt)
  go_wp2_with (refine wpList_store_row rfl 55 (.tmp 4) (.tmp 20) rfl _ #[.int .i64 (min a c),.int .i64 (max b d)] rfl rfl _ _ Hr.out (hI2 _ _) rfl (hA2 _ _) ?_)
  obtain⟨c5,c6⟩:=two_cellsV (setRow_heap w1 (w.heap.size+1+1) _ #[.int .i64 (min a c),.int .i64 (max b d)] _ _ Hr.out)
  refine bodyPost_ret (v:=.agg #[.int .i64 (min a c),.int .i64 (max b d)]) (by simp [results,Tryz.results63,go_sem,c5,c6]) rfl ⟨rfl,belowRow (g0.trans (hb1.mono g0.size)) (by omega) _⟩
end Go.Proofs.YtepoclhdklgnhaaGreatDoor
