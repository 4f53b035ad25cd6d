/- Mc Md Me Mf Mg Mh. -/
import Derived.Test.YtepoclhdklgnhaaGreatDoorRV38
import Derived.Test.YtepoclhdklgnhaaGreatDoorRV31
import Derived.Deep.RegionHeld3
import Derived.Test.YtepoclhdklgnhaaGreatDoorRV20
set_option maxRecDepth 100000
set_option maxHeartbeats 40000000
set_option linter.unusedVariables false
set_option linter.unusedSimpArgs false
namespace Go.Proofs.YtepoclhdklgnhaaGreatDoor
open Go.RowKit Go.Proofs
theorem confirmW_any(A A' D:Option Addr)(n c n' c' m d:Nat)(L:Int)(p:Prg)(r:Rp)(w:World)(hx:Progs w A n c L A' n' c' p)(hl:Invs w D m d r.inv)(hm:m≤1000)(hll:∀ x∈r.inv,x.locs.length≤1000) :
  Calls Tryz.prog 18 #[.agg #[.slice A n c,.int .i64 L,.slice A' n' c'],.agg #[.int .i64 r.steps,.int .i64 r.emits,.int .i64 r.hgt,.slice D m d]] w (ChkR w (conP p r)):=by
 obtain⟨w0,hw0,g0,r0,rr0,s0⟩:=for_boxes w A A' D n c n' c' m d L r.steps r.emits r.hgt
 have H1:=Lib.hid (checkW_any A A' n c n' c' L p w0 (hx.below g0))
 have hwf:Hid (∀ x∈p.code,0≤x.arg∧x.arg < 4294967296):=fun x h=>⟨(hx.code.2.2.1 x h).1,(hx.code.2.2.1 x h).2.1⟩
 have HX:=Lib.hid (And.intro (hx.below g0) (hl.below g0))
 have HG:=Lib.hid (And.intro r0 (And.intro rr0 g0))
 have Hw0:=Lib.hid hw0
 have HLL:=Lib.hid hll
 obtain⟨c0,c1,c2⟩:=three_cellsV r0
 have hE:Hid (∀ t,(chkP p).2=0→treeOf p=t→outV (conO p r t)=(((conP p r).1:Int),(conP p r).2)):=fun t h1 h2=>conP_of h1 h2
 have hE1:Hid ((chkP p).2≠0→conP p r=chkP p):=fun h=>by unfold conP;rw [if_pos h]
 clear hx hl hll g0 r0 rr0 hw0 s0
 obtain⟨ka,ke,hke⟩:∃ a e,chkP p=(a,e):=⟨_,_,rfl⟩
 rw [hke] at H1 hE hE1
 simp only [] at hE hE1
 have hmf:∀ (fn:Fn) (first cap:Array Value) (w:World),(Instr.makeFunc fn first cap).run Tryz.prog w=.ok (.func fn first cap) w:=fun _ _ _ _=>rfl
 go_enter Tryz.func18,Tryz.ntmps18
 go_upto_region 1 with fail
 rw [←Hw0.out]
 go_wp2_with fail
 refine H1.out.mono ?_
 intro e w1 hr
 obtain⟨rfl,hb1⟩:=hr
 have r1:=HG.out.1.below hb1 HG.out.1.lt
 have rr1:=HG.out.2.1.below hb1 HG.out.2.1.lt
 have g1:=HG.out.2.2.trans (hb1.mono HG.out.2.2.size)
 have hx1:=HX.out.1.below hb1
 have hl1:=HX.out.2.below hb1
 clear H1 c0 c1 c2
 by_cases hf:ke=0
 rotate_left 1
 ·have d1:(ke != 0)=true:=by simpa using hf
  have hE2:Hid (conP p r=(ka,ke)):=hE1.out hf
  have HR:=Lib.hid g1
  clear hf hke r1 rr1 g1 hx1 hl1 hb1
  go_wp2_with fail
  refine bodyPost_ret (v:=.tuple #[.int .i64 (ka:Int),.int .i64 ke]) (by simp [results,Tryz.results18,go_sem]) rfl ?_
  rw [hE2.out]
  exact⟨rfl,HR.out⟩
 ·subst hf
  obtain⟨hok,hfe,t,ht,htr⟩:=prgOk_of hwf.out (by rw [hke])
  have hE2:=Lib.hid (hE.out t rfl htr)
  have HGu:=Lib.hid (guarded_any w1.heap.size 37 w.heap.size (w.heap.size+1) (conO p r t) (fun _=>True) w1 (Nat.le_refl _) (enters_of Tryz.func37 (by kernel_rfl) rfl)
   (fun w3 hb3 hs3 hi0 hi1=>confirm1_any w1.heap.size w3 w.heap.size (w.heap.size+1) w1.heap.size A A' D n c n' c' m d L p r (hx1.below hb3) hok t ht (hl1.below hb3) hm HLL.out (r1.below hb3 r1.lt) (rr1.below hb3 rr1.lt) hb3.size hi0 hi1))
  have HR1:=Lib.hid g1
  clear hke r1 rr1 g1 hx1 hl1 hb1 hok hfe ht htr hE hE1
  go_wp2_with fail
  refine HGu.out.mono ?_
  intro e w3 hr
  clear HGu
  obtain⟨o,ho⟩:∃ o,o=conO p r t:=⟨_,rfl⟩
  rw [←ho] at hr hE2
  clear ho
  have hr2:e=.returned (.tuple #[.int .i64 (outV o).1,.int .i64 (outV o).2])∧Below w1.heap.size w1 w3:=by
   cases o with
   | none=>exact⟨hr.1.1,hr.2⟩
   | some ax=>exact⟨hr.1,hr.2⟩
  obtain⟨rfl,hb3⟩:=hr2
  clear hr
  have HN:=Lib.hid (HR1.out.trans (hb3.mono HR1.out.size))
  rw [hE2.out]
  clear hb3
  go_wp2_with fail
  refine bodyPost_ret (v:=.tuple #[.int .i64 ((conP p r).1:Int),.int .i64 (conP p r).2]) (by simp [results,Tryz.results18,go_sem]) rfl ?_
  exact⟨rfl,HN.out⟩
def FewR(n n':Nat)(w:World)(e:Ending)(w':World):Prop:=(∃ b,e=.returned (.bool b)∧(b=true→n≤20∧n'≤200))∧Below w.heap.size w w'
theorem few15_any(A A':Option Addr)(n c n' c':Nat)(L:Int)(p:Prg)(w:World)(hx:Progs w A n c L A' n' c' p) :
  Calls Tryz.prog 10 #[.agg #[.slice A n c,.int .i64 L,.slice A' n' c']] w (FewR n n' w):=by
 obtain⟨w0,hw0⟩:∃ w0,w0=w.alloc (.cells #[.slice A n c,.int .i64 L,.slice A' n' c'] 25):=⟨_,rfl⟩
 have g0:Below w.heap.size w w0:=by rw [hw0];exact balloc (Below.refl _ _) _
 have r0:rowV w0 w.heap.size 25 #[.slice A n c,.int .i64 L,.slice A' n' c']:=by rw [hw0];exact rowV.new w _ _
 have HX:=Lib.hid (hx.below g0)
 have HG:=Lib.hid (And.intro r0 g0)
 have Hw0:=Lib.hid hw0
 obtain⟨c0,c1,c2⟩:=three_cellsV r0
 clear hx g0 r0 hw0
 by_cases h1:20 < n
 ·have d1:decide ((20:Int) < (n:Int))=true:=by simp;omega
  have d1':decide (20 < n)=true:=by simp;omega
  go_enter Tryz.func10,Tryz.ntmps10
  go_upto_region 1 with fail
  rw [←Hw0.out]
  go_wp2_with fail
  go_ret
  exact⟨⟨false,rfl,fun h=>by cases h⟩,HG.out.2⟩
 have d1:decide ((20:Int) < (n:Int))=false:=by simp;omega
 have d1':decide (20 < n)=false:=by simp;omega
 by_cases h2:200 < n'
 ·have d2:decide ((200:Int) < (n':Int))=true:=by simp;omega
  have d2':decide (200 < n')=true:=by simp;omega
  go_enter Tryz.func10,Tryz.ntmps10
  go_upto_region 1 with fail
  rw [←Hw0.out]
  go_wp2_with fail
  go_ret
  exact⟨⟨false,rfl,fun h=>by cases h⟩,HG.out.2⟩
 have d2:decide ((200:Int) < (n':Int))=false:=by simp;omega
 have d2':decide (200 < n')=false:=by simp;omega
 have HS:=Lib.hid (shallow_any A' n' c' p.code w0 HX.out.code (by omega))
 go_enter Tryz.func10,Tryz.ntmps10
 go_upto_region 1 with fail
 rw [←Hw0.out]
 go_wp2_with fail
 refine HS.out.mono ?_
 rintro e w1 ⟨⟨b,rfl⟩,hb1⟩
 have r1:=HG.out.1.below hb1 HG.out.1.lt
 have HR1:=Lib.hid (And.intro r1 (And.intro (HG.out.2.trans (hb1.mono HG.out.2.size)) (HX.out.arrs.below hb1)))
 clear HS hb1 r1 c0 c1 c2
 obtain⟨c0,c1,c2⟩:=three_cellsV HR1.out.1
 cases b with
 | false=>
  go_wp2_with fail
  go_ret
  exact⟨⟨false,rfl,fun h=>by cases h⟩,HR1.out.2.1⟩
 | true=>
  go_wp2_with fail
  go_loop [3] (fun i=>∃ k:Nat,k≤n∧i=.int .i64 (k:Int)) (fun i=>n-(intOf i).toNat)
  case atStart=>exact⟨0,Nat.zero_le _,rfl⟩
  case round=>
   obtain⟨k,hk,rfl⟩:=hrel
   by_cases hlt:k < n
   ·have dk:decide ((k:Int) < (n:Int))=true:=by simp;omega
    have dk':decide (k < n)=true:=by simp;omega
    obtain⟨cb,off,rfl,hcb,hcell⟩:=HR1.out.2.2.get hlt
    have x0:=(hcell k hlt).1
    have x1:=(hcell k hlt).2
    clear hcell
    obtain⟨sz,hsz⟩:∃ z,z=(gA p.arrs k).size:=⟨_,rfl⟩
    rw [←hsz] at x1
    clear hsz
    by_cases h3:300 < sz
    ·have e1:decide ((300:Int) < sz)=true:=decide_eq_true h3
     by_cases h4:sz≤65536
     ·have e2:decide (sz≤(65536:Int))=true:=decide_eq_true h4
      go_wp2_with fail
      go_ret
      exact⟨⟨false,rfl,fun h=>by cases h⟩,HR1.out.2.1⟩
     ·have e2:decide (sz≤(65536:Int))=false:=decide_eq_false h4
      go_wp2_with fail
      go_round
      case rel=>exact⟨k+1,by omega,by go_num⟩
      case measure=>(simp [intOf]) <;> omega
    ·have e1:decide ((300:Int) < sz)=false:=decide_eq_false h3
     go_wp2_with fail
     go_round
     case rel=>exact⟨k+1,by omega,by go_num⟩
     case measure=>(simp [intOf]) <;> omega
   ·obtain rfl:k=n:=by omega
    have dk:decide ((k:Int) < (k:Int))=false:=by simp
    go_wp2_with fail
    go_ret
    exact⟨⟨true,rfl,fun _=>⟨by omega,by omega⟩⟩,HR1.out.2.1⟩
theorem stIv:Tryz.prog.stoodInHeld 55=false:=by kernel_rfl
theorem utIv:Tryz.prog.underlying 55=some (.struct (Tryz.prog.fieldsOf 55)):=by kernel_rfl
theorem neqIvS(a b:Int)(W:World):(binOp .neq 55 (.agg #[.int .i64 a,.int .i64 b]) (.agg #[.int .i64 a,.int .i64 b])).run Tryz.prog W=.ok (.bool false) W:=by
 rw [run_neq_struct,run_equalIn_agg W 9999 _ _ _ utIv stIv]
 simp [go_sem,part]
theorem two_reps(w:World)(A D:Option Addr)(m c d:Nat)(s e h:Int):∃ w1,w1=(w.alloc (.cells #[.int .i64 s,.int .i64 e,.int .i64 h,.slice A m c] 35)).alloc (.cells #[.int .i64 s,.int .i64 e,.int .i64 h,.slice D m d] 35)∧Below w.heap.size w w1∧rowV w1 w.heap.size 35 #[.int .i64 s,.int .i64 e,.int .i64 h,.slice A m c]∧rowV w1 (w.heap.size+1) 35 #[.int .i64 s,.int .i64 e,.int .i64 h,.slice D m d]∧w1.heap.size=w.heap.size+1+1:=by
 have r1:=rowV.new w 35 #[.int .i64 s,.int .i64 e,.int .i64 h,.slice A m c]
 have e1:(w.alloc (.cells #[.int .i64 s,.int .i64 e,.int .i64 h,.slice A m c] 35)).heap.size=w.heap.size+1:=by simp
 obtain⟨wa,hwa⟩:∃ x,x=w.alloc (.cells #[.int .i64 s,.int .i64 e,.int .i64 h,.slice A m c] 35):=⟨_,rfl⟩
 have k1:Below w.heap.size w wa:=by rw [hwa];exact balloc (Below.refl _ _) _
 rw [←hwa] at r1 e1 ⊢
 have r3:=rowV.new wa 35 #[.int .i64 s,.int .i64 e,.int .i64 h,.slice D m d]
 have k3:Below wa.heap.size wa (wa.alloc (.cells #[.int .i64 s,.int .i64 e,.int .i64 h,.slice D m d] 35)):=balloc (Below.refl _ _) _
 rw [e1] at r3
 exact⟨_,rfl,k1.trans (k3.mono k1.size),r1.below k3 r1.lt,r3,by simp [e1]⟩
theorem same20_any(A D:Option Addr)(m c d:Nat)(s e0 h:Int)(l:List Inv)(w:World)(hx:Invs w A m c l)(hy:Invs w D m d l)(hm:m≤1000)(hll:∀ x∈l,x.locs.length≤1000) :
  Calls Tryz.prog 16 #[.agg #[.int .i64 s,.int .i64 e0,.int .i64 h,.slice A m c],.agg #[.int .i64 s,.int .i64 e0,.int .i64 h,.slice D m d]] w fun e w'=>e=.returned (.bool true)∧Below w.heap.size w w':=by
 obtain⟨w0,hw0,g0,r0,rr0,s0⟩:=two_reps w A D m c d s e0 h
 have HX:=Lib.hid (And.intro (hx.below g0) (hy.below g0))
 have HG:=Lib.hid (And.intro r0 (And.intro rr0 g0))
 have Hw0:=Lib.hid hw0
 have HLL:=Lib.hid hll
 have Hlen:=Lib.hid hx.1
 obtain⟨c0,c1,c2,c3⟩:=four_cellsV r0
 obtain⟨d0,d1,d2,d3⟩:=four_cellsV rr0
 have hrl:=r0.lt
 have hrl1:=rr0.lt
 clear hx hy hll g0 r0 rr0 hw0 s0
 go_enter Tryz.func16,Tryz.ntmps16
 go_upto_region 1 with fail
 rw [←Hw0.out]
 go_wp2_with fail
 go_loopw [5,6,7,8] (fun i _ _ _ wr=>∃ k:Nat,k≤m∧i=.int .i64 (k:Int)∧Hid (Below w0.heap.size w0 wr)) (fun i _ _ _ _=>m-(intOf i).toNat)
 case atStart=>exact⟨0,Nat.zero_le _,rfl,Lib.hid (Below.refl _ _)⟩
 case round=>
  obtain⟨k,hk,rfl,HB⟩:=hrel
  obtain⟨wo,rfl⟩:∃ wo,wo=wr:=⟨_,rfl⟩
  have e3:=(HB.out.cell (p:=⟨w.heap.size,3,none⟩) hrl).trans c3
  have f3:=(HB.out.cell (p:=⟨w.heap.size+1,3,none⟩) hrl1).trans d3
  by_cases hlt:k < m
  ·have dk:decide ((k:Int) < (m:Int))=true:=by simp;omega
   have dk':decide (k < m)=true:=by simp;omega
   obtain⟨b,off,rfl,hb,x0,x1,A2,c2',x2,hiv⟩:=(HX.out.1.below HB.out).get hlt
   obtain⟨b2,off2,rfl,hb2,y0,y1,D2,d2',y2,hjv⟩:=(HX.out.2.below HB.out).get hlt
   have hx1000:(gN l k).locs.length≤1000:=HLL.out _ (by unfold gN;rw [List.getD_eq_getElem?_getD,List.getElem?_eq_getElem (by rw [Hlen.out];exact hlt)];exact List.getElem_mem _)
   obtain⟨⟨xa,xm,xl⟩,hxx⟩:∃ z,z=gN l k:=⟨_,rfl⟩
   rw [←hxx] at x0 x1 x2 hiv y0 y1 y2 hjv hx1000
   simp only [] at x0 x1 x2 hiv y0 y1 y2 hjv hx1000
   obtain⟨Ln,hL⟩:∃ L,L=xl.length:=⟨_,rfl⟩
   rw [←hL] at x2 hiv y2 hjv hx1000
   clear hxx hL
   go_wp2_with fail
   go_region_held3 (fun W=>W.cell? ⟨w.heap.size,3,none⟩=some (.slice (some ⟨b,off,none⟩) m c)∧W.cell? ⟨w.heap.size+1,3,none⟩=some (.slice (some ⟨b2,off2,none⟩) m d)∧W.cell? ⟨b,off+k * 3,none⟩=some (.int .i64 xa)∧W.cell? ⟨b,off+k * 3+1,none⟩=some (.int .i64 xm)∧W.cell? ⟨b,off+k * 3+2,none⟩=some (.slice A2 Ln c2')∧W.cell? ⟨b2,off2+k * 3,none⟩=some (.int .i64 xa)∧W.cell? ⟨b2,off2+k * 3+1,none⟩=some (.int .i64 xm)∧W.cell? ⟨b2,off2+k * 3+2,none⟩=some (.slice D2 Ln d2'))
    (first | go_keep)
    (first | fail)
   all_goals
    rename_i hHeld
    clear hHeld x0 x1 x2 y0 y1 y2 e3 f3
   all_goals
    first
     | (obtain⟨W,hW⟩:∃ W,W=((wo.alloc (.cells #[.int .i64 xa,.int .i64 xm,.slice A2 Ln c2'] 50)).alloc (.cells #[.int .i64 xa,.int .i64 xm,.slice D2 Ln d2'] 50)).drew:=⟨_,rfl⟩;rw [←hW];have hbW:Below wo.heap.size wo W:=(by rw [hW];exact bdrew (balloc (balloc (Below.refl _ _) _) _) 1);have r6:rowV W wo.heap.size 50 #[.int .i64 xa,.int .i64 xm,.slice A2 Ln c2']:=(by rw [hW];exact (rowV.new wo _ _).below (bdrew (balloc (Below.refl _ _) _) 1) (by simp));have r7:rowV W (wo.heap.size+1) 50 #[.int .i64 xa,.int .i64 xm,.slice D2 Ln d2']:=(by rw [hW];have h9:=rowV.new (wo.alloc (.cells #[.int .i64 xa,.int .i64 xm,.slice A2 Ln c2'] 50)) 50 #[.int .i64 xa,.int .i64 xm,.slice D2 Ln d2'];rw [show (wo.alloc (.cells #[.int .i64 xa,.int .i64 xm,.slice A2 Ln c2'] 50)).heap.size=wo.heap.size+1 by simp] at h9;exact h9))
     | (obtain⟨W,hW⟩:∃ W,W=((wo.alloc (.cells #[.int .i64 xa,.int .i64 xm,.slice D2 Ln d2'] 50)).alloc (.cells #[.int .i64 xa,.int .i64 xm,.slice A2 Ln c2'] 50)).drew:=⟨_,rfl⟩;rw [←hW];have hbW:Below wo.heap.size wo W:=(by rw [hW];exact bdrew (balloc (balloc (Below.refl _ _) _) _) 1);have r6:rowV W wo.heap.size 50 #[.int .i64 xa,.int .i64 xm,.slice D2 Ln d2']:=(by rw [hW];exact (rowV.new wo _ _).below (bdrew (balloc (Below.refl _ _) _) 1) (by simp));have r7:rowV W (wo.heap.size+1) 50 #[.int .i64 xa,.int .i64 xm,.slice A2 Ln c2']:=(by rw [hW];have h9:=rowV.new (wo.alloc (.cells #[.int .i64 xa,.int .i64 xm,.slice D2 Ln d2'] 50)) 50 #[.int .i64 xa,.int .i64 xm,.slice A2 Ln c2'];rw [show (wo.alloc (.cells #[.int .i64 xa,.int .i64 xm,.slice D2 Ln d2'] 50)).heap.size=wo.heap.size+1 by simp] at h9;exact h9))
   all_goals
    obtain⟨p0,p1,p2⟩:=three_cellsV r6
    obtain⟨q0,q1,q2⟩:=three_cellsV r7
    have l6:=r6.lt
    have l7:=r7.lt
    have HW:Hid (Below w0.heap.size w0 W∧Ivs W A2 Ln c2' xl∧Ivs W D2 Ln d2' xl):=⟨HB.out.trans (hbW.mono HB.out.size),hiv.below hbW,hjv.below hbW⟩
    clear hW hbW hiv hjv r6 r7
    go_wp2_with fail
    go_loopw [8] (fun i wz=>∃ j:Nat,j≤Ln∧i=.int .i64 (j:Int)∧Hid (Below W.heap.size W wz)) (fun i _=>Ln-(intOf i).toNat)
    case atStart=>exact⟨0,Nat.zero_le _,rfl,Lib.hid (Below.refl _ _)⟩
    case round=>
     obtain⟨j,hj,rfl,HZ⟩:=hrel
     have p2:=(HZ.out.cell (p:=⟨wo.heap.size,2,none⟩) l6).trans p2
     have q2:=(HZ.out.cell (p:=⟨wo.heap.size+1,2,none⟩) l7).trans q2
     by_cases hjl:j < Ln
     ·have ek:decide ((j:Int) < (Ln:Int))=true:=by simp;omega
      have ek':decide (j < Ln)=true:=by simp;omega
      obtain⟨ib,io,rfl,hib,hic⟩:=HW.out.2.1.2.2 (by omega)
      obtain⟨jb,jo,rfl,hjb,hjc⟩:=HW.out.2.2.2.2 (by omega)
      have s0:wr.cell? ⟨ib,io+j * 2,none⟩=some (.int .i64 (gL xl j).lo):=(HZ.out.cell (p:=⟨ib,io+j * 2,none⟩) hib).trans (hic j hjl).1
      have s1:wr.cell? ⟨ib,io+j * 2+1,none⟩=some (.int .i64 (gL xl j).hi):=(HZ.out.cell (p:=⟨ib,io+j * 2+1,none⟩) hib).trans (hic j hjl).2
      have t0:wr.cell? ⟨jb,jo+j * 2,none⟩=some (.int .i64 (gL xl j).lo):=(HZ.out.cell (p:=⟨jb,jo+j * 2,none⟩) hjb).trans (hjc j hjl).1
      have t1:wr.cell? ⟨jb,jo+j * 2+1,none⟩=some (.int .i64 (gL xl j).hi):=(HZ.out.cell (p:=⟨jb,jo+j * 2+1,none⟩) hjb).trans (hjc j hjl).2
      obtain⟨⟨vl,vh⟩,hv⟩:∃ z,z=gL xl j:=⟨_,rfl⟩
      rw [←hv] at s0 s1 t0 t1
      simp only [] at s0 s1 t0 t1
      have hq:=fun W=>neqIvS vl vh W
      clear hic hjc hv
      go_wp2_with fail
      go_quiet (fail)
      have HN:Hid (Below W.heap.size W (wr.drewN nq)):=bdrew HZ.out _
      go_wp2_with fail
      go_roundw
      case rel=>exact⟨j+1,by omega,by go_num,HN⟩
      case measure=>(simp [intOf]) <;> omega
     ·obtain rfl:j=Ln:=by omega
      have ek:decide ((j:Int) < (j:Int))=false:=by simp
      have HN:=Lib.hid (HW.out.1.trans (HZ.out.mono HW.out.1.size))
      go_wp2_with fail
      go_roundw
      case rel=>exact⟨k+1,by omega,by go_num,HN⟩
      case measure=>(simp [intOf]) <;> omega
  ·obtain rfl:k=m:=by omega
   have dk:decide ((k:Int) < (k:Int))=false:=by simp
   go_wp2_with fail
   go_ret
   exact⟨rfl,HG.out.2.2.trans (HB.out.mono HG.out.2.2.size)⟩
def sAV:List UInt8:=[108,111,99,97,108,32,105,32,108,111,99,97,108,32,115,32,112,117,115,104,32,49,48,32,108,111,111,112,32,108,111,97,100,32,115,32,108,111,97,100,32,105,32,97,100,100,32,112,117,115,104,32,50,53,53,32,97,110,100,32,115,116,111,114,101,32,115,32,108,111,97,100,32,105,32,112,117,115,104,32,49,32,97,100,100,32,112,117,115,104,32,49,53,32,97,110,100,32,115,116,111,114,101,32,105,32,101,110,100]
def sBV:List UInt8:=[119,111,114,100,115,32,119,32,56,32,112,117,115,104,32,52,32,112,117,115,104,32,48,32,105,110,112,117,116,32,112,117,115,104,32,56,32,109,105,110,32,103,101,116,32,119]
def sCV:List UInt8:=[119,111,114,100,115,32,119,32,56,32,112,117,115,104,32,52,32,112,117,115,104,32,48,32,105,110,112,117,116,32,112,117,115,104,32,55,32,109,105,110,32,103,101,116,32,119]
def sDV:List UInt8:=[105,110,112,117,116,32,108,111,111,112,32,101,110,100]
def okQ:AR→Prg→Bool
 | .bad _ _,_=>false
 | .ok s _,p=>decide (s.arrs=p.arrs) && decide ((s.ln.length:Int)=p.locs) && decide (s.code=p.code)
theorem okQ.eq{r:AR}{p:Prg}(h:okQ r p=true):∃ s q,r=.ok s q∧prgOf s=p:=by
 cases r with
 | bad a e=>simp [okQ] at h
 | ok s q=>
  simp [okQ] at h
  obtain⟨⟨h1,h2⟩,h3⟩:=h
  obtain⟨pa,pl,pc⟩:=p
  simp only [] at h1 h2 h3
  exact⟨s,q,rfl,by unfold prgOf;rw [h1,h2,h3]⟩
def badR:RR→Nat→Int→Bool
 | .bad a e,b,f=>decide (a=b) && decide (e=f)
 | _,_,_=>false
theorem badR.eq{r:RR}{b:Nat}{f:Int}(h:badR r b f=true):r=.bad b f:=by
 cases r with
 | bad a e=>simp [badR] at h;rw [h.1,h.2]
 | ok s=>simp [badR] at h
 | stuck=>simp [badR] at h
def okR:RR→Rp→Bool
 | .ok r,s=>decide (r=s)
 | _,_=>false
theorem okR.eq{r:RR}{s:Rp}(h:okR r s=true):r=.ok s:=by
 cases r with
 | bad a e=>simp [okR] at h
 | ok s=>simp [okR] at h;rw [h]
 | stuck=>simp [okR] at h
def exA:Prg:=⟨[],2,[⟨0,10⟩,⟨29,0⟩,⟨1,1⟩,⟨1,0⟩,⟨8,0⟩,⟨0,255⟩,⟨13,0⟩,⟨2,1⟩,⟨1,0⟩,⟨0,1⟩,⟨8,0⟩,⟨0,15⟩,⟨13,0⟩,⟨2,0⟩,⟨31,0⟩]⟩
def exB:Prg:=⟨[⟨true,8⟩],0,[⟨0,4⟩,⟨0,0⟩,⟨32,0⟩,⟨0,8⟩,⟨18,0⟩,⟨3,0⟩]⟩
def exC:Prg:=⟨[⟨true,8⟩],0,[⟨0,4⟩,⟨0,0⟩,⟨32,0⟩,⟨0,7⟩,⟨18,0⟩,⟨3,0⟩]⟩
def exD:Prg:=⟨[],0,[⟨32,0⟩,⟨29,0⟩,⟨31,0⟩]⟩
def rpA:Rp:=⟨132,0,2,[⟨1,10,[⟨0,255⟩,⟨0,255⟩]⟩]⟩
theorem rdxA:okQ (readL sAV) exA=true:=by decide +kernel
theorem rdxB:okQ (readL sBV) exB=true:=by decide +kernel
theorem rdxC:okQ (readL sCV) exC=true:=by decide +kernel
theorem rdxD:okQ (readL sDV) exD=true:=by decide +kernel
theorem vrA:okR (verP exA) rpA=true:=by decide +kernel
theorem vrB:badR (verP exB) 5 16=true:=by decide +kernel
theorem vrC:badR (verP exC) 6 14=true:=by decide +kernel
theorem vrD:badR (verP exD) 1 18=true:=by decide +kernel
theorem cnA:conP exA rpA=(0,0):=by decide +kernel
theorem asmP_any(src:List UInt8)(p:Prg)(w:World)(hr:okQ (readL src) p=true)(hs:src.length≤100000000)(hE:ErrR w):Calls Tryz.prog 25 #[.string (strB src)] w fun e w'=>∃ A n c A' n' c',e=.returned (.tuple #[.agg #[.slice A n c,.int .i64 p.locs,.slice A' n' c'],.int .i64 0,.int .i64 0])∧Progs w' A n c p.locs A' n' c' p∧Below w.heap.size w w':=by
 obtain⟨s,q,hr,hp⟩:=okQ.eq hr
 have h:=assemble_any src w hs hE
 rw [hr] at h
 refine h.mono ?_
 rintro e w' ⟨A,n,c,A',n',c',rfl,hpr,hb⟩
 rw [hp] at hpr
 have hl:(s.ln.length:Int)=p.locs:=by rw [←hp];rfl
 rw [hl] at hpr ⊢
 exact⟨A,n,c,A',n',c',rfl,hpr,hb⟩
theorem fails20_any(src:List UInt8)(p:Prg)(a:Nat)(er:Int)(w:World)(hr:okQ (readL src) p=true)(hv:badR (verP p) a er=true)(hs:src.length≤100000000)(hE:ErrR w):Calls Tryz.prog 26 #[.string (strB src),.int .i64 (a:Int),.int .i64 er] w fun e w'=>e=.returned (.bool true)∧Below w.heap.size w w':=by
 have HR:=Lib.hid (asmP_any src p w hr hs hE)
 have HV:=Lib.hid (badR.eq hv)
 clear hr hv hs hE
 go_enter Tryz.func26,Tryz.ntmps26
 go_wp2_with fail
 refine HR.out.mono ?_
 rintro e w1 ⟨A,n,c,A',n',c',rfl,hp,hb1⟩
 obtain⟨w2,hw2⟩:∃ x,x=w1.alloc (.cells #[.slice A n c,.int .i64 p.locs,.slice A' n' c'] 25):=⟨_,rfl⟩
 have k2:Below w1.heap.size w1 w2:=by rw [hw2];exact balloc (Below.refl _ _) _
 have r2:rowV w2 w1.heap.size 25 #[.slice A n c,.int .i64 p.locs,.slice A' n' c']:=by rw [hw2];exact rowV.new w1 _ _
 obtain⟨c0,c1,c2⟩:=three_cellsV r2
 have HVe:=verifyW_any A A' n c n' c' p.locs p w2 (hp.below k2)
 rw [HV.out] at HVe
 have HVe:=Lib.hid HVe
 have HB:=Lib.hid (hb1.trans (k2.mono hb1.size))
 have Hw2:=Lib.hid hw2
 clear hp k2 r2 hb1 hw2 HR
 go_upto_region 2 with fail
 rw [←Hw2.out]
 go_wp2_with fail
 refine HVe.out.mono ?_
 intro e w3 hr
 obtain⟨rfl,hb3⟩:=hr
 have HN:=Lib.hid (balloc (HB.out.trans (hb3.mono HB.out.size)) (.cells #[.int .i64 0,.int .i64 0,.int .i64 0,.slice none 0 0] 35))
 clear hb3 HVe c0 c1 c2
 go_wp2_with fail
 go_ret
 exact⟨rfl,HN.out⟩
theorem want_any{w:World}{g b c c':Nat}(h1:rowV w g 50 #[.int .i64 1,.int .i64 10,.slice (some ⟨b,0,none⟩) 2 c'])(h2:rowV w b 55 #[.int .i64 0,.int .i64 255,.int .i64 0,.int .i64 255])(hc:1≤c)(hc':2≤c'):Invs w (some ⟨g,0,none⟩) 1 c rpA.inv:=by
 obtain⟨x0,x1,x2⟩:=three_cellsV h1
 obtain⟨y0,y1,y2,y3⟩:=four_cellsV h2
 refine⟨rfl,hc,fun _=>⟨g,0,rfl,h1.lt,fun i hi=>?_⟩⟩
 obtain rfl:i=0:=by omega
 refine⟨x0,x1,some ⟨b,0,none⟩,c',x2,rfl,hc',fun _=>⟨b,0,rfl,h2.lt,fun j hj=>?_⟩⟩
 have hj2:j < 2:=hj
 have h01:j=0∨j=1:=by omega
 rcases h01 with rfl | rfl
 ·exact⟨y0,y1⟩
 ·exact⟨y2,y3⟩
theorem want_boxes(w:World):∃ w1,w1=((w.alloc (.cells #[.int .i64 0,.int .i64 255,.int .i64 0,.int .i64 255] 55)).alloc (.cells #[.int .i64 1,.int .i64 10,.slice (some ⟨w.heap.size,0,none⟩) 2 2] 50)).alloc (.cells #[.int .i64 132,.int .i64 0,.int .i64 2,.slice (some ⟨w.heap.size+1,0,none⟩) 1 1] 35)∧Below w.heap.size w w1∧rowV w1 w.heap.size 55 #[.int .i64 0,.int .i64 255,.int .i64 0,.int .i64 255]∧rowV w1 (w.heap.size+1) 50 #[.int .i64 1,.int .i64 10,.slice (some ⟨w.heap.size,0,none⟩) 2 2]∧rowV w1 (w.heap.size+1+1) 35 #[.int .i64 132,.int .i64 0,.int .i64 2,.slice (some ⟨w.heap.size+1,0,none⟩) 1 1]:=by
 have r1:=rowV.new w 55 #[.int .i64 0,.int .i64 255,.int .i64 0,.int .i64 255]
 have e1:(w.alloc (.cells #[.int .i64 0,.int .i64 255,.int .i64 0,.int .i64 255] 55)).heap.size=w.heap.size+1:=by simp
 obtain⟨wa,hwa⟩:∃ x,x=w.alloc (.cells #[.int .i64 0,.int .i64 255,.int .i64 0,.int .i64 255] 55):=⟨_,rfl⟩
 have k1:Below w.heap.size w wa:=by rw [hwa];exact balloc (Below.refl _ _) _
 rw [←hwa] at r1 e1 ⊢
 have r2:=rowV.new wa 50 #[.int .i64 1,.int .i64 10,.slice (some ⟨w.heap.size,0,none⟩) 2 2]
 have e2:(wa.alloc (.cells #[.int .i64 1,.int .i64 10,.slice (some ⟨w.heap.size,0,none⟩) 2 2] 50)).heap.size=w.heap.size+1+1:=by simp [e1]
 obtain⟨wb,hwb⟩:∃ x,x=wa.alloc (.cells #[.int .i64 1,.int .i64 10,.slice (some ⟨w.heap.size,0,none⟩) 2 2] 50):=⟨_,rfl⟩
 have k2:Below wa.heap.size wa wb:=by rw [hwb];exact balloc (Below.refl _ _) _
 rw [←hwb] at r2 e2 ⊢
 have r3:=rowV.new wb 35 #[.int .i64 132,.int .i64 0,.int .i64 2,.slice (some ⟨w.heap.size+1,0,none⟩) 1 1]
 have k3:Below wb.heap.size wb (wb.alloc (.cells #[.int .i64 132,.int .i64 0,.int .i64 2,.slice (some ⟨w.heap.size+1,0,none⟩) 1 1] 35)):=balloc (Below.refl _ _) _
 rw [e1] at r2
 rw [e2] at r3
 exact⟨_,rfl,(k1.trans (k2.mono k1.size)).trans (k3.mono (by omega)),(r1.below k2 r1.lt).below k3 (r1.below k2 r1.lt).lt,r2.below k3 r2.lt,r3⟩
theorem awake20_any(w:World)(hE:ErrR w):Calls Tryz.prog 11 #[] w fun e w'=>e=.returned (.bool true)∧Below w.heap.size w w':=by
 have HP:=Lib.hid (asmP_any sAV exA w rdxA (by decide) hE)
 have HE:=Lib.hid hE
 have FB:Hid (∀ W:World,ErrR W→Calls Tryz.prog 26 #[.string (strB sBV),.int .i64 5,.int .i64 16] W fun e w'=>e=.returned (.bool true)∧Below W.heap.size W w'):=fun W h=>fails20_any sBV exB 5 16 W rdxB vrB (by decide) h
 have FC:Hid (∀ W:World,ErrR W→Calls Tryz.prog 26 #[.string (strB sCV),.int .i64 6,.int .i64 14] W fun e w'=>e=.returned (.bool true)∧Below W.heap.size W w'):=fun W h=>fails20_any sCV exC 6 14 W rdxC vrC (by decide) h
 have FD:Hid (∀ W:World,ErrR W→Calls Tryz.prog 26 #[.string (strB sDV),.int .i64 1,.int .i64 18] W fun e w'=>e=.returned (.bool true)∧Below W.heap.size W w'):=fun W h=>fails20_any sDV exD 1 18 W rdxD vrD (by decide) h
 clear hE
 go_enter Tryz.func11,Tryz.ntmps11
 go_wp2_with fail
 refine HP.out.mono ?_
 rintro e w1 ⟨A,n,c,A',n',c',rfl,hp,hb1⟩
 obtain⟨w2,hw2⟩:∃ x,x=w1.alloc (.cells #[.slice A n c,.int .i64 2,.slice A' n' c'] 25):=⟨_,rfl⟩
 have k2:Below w1.heap.size w1 w2:=by rw [hw2];exact balloc (Below.refl _ _) _
 have r2:rowV w2 w1.heap.size 25 #[.slice A n c,.int .i64 2,.slice A' n' c']:=by rw [hw2];exact rowV.new w1 _ _
 obtain⟨c0,c1,c2⟩:=three_cellsV r2
 have HV:=verifyW_any A A' n c n' c' 2 exA w2 (hp.below k2)
 rw [okR.eq vrA] at HV
 have HV:Hid (Calls Tryz.prog 14 #[.agg #[.slice A n c,.int .i64 2,.slice A' n' c']] w2 fun e w'=>(∃ A n c,e=.returned (.tuple #[.agg #[.int .i64 132,.int .i64 0,.int .i64 2,.slice A n c],.int .i64 0,.int .i64 0])∧InvT w' A n c rpA.inv)∧Below w2.heap.size w2 w'):=HV
 have H2:=Lib.hid (And.intro r2 (And.intro (hp.below k2) (hb1.trans (k2.mono hb1.size))))
 have Hw2:=Lib.hid hw2
 clear hp k2 r2 hb1 hw2 HP
 go_upto_region 2 with fail
 rw [show exA.locs=2 from rfl,←Hw2.out]
 go_wp2_with fail
 refine HV.out.mono ?_
 rintro e w3 ⟨⟨D,m,d,rfl,hinv⟩,hb3⟩
 obtain rfl:m=1:=hinv.1.symm
 have q2:=H2.out.1.below hb3 H2.out.1.lt
 have p2:=H2.out.2.1.below hb3
 have b3:=H2.out.2.2.trans (hb3.mono H2.out.2.2.size)
 obtain⟨w4,hw4⟩:∃ x,x=w3.alloc (.cells #[.int .i64 132,.int .i64 0,.int .i64 2,.slice D 1 d] 35):=⟨_,rfl⟩
 have k4:Below w3.heap.size w3 w4:=by rw [hw4];exact balloc (Below.refl _ _) _
 have r4:rowV w4 w3.heap.size 35 #[.int .i64 132,.int .i64 0,.int .i64 2,.slice D 1 d]:=by rw [hw4];exact rowV.new w3 _ _
 have s4:w4.heap.size=w3.heap.size+1:=by rw [hw4];simp
 obtain⟨w5,hw5,k5,x1,x2,x3⟩:=want_boxes w4
 have k35:Below w3.heap.size w3 w5:=k4.trans (k5.mono k4.size)
 have q5:=q2.below k35 q2.lt
 have p5:=p2.below k35
 have r5:=r4.below k5 r4.lt
 have i5:=hinv.invs.below k35
 have j5:=want_any x2 x1 (Nat.le_refl 1) (Nat.le_refl 2)
 obtain⟨c0,c1,c2⟩:=three_cellsV q5
 obtain⟨y0,y1,y2,y3⟩:=four_cellsV r5
 have hll:∀ x∈rpA.inv,x.locs.length≤1000:=by decide
 have HC:=confirmW_any A A' D n c n' c' 1 d 2 exA rpA w5 p5 i5 (by omega) hll
 have HC:Hid (Calls Tryz.prog 18 #[.agg #[.slice A n c,.int .i64 2,.slice A' n' c'],.agg #[.int .i64 132,.int .i64 0,.int .i64 2,.slice D 1 d]] w5 (ChkR w5 (conP exA rpA))):=HC
 have H5:=Lib.hid (And.intro r5 (And.intro x3 (And.intro i5 (And.intro j5 (b3.trans (k35.mono b3.size))))))
 have Hw4:=Lib.hid hw4
 have Hw5:=Lib.hid hw5
 have Hs4:=Lib.hid s4
 have Hll:=Lib.hid hll
 clear q2 p2 b3 hw4 k4 r4 s4 hw5 k5 x1 x2 x3 k35 q5 p5 r5 i5 j5 hinv hb3 HV hll
 go_upto_region 3 with fail
 rw [←Hw4.out]
 go_upto_region 4 with fail
 rw [←Hw5.out]
 go_wp2_with fail
 refine HC.out.mono ?_
 intro e w6 hr
 unfold ChkR at hr
 rw [cnA] at hr
 obtain⟨rfl,hb6⟩:=hr
 have r6:=H5.out.1.below hb6 H5.out.1.lt
 have x6:=H5.out.2.1.below hb6 H5.out.2.1.lt
 have HS:=Lib.hid (same20_any D (some ⟨w4.heap.size+1,0,none⟩) 1 d 1 132 0 2 rpA.inv w6 (H5.out.2.2.1.below hb6) (H5.out.2.2.2.1.below hb6) (by omega) Hll.out)
 have HB6:=Lib.hid (H5.out.2.2.2.2.trans (hb6.mono H5.out.2.2.2.2.size))
 obtain⟨z0,z1,z2,z3⟩:=four_cellsV r6
 obtain⟨v0,v1,v2,v3⟩:=four_cellsV x6
 clear r6 x6 hb6 HC H5 c0 c1 c2 y0 y1 y2 y3
 go_wp2_with fail
 refine HS.out.mono ?_
 rintro e w7 ⟨rfl,hb7⟩
 have H7:=Lib.hid (HB6.out.trans (hb7.mono HB6.out.size))
 clear hb7 HS HB6
 go_wp2_with fail
 refine (FB.out w7 (HE.out.below H7.out)).mono ?_
 rintro e w8 ⟨rfl,hb8⟩
 have H8:=Lib.hid (H7.out.trans (hb8.mono H7.out.size))
 clear hb8 H7
 go_wp2_with fail
 refine (FC.out w8 (HE.out.below H8.out)).mono ?_
 rintro e w9 ⟨rfl,hb9⟩
 have H9:=Lib.hid (H8.out.trans (hb9.mono H8.out.size))
 clear hb9 H8
 go_wp2_with fail
 refine (FD.out w9 (HE.out.below H9.out)).mono ?_
 rintro e w10 ⟨rfl,hb10⟩
 have H10:=Lib.hid (H9.out.trans (hb10.mono H9.out.size))
 clear hb10 H9
 go_wp2_with fail
 go_ret
 exact⟨rfl,H10.out⟩
def plainK(c:List Ins)(k:Nat):Bool:=(List.range k).all fun j=>(oI c j != 27) && (oI c j != 29)
theorem plainK_next(c:List Ins)(k:Nat):plainK c (k+1)=(plainK c k && ((oI c k != 27) && (oI c k != 29))):=by
 unfold plainK
 rw [List.range_succ,List.all_append]
 simp
theorem plainK_all{c:List Ins}{k:Nat}(h:plainK c k=true):∀ j,j < k→oI c j≠27∧oI c j≠29:=by
 intro j hj
 unfold plainK at h
 rw [List.all_eq_true] at h
 have:=h j (List.mem_range.2 hj)
 simpa using this
theorem chkE_nonneg(i:Ins):0≤chkE i:=by
 unfold chkE
 repeat' split
 all_goals decide
theorem codeE_nonneg:∀ l:List Ins,0≤codeE l:=by
 intro l
 induction l with
 | nil=>exact Int.le_refl _
 | cons i l ih=>
  rw [codeE_step]
  split
  ·exact chkE_nonneg i
  ·exact ih
theorem arrGo_nonneg:∀ (l:List Arr) (n:Int),0≤arrGo n l:=by
 intro l
 induction l with
 | nil=>intro n;exact Int.le_refl _
 | cons x l ih=>
  intro n
  unfold arrGo
  split
  ·decide
  ·exact ih _
theorem formE_nonneg(p:Prg):0≤formE p:=by
 unfold formE arrE
 repeat' split
 all_goals first | decide | exact arrGo_nonneg _ _ | exact codeE_nonneg _
theorem at_of{l:List Inv}{zs:List Int}{k:Nat}(h:l.map (fun x=>x.at_)=zs)(hk:k < l.length):gi zs k=(gN l k).at_:=by
 subst h
 unfold gi gN
 rw [List.getD_eq_getElem?_getD,List.getD_eq_getElem?_getD,List.getElem?_map,List.getElem?_eq_getElem hk]
 rfl
theorem gN_mem{l:List Inv}{k:Nat}(hk:k < l.length):gN l k∈l:=by
 unfold gN
 rw [List.getD_eq_getElem?_getD,List.getElem?_eq_getElem hk]
 exact List.getElem_mem _
theorem gL_mem{l:List Iv}{k:Nat}(hk:k < l.length):gL l k∈l:=by
 unfold gL
 rw [List.getD_eq_getElem?_getD,List.getElem?_eq_getElem hk]
 exact List.getElem_mem _
theorem ats_loops{c:List Ins}{l:List Inv}(h:l.map (fun x=>x.at_)=(loopsOf c).map (fun (k:Nat)=>(k:Int))):l.map (fun x=>x.at_)=loopsI c:=h
def RetT(w:World)(e:Ending)(w':World):Prop:=e=.returned (.bool true)∧Below w.heap.size w w'
theorem reports_any(A A':Option Addr)(n c n' c':Nat)(L:Int)(p:Prg)(w:World)(hx:Progs w A n c L A' n' c' p)(hE:ErrR w) :
  Calls Tryz.prog 8 #[.agg #[.slice A n c,.int .i64 L,.slice A' n' c']] w (RetT w):=by
 obtain⟨w0,hw0⟩:∃ w0,w0=w.alloc (.cells #[.slice A n c,.int .i64 L,.slice A' n' c'] 25):=⟨_,rfl⟩
 have g0:Below w.heap.size w w0:=by rw [hw0];exact balloc (Below.refl _ _) _
 have r0:rowV w0 w.heap.size 25 #[.slice A n c,.int .i64 L,.slice A' n' c']:=by rw [hw0];exact rowV.new w _ _
 have HFw:=Lib.hid (few15_any A A' n c n' c' L p w0 (hx.below g0))
 have hwf:Hid (∀ x∈p.code,0≤x.arg∧x.arg < 4294967296):=fun x h=>⟨(hx.code.2.2.1 x h).1,(hx.code.2.2.1 x h).2.1⟩
 have HE:=Lib.hid hE
 have HX:=Lib.hid hx
 have HG:=Lib.hid (And.intro r0 g0)
 have Hw0:=Lib.hid hw0
 obtain⟨c0,c1,c2⟩:=three_cellsV r0
 clear hx hE g0 r0 hw0
 go_enter Tryz.func8,Tryz.ntmps8
 go_upto_region 1 with fail
 rw [←Hw0.out]
 go_wp2_with fail
 refine HFw.out.mono ?_
 intro e w1 hr
 obtain⟨⟨b,rfl,hfew⟩,hb1⟩:=hr
 have r1:=HG.out.1.below hb1 HG.out.1.lt
 have g1:=HG.out.2.trans (hb1.mono HG.out.2.size)
 have H1:=Lib.hid (And.intro r1 g1)
 have Hfew:=Lib.hid hfew
 clear hb1 r1 g1 hfew HFw c0 c1 c2
 cases b with
 | false=>
  have HA:=Lib.hid (awake20_any w1 (HE.out.below H1.out.2))
  go_wp2_with fail
  refine HA.out.mono ?_
  rintro e w2 ⟨rfl,hb2⟩
  have HN:=Lib.hid (H1.out.2.trans (hb2.mono H1.out.2.size))
  clear hb2 HA
  go_wp2_with fail
  go_ret
  exact⟨rfl,HN.out⟩
 | true=>
  obtain⟨hn,hn'⟩:=Hfew.out rfl
  obtain⟨c0,c1,c2⟩:=three_cellsV H1.out.1
  have HV:=Lib.hid (verifyW_any A A' n c n' c' L p w1 (HX.out.below H1.out.2))
  clear Hfew
  go_wp2_with fail
  refine HV.out.mono ?_
  intro e w2 hr
  clear HV
  cases hv:verP p with
  | stuck=>rw [hv] at hr;exact hr.elim
  | bad a x=>
   rw [hv] at hr
   obtain⟨rfl,hb2⟩:=hr
   obtain⟨hal,hx0⟩:=verP_bad hwf.out (formE_nonneg p) hv
   have hal2:(a:Int)≤n':=by have:=HX.out.code.1;omega
   have hal3:a≤n':=by omega
   obtain⟨w3,hw3⟩:∃ z,z=w2.alloc (.cells #[.int .i64 0,.int .i64 0,.int .i64 0,.slice none 0 0] 35):=⟨_,rfl⟩
   have k3:Below w2.heap.size w2 w3:=by rw [hw3];exact balloc (Below.refl _ _) _
   have r3:rowV w3 w2.heap.size 35 #[.int .i64 0,.int .i64 0,.int .i64 0,.slice none 0 0]:=by rw [hw3];exact rowV.new w2 _ _
   have g3:=(H1.out.2.trans (hb2.mono H1.out.2.size)).trans (k3.mono (H1.out.2.trans (hb2.mono H1.out.2.size)).size)
   have q3:=(H1.out.1.below hb2 H1.out.1.lt).below k3 (H1.out.1.below hb2 H1.out.1.lt).lt
   have d1:(x != 0)=true:=by simp;omega
   have d2:decide (0≤(a:Int))=true:=by simp
   have d3:decide ((a:Int)≤(n':Int))=true:=by simp;omega
   have d3':decide (a≤n')=true:=by simp;omega
   have HA:=Lib.hid (awake20_any w3 (HE.out.below g3))
   have H3:=Lib.hid (And.intro r3 (And.intro q3 g3))
   have Hw3:=Lib.hid hw3
   clear hb2 hx0 hal hal2 hal3 hw3 k3 r3 g3 q3 hv c0 c1 c2 hn hn'
   go_upto_region 5 with fail
   rw [←Hw3.out]
   go_wp2_with fail
   refine HA.out.mono ?_
   rintro e w4 ⟨rfl,hb4⟩
   obtain⟨c0,c1,c2⟩:=three_cellsV (H3.out.2.1.below hb4 H3.out.2.1.lt)
   have y3:=(four_cellsV (H3.out.1.below hb4 H3.out.1.lt)).2.2.2
   have HN:=Lib.hid (H3.out.2.2.trans (hb4.mono H3.out.2.2.size))
   clear hb4 HA
   go_wp2_with fail
   go_ret
   exact⟨rfl,HN.out⟩
  | ok rp=>
   rw [hv] at hr
   obtain⟨⟨D,m,d,rfl,hinv⟩,hb2⟩:=hr
   have HRo:=Lib.hid (reports_of hwf.out hv)
   have hchk:=(verP_of hv).1
   obtain⟨hok,-,t,ht,-⟩:=prgOk_of hwf.out hchk
   have hpe:(parE p.code).2=0:=by unfold parE;rw [if_neg (by have:=hok.len;omega),ht]
   have hxl:=HX.out.code.1
   have hlen2:p.code.length≤1024:=hok.len
   obtain⟨⟨rs,re,rh,ri⟩,hrp⟩:∃ z,z=rp:=⟨_,rfl⟩
   rw [←hrp] at HRo hinv
   rw [←hrp]
   simp only [] at hinv
   obtain⟨w3,hw3⟩:∃ z,z=w2.alloc (.cells #[.int .i64 rs,.int .i64 re,.int .i64 rh,.slice D m d] 35):=⟨_,rfl⟩
   have k3:Below w2.heap.size w2 w3:=by rw [hw3];exact balloc (Below.refl _ _) _
   have r3:rowV w3 w2.heap.size 35 #[.int .i64 rs,.int .i64 re,.int .i64 rh,.slice D m d]:=by rw [hw3];exact rowV.new w2 _ _
   have g3:=(H1.out.2.trans (hb2.mono H1.out.2.size)).trans (k3.mono (H1.out.2.trans (hb2.mono H1.out.2.size)).size)
   have q3:=(H1.out.1.below hb2 H1.out.1.lt).below k3 (H1.out.1.below hb2 H1.out.1.lt).lt
   have i3:=hinv.invs.below k3
   have hlp:(loopsI p.code).length=m:=by
    rw [←i3.1]
    have h1:=HRo.out.ats
    have h2:=congrArg List.length h1
    simp only [List.length_map] at h2
    unfold loopsI
    rw [List.length_map]
    exact h2.symm
   have hm:m≤1024:=by
    rw [←hlp]
    unfold loopsI loopsOf
    rw [List.length_map]
    exact Nat.le_trans (List.length_filter_le _ _) (by rw [List.length_range];exact hlen2)
   have HL:=loopsW_any A' n' c' p.code w3 (HX.out.code.below g3) (by omega)
   rw [hpe] at HL
   have HL:=Lib.hid HL
   have H3:=Lib.hid (And.intro r3 (And.intro q3 (And.intro g3 i3)))
   have Hlp:=Lib.hid (And.intro hlp hxl)
   have Hw3:=Lib.hid hw3
   have e1:decide (re < 0)=false:=by have h:0≤re∧re≤rs:=HRo.out.emits;simp;omega
   have e2:decide (rs < re)=false:=by have h:0≤re∧re≤rs:=HRo.out.emits;simp;omega
   have e3:decide (281474976710656 < rs)=false:=by have h:rs≤281474976710656:=HRo.out.steps;simp;omega
   have e4:decide (rh < 0)=false:=by have h:0≤rh∧rh≤32:=HRo.out.hgt;simp;omega
   have e5:decide (32 < rh)=false:=by have h:0≤rh∧rh≤32:=HRo.out.hgt;simp;omega
   clear hb2 hchk hok ht hpe hrp hw3 k3 r3 g3 q3 i3 hlp hv hinv c0 c1 c2 hxl hlen2
   go_upto_region 4 with fail
   rw [←Hw3.out]
   obtain⟨c0,c1,c2⟩:=three_cellsV H3.out.2.1
   go_wp2_with fail
   refine HL.out.mono ?_
   rintro e w4 ⟨A5,n5,c5,rfl,hb4,ho4⟩
   have hz4:=(ho4 trivial).intsZ
   obtain rfl:n5=m:=hz4.1.symm.trans Hlp.out.1
   have r4:=H3.out.1.below hb4 H3.out.1.lt
   have q4:=H3.out.2.1.below hb4 H3.out.2.1.lt
   have H4:=Lib.hid (And.intro r4 (And.intro q4 (And.intro (H3.out.2.2.1.trans (hb4.mono H3.out.2.2.1.size)) (And.intro (H3.out.2.2.2.below hb4) hz4))))
   obtain⟨y0,y1,y2,y3⟩:=four_cellsV r4
   clear HL ho4 hz4 r4 q4 hb4 c0 c1 c2
   go_wp2_with fail
   go_loopw [8,9,10] (fun i _ _ wr=>∃ k:Nat,k≤n5∧i=.int .i64 (k:Int)∧Hid (Below w4.heap.size w4 wr)) (fun i _ _ _=>n5-(intOf i).toNat)
   case atStart=>exact⟨0,Nat.zero_le _,rfl,Lib.hid (Below.refl _ _)⟩
   case round=>
    obtain⟨k,hk,rfl,HB⟩:=hrel
    obtain⟨wo,rfl⟩:∃ wo,wo=wr:=⟨_,rfl⟩
    have rr:=H4.out.1.below HB.out H4.out.1.lt
    have qq:=H4.out.2.1.below HB.out H4.out.2.1.lt
    obtain⟨y0,y1,y2,y3⟩:=four_cellsV rr
    by_cases hlt:k < n5
    ·have dk:decide ((k:Int) < (n5:Int))=true:=by simp;omega
     have dk':decide (k < n5)=true:=by simp;omega
     obtain⟨b,off,rfl,hb,x0,x1,A2,c2',x2,hiv⟩:=(H4.out.2.2.2.1.below HB.out).get hlt
     obtain⟨lb,lo,rfl,hlb,hlc⟩:=(H4.out.2.2.2.2.below HB.out).get hlt
     have z0:=hlc k hlt
     have hril:ri.length=n5:=H4.out.2.2.2.1.1
     have hkl:k < ri.length:=by omega
     rw [at_of (ats_loops HRo.out.ats) hkl] at z0
     have hmem:=HRo.out.inv _ (gN_mem hkl)
     obtain⟨⟨xa,xm,xl⟩,hxx⟩:∃ z,z=gN ri k:=⟨_,rfl⟩
     rw [←hxx] at x0 x1 x2 hiv z0 hmem
     simp only [] at x0 x1 x2 hiv z0 hmem
     obtain⟨hm0,hm1,hm2,hm3⟩:=hmem
     obtain⟨Ln,hL⟩:∃ L,L=xl.length:=⟨_,rfl⟩
     rw [←hL] at x2 hiv hm2
     have hLL:(Ln:Int)=L:=by rw [hm2,HX.out.locs]
     have b1:decide (xm < 0)=false:=by simp;omega
     have b2:decide ((65536:Int) < xm)=false:=by simp;omega
     have b3:((Ln:Int) != L)=false:=by simp [hLL]
     have HI:=Lib.hid (fun y (hy:y∈xl)=>hm3 y hy)
     have HLn:=Lib.hid hL
     have hLnB:(Ln:Int)≤9223372036854775807:=by have h:=HX.out.wf;simp [Lit.wf,IntKind.min,IntKind.max,IntKind.bits,IntKind.signed] at h;omega
     clear hxx hL hm0 hm1 hm2 hm3 hlc hLL hril hkl
     go_upto_region 13 with fail
     obtain⟨W1,hW1⟩:∃ z,z=wo.alloc (.cells #[.int .i64 xa,.int .i64 xm,.slice A2 Ln c2'] 50):=⟨_,rfl⟩
     rw [←hW1]
     have kW:Below wo.heap.size wo W1:=by rw [hW1];exact balloc (Below.refl _ _) _
     have rW:rowV W1 wo.heap.size 50 #[.int .i64 xa,.int .i64 xm,.slice A2 Ln c2']:=by rw [hW1];exact rowV.new wo _ _
     obtain⟨p0,p1,p2⟩:=three_cellsV rW
     obtain⟨c0,c1,c2⟩:=three_cellsV (qq.below kW qq.lt)
     have z0:=(kW.cell (p:=⟨lb,lo+k,none⟩) hlb).trans z0
     have l6:=rW.lt
     have HW1:=Lib.hid (And.intro (HB.out.trans (kW.mono HB.out.size)) (hiv.below kW))
     clear hW1 kW rW x0 x1 x2 y0 y1 y2 y3 rr qq hiv
     go_wp2_with fail
     go_quiet (fail)
     obtain⟨W,hW⟩:∃ W,W=W1.drewN nq:=⟨_,rfl⟩
     rw [←hW]
     have p2:W.cell? ⟨wo.heap.size,2,none⟩=some (.slice A2 Ln c2'):=by rw [hW];exact p2
     have l6:wo.heap.size < W.heap.size:=by rw [hW];exact l6
     have HW:Hid (Below w4.heap.size w4 W∧Ivs W A2 Ln c2' xl):=by rw [hW];exact⟨bdrew HW1.out.1 _,HW1.out.2.below (bdrew (Below.refl _ _) _)⟩
     clear hW p0 p1 c0 c1 c2 z0 HW1
     go_wp2_with fail
     go_loopw [10] (fun i wz=>∃ j:Nat,j≤Ln∧i=.int .i64 (j:Int)∧Hid (Below W.heap.size W wz)) (fun i _=>Ln-(intOf i).toNat)
     case atStart=>exact⟨0,Nat.zero_le _,rfl,Lib.hid (Below.refl _ _)⟩
     case round=>
      obtain⟨j,hj,rfl,HZ⟩:=hrel
      have p2:=(HZ.out.cell (p:=⟨wo.heap.size,2,none⟩) l6).trans p2
      by_cases hjl:j < Ln
      ·have ek:decide ((j:Int) < (Ln:Int))=true:=by simp;omega
       have ek':decide (j < Ln)=true:=by simp;omega
       obtain⟨ib,io,rfl,hib,hic⟩:=HW.out.2.2.2 (by omega)
       have s0:wr.cell? ⟨ib,io+j * 2,none⟩=some (.int .i64 (gL xl j).lo):=(HZ.out.cell (p:=⟨ib,io+j * 2,none⟩) hib).trans (hic j hjl).1
       have s1:wr.cell? ⟨ib,io+j * 2+1,none⟩=some (.int .i64 (gL xl j).hi):=(HZ.out.cell (p:=⟨ib,io+j * 2+1,none⟩) hib).trans (hic j hjl).2
       have hz:ivE (gL xl j)=0:=HI.out _ (gL_mem (by rw [←HLn.out];exact hjl))
       have HC:=checkI_any (gL xl j) wr
       rw [hz] at HC
       have HC:=Lib.hid HC
       obtain⟨⟨vl,vh⟩,hv⟩:∃ z,z=gL xl j:=⟨_,rfl⟩
       rw [←hv] at s0 s1 HC
       simp only [] at s0 s1 HC
       clear hic hv hz
       go_wp2_with fail
       refine HC.out.mono ?_
       rintro e wq ⟨rfl,hbq⟩
       have HN:=Lib.hid (HZ.out.trans (hbq.mono HZ.out.size))
       clear hbq HC
       go_wp2_with fail
       go_roundw
       case rel=>exact⟨j+1,by omega,by go_num,HN⟩
       case measure=>(simp [intOf]) <;> omega
      ·obtain rfl:j=Ln:=by omega
       have ek:decide ((j:Int) < (j:Int))=false:=by simp
       have HN:=Lib.hid (HW.out.1.trans (HZ.out.mono HW.out.1.size))
       go_wp2_with fail
       go_roundw
       case rel=>exact⟨k+1,by omega,by go_num,HN⟩
       case measure=>(simp [intOf]) <;> omega
    ·obtain rfl:k=n5:=by omega
     have dk:decide ((k:Int) < (k:Int))=false:=by simp
     obtain⟨c0,c1,c2⟩:=three_cellsV qq
     have HD:=Lib.hid (HX.out.code.below (H4.out.2.2.1.trans (HB.out.mono H4.out.2.2.1.size)))
     go_wp2_with fail
     go_loop [11,12] (fun b i=>∃ k:Nat,k≤n'∧i=.int .i64 (k:Int)∧b=.bool (plainK p.code k)) (fun _ i=>n'-(intOf i).toNat)
     case atStart=>exact⟨0,Nat.zero_le _,rfl,rfl⟩
     case round=>
      obtain⟨v,hv,rfl,rfl⟩:=hrel
      by_cases hvl:v < n'
      ·have ek:decide ((v:Int) < (n':Int))=true:=by simp;omega
       have ek':decide (v < n')=true:=by simp;omega
       obtain⟨cb,off,rfl,hcb,hcell⟩:=HD.out.get hvl
       have x0:wo.cell? ⟨cb,off+v * 2,none⟩=some (.int .i64 (oI p.code v)):=(hcell v hvl).1
       clear hcell
       have hnx:=Lib.hid (plainK_next p.code v)
       cases hb:plainK p.code v with
       | false=>
        rw [hb] at hnx
        go_wp2_with fail
        go_round
        case rel=>exact⟨v+1,by omega,by go_num,by rw [hnx.out];simp⟩
        case measure=>(simp [intOf]) <;> omega
       | true=>
        rw [hb] at hnx
        obtain⟨op,hop⟩:∃ op,op=oI p.code v:=⟨_,rfl⟩
        rw [←hop] at x0 hnx
        clear hop
        by_cases h27:op=27
        ·subst h27
         go_wp2_with fail
         go_round
         case rel=>exact⟨v+1,by omega,by go_num,by rw [hnx.out];simp⟩
         case measure=>(simp [intOf]) <;> omega
        have e27:(op != 27)=true:=by simp [h27]
        by_cases h29:op=29
        ·subst h29
         go_wp2_with fail
         go_round
         case rel=>exact⟨v+1,by omega,by go_num,by rw [hnx.out];simp⟩
         case measure=>(simp [intOf]) <;> omega
        have e29:(op != 29)=true:=by simp [h29]
        go_wp2_with fail
        go_round
        case rel=>exact⟨v+1,by omega,by go_num,by rw [hnx.out,e27,e29];simp⟩
        case measure=>(simp [intOf]) <;> omega
      ·obtain rfl:v=n':=by omega
       have ek:decide ((v:Int) < (v:Int))=false:=by simp
       have gN:=H4.out.2.2.1.trans (HB.out.mono H4.out.2.2.1.size)
       have HA:=Lib.hid (awake20_any wo (HE.out.below gN))
       have HY:=Lib.hid (And.intro rr (And.intro qq gN))
       clear gN rr qq y0 y1 y2 y3
       have hlen:=HX.out.code.1
       cases hb:plainK p.code v with
       | false=>
        go_wp2_with fail
        refine HA.out.mono ?_
        rintro e wz ⟨rfl,hbz⟩
        have HN:=Lib.hid (HY.out.2.2.trans (hbz.mono HY.out.2.2.size))
        clear hbz HA c0 c1 c2
        go_wp2_with fail
        go_ret
        exact⟨rfl,HN.out⟩
       | true=>
        have hst:rs=(v:Int):=by
         have h9:rs=(p.code.length:Int):=HRo.out.plain (fun j hj=>plainK_all hb j (by omega))
         rw [h9,hlen]
        have eS:((rs:Int)==(v:Int))=true:=by rw [hst];simp
        go_wp2_with fail
        refine HA.out.mono ?_
        rintro e wz ⟨rfl,hbz⟩
        clear c0 c1 c2
        obtain⟨y0,y1,y2,y3⟩:=four_cellsV (HY.out.1.below hbz HY.out.1.lt)
        obtain⟨c0,c1,c2⟩:=three_cellsV (HY.out.2.1.below hbz HY.out.2.1.lt)
        have HN:=Lib.hid (HY.out.2.2.trans (hbz.mono HY.out.2.2.size))
        clear hbz HA
        go_wp2_with fail
        go_ret
        exact⟨rfl,HN.out⟩
end Go.Proofs.YtepoclhdklgnhaaGreatDoor
