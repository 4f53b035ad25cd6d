/- Mc Md Me. -/
import Derived.Test.YtepoclhdklgnhaaGreatDoorRC37
import Derived.Test.YtepoclhdklgnhaaGreatDoorRC30
import Derived.Deep.RegionHeld3
set_option maxRecDepth 100000
set_option maxHeartbeats 40000000
set_option linter.unusedVariables false
set_option linter.unusedSimpArgs false
namespace Go.Proofs.YtepoclhdklgnhaaGreatDoor
open Go.RowKit Go.Proofs
theorem confirmW_any(A A' D:Option Addr)(n c n' c' m d:Nat)(L:Int)(p:Prg)(r:Rp)(w:World)(hx:Progs w A n c L A' n' c' p)(hl:Invs w D m d r.inv)(hm:m≤1000)(hll:∀ x∈r.inv,x.locs.length≤1000) :
  Calls Tryz.prog 18 #[.agg #[.slice A n c,.int .i64 L,.slice A' n' c'],.agg #[.int .i64 r.steps,.int .i64 r.emits,.int .i64 r.hgt,.slice D m d]] w (ChkR w (conP p r)):=by
 obtain⟨w0,hw0,g0,r0,rr0,s0⟩:=for_boxes w A A' D n c n' c' m d L r.steps r.emits r.hgt
 have H1:=Lib.hid (checkW_any A A' n c n' c' L p w0 (hx.below g0))
 have hwf:Hid (∀ x∈p.code,0≤x.arg∧x.arg < 4294967296):=fun x h=>⟨(hx.code.2.2.1 x h).1,(hx.code.2.2.1 x h).2.1⟩
 have HX:=Lib.hid (And.intro (hx.below g0) (hl.below g0))
 have HG:=Lib.hid (And.intro r0 (And.intro rr0 g0))
 have Hw0:=Lib.hid hw0
 have HLL:=Lib.hid hll
 obtain⟨c0,c1,c2⟩:=three_cellsV r0
 have hE:Hid (∀ t,(chkP p).2=0→treeOf p=t→outV (conO p r t)=(((conP p r).1:Int),(conP p r).2)):=fun t h1 h2=>conP_of h1 h2
 have hE1:Hid ((chkP p).2≠0→conP p r=chkP p):=fun h=>by unfold conP;rw [if_pos h]
 clear hx hl hll g0 r0 rr0 hw0 s0
 obtain⟨ka,ke,hke⟩:∃ a e,chkP p=(a,e):=⟨_,_,rfl⟩
 rw [hke] at H1 hE hE1
 simp only [] at hE hE1
 have hmf:∀ (fn:Fn) (first cap:Array Value) (w:World),(Instr.makeFunc fn first cap).run Tryz.prog w=.ok (.func fn first cap) w:=fun _ _ _ _=>rfl
 go_enter Tryz.func18,Tryz.ntmps18
 go_upto_region 1 with fail
 rw [←Hw0.out]
 go_wp2_with fail
 refine H1.out.mono ?_
 intro e w1 hr
 obtain⟨rfl,hb1⟩:=hr
 have r1:=HG.out.1.below hb1 HG.out.1.lt
 have rr1:=HG.out.2.1.below hb1 HG.out.2.1.lt
 have g1:=HG.out.2.2.trans (hb1.mono HG.out.2.2.size)
 have hx1:=HX.out.1.below hb1
 have hl1:=HX.out.2.below hb1
 clear H1 c0 c1 c2
 by_cases hf:ke=0
 rotate_left 1
 ·have d1:(ke != 0)=true:=by simpa using hf
  have hE2:Hid (conP p r=(ka,ke)):=hE1.out hf
  have HR:=Lib.hid g1
  clear hf hke r1 rr1 g1 hx1 hl1 hb1
  go_wp2_with fail
  refine bodyPost_ret (v:=.tuple #[.int .i64 (ka:Int),.int .i64 ke]) (by simp [results,Tryz.results18,go_sem]) rfl ?_
  rw [hE2.out]
  exact⟨rfl,HR.out⟩
 ·subst hf
  obtain⟨hok,hfe,t,ht,htr⟩:=prgOk_of hwf.out (by rw [hke])
  have hE2:=Lib.hid (hE.out t rfl htr)
  have HGu:=Lib.hid (guarded_any w1.heap.size 37 w.heap.size (w.heap.size+1) (conO p r t) (fun _=>True) w1 (Nat.le_refl _) (enters_of Tryz.func37 (by kernel_rfl) rfl)
   (fun w3 hb3 hs3 hi0 hi1=>confirm1_any w1.heap.size w3 w.heap.size (w.heap.size+1) w1.heap.size A A' D n c n' c' m d L p r (hx1.below hb3) hok t ht (hl1.below hb3) hm HLL.out (r1.below hb3 r1.lt) (rr1.below hb3 rr1.lt) hb3.size hi0 hi1))
  have HR1:=Lib.hid g1
  clear hke r1 rr1 g1 hx1 hl1 hb1 hok hfe ht htr hE hE1
  go_wp2_with fail
  refine HGu.out.mono ?_
  intro e w3 hr
  clear HGu
  obtain⟨o,ho⟩:∃ o,o=conO p r t:=⟨_,rfl⟩
  rw [←ho] at hr hE2
  clear ho
  have hr2:e=.returned (.tuple #[.int .i64 (outV o).1,.int .i64 (outV o).2])∧Below w1.heap.size w1 w3:=by
   cases o with
   | none=>exact⟨hr.1.1,hr.2⟩
   | some ax=>exact⟨hr.1,hr.2⟩
  obtain⟨rfl,hb3⟩:=hr2
  clear hr
  have HN:=Lib.hid (HR1.out.trans (hb3.mono HR1.out.size))
  rw [hE2.out]
  clear hb3
  go_wp2_with fail
  refine bodyPost_ret (v:=.tuple #[.int .i64 ((conP p r).1:Int),.int .i64 (conP p r).2]) (by simp [results,Tryz.results18,go_sem]) rfl ?_
  exact⟨rfl,HN.out⟩
def FewR(n n':Nat)(w:World)(e:Ending)(w':World):Prop:=(∃ b,e=.returned (.bool b)∧(b=true→n≤20∧n'≤200))∧Below w.heap.size w w'
theorem few15_any(A A':Option Addr)(n c n' c':Nat)(L:Int)(p:Prg)(w:World)(hx:Progs w A n c L A' n' c' p) :
  Calls Tryz.prog 10 #[.agg #[.slice A n c,.int .i64 L,.slice A' n' c']] w (FewR n n' w):=by
 obtain⟨w0,hw0⟩:∃ w0,w0=w.alloc (.cells #[.slice A n c,.int .i64 L,.slice A' n' c'] 25):=⟨_,rfl⟩
 have g0:Below w.heap.size w w0:=by rw [hw0];exact balloc (Below.refl _ _) _
 have r0:rowV w0 w.heap.size 25 #[.slice A n c,.int .i64 L,.slice A' n' c']:=by rw [hw0];exact rowV.new w _ _
 have HX:=Lib.hid (hx.below g0)
 have HG:=Lib.hid (And.intro r0 g0)
 have Hw0:=Lib.hid hw0
 obtain⟨c0,c1,c2⟩:=three_cellsV r0
 clear hx g0 r0 hw0
 by_cases h1:20 < n
 ·have d1:decide ((20:Int) < (n:Int))=true:=by simp;omega
  have d1':decide (20 < n)=true:=by simp;omega
  go_enter Tryz.func10,Tryz.ntmps10
  go_upto_region 1 with fail
  rw [←Hw0.out]
  go_wp2_with fail
  go_ret
  exact⟨⟨false,rfl,fun h=>by cases h⟩,HG.out.2⟩
 have d1:decide ((20:Int) < (n:Int))=false:=by simp;omega
 have d1':decide (20 < n)=false:=by simp;omega
 by_cases h2:200 < n'
 ·have d2:decide ((200:Int) < (n':Int))=true:=by simp;omega
  have d2':decide (200 < n')=true:=by simp;omega
  go_enter Tryz.func10,Tryz.ntmps10
  go_upto_region 1 with fail
  rw [←Hw0.out]
  go_wp2_with fail
  go_ret
  exact⟨⟨false,rfl,fun h=>by cases h⟩,HG.out.2⟩
 have d2:decide ((200:Int) < (n':Int))=false:=by simp;omega
 have d2':decide (200 < n')=false:=by simp;omega
 have HS:=Lib.hid (shallow_any A' n' c' p.code w0 HX.out.code (by omega))
 go_enter Tryz.func10,Tryz.ntmps10
 go_upto_region 1 with fail
 rw [←Hw0.out]
 go_wp2_with fail
 refine HS.out.mono ?_
 rintro e w1 ⟨⟨b,rfl⟩,hb1⟩
 have r1:=HG.out.1.below hb1 HG.out.1.lt
 have HR1:=Lib.hid (And.intro r1 (And.intro (HG.out.2.trans (hb1.mono HG.out.2.size)) (HX.out.arrs.below hb1)))
 clear HS hb1 r1 c0 c1 c2
 obtain⟨c0,c1,c2⟩:=three_cellsV HR1.out.1
 cases b with
 | false=>
  go_wp2_with fail
  go_ret
  exact⟨⟨false,rfl,fun h=>by cases h⟩,HR1.out.2.1⟩
 | true=>
  go_wp2_with fail
  go_loop [3] (fun i=>∃ k:Nat,k≤n∧i=.int .i64 (k:Int)) (fun i=>n-(intOf i).toNat)
  case atStart=>exact⟨0,Nat.zero_le _,rfl⟩
  case round=>
   obtain⟨k,hk,rfl⟩:=hrel
   by_cases hlt:k < n
   ·have dk:decide ((k:Int) < (n:Int))=true:=by simp;omega
    have dk':decide (k < n)=true:=by simp;omega
    obtain⟨cb,off,rfl,hcb,hcell⟩:=HR1.out.2.2.get hlt
    have x0:=(hcell k hlt).1
    have x1:=(hcell k hlt).2
    clear hcell
    obtain⟨sz,hsz⟩:∃ z,z=(gA p.arrs k).size:=⟨_,rfl⟩
    rw [←hsz] at x1
    clear hsz
    by_cases h3:300 < sz
    ·have e1:decide ((300:Int) < sz)=true:=decide_eq_true h3
     by_cases h4:sz≤65536
     ·have e2:decide (sz≤(65536:Int))=true:=decide_eq_true h4
      go_wp2_with fail
      go_ret
      exact⟨⟨false,rfl,fun h=>by cases h⟩,HR1.out.2.1⟩
     ·have e2:decide (sz≤(65536:Int))=false:=decide_eq_false h4
      go_wp2_with fail
      go_round
      case rel=>exact⟨k+1,by omega,by go_num⟩
      case measure=>(simp [intOf]) <;> omega
    ·have e1:decide ((300:Int) < sz)=false:=decide_eq_false h3
     go_wp2_with fail
     go_round
     case rel=>exact⟨k+1,by omega,by go_num⟩
     case measure=>(simp [intOf]) <;> omega
   ·obtain rfl:k=n:=by omega
    have dk:decide ((k:Int) < (k:Int))=false:=by simp
    go_wp2_with fail
    go_ret
    exact⟨⟨true,rfl,fun _=>⟨by omega,by omega⟩⟩,HR1.out.2.1⟩
theorem stIv:Tryz.prog.stoodInHeld 55=false:=by kernel_rfl
theorem utIv:Tryz.prog.underlying 55=some (.struct (Tryz.prog.fieldsOf 55)):=by kernel_rfl
theorem neqIvS(a b:Int)(W:World):(binOp .neq 55 (.agg #[.int .i64 a,.int .i64 b]) (.agg #[.int .i64 a,.int .i64 b])).run Tryz.prog W=.ok (.bool false) W:=by
 rw [run_neq_struct,run_equalIn_agg W 9999 _ _ _ utIv stIv]
 simp [go_sem,part]
theorem two_reps(w:World)(A D:Option Addr)(m c d:Nat)(s e h:Int):∃ w1,w1=(w.alloc (.cells #[.int .i64 s,.int .i64 e,.int .i64 h,.slice A m c] 35)).alloc (.cells #[.int .i64 s,.int .i64 e,.int .i64 h,.slice D m d] 35)∧Below w.heap.size w w1∧rowV w1 w.heap.size 35 #[.int .i64 s,.int .i64 e,.int .i64 h,.slice A m c]∧rowV w1 (w.heap.size+1) 35 #[.int .i64 s,.int .i64 e,.int .i64 h,.slice D m d]∧w1.heap.size=w.heap.size+1+1:=by
 have r1:=rowV.new w 35 #[.int .i64 s,.int .i64 e,.int .i64 h,.slice A m c]
 have e1:(w.alloc (.cells #[.int .i64 s,.int .i64 e,.int .i64 h,.slice A m c] 35)).heap.size=w.heap.size+1:=by simp
 obtain⟨wa,hwa⟩:∃ x,x=w.alloc (.cells #[.int .i64 s,.int .i64 e,.int .i64 h,.slice A m c] 35):=⟨_,rfl⟩
 have k1:Below w.heap.size w wa:=by rw [hwa];exact balloc (Below.refl _ _) _
 rw [←hwa] at r1 e1 ⊢
 have r3:=rowV.new wa 35 #[.int .i64 s,.int .i64 e,.int .i64 h,.slice D m d]
 have k3:Below wa.heap.size wa (wa.alloc (.cells #[.int .i64 s,.int .i64 e,.int .i64 h,.slice D m d] 35)):=balloc (Below.refl _ _) _
 rw [e1] at r3
 exact⟨_,rfl,k1.trans (k3.mono k1.size),r1.below k3 r1.lt,r3,by simp [e1]⟩
theorem same20_any(A D:Option Addr)(m c d:Nat)(s e0 h:Int)(l:List Inv)(w:World)(hx:Invs w A m c l)(hy:Invs w D m d l)(hm:m≤1000)(hll:∀ x∈l,x.locs.length≤1000) :
  Calls Tryz.prog 16 #[.agg #[.int .i64 s,.int .i64 e0,.int .i64 h,.slice A m c],.agg #[.int .i64 s,.int .i64 e0,.int .i64 h,.slice D m d]] w fun e w'=>e=.returned (.bool true)∧Below w.heap.size w w':=by
 obtain⟨w0,hw0,g0,r0,rr0,s0⟩:=two_reps w A D m c d s e0 h
 have HX:=Lib.hid (And.intro (hx.below g0) (hy.below g0))
 have HG:=Lib.hid (And.intro r0 (And.intro rr0 g0))
 have Hw0:=Lib.hid hw0
 have HLL:=Lib.hid hll
 have Hlen:=Lib.hid hx.1
 obtain⟨c0,c1,c2,c3⟩:=four_cellsV r0
 obtain⟨d0,d1,d2,d3⟩:=four_cellsV rr0
 have hrl:=r0.lt
 have hrl1:=rr0.lt
 clear hx hy hll g0 r0 rr0 hw0 s0
 go_enter Tryz.func16,Tryz.ntmps16
 go_upto_region 1 with fail
 rw [←Hw0.out]
 go_wp2_with fail
 go_loopw [5,6,7,8] (fun i _ _ _ wr=>∃ k:Nat,k≤m∧i=.int .i64 (k:Int)∧Hid (Below w0.heap.size w0 wr)) (fun i _ _ _ _=>m-(intOf i).toNat)
 case atStart=>exact⟨0,Nat.zero_le _,rfl,Lib.hid (Below.refl _ _)⟩
 case round=>
  obtain⟨k,hk,rfl,HB⟩:=hrel
  obtain⟨wo,rfl⟩:∃ wo,wo=wr:=⟨_,rfl⟩
  have e3:=(HB.out.cell (p:=⟨w.heap.size,3,none⟩) hrl).trans c3
  have f3:=(HB.out.cell (p:=⟨w.heap.size+1,3,none⟩) hrl1).trans d3
  by_cases hlt:k < m
  ·have dk:decide ((k:Int) < (m:Int))=true:=by simp;omega
   have dk':decide (k < m)=true:=by simp;omega
   obtain⟨b,off,rfl,hb,x0,x1,A2,c2',x2,hiv⟩:=(HX.out.1.below HB.out).get hlt
   obtain⟨b2,off2,rfl,hb2,y0,y1,D2,d2',y2,hjv⟩:=(HX.out.2.below HB.out).get hlt
   have hx1000:(gN l k).locs.length≤1000:=HLL.out _ (by unfold gN;rw [List.getD_eq_getElem?_getD,List.getElem?_eq_getElem (by rw [Hlen.out];exact hlt)];exact List.getElem_mem _)
   obtain⟨⟨xa,xm,xl⟩,hxx⟩:∃ z,z=gN l k:=⟨_,rfl⟩
   rw [←hxx] at x0 x1 x2 hiv y0 y1 y2 hjv hx1000
   simp only [] at x0 x1 x2 hiv y0 y1 y2 hjv hx1000
   obtain⟨Ln,hL⟩:∃ L,L=xl.length:=⟨_,rfl⟩
   rw [←hL] at x2 hiv y2 hjv hx1000
   clear hxx hL
   go_wp2_with fail
   go_region_held3 (fun W=>W.cell? ⟨w.heap.size,3,none⟩=some (.slice (some ⟨b,off,none⟩) m c)∧W.cell? ⟨w.heap.size+1,3,none⟩=some (.slice (some ⟨b2,off2,none⟩) m d)∧W.cell? ⟨b,off+k * 3,none⟩=some (.int .i64 xa)∧W.cell? ⟨b,off+k * 3+1,none⟩=some (.int .i64 xm)∧W.cell? ⟨b,off+k * 3+2,none⟩=some (.slice A2 Ln c2')∧W.cell? ⟨b2,off2+k * 3,none⟩=some (.int .i64 xa)∧W.cell? ⟨b2,off2+k * 3+1,none⟩=some (.int .i64 xm)∧W.cell? ⟨b2,off2+k * 3+2,none⟩=some (.slice D2 Ln d2'))
    (first | go_keep)
    (first | fail)
   all_goals
    rename_i hHeld
    clear hHeld x0 x1 x2 y0 y1 y2 e3 f3
   all_goals
    first
     | (obtain⟨W,hW⟩:∃ W,W=((wo.alloc (.cells #[.int .i64 xa,.int .i64 xm,.slice A2 Ln c2'] 50)).alloc (.cells #[.int .i64 xa,.int .i64 xm,.slice D2 Ln d2'] 50)).drew:=⟨_,rfl⟩;rw [←hW];have hbW:Below wo.heap.size wo W:=(by rw [hW];exact bdrew (balloc (balloc (Below.refl _ _) _) _) 1);have r6:rowV W wo.heap.size 50 #[.int .i64 xa,.int .i64 xm,.slice A2 Ln c2']:=(by rw [hW];exact (rowV.new wo _ _).below (bdrew (balloc (Below.refl _ _) _) 1) (by simp));have r7:rowV W (wo.heap.size+1) 50 #[.int .i64 xa,.int .i64 xm,.slice D2 Ln d2']:=(by rw [hW];have h9:=rowV.new (wo.alloc (.cells #[.int .i64 xa,.int .i64 xm,.slice A2 Ln c2'] 50)) 50 #[.int .i64 xa,.int .i64 xm,.slice D2 Ln d2'];rw [show (wo.alloc (.cells #[.int .i64 xa,.int .i64 xm,.slice A2 Ln c2'] 50)).heap.size=wo.heap.size+1 by simp] at h9;exact h9))
     | (obtain⟨W,hW⟩:∃ W,W=((wo.alloc (.cells #[.int .i64 xa,.int .i64 xm,.slice D2 Ln d2'] 50)).alloc (.cells #[.int .i64 xa,.int .i64 xm,.slice A2 Ln c2'] 50)).drew:=⟨_,rfl⟩;rw [←hW];have hbW:Below wo.heap.size wo W:=(by rw [hW];exact bdrew (balloc (balloc (Below.refl _ _) _) _) 1);have r6:rowV W wo.heap.size 50 #[.int .i64 xa,.int .i64 xm,.slice D2 Ln d2']:=(by rw [hW];exact (rowV.new wo _ _).below (bdrew (balloc (Below.refl _ _) _) 1) (by simp));have r7:rowV W (wo.heap.size+1) 50 #[.int .i64 xa,.int .i64 xm,.slice A2 Ln c2']:=(by rw [hW];have h9:=rowV.new (wo.alloc (.cells #[.int .i64 xa,.int .i64 xm,.slice D2 Ln d2'] 50)) 50 #[.int .i64 xa,.int .i64 xm,.slice A2 Ln c2'];rw [show (wo.alloc (.cells #[.int .i64 xa,.int .i64 xm,.slice D2 Ln d2'] 50)).heap.size=wo.heap.size+1 by simp] at h9;exact h9))
   all_goals
    obtain⟨p0,p1,p2⟩:=three_cellsV r6
    obtain⟨q0,q1,q2⟩:=three_cellsV r7
    have l6:=r6.lt
    have l7:=r7.lt
    have HW:Hid (Below w0.heap.size w0 W∧Ivs W A2 Ln c2' xl∧Ivs W D2 Ln d2' xl):=⟨HB.out.trans (hbW.mono HB.out.size),hiv.below hbW,hjv.below hbW⟩
    clear hW hbW hiv hjv r6 r7
    go_wp2_with fail
    go_loopw [8] (fun i wz=>∃ j:Nat,j≤Ln∧i=.int .i64 (j:Int)∧Hid (Below W.heap.size W wz)) (fun i _=>Ln-(intOf i).toNat)
    case atStart=>exact⟨0,Nat.zero_le _,rfl,Lib.hid (Below.refl _ _)⟩
    case round=>
     obtain⟨j,hj,rfl,HZ⟩:=hrel
     have p2:=(HZ.out.cell (p:=⟨wo.heap.size,2,none⟩) l6).trans p2
     have q2:=(HZ.out.cell (p:=⟨wo.heap.size+1,2,none⟩) l7).trans q2
     by_cases hjl:j < Ln
     ·have ek:decide ((j:Int) < (Ln:Int))=true:=by simp;omega
      have ek':decide (j < Ln)=true:=by simp;omega
      obtain⟨ib,io,rfl,hib,hic⟩:=HW.out.2.1.2.2 (by omega)
      obtain⟨jb,jo,rfl,hjb,hjc⟩:=HW.out.2.2.2.2 (by omega)
      have s0:wr.cell? ⟨ib,io+j * 2,none⟩=some (.int .i64 (gL xl j).lo):=(HZ.out.cell (p:=⟨ib,io+j * 2,none⟩) hib).trans (hic j hjl).1
      have s1:wr.cell? ⟨ib,io+j * 2+1,none⟩=some (.int .i64 (gL xl j).hi):=(HZ.out.cell (p:=⟨ib,io+j * 2+1,none⟩) hib).trans (hic j hjl).2
      have t0:wr.cell? ⟨jb,jo+j * 2,none⟩=some (.int .i64 (gL xl j).lo):=(HZ.out.cell (p:=⟨jb,jo+j * 2,none⟩) hjb).trans (hjc j hjl).1
      have t1:wr.cell? ⟨jb,jo+j * 2+1,none⟩=some (.int .i64 (gL xl j).hi):=(HZ.out.cell (p:=⟨jb,jo+j * 2+1,none⟩) hjb).trans (hjc j hjl).2
      obtain⟨⟨vl,vh⟩,hv⟩:∃ z,z=gL xl j:=⟨_,rfl⟩
      rw [←hv] at s0 s1 t0 t1
      simp only [] at s0 s1 t0 t1
      have hq:=fun W=>neqIvS vl vh W
      clear hic hjc hv
      go_wp2_with fail
      go_quiet (fail)
      have HN:Hid (Below W.heap.size W (wr.drewN nq)):=bdrew HZ.out _
      go_wp2_with fail
      go_roundw
      case rel=>exact⟨j+1,by omega,by go_num,HN⟩
      case measure=>(simp [intOf]) <;> omega
     ·obtain rfl:j=Ln:=by omega
      have ek:decide ((j:Int) < (j:Int))=false:=by simp
      have HN:=Lib.hid (HW.out.1.trans (HZ.out.mono HW.out.1.size))
      go_wp2_with fail
      go_roundw
      case rel=>exact⟨k+1,by omega,by go_num,HN⟩
      case measure=>(simp [intOf]) <;> omega
  ·obtain rfl:k=m:=by omega
   have dk:decide ((k:Int) < (k:Int))=false:=by simp
   go_wp2_with fail
   go_ret
   exact⟨rfl,HG.out.2.2.trans (HB.out.mono HG.out.2.2.size)⟩
end Go.Proofs.YtepoclhdklgnhaaGreatDoor
