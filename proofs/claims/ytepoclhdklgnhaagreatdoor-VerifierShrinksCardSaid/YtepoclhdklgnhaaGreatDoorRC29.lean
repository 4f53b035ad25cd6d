/- Xa Xb Xc Xd Xe Xs. -/
import Derived.Test.YtepoclhdklgnhaaGreatDoorRC22
import Derived.BigRegion
import Derived.Test.YtepoclhdklgnhaaGreatDoorRC47
import Derived.Deep.RegionHeld3
set_option maxRecDepth 100000
set_option maxHeartbeats 40000000
set_option linter.unusedVariables false
set_option linter.unusedSimpArgs false
set_option linter.unusedSectionVars false
namespace Go.Proofs.YtepoclhdklgnhaaGreatDoor
open Go.RowKit Go.Proofs
variable [Inhabited ArgB]
theorem tVl:Tryz.prog.underlying 130=some (.slice (Tryz.prog.elem 130)):=by kernel_rfl
theorem eVl:Tryz.prog.elem 130=223:=by kernel_rfl
theorem sVl:∀ W:World,(sizeOf 223).run Tryz.prog W=.ok 3 W:=fun _=>by kernel_rfl
theorem cutVl_l(A:Option Addr)(n c:Nat)(l:Int)(h0:0≤l)(hl:l≤n)(W:World):(Instr.slice 130 (.slice A n c) (some (.int .i64 l)) none none).run Tryz.prog W=.ok (.slice (if c=l.toNat then A else A.map (·.add (l.toNat * 3))) (n-l.toNat) (c-l.toNat)) W:=by
 rw [run_slice_l W _ A n c tVl .i64 l h0 hl,eVl,sVl W]
 simp only [Result.andThen,sliced]
theorem cutVl_h(A:Option Addr)(n c:Nat)(h:Int)(h0:0≤h)(hc:h≤c)(W:World):(Instr.slice 130 (.slice A n c) none (some (.int .i64 h)) none).run Tryz.prog W=.ok (.slice A h.toNat c) W:=by
 rw [run_slice_h W _ A n c tVl .i64 h h0 hc,eVl,sVl W]
 simp only [Result.andThen,sliced,Nat.zero_mul,add_zero_map,ite_self,Nat.sub_zero]
theorem cloneVl_all(A:Option Addr)(n c:Nat)(l:List Vl)(w:World)(hx:VlsAt w A n l)(hn:n≤1000)(h0:A=none→n=0∧c=0) :
  Calls Tryz.prog 136 #[.slice A n c] w fun e w'=>∃ A2 c2,e=.returned (.slice A2 n c2)∧StkS w' w.heap.size A2 n c2 l∧Below w.heap.size w w':=by
 cases A with
 | none=>
  obtain⟨rfl,rfl⟩:=h0 rfl
  have hl:l=[]:=List.length_eq_zero_iff.1 hx.1
  subst hl
  refine (cloneVl_nil w).mono ?_
  rintro e w' ⟨rfl,rfl⟩
  exact⟨none,0,rfl,OwnS.nil _ _ _ _ _,Below.refl _ _⟩
 | some ad=>exact cloneVl_any ad n c l w hx hn
theorem StkS.cutAt{w:World}{B:Nat}{A:Option Addr}{n c:Nat}{l:List Vl}(h:StkS w B A n c l){k:Nat}(hk:k≤n):VlsAt w (if c=n-k then A else A.map (·.add ((n-k) * 3))) k (l.drop (n-k))∧((if c=n-k then A else A.map (·.add ((n-k) * 3)))=none→k=0∧c-(n-k)=0):=by
 have hc:=h.cap
 have hlen:=h.length (fun _=>rfl) (by decide)
 rcases h.2 with ⟨h1,h2⟩ | ⟨g,cap,cur,h1,-⟩
 ·injection h1 with h1 h3 h4
  subst h1 h3 h4
  obtain rfl:k=0:=by omega
  refine⟨⟨by rw [List.length_drop];omega,fun h=>by omega⟩,fun _=>⟨rfl,rfl⟩⟩
 ·injection h1 with h1 h1' h1''
  subst h1
  have hv:=h.vls
  refine⟨?_,fun hn=>?_⟩
  ·split
   ·rename_i hcn
    obtain rfl:k=0:=by omega
    exact⟨by rw [List.length_drop];omega,fun h=>by omega⟩
   ·have h5:=hv.drop (k:=n-k) (by omega)
    rw [show n-(n-k)=k by omega] at h5
    rw [Option.map_some,Addr.add_lit,Nat.zero_add]
    exact h5
  ·split at hn
   ·cases hn
   ·cases hn
def chkT(t:UInt8)(v:Vl):Bool:=(t != 110 && t != 116) || ((t==116)==v.tr)
theorem popA_eq(stk:List Vl)(base:Nat)(ty:List UInt8):popA stk base ty=if stk.length < base+ty.length then .error 14 else if (List.zipWith chkT ty (stk.drop (stk.length-ty.length))).all id then .ok (stk.take (stk.length-ty.length),stk.drop (stk.length-ty.length)) else .error 13:=rfl
def gb8(l:List UInt8)(k:Nat):UInt8:=l.getD k 0
theorem zip_all{ty:List UInt8}{l:List Vl}(hl:l.length=ty.length):((List.zipWith chkT ty l).all id=true↔∀ k,k < ty.length→chkT (gb8 ty k) (gV l k)=true):=by
 rw [List.all_eq_true]
 constructor
 ·intro h k hk
  have h1:=h ((List.zipWith chkT ty l)[k]'(by simp;omega)) (List.getElem_mem _)
  rw [List.getElem_zipWith] at h1
  have e1:gb8 ty k=ty[k]:=by simp [gb8,List.getD,hk]
  have e2:gV l k=l[k]'(by omega):=by simp [gV,List.getD,show k < l.length by omega]
  rw [e1,e2]
  exact h1
 ·intro h x hx
  obtain⟨k,hk,rfl⟩:=List.mem_iff_getElem.1 hx
  have hk':k < ty.length:=by simp at hk;omega
  rw [List.getElem_zipWith]
  have h1:=h k hk'
  have e1:gb8 ty k=ty[k]:=by simp [gb8,List.getD,hk']
  have e2:gV l k=l[k]'(by omega):=by simp [gV,List.getD,show k < l.length by omega]
  rw [e1,e2] at h1
  exact h1
def PopR(B g mb:Nat)(v:WV)(d:WD)(st:St)(w:World)(at_ m:Nat)(r:Except Int (List Vl × List Vl))(e:Ending)(w':World):Prop:=match r with
 | .error x=>e=.panicked [{ v:=failW at_ x,recovered:=false }]∧Below B w w'
 | .ok (rest,l)=>∃ A c,e=.returned (.slice A m c)∧StkS w' w.heap.size A m c l∧WK B g mb v w' { st with stk:=rest } { d with sn:=rest.length }∧KV B g mb d { d with sn:=rest.length } w w'
theorem popW_any(B g mb:Nat)(v:WV)(d:WD)(st:St)(w:World)(h:WK B g mb v w st d)(at_ base:Nat)(ty:List UInt8)(hty:ty.length≤8)(hst:st.stk.length≤32)(hba:base≤1000) :
  Calls Tryz.prog 100 #[.pointer (some ⟨g,0,none⟩),.int .i64 (at_:Int),.int .i64 (base:Int),.string (strB ty)] w (PopR B g mb v d st w at_ ty.length (popA st.stk base ty)):=by
 have hsn:=h.sn
 have hsz:=strB_size' ty
 obtain⟨-,-,-,-,-,-,-,e7,-,-,-⟩:=h.cells
 have HW:=Lib.hid h
 clear h
 obtain⟨m,hm⟩:∃ m,m=ty.length:=⟨_,rfl⟩
 rw [←hm] at hsz hty ⊢
 have Hm:=Lib.hid hm
 clear hm
 obtain⟨sn,hsn'⟩:∃ s,s=d.sn:=⟨_,rfl⟩
 rw [←hsn'] at e7 hsn
 have Hsn:=Lib.hid (And.intro hsn hsn')
 have hsn32:sn≤32:=by omega
 clear hsn hst hsn'
 by_cases hlen:base+m≤sn
 ·obtain⟨n0,hn0⟩:∃ n0,n0+m=sn:=⟨sn-m,by omega⟩
  have e9:(sn:Int)-(m:Int)=(n0:Int):=by omega
  have d9:decide ((base:Int)≤(n0:Int))=true:=by simp;omega
  have d9':decide (base≤n0)=true:=by simp;omega
  have hcut:=HW.out.stk.cutAt (k:=m) (by have:=Hsn.out.2;omega)
  have hr3:=cutVl_l d.sA sn d.sc (n0:Int) (by omega) (by omega)
  have hr4:=fun c hc=>cutVl_h d.sA sn c (n0:Int) (by omega) hc
  have hr4:=hr4 d.sc (by have:=HW.out.stk.cap;have:=Hsn.out.2;omega)
  simp only [Int.toNat_natCast] at hr3 hr4
  have hnm:d.sn-m=n0:=by have:=Hsn.out.2;omega
  have hnm2:sn-n0=m:=by omega
  rw [hnm] at hcut
  rw [hnm2] at hr3
  obtain⟨A1,hA1⟩:∃ A1,A1=if d.sc=n0 then d.sA else d.sA.map (·.add (n0 * 3)):=⟨_,rfl⟩
  rw [←hA1] at hcut hr3
  clear hA1
  have HC:=Lib.hid (cloneVl_all A1 m (d.sc-n0) (st.stk.drop n0) w hcut.1 (by omega) (fun hn=>⟨(hcut.2 hn).1,(hcut.2 hn).2⟩))
  have Hn0:=Lib.hid (And.intro hn0 (And.intro hnm hnm2))
  have hn0b:n0≤32:=by omega
  have Hlen:=Lib.hid hlen
  clear hcut hn0 hnm hnm2 hlen
  go_enter Tryz.func100,Tryz.ntmps100
  go_wp2_with fail
  refine (demandW_ok _ _ _).mono ?_
  rintro e w1 ⟨rfl,hw1⟩
  obtain rfl:=hw1.symm
  go_wp2_with fail
  refine HC.out.mono ?_
  rintro e w2 ⟨A2,c2,rfl,ho2,hb2⟩
  have HO2:=Lib.hid (And.intro ho2 hb2)
  clear ho2 hb2 hr3 e7 HC
  go_wp2_with fail
  have HB0:Hid (Below B w w2):=HO2.out.2.mono HW.out.hB
  have Hl:Hid ((st.stk.drop n0).length=m):=by show _=_;rw [List.length_drop];have:=Hsn.out;have:=Hn0.out;omega
  go_loopw [11,12,35] (fun _ _ i wr=>∃ k:Nat,k≤m∧i=.int .i64 (k:Int)∧Hid (∀ j,j < k→chkT (gb8 ty j) (gV (st.stk.drop n0) j)=true)∧Hid (Below w2.heap.size w2 wr)) (fun _ _ i _=>m-(intOf i).toNat)
  case atStart=>exact⟨0,Nat.zero_le _,rfl,Lib.hid (fun j hj=>by omega),Lib.hid (Below.refl _ _)⟩
  case round=>
   obtain⟨k,hk,rfl,HP,HB⟩:=hrel
   by_cases hlt:k < m
   ·have d0:decide ((k:Int) < (m:Int))=true:=by simp;omega
    have d0':decide (k < m)=true:=by simp;omega
    obtain⟨ob,rfl,hob1,hob2,hoc⟩:=HO2.out.1.get (fun _=>rfl) (by decide) ⟨false,⟨0,0⟩⟩ (by omega)
    have x0:wr.cell? ⟨ob,k * 3,none⟩=some (.bool (gV (st.stk.drop n0) k).tr):=(HB.out.cell (p:=⟨ob,k * 3,none⟩) hob2).trans (hoc k 0 _ hlt rfl)
    have x1:wr.cell? ⟨ob,k * 3+1,none⟩=some (.int .i64 (gV (st.stk.drop n0) k).iv.lo):=(HB.out.cell (p:=⟨ob,k * 3+1,none⟩) hob2).trans (hoc k 1 _ hlt rfl)
    have x2:wr.cell? ⟨ob,k * 3+2,none⟩=some (.int .i64 (gV (st.stk.drop n0) k).iv.hi):=(HB.out.cell (p:=⟨ob,k * 3+2,none⟩) hob2).trans (hoc k 2 _ hlt rfl)
    clear hoc
    have hob3:ob < wr.heap.size:=Nat.lt_of_lt_of_le hob2 HB.out.size
    have hix:=fun W=>run_index_strB ty (k:=k) (by have:=Hm.out;omega) W
    have HR13:Hid (chkT (gb8 ty k) (gV (st.stk.drop n0) k)=false→popA st.stk base ty=.error 13):=fun hf=>by
     have h1:=Hm.out
     have h2:=Hsn.out
     have h3:=Hn0.out
     rw [popA_eq,if_neg (by have:=Hlen.out;omega),if_neg]
     rw [zip_all (by rw [List.length_drop];omega)]
     intro hall
     have h4:=hall k (by omega)
     rw [show st.stk.length-ty.length=n0 by omega,hf] at h4
     cases h4
    have hgb:gb ty k=((gb8 ty k).toNat:Int):=rfl
    obtain⟨z8,hz8⟩:∃ z,z=gb8 ty k:=⟨_,rfl⟩
    rw [hgb,←hz8] at hix
    obtain⟨⟨tr,⟨lo,hi⟩⟩,hv⟩:∃ x,x=gV (st.stk.drop n0) k:=⟨_,rfl⟩
    have HZ8:=Lib.hid (And.intro hz8 hv)
    rw [←hv] at x0 x1 x2
    rw [←hz8,←hv] at HR13
    clear hgb hz8 hv
    simp only [] at x0 x1 x2
    have HB4:Hid (Below w2.heap.size w2 (wr.alloc (.cells #[.bool tr,.int .i64 lo,.int .i64 hi] 223))):=balloc HB.out _
    have hz0:(0:Int)≤(z8.toNat:Int):=by omega
    by_cases h110:z8=110
    ·subst h110
     cases tr with
     | false=>
      have HZ:Hid (chkT (gb8 ty k) (gV (st.stk.drop n0) k)=true):=by show _=_;rw [←HZ8.out.1,←HZ8.out.2];rfl
      go_upto_region 7 with fail
      go_quiet (first | (go_at_call 34;exact (demandW_ok _ _ _).mono fun e w2 h=>⟨h.1,_,h.2⟩))
      go_wp2_with fail
      go_roundw
      case rel=>exact⟨k+1,by omega,by go_num,Lib.hid (fun j hj=>by
       rcases Nat.lt_succ_iff_lt_or_eq.1 hj with h | rfl
       ·exact HP.out j h
       ·exact HZ.out),Lib.hid (bdrew HB4.out _)⟩
      case measure=>(simp [intOf]) <;> omega
     | true=>
      have HZ:Hid (chkT 110 ⟨true,⟨lo,hi⟩⟩=false):=rfl
      go_upto_region 7 with fail
      refine wp_region_quiet_tail 20 (by kernel_rfl) (by kernel_rfl) ?_
      simp only [List.take_succ_cons,List.take_zero,List.drop_succ_cons,List.drop_zero]
      repeat (go_big_quiet_step (fail))
      refine wpQuiet_nil ?_
      intro _ hw'
      obtain⟨nr,hw''⟩:=hw'
      subst hw''
      go_wp2_with fail
      refine (demandW_bad _ _ _).mono ?_
      rintro e w3 ⟨rfl,hw3⟩
      subst hw3
      refine⟨rfl,?_⟩
      rw [HR13.out HZ.out]
      exact⟨rfl,bdrew (HB0.out.trans (HB4.out.mono (Nat.le_trans HW.out.hB HO2.out.2.size))) nr⟩
    by_cases h116:z8=116
    ·subst h116
     cases tr with
     | true=>
      have HZ:Hid (chkT (gb8 ty k) (gV (st.stk.drop n0) k)=true):=by show _=_;rw [←HZ8.out.1,←HZ8.out.2];rfl
      go_upto_region 7 with fail
      go_quiet (first | (go_at_call 34;exact (demandW_ok _ _ _).mono fun e w2 h=>⟨h.1,_,h.2⟩))
      go_wp2_with fail
      go_roundw
      case rel=>exact⟨k+1,by omega,by go_num,Lib.hid (fun j hj=>by
       rcases Nat.lt_succ_iff_lt_or_eq.1 hj with h | rfl
       ·exact HP.out j h
       ·exact HZ.out),Lib.hid (bdrew HB4.out _)⟩
      case measure=>(simp [intOf]) <;> omega
     | false=>
      have HZ:Hid (chkT 116 ⟨false,⟨lo,hi⟩⟩=false):=rfl
      go_upto_region 7 with fail
      refine wp_region_quiet_tail 20 (by kernel_rfl) (by kernel_rfl) ?_
      simp only [List.take_succ_cons,List.take_zero,List.drop_succ_cons,List.drop_zero]
      repeat (go_big_quiet_step (fail))
      refine wpQuiet_nil ?_
      intro _ hw'
      obtain⟨nr,hw''⟩:=hw'
      subst hw''
      go_wp2_with fail
      refine (demandW_bad _ _ _).mono ?_
      rintro e w3 ⟨rfl,hw3⟩
      subst hw3
      refine⟨rfl,?_⟩
      rw [HR13.out HZ.out]
      exact⟨rfl,bdrew (HB0.out.trans (HB4.out.mono (Nat.le_trans HW.out.hB HO2.out.2.size))) nr⟩
    have HZ:Hid (chkT (gb8 ty k) (gV (st.stk.drop n0) k)=true):=by
     show _=_
     rw [←HZ8.out.1,←HZ8.out.2]
     unfold chkT
     rw [show (z8 != 110)=true by simpa using h110,show (z8 != 116)=true by simpa using h116]
     rfl
    have hn110:z8.toNat≠110:=fun e=>h110 (UInt8.toNat_inj.1 e)
    have hn116:z8.toNat≠116:=fun e=>h116 (UInt8.toNat_inj.1 e)
    obtain⟨z,hz⟩:∃ z:Int,z=(z8.toNat:Int):=⟨_,rfl⟩
    rw [←hz] at hix hz0
    have q110:(z != 110)=true:=by simp;omega
    have q116:(z != 116)=true:=by simp;omega
    clear hz h110 h116 hn110 hn116
    go_upto_region 7 with fail
    go_quiet (first | (go_at_call 34;exact (demandW_ok _ _ _).mono fun e w2 h=>⟨h.1,_,h.2⟩))
    go_wp2_with fail
    go_roundw
    case rel=>exact⟨k+1,by omega,by go_num,Lib.hid (fun j hj=>by
     rcases Nat.lt_succ_iff_lt_or_eq.1 hj with h | rfl
     ·exact HP.out j h
     ·exact HZ.out),Lib.hid (bdrew HB4.out _)⟩
    case measure=>(simp [intOf]) <;> omega
   ·obtain rfl:k=m:=by omega
    have d0:decide ((k:Int) < (k:Int))=false:=by simp
    have hWr:=HW.out.below (HO2.out.2.trans (HB.out.mono HO2.out.2.size))
    obtain⟨-,-,-,-,-,-,-,e7,-,-,-⟩:=hWr.cells
    have f7:=hWr.frozen 7
    rw [←Hsn.out.2] at e7
    have HWr:=Lib.hid hWr
    clear hWr
    have Hr:Hid (popA st.stk base ty=.ok (st.stk.take n0,st.stk.drop n0)):=by
     show _=_
     have h1:=Hm.out
     have h2:=Hsn.out
     have h3:=Hn0.out
     have h4:st.stk.length-ty.length=n0:=by omega
     rw [popA_eq,if_neg (by have:=Hlen.out;omega),h4,if_pos]
     rw [zip_all (by rw [Hl.out];exact h1)]
     intro j hj
     exact HP.out j (by omega)
    go_wp2_with fail
    refine bodyPost_ret (results_tmp rfl _ _ _) rfl ?_
    rw [Hr.out]
    have h2:=Hsn.out
    have h3:=Hn0.out
    have hlt:(st.stk.take n0).length=n0:=by rw [List.length_take];omega
    have hcutS:StkS wr B d.sA n0 d.sc (st.stk.take n0):=HWr.out.stk.cut (fun _=>rfl) (by decide) (by omega)
    refine⟨A2,c2,rfl,?_,?_,?_⟩
    ·exact OwnS.grown (HO2.out.1.below HB.out) (grownBy.setCell' (World.grownBy.refl _ _) _) (OwnS.ne_row (HO2.out.1.below HB.out) HWr.out.row (by decide))
    ·rw [hlt]
     exact HWr.out.set 7 _ rfl HWr.out.locs hcutS HWr.out.lvs HWr.out.lvl HWr.out.lvi rfl rfl
    ·exact (KV.of_below (HO2.out.2.trans (HB.out.mono HO2.out.2.size)) HW.out.hB).trans (KV.setG HWr.out 7 _ rfl (ownBlock_len _ _ _ _ _))
 ·have Hlen:=Lib.hid hlen
  have d9:decide ((base:Int)≤(sn:Int)-(m:Int))=false:=by simp;omega
  clear hlen
  have hr:popA st.stk base ty=.error 14:=by rw [popA_eq,if_pos (by have:=Hlen.out;have:=Hsn.out.1;have:=Hm.out;omega)]
  rw [hr]
  clear hr
  go_enter Tryz.func100,Tryz.ntmps100
  go_wp2_with fail
  refine (demandW_bad _ _ _).mono ?_
  rintro e w1 ⟨rfl,hw1⟩
  subst hw1
  exact⟨rfl,rfl,Below.refl _ _⟩
end Go.Proofs.YtepoclhdklgnhaaGreatDoor
namespace Go.Proofs.YtepoclhdklgnhaaGreatDoor
open Go.RowKit Go.Proofs
variable [Inhabited ArgB]
section
variable {B g mb : Nat} {v : WV} {w w1 : World} {st : St} {d : WD}
theorem WK.pushS(h:WK B g mb v w st d)(hg:w.grownBy w1 (Value.slice d.sA d.sn d.sc).ownBlock){A':Option Addr}{n' c':Nat}{xs:List Vl}(ho:StkS w1 B A' n' c' xs)(hf:∀ b,(Value.slice A' n' c').ownBlock=some b→(Value.slice d.sA d.sn d.sc).ownBlock=some b∨w.heap.size≤b) :
  WK B g mb v (w1.setCell ⟨g,7,none⟩ (.slice A' n' c')) { st with stk:=xs } { d with sA:=A',sn:=n',sc:=c' }∧KV B g mb d { d with sA:=A',sn:=n',sc:=c' } w (w1.setCell ⟨g,7,none⟩ (.slice A' n' c')):=by
 have hne:=h.stk.ne_row h.row (by decide)
 have hr1:=h.row.grown hg (fun e=>hne g e.symm rfl)
 have ht1:∀ (k:Nat) cs fr,(Value.slice d.sA d.sn d.sc).ownBlock=some k→w.heap[k]?≠some (Obj.cells cs 55 fr):=fun k cs fr hk=>by
  obtain⟨-,-,cur,hcur⟩:=h.stk.blk hk
  exact ne_of_cells hcur (by decide)
 have ht2:∀ (k:Nat) cs fr,(Value.slice d.sA d.sn d.sc).ownBlock=some k→w.heap[k]?≠some (Obj.cells cs 48 fr):=fun k cs fr hk=>by
  obtain⟨-,-,cur,hcur⟩:=h.stk.blk hk
  exact ne_of_cells hcur (by decide)
 have hk1:KW B d.own d.own w w1:=KW.of_grown hg (fun k hk=>(h.stk.blk hk).2.1) h.hB ht1 ht2
 have g2:w1.grownBy (w1.setCell ⟨g,7,none⟩ (.slice A' n' c')) (some g):=grownBy.setCell' (World.grownBy.refl _ _) _
 have hr1':w1.heap[g]?=some (.cells (rowK v d (st.hgt:Int) mb) 132 (0,0)):=hr1
 have hk2:KW B d.own d.own w1 (w1.setCell ⟨g,7,none⟩ (.slice A' n' c')):=by
  refine KW.of_grown g2 (fun k hk=>by injection hk with hk;rw [←hk];exact h.hg) (Nat.le_trans h.hB hg.size) (fun k cs fr hk=>?_) (fun k cs fr hk=>?_)
  ·injection hk with hk;rw [←hk];exact ne_of_cells hr1' (by decide)
  ·injection hk with hk;rw [←hk];exact ne_of_cells hr1' (by decide)
 have hk:=hk1.trans hk2
 obtain⟨f,m1,m2⟩:=h.map
 obtain⟨mo,hmo1,hmo2⟩:=m1.isMap
 have hmb1:w1.heap[mb]?=w.heap[mb]?:=hg.block mb m1.lt (fun e=>by
  obtain⟨-,-,cur,hcur⟩:=h.stk.blk (b:=mb) e.symm
  rw [hmo1] at hcur
  injection hcur with hcur
  rw [hcur] at hmo2
  cases hmo2)
 have hr:=hr1.set 7 (.slice A' n' c')
 refine⟨⟨hr,h.hg,Nat.le_trans h.hB (Nat.le_trans hg.size g2.size),h.locs.keep hk.ki,ho.grown g2 (ho.ne_row hr1 (by decide)),?_,h.lvl,fun i hi=>(h.lvi i hi).keep hk.ki,h.hm,f,?_,m2.keep hk.ki⟩,hk,fun k h0 h1 h2 h3 h4=>(Below.heap_setCell w1 ⟨g,7,none⟩ _ k h1).trans (hg.block k h0 (fun e=>h4 e.symm)),hf⟩
 ·have hl1:=h.lvs.grown hg (fun b hb e=>h.lvs.ne_own h.stk (by decide) b hb (by rw [←e]))
  exact hl1.grown g2 (hl1.ne_row hr1 (by decide))
 ·have m3:=m1.same hmb1
  exact m3.same (g2.block mb m3.lt (fun e=>h.ne_map (by injection e)))
theorem WK.rowS(h:WK B g mb v w st d)(hg:w.grownBy w1 (Value.slice d.sA d.sn d.sc).ownBlock):rowV w1 g 132 (rowK v d (st.hgt:Int) mb):=h.row.grown hg (fun e=>h.stk.ne_row h.row (by decide) g e.symm rfl)
end
theorem own_slice{α:Type}{enc:α→List Value}{w:World}{B sz n:Nat}{e:TypeId}{v':Value}{l:List Value}(h:w.ownsRow B e sz v' n l):∃ A c,v'=.slice A n c:=by
 rcases h.2 with ⟨h1,h2⟩ | ⟨g,cap,cur,h1,-⟩
 ·exact⟨none,0,by rw [h1,h2]⟩
 ·exact⟨_,cap,h1⟩
def PushR(B g mb:Nat)(v:WV)(d:WD)(w:World)(r:ER)(e:Ending)(w':World):Prop:=match r with
 | .bad a x=>e=.panicked [{ v:=failW a x,recovered:=false }]∧Below B w w'
 | .ok st' _ _=>e=.returned (.tuple #[])∧∃ d',WK B g mb v w' st' d'∧KV B g mb d d' w w'∧d'.mn=d.mn
 | .stuck=>False
theorem pushW_any(B g mb:Nat)(v:WV)(d:WD)(st:St)(w:World)(h:WK B g mb v w st d)(lo:Nat)(ad:Addr)(k c:Nat)(l:List Vl)(hl:VlsAt w (some ad) k l)(hk:k≤8)(hst:st.stk.length≤32)(hh:st.hgt≤32)(ee:Int) :
  Calls Tryz.prog 138 #[.pointer (some ⟨g,0,none⟩),.int .i64 (lo:Int),.slice (some ad) k c] w (PushR B g mb v d w (pushA lo st l ee)):=by
 obtain⟨i0,hi,hz0,hz1,hz2⟩:=Go.info_parts infoVl
 have hsn:=h.sn
 obtain⟨-,-,-,-,-,-,-,e7,-,-,-⟩:=h.cells
 have f7:=h.frozen 7
 have HW:=Lib.hid h
 have HL:=Lib.hid hl
 have HI:=Lib.hid hi
 have Hsn:=Lib.hid hsn
 have Hbd:=Lib.hid (And.intro hst hh)
 have hsn32:d.sn≤32:=by omega
 clear h hl hsn hi hst
 obtain⟨sn,hsn'⟩:∃ s,s=d.sn:=⟨_,rfl⟩
 have Hsn':=Lib.hid hsn'
 go_enter Tryz.func138,Tryz.ntmps138
 go_wp2_with (at_builtin;refine wpList_append_own_at _ rfl _ _ 130 rfl B 223 i0 (.agg #[.bool false,.int .i64 0,.int .i64 0]) 3 24 uVl HI.out hz0 hz1 hz2 rfl (by decide) _ _ _ rfl HW.out.stk ad k c (l.flatMap encVl) rfl ?qc1 ?qc2 ?qc3 ?qc4 ?qc5 ?qc6 ?_)
 case qc1=>rw [flat_length (enc:=encVl) (sz:=3) (fun _=>rfl),HL.out.1]
 case qc2=>
  intro j u hj
  obtain⟨i,hi,h⟩:=flat_vl l j u hj
  rw [HL.out.1] at hi
  obtain⟨b,off,h1,h2,h3⟩:=HL.out.2 (by omega)
  injection h1 with h1
  subst h1
  rw [Addr.add_lit]
  rcases h with ⟨rfl,rfl⟩ | ⟨rfl,rfl⟩ | ⟨rfl,rfl⟩
  ·exact (h3 i hi).1
  ·exact (h3 i hi).2.1
  ·exact (h3 i hi).2.2
 case qc3=>intro u hu;obtain⟨x,_,hu⟩:=List.mem_flatMap.1 hu;exact encVl_one x u hu
 case qc4=>unfold maxLen;omega
 case qc5=>omega
 case qc6=>exact HW.out.hB
 intro v' w1 hown hgrow hnil hat
 obtain⟨A',c',rfl⟩:=own_slice (enc:=encVl) hown
 rw [←List.flatMap_append] at hown
 have hHP:=HW.out.pushS hgrow hown (fun b hb=>by rcases hat with h | h;exact .inl (h ▸ hb);exact .inr (by rw [h] at hb;injection hb;omega))
 have hr1:=HW.out.rowS hgrow
 have e7':=cell_rowV hr1 (j:=7) rfl
 have f7':=frozen_rowV' hr1 7
 obtain⟨-,-,-,-,-,-,-,x7,x8,-,-⟩:=hHP.1.cells
 have fx8:=hHP.1.frozen 8
 have HP:=Lib.hid hHP
 have HG:=Lib.hid hgrow
 clear hown hgrow hnil hat hHP hr1 e7 f7 hz0 hz1 hz2
 simp only [] at x7 x8
 by_cases hle:d.sn+k≤32
 ·have d0:decide (((d.sn:Int)+(k:Int))≤32)=true:=by simp;omega
  have d0':decide (d.sn+k≤32)=true:=by simp;omega
  have Hr:Hid (pushA lo st l ee=.ok { st with stk:=st.stk++l,hgt:=max st.hgt (d.sn+k) } 1 ee):=by
   show _=_
   have h1:=Hsn.out
   have h2:=HL.out.1
   unfold pushA
   rw [if_neg (by rw [List.length_append];omega),List.length_append,h2,←h1]
  have HQ:=Lib.hid (HP.out.1.set 8 (.int .i64 (max (st.hgt:Int) ((d.sn:Int)+(k:Int)))) (d':={ d with sA:=A',sn:=d.sn+k,sc:=c' }) (st':={ st with stk:=st.stk++l,hgt:=max st.hgt (d.sn+k) }) (by simp only [rowK];rw [show ((max st.hgt (d.sn+k):Nat):Int)=max (st.hgt:Int) ((d.sn:Int)+(k:Int)) by omega];rfl) HP.out.1.locs HP.out.1.stk HP.out.1.lvs HP.out.1.lvl HP.out.1.lvi rfl rfl)
  have HK:=Lib.hid (KV.setG HP.out.1 8 (.int .i64 (max (st.hgt:Int) ((d.sn:Int)+(k:Int)))) (d':={ d with sA:=A',sn:=d.sn+k,sc:=c' }) rfl rfl)
  clear hle
  go_wp2_with fail
  refine (demandW_ok _ _ _).mono ?_
  rintro e w2 ⟨rfl,hw2⟩
  obtain rfl:=hw2.symm
  go_wp2_with fail
  go_region
  refine⟨rfl,_,results_none rfl _ _ _,?_⟩
  rw [Hr.out]
  exact⟨rfl,_,HQ.out.drewN 1,(HP.out.2.trans HK.out).drewN 1,rfl⟩
 ·have d0:decide (((d.sn:Int)+(k:Int))≤32)=false:=by simp;omega
  have d0':decide (d.sn+k≤32)=false:=by simp;omega
  have Hr:Hid (pushA lo st l ee=.bad lo 14):=by
   show _=_
   have h1:=Hsn.out
   have h2:=HL.out.1
   unfold pushA
   rw [if_pos (by rw [List.length_append];omega)]
  clear hle
  go_wp2_with fail
  refine (demandW_bad _ _ _).mono ?_
  rintro e w2 ⟨rfl,hw2⟩
  obtain rfl:=hw2.symm
  refine⟨rfl,?_⟩
  rw [Hr.out]
  exact⟨rfl,HP.out.2.kw.ki.below⟩
theorem levelW_ok(B g mb:Nat)(v:WV)(d:WD)(st:St)(w:World)(h:WK B g mb v w st d)(at_ hgt:Nat)(he:st.stk.length=hgt) :
  Calls Tryz.prog 57 #[.pointer (some ⟨g,0,none⟩),.int .i64 (at_:Int),.int .i64 (hgt:Int)] w fun e w'=>e=.returned (.tuple #[])∧w'=w:=by
 have hsn:=h.sn
 obtain⟨-,-,-,-,-,-,-,e7,-,-,-⟩:=h.cells
 rw [hsn,he] at e7
 have q:((hgt:Int)==(hgt:Int))=true:=by simp
 clear hsn he h
 go_enter Tryz.func57,Tryz.ntmps57
 go_wp2_with fail
 refine (demandW_ok _ _ _).mono ?_
 rintro e w2 ⟨rfl,hw2⟩
 obtain rfl:=hw2.symm
 go_wp2_with fail
 exact⟨rfl,_,results_none rfl _ _ _,rfl,rfl⟩
theorem levelW_bad(B g mb:Nat)(v:WV)(d:WD)(st:St)(w:World)(h:WK B g mb v w st d)(at_ hgt:Nat)(he:st.stk.length≠hgt) :
  Calls Tryz.prog 57 #[.pointer (some ⟨g,0,none⟩),.int .i64 (at_:Int),.int .i64 (hgt:Int)] w fun e w'=>e=.panicked [{ v:=failW at_ 14,recovered:=false }]∧w'=w:=by
 have hsn:=h.sn
 obtain⟨-,-,-,-,-,-,-,e7,-,-,-⟩:=h.cells
 rw [hsn] at e7
 obtain⟨n,hn⟩:∃ n,n=st.stk.length:=⟨_,rfl⟩
 rw [←hn] at e7 he
 have q:((n:Int)==(hgt:Int))=false:=by simp;omega
 have q':(n==hgt)=false:=by simp;omega
 clear hsn he h hn
 go_enter Tryz.func57,Tryz.ntmps57
 go_wp2_with fail
 refine (demandW_bad _ _ _).mono ?_
 rintro e w2 ⟨rfl,hw2⟩
 obtain rfl:=hw2.symm
 exact⟨rfl,rfl,rfl⟩
end Go.Proofs.YtepoclhdklgnhaaGreatDoor
namespace Go.Proofs.YtepoclhdklgnhaaGreatDoor
open Go.RowKit Go.Proofs
variable [Inhabited ArgB]
structure PK (wB:World) (v:WV) (p:Prg) (P:List Int):Prop where
 arrs:Arrs wB v.aA v.an v.ac p.arrs
 code:Codes wB v.cA v.cn v.cc p.code
 prt:Ints wB v.pA v.pn v.pc P
 ok:PrgOk p
theorem PK.cn{wB:World}{v:WV}{p:Prg}{P:List Int}(h:PK wB v p P):v.cn=p.code.length:=h.code.1.symm
theorem PK.ins{wB w:World}{v:WV}{p:Prg}{P:List Int}(h:PK wB v p P)(hb:Below wB.heap.size wB w){lo:Nat}(hlo:lo < p.code.length) :
  ∃ cb off,v.cA=some ⟨cb,off,none⟩∧cb < w.heap.size∧w.cell? ⟨cb,off+lo * 2,none⟩=some (.int .i64 (oI p.code lo))∧w.cell? ⟨cb,off+lo * 2+1,none⟩=some (.int .u32 (gI p.code lo).arg):=by
 have h1:=h.cn
 obtain⟨cb,off,h2,h3,h4⟩:=(h.code.below hb).get (k:=lo) (by omega)
 exact⟨cb,off,h2,h3,(h4 lo (by omega)).1,(h4 lo (by omega)).2⟩
theorem PK.array{wB w:World}{v:WV}{p:Prg}{P:List Int}(h:PK wB v p P)(hb:Below wB.heap.size wB w){a:Nat}(ha:a < p.arrs.length) :
  a < v.an∧∃ cb off,v.aA=some ⟨cb,off,none⟩∧cb < w.heap.size∧w.cell? ⟨cb,off+a * 2,none⟩=some (.bool (gA p.arrs a).word)∧w.cell? ⟨cb,off+a * 2+1,none⟩=some (.int .i64 (gA p.arrs a).size):=by
 have h1:=h.arrs.1
 obtain⟨cb,off,h2,h3,h4⟩:=(h.arrs.below hb).get (k:=a) (by omega)
 exact⟨by omega,cb,off,h2,h3,(h4 a (by omega)).1,(h4 a (by omega)).2⟩
theorem elem_boxes(w:World)(b:Bool)(x y:Int):∃ w2,w2=(w.alloc (.cells #[.bool b,.int .i64 x,.int .i64 y] 223)).alloc (.cells #[.int .i64 0,.int .i64 0] 55)∧Below w.heap.size w w2∧rowV w2 w.heap.size 223 #[.bool b,.int .i64 x,.int .i64 y]∧rowV w2 (w.heap.size+1) 55 #[.int .i64 0,.int .i64 0]∧w2.heap.size=w.heap.size+1+1:=by
 have r1:=rowV.new w 223 #[.bool b,.int .i64 x,.int .i64 y]
 have e1:(w.alloc (.cells #[.bool b,.int .i64 x,.int .i64 y] 223)).heap.size=w.heap.size+1:=by simp
 obtain⟨w1,hw1⟩:∃ w1,w1=w.alloc (.cells #[.bool b,.int .i64 x,.int .i64 y] 223):=⟨_,rfl⟩
 have k1:Below w.heap.size w w1:=by rw [hw1];exact balloc (Below.refl _ _) _
 rw [←hw1] at r1 e1 ⊢
 have r2:=rowV.new w1 55 #[.int .i64 0,.int .i64 0]
 rw [e1] at r2
 have k2:=balloc (Below.refl _ w1) (.cells #[.int .i64 0,.int .i64 0] 55)
 exact⟨_,rfl,k1.trans (k2.mono k1.size),r1.below k2 r1.lt,r2,by simp [e1]⟩
theorem elem_box3(w2:World)(wd:Bool)(sz:Int):∃ w3,w3=(w2.alloc (.cells #[.bool wd,.int .i64 sz] 68)).drew∧Below w2.heap.size w2 w3∧rowV w3 w2.heap.size 68 #[.bool wd,.int .i64 sz]:=
 ⟨_,rfl,bdrew (balloc (Below.refl _ _) _) 1,rowV.new w2 _ _⟩
def elemI(p:Prg)(lo:Nat):Iv:=if (gA p.arrs (gI p.code lo).arg.toNat).word then ivFull else ⟨0,255⟩
theorem elementW_any(wB:World)(g mb:Nat)(v:WV)(d:WD)(st:St)(w:World)(p:Prg)(P:List Int)(hk:PK wB v p P)(hb:Below wB.heap.size wB w)(h:WK wB.heap.size g mb v w st d)(lo:Nat)(hlo:lo < p.code.length)(ho:oI p.code lo=3∨oI p.code lo=4)(x:Vl) :
  Calls Tryz.prog 140 #[.pointer (some ⟨g,0,none⟩),.int .i64 (lo:Int),.agg #[.bool x.tr,.int .i64 x.iv.lo,.int .i64 x.iv.hi]] w fun e w'=>(if (gA p.arrs (gI p.code lo).arg.toNat).size≤x.iv.hi then e=.panicked [{ v:=failW lo 16,recovered:=false }] else e=.returned (.agg #[.int .i64 (elemI p lo).lo,.int .i64 (elemI p lo).hi]))∧Below w.heap.size w w':=by
 obtain⟨a,ha⟩:∃ a:Nat,(gI p.code lo).arg=(a:Int):=⟨(gI p.code lo).arg.toNat,by have:=(hk.ok.ins lo hlo).2.2.1;omega⟩
 have haL:a < p.arrs.length:=by have:=hk.ok.arr lo hlo ho;omega
 obtain⟨han,ab,aoff,haA,hab,hc1,hc2⟩:=hk.array hb haL
 obtain⟨cb,off,hcA,hcb,hx1,hx2⟩:=hk.ins hb hlo
 have hcn:=hk.cn
 have hcn2:=hk.ok.len
 obtain⟨e0,e1,e2,-,-,-,-,-,-,-,-⟩:=h.cells
 rw [ha] at hx2
 unfold elemI
 rw [ha,Int.toNat_natCast]
 obtain⟨⟨wd,sz⟩,harr⟩:∃ y,y=gA p.arrs a:=⟨_,rfl⟩
 rw [←harr] at hc1 hc2 ⊢
 simp only [] at hc1 hc2 ⊢
 obtain⟨tr,⟨xl,xh⟩⟩:=x
 simp only []
 have ha2:a < 4294967296:=by have:=(hk.ok.ins lo hlo).2.2.2;omega
 have hlo2:lo < v.cn:=by omega
 have hlo3:lo≤1024:=by omega
 rw [haA] at e0
 rw [hcA] at e2
 obtain⟨cn,hcn'⟩:∃ c,c=v.cn:=⟨_,rfl⟩
 rw [←hcn'] at e2 hlo2
 obtain⟨an,han'⟩:∃ c,c=v.an:=⟨_,rfl⟩
 rw [←han'] at e0 han
 have hgl:=h.row.lt
 clear ho hk h harr hcn ha haA hcA hx1 e1 hcn' han' hlo haL hcn2 hb
 obtain⟨w2,hw2,g2,r1,r2,s2⟩:=elem_boxes w tr xl xh
 have e0:=(g2.cell (p:=⟨g,0,none⟩) hgl).trans e0
 have e2:=(g2.cell (p:=⟨g,2,none⟩) hgl).trans e2
 have hc1:=(g2.cell (p:=⟨ab,aoff+a * 2,none⟩) hab).trans hc1
 have hc2:=(g2.cell (p:=⟨ab,aoff+a * 2+1,none⟩) hab).trans hc2
 have hx2:=(g2.cell (p:=⟨cb,off+lo * 2+1,none⟩) hcb).trans hx2
 have hgl2:g < w2.heap.size:=by omega
 have hab2:ab < w2.heap.size:=by omega
 have hcb2:cb < w2.heap.size:=by omega
 obtain⟨w3,hw3,g3,r3⟩:=elem_box3 w2 wd sz
 obtain⟨y1,y2,y3⟩:=three_cellsV (r1.below g3 r1.lt)
 obtain⟨z1,z2⟩:=two_cellsV r3
 have HR2:=Lib.hid (And.intro (r2.below g3 r2.lt) (g2.trans (g3.mono g2.size)))
 have Hs2:=Lib.hid s2
 clear r1 r2 r3 g3 hgl hab hcb g2 s2
 have Hw2:=Lib.hid hw2
 have Hw3:=Lib.hid hw3
 clear hw2 hw3
 by_cases hsz:sz≤xh
 ·have d0:decide (xh < sz)=false:=by simp;omega
  simp only [if_pos hsz]
  clear hsz
  go_enter Tryz.func140,Tryz.ntmps140
  go_wp2_with fail
  rw [←Hw2.out]
  go_region
  rw [←Hw3.out]
  clear e0 e2 hc1 hc2 hx2
  go_wp2_with fail
  refine (demandW_bad _ _ _).mono ?_
  rintro e w4 ⟨rfl,hw4⟩
  obtain rfl:=hw4.symm
  exact⟨rfl,rfl,HR2.out.2⟩
 ·have d0:decide (xh < sz)=true:=by simp;omega
  simp only [if_neg hsz]
  clear hsz
  cases wd with
  | true=>
   simp only [if_true]
   go_enter Tryz.func140,Tryz.ntmps140
   go_wp2_with fail
   rw [←Hw2.out]
   go_region
   rw [←Hw3.out]
   clear e0 e2 hc1 hc2 hx2
   go_wp2_with fail
   refine (demandW_ok _ _ _).mono ?_
   rintro e w4 ⟨rfl,hw4⟩
   obtain rfl:=hw4.symm
   have HF:=Lib.hid (full_any w3)
   go_wp2_with fail
   refine HF.out.mono ?_
   rintro e w5 ⟨rfl,hb5⟩
   have Hr5:=Lib.hid (HR2.out.1.below hb5 HR2.out.1.lt)
   have HB5:=Lib.hid (HR2.out.2.trans (hb5.mono HR2.out.2.size))
   clear hb5
   go_wp2_with (refine wpList_store_row rfl 55 (.tmp 6) (.tmp 34) rfl _ #[.int .i64 0,.int .i64 4294967295] rfl rfl _ _ Hr5.out (hI2 _ _) rfl (hA2 _ _) ?_)
   obtain⟨k1,k2⟩:=two_cellsV (setRow_heap w5 (w.heap.size+1) _ #[.int .i64 0,.int .i64 4294967295] _ _ Hr5.out)
   refine bodyPost_ret (v:=.agg #[.int .i64 0,.int .i64 4294967295]) (by simp [results,Tryz.results140,go_sem,k1,k2]) rfl ⟨rfl,belowRow HB5.out (by omega) _⟩
  | false=>
   simp only [Bool.false_eq_true,if_false]
   go_enter Tryz.func140,Tryz.ntmps140
   go_wp2_with fail
   rw [←Hw2.out]
   go_region
   rw [←Hw3.out]
   clear e0 e2 hc1 hc2 hx2
   go_wp2_with fail
   refine (demandW_ok _ _ _).mono ?_
   rintro e w4 ⟨rfl,hw4⟩
   obtain rfl:=hw4.symm
   go_wp2_with (refine wpList_store_row rfl 55 (.tmp 6) (.tmp 35) rfl _ #[.int .i64 0,.int .i64 255] rfl rfl _ _ HR2.out.1 (hI2 _ _) rfl (hA2 _ _) ?_)
   obtain⟨k1,k2⟩:=two_cellsV (setRow_heap w3 (w.heap.size+1) _ #[.int .i64 0,.int .i64 255] _ _ HR2.out.1)
   refine bodyPost_ret (v:=.agg #[.int .i64 0,.int .i64 255]) (by simp [results,Tryz.results140,go_sem,k1,k2]) rfl ⟨rfl,belowRow HR2.out.2 (by omega) _⟩
end Go.Proofs.YtepoclhdklgnhaaGreatDoor
namespace Go.Proofs.YtepoclhdklgnhaaGreatDoor
open Go.RowKit Go.Proofs
variable [Inhabited ArgB]
section
variable {B g mb : Nat} {v : WV} {w w' : World} {st : St} {d d' : WD}
theorem WK.ne_box(h:WK B g mb v w st d){r:Nat}{t:TypeId}{cs:Array Value}(hr:rowV w r t cs)(h1:t≠132)(h2:t≠223)(h3:t≠48):r≠g∧r≠mb∧d.own≠some r∧d.sown≠some r:=by
 refine⟨fun e=>?_,fun e=>?_,fun e=>?_,fun e=>?_⟩
 ·have h4:=h.row
  unfold rowV at h4 hr
  rw [e,h4] at hr
  injection hr with hr
  injection hr with _ hr
  exact h1 hr.symm
 ·obtain⟨f,m1,-⟩:=h.map
  obtain⟨o,h4,h5⟩:=m1.isMap
  unfold rowV at hr
  rw [e,h4] at hr
  injection hr with hr
  rw [hr] at h5
  cases h5
 ·exact h.lvs.ne_row hr (Ne.symm h3) r e rfl
 ·exact h.stk.ne_row hr (Ne.symm h2) r e rfl
theorem WK.boxG(h:WK B g mb v w st d){r:Nat}{t:TypeId}{cs:Array Value}(hr:rowV w r t cs)(h1:t≠132)(h2:t≠223)(h3:t≠48)(h4:t≠55)(hB:B≤r)(hg:w.grownBy w' (some r)):WK B g mb v w' st d:=by
 obtain⟨n1,n2,n3,n4⟩:=h.ne_box hr h1 h2 h3
 have hr0:w.heap[r]?=some (.cells cs t (0,0)):=hr
 have hk:KI B w w':=KI.of_grown hg (fun k hk=>by injection hk with hk;rw [←hk];exact hB) h.hB (fun k cs fr hk=>by injection hk with hk;rw [←hk];exact ne_of_cells hr0 h4)
 obtain⟨f,m1,m2⟩:=h.map
 exact⟨h.row.grown hg (fun e=>n1 (by injection e with e;exact e.symm)),h.hg,Nat.le_trans h.hB hg.size,h.locs.keep hk,h.stk.grown hg (fun b hb e=>n4 (by injection e with e;rw [←e];exact hb)),h.lvs.grown hg (fun b hb e=>n3 (by injection e with e;rw [←e];exact hb)),h.lvl,fun i hi=>(h.lvi i hi).keep hk,h.hm,f,m1.same (hg.block mb m1.lt (fun e=>n2 (by injection e with e;exact e.symm))),m2.keep hk⟩
theorem grownBy_setRow3(w:World)(g:Nat)(cs:Array Value):w.grownBy (w.setRow g cs) (some g):=⟨rfl,rfl,rfl,by rw [size_setRow];exact Nat.le_refl _,fun k hk hne=>setRow_other w g k cs (fun e=>hne (congrArg some e))⟩
theorem KV.boxG{W W':World}(h:KV B g mb d d' w W){r:Nat}(hr:w.heap.size≤r)(hB:B≤w.heap.size)(hg:W.grownBy W' (some r)):KV B g mb d d' w W':=by
 have hsz:=h.kw.ki.below.size
 have hk:∀ k,k < w.heap.size→W'.heap[k]?=W.heap[k]?:=fun k hk=>hg.block k (by omega) (fun e=>by injection e;omega)
 refine⟨⟨⟨h.kw.ki.below.grown hg (Nat.le_trans hB hsz) (fun k hk=>by injection hk with hk;omega),fun k cs fr hc=>(hk k (lt_of_heap hc)).trans (h.kw.ki.iv k cs fr hc)⟩,fun k cs fr hc hne=>(hk k (lt_of_heap hc)).trans (h.kw.lv k cs fr hc hne),h.kw.fr⟩,fun k h0 h1 h2 h3 h4=>(hk k h0).trans (h.keep k h0 h1 h2 h3 h4),h.fs⟩
end
def AnaR(B g mb:Nat)(v:WV)(d:WD)(w:World)(N:Nat)(r:ER)(e:Ending)(w':World):Prop:=match r with
 | .bad a x=>e=.panicked [{ v:=failW a x,recovered:=false }]∧Below B w w'
 | .ok st' s x=>e=.returned (.agg #[.int .i64 s,.int .i64 x])∧∃ d',WK B g mb v w' st' d'∧KV B g mb d d' w w'∧d'.mn≤d.mn+N
 | .stuck=>False
theorem hIbd(a b:Int):(Tryz.prog.info? 136).map (·.size)=some (#[Value.int .i64 a,.int .i64 b]:Array Value).size:=by kernel_rfl
theorem plain_boxes(w:World)(op arg:Int):∃ w1,w1=(w.alloc (.cells #[.int .i64 0,.int .i64 0] 136)).alloc (.cells #[.int .i64 op,.int .u32 arg] 53)∧Below w.heap.size w w1∧rowV w1 w.heap.size 136 #[.int .i64 0,.int .i64 0]∧rowV w1 (w.heap.size+1) 53 #[.int .i64 op,.int .u32 arg]∧w1.heap.size=w.heap.size+1+1:=by
 have r1:=rowV.new w 136 #[.int .i64 0,.int .i64 0]
 have r2:=rowV.new (w.alloc (.cells #[.int .i64 0,.int .i64 0] 136)) 53 #[.int .i64 op,.int .u32 arg]
 have k1:=balloc (Below.refl _ (w.alloc (.cells #[.int .i64 0,.int .i64 0] 136))) (.cells #[.int .i64 op,.int .u32 arg] 53)
 have e1:(w.alloc (.cells #[.int .i64 0,.int .i64 0] 136)).heap.size=w.heap.size+1:=by simp
 rw [e1] at r2
 exact⟨_,rfl,balloc (balloc (Below.refl _ _) _) _,r1.below k1 r1.lt,r2,by simp⟩
end Go.Proofs.YtepoclhdklgnhaaGreatDoor
namespace Go.Proofs.YtepoclhdklgnhaaGreatDoor
open Go.RowKit Go.Proofs
variable [Inhabited ArgB]
theorem plain_drop(wB:World)(g mb:Nat)(v:WV)(d:WD)(st:St)(w:World)(p:Prg)(P:List Int)(hk:PK wB v p P)(hb:Below wB.heap.size wB w)(h:WK wB.heap.size g mb v w st d)(n:Nat)(hn:p.locs=(n:Int))(hs:StOk n st)(lo base:Nat)(hlo:lo < p.code.length)(hba:base≤1000)(ho:oI p.code lo=6) :
  Calls Tryz.prog 101 #[.pointer (some ⟨g,0,none⟩),.int .i64 (lo:Int),.int .i64 (base:Int)] w (AnaR wB.heap.size g mb v d w 0 (plA p lo base st)):=by
 obtain⟨cb,off,hcA,hcb,hx1,hx2⟩:=hk.ins hb hlo
 obtain⟨e0,e1,e2,-,-,-,-,-,-,-,-⟩:=h.cells
 have hgl:=h.row.lt
 rw [hcA] at e2
 have hcn:=hk.cn
 have hlo2:lo < v.cn:=by omega
 have hlo3:lo≤1024:=by have:=hk.ok.len;omega
 obtain⟨cn,hcn'⟩:∃ c,c=v.cn:=⟨_,rfl⟩
 rw [←hcn'] at e2 hlo2
 rw [ho] at hx1
 have Hb:=Lib.hid hb
 have HW:=Lib.hid h
 have HK:=Lib.hid hk
 have Hlo:=Lib.hid hlo
 have HS:=Lib.hid hs
 have Hn:=Lib.hid hn
 have Harg:=Lib.hid (hk.ok.ins lo hlo)
 have Ho:=Lib.hid ho
 obtain⟨ar,har⟩:∃ a,a=(gI p.code lo).arg:=⟨_,rfl⟩
 rw [←har] at hx2
 have Har:=Lib.hid har
 clear hcn' hcn hlo hb h hk hs hn ho hcA har e0 e1
 obtain⟨w1,hw1,g1,r6,r7,s1⟩:=plain_boxes w 6 ar
 have HW1:=Lib.hid (HW.out.below g1)
 have Hw1:=Lib.hid hw1
 have HR1:=Lib.hid (And.intro r6 (And.intro r7 (And.intro g1 s1)))
 have y7:=(two_cellsV r7).1
 have HE:=Lib.hid (effect_any 6 w1)
 have Hpl:Hid (plA p lo base st=match popA st.stk base (opX 6).pops with
  | .error e=>.bad lo e
  | .ok (rest,l)=>.ok { st with stk:=rest } 1 0):=by
  show _=_
  unfold plA
  rw [Ho.out]
  try rw [Har.out]
  cases popA st.stk base (opX 6).pops <;> rfl
 clear hw1 r6 r7 g1 s1
 go_enter Tryz.func101,Tryz.ntmps101
 go_wp2_with fail
 rw [←Hw1.out]
 clear hcb hx1 hx2 hgl e2 hlo2
 refine HE.out.mono ?_
 rintro e w2 ⟨rfl,hb2⟩
 have HW2:=Lib.hid (HW1.out.below hb2)
 have HV2:=Lib.hid (KV.of_below (B:=wB.heap.size) (g:=g) (mb:=mb) (d:=d) (HR1.out.2.2.1.trans (hb2.mono HR1.out.2.2.1.size)) HW.out.hB)
 have HPop:=Lib.hid (popW_any wB.heap.size g mb v d st w2 HW2.out lo base (opX 6).pops (by decide) HS.out.len hba)
 have r6:=HR1.out.1.below hb2 HR1.out.1.lt
 have r7:=HR1.out.2.1.below hb2 HR1.out.2.1.lt
 have y7:=(two_cellsV r7).1
 have HR2:=Lib.hid (And.intro r6 r7)
 clear r6 r7 hb2 HE
 go_wp2_with fail
 refine HPop.out.mono ?_
 intro e w3 hr
 clear HPop
 cases hpop:popA st.stk base (opX 6).pops with
 | error x=>
  rw [hpop] at hr
  obtain⟨rfl,hb3⟩:=hr
  refine⟨rfl,?_⟩
  have h1:=Hpl.out
  rw [hpop] at h1
  rw [h1]
  exact⟨rfl,HV2.out.kw.ki.below.trans hb3⟩
 | ok rl=>
  obtain⟨rest,l⟩:=rl
  rw [hpop] at hr
  obtain⟨A3,c3,rfl,hl3,hK3,hV3⟩:=hr
  have HV3:=Lib.hid (HV2.out.trans hV3)
  have r6:=hV3.row HR2.out.1 (HW.out.fresh (Nat.le_refl _))
  have r7:=hV3.row HR2.out.2 (HW.out.fresh (Nat.le_succ _))
  have HR3:=Lib.hid (And.intro r6 r7)
  have HL3:=Lib.hid hl3
  have HK3:=Lib.hid hK3
  have Hpop:=Lib.hid (popA_rest HS.out hpop)
  have Hpl2:Hid (plA p lo base st=.ok { st with stk:=rest } 1 0):=by show _=_;rw [Hpl.out,hpop]
  obtain⟨w4,hw4⟩:∃ w4,w4=w3.alloc (.cells #[.int .i64 1,.int .i64 0] 136):=⟨_,rfl⟩
  have hb4:Below w3.heap.size w3 w4:=by rw [hw4];exact balloc (Below.refl _ _) _
  have r12:rowV w4 w3.heap.size 136 #[.int .i64 1,.int .i64 0]:=by rw [hw4];exact rowV.new w3 _ _
  have HK4:=Lib.hid (hK3.below hb4)
  have HV4:=Lib.hid (HV3.out.trans (KV.of_below (g:=g) (mb:=mb) (d:={ d with sn:=rest.length }) hb4 hK3.hB))
  have HL4:=Lib.hid (hl3.below hb4)
  have q6:=r6.below hb4 r6.lt
  have q7:=r7.below hb4 r7.lt
  obtain⟨y7,y8⟩:=two_cellsV q7
  have l7:=q7.lt
  have HR4:=Lib.hid (And.intro q6 (And.intro q7 r12))
  have Hw4:=Lib.hid hw4
  have hs3:w.heap.size≤w3.heap.size:=Nat.le_of_lt r6.lt
  have hs3':=r6.lt
  clear hl3 hK3 hV3 r6 r7 hpop Hpl HV2 HR2 HW2 HL3 HK3 HV3 HR3 hw4 hb4 r12 q6 q7
  go_upto_region 5 with fail
  rw [←Hw4.out]
  go_wp2_with (first | refine wpList_load_row rfl 136 (.tmp 12) rfl _ rfl _ _ _ _ HR4.out.2.2 Tryz.underlying136 rfl (hIbd _ _) ?_ | refine wpList_store_row rfl 136 (.tmp 6) (.tmp 183) rfl _ #[.int .i64 1,.int .i64 0] rfl rfl _ _ HR4.out.1 (hIbd _ _) rfl (hA2 _ _) ?_)
  obtain⟨k1,k2⟩:=two_cellsV (setRow_heap w4 w.heap.size _ #[.int .i64 1,.int .i64 0] _ _ HR4.out.1)
  refine bodyPost_ret (v:=.agg #[.int .i64 1,.int .i64 0]) (by simp [results,Tryz.results101,go_sem,k1,k2]) rfl ?_
  rw [Hpl2.out]
  exact⟨rfl,_,HK4.out.boxG HR4.out.1 (by decide) (by decide) (by decide) (by decide) HW.out.hB (grownBy_setRow3 _ _ _),HV4.out.boxG (Nat.le_refl _) HW.out.hB (grownBy_setRow3 _ _ _),Nat.le_refl _⟩
theorem plain_context(wB:World)(g mb:Nat)(v:WV)(d:WD)(st:St)(w:World)(p:Prg)(P:List Int)(hk:PK wB v p P)(hb:Below wB.heap.size wB w)(h:WK wB.heap.size g mb v w st d)(n:Nat)(hn:p.locs=(n:Int))(hs:StOk n st)(lo base:Nat)(hlo:lo < p.code.length)(hba:base≤1000)(ho:oI p.code lo=35) :
  Calls Tryz.prog 101 #[.pointer (some ⟨g,0,none⟩),.int .i64 (lo:Int),.int .i64 (base:Int)] w (AnaR wB.heap.size g mb v d w 0 (plA p lo base st)):=by
 obtain⟨cb,off,hcA,hcb,hx1,hx2⟩:=hk.ins hb hlo
 obtain⟨e0,e1,e2,-,-,-,-,-,-,-,-⟩:=h.cells
 have hgl:=h.row.lt
 rw [hcA] at e2
 have hcn:=hk.cn
 have hlo2:lo < v.cn:=by omega
 have hlo3:lo≤1024:=by have:=hk.ok.len;omega
 obtain⟨cn,hcn'⟩:∃ c,c=v.cn:=⟨_,rfl⟩
 rw [←hcn'] at e2 hlo2
 rw [ho] at hx1
 have Hb:=Lib.hid hb
 have HW:=Lib.hid h
 have HK:=Lib.hid hk
 have Hlo:=Lib.hid hlo
 have HS:=Lib.hid hs
 have Hn:=Lib.hid hn
 have Harg:=Lib.hid (hk.ok.ins lo hlo)
 have Ho:=Lib.hid ho
 obtain⟨ar,har⟩:∃ a,a=(gI p.code lo).arg:=⟨_,rfl⟩
 rw [←har] at hx2
 have Har:=Lib.hid har
 clear hcn' hcn hlo hb h hk hs hn ho hcA har e0 e1
 obtain⟨w1,hw1,g1,r6,r7,s1⟩:=plain_boxes w 35 ar
 have HW1:=Lib.hid (HW.out.below g1)
 have Hw1:=Lib.hid hw1
 have HR1:=Lib.hid (And.intro r6 (And.intro r7 (And.intro g1 s1)))
 have y7:=(two_cellsV r7).1
 have HE:=Lib.hid (effect_any 35 w1)
 have Hpl:Hid (plA p lo base st=match popA st.stk base (opX 35).pops with
  | .error e=>.bad lo e
  | .ok (rest,l)=>.ok { st with stk:=rest } 1 0):=by
  show _=_
  unfold plA
  rw [Ho.out]
  try rw [Har.out]
  cases popA st.stk base (opX 35).pops <;> rfl
 clear hw1 r6 r7 g1 s1
 go_enter Tryz.func101,Tryz.ntmps101
 go_wp2_with fail
 rw [←Hw1.out]
 clear hcb hx1 hx2 hgl e2 hlo2
 refine HE.out.mono ?_
 rintro e w2 ⟨rfl,hb2⟩
 have HW2:=Lib.hid (HW1.out.below hb2)
 have HV2:=Lib.hid (KV.of_below (B:=wB.heap.size) (g:=g) (mb:=mb) (d:=d) (HR1.out.2.2.1.trans (hb2.mono HR1.out.2.2.1.size)) HW.out.hB)
 have HPop:=Lib.hid (popW_any wB.heap.size g mb v d st w2 HW2.out lo base (opX 35).pops (by decide) HS.out.len hba)
 have r6:=HR1.out.1.below hb2 HR1.out.1.lt
 have r7:=HR1.out.2.1.below hb2 HR1.out.2.1.lt
 have y7:=(two_cellsV r7).1
 have HR2:=Lib.hid (And.intro r6 r7)
 clear r6 r7 hb2 HE
 go_wp2_with fail
 refine HPop.out.mono ?_
 intro e w3 hr
 clear HPop
 cases hpop:popA st.stk base (opX 35).pops with
 | error x=>
  rw [hpop] at hr
  obtain⟨rfl,hb3⟩:=hr
  refine⟨rfl,?_⟩
  have h1:=Hpl.out
  rw [hpop] at h1
  rw [h1]
  exact⟨rfl,HV2.out.kw.ki.below.trans hb3⟩
 | ok rl=>
  obtain⟨rest,l⟩:=rl
  rw [hpop] at hr
  obtain⟨A3,c3,rfl,hl3,hK3,hV3⟩:=hr
  have HV3:=Lib.hid (HV2.out.trans hV3)
  have r6:=hV3.row HR2.out.1 (HW.out.fresh (Nat.le_refl _))
  have r7:=hV3.row HR2.out.2 (HW.out.fresh (Nat.le_succ _))
  have HR3:=Lib.hid (And.intro r6 r7)
  have HL3:=Lib.hid hl3
  have HK3:=Lib.hid hK3
  have Hpop:=Lib.hid (popA_rest HS.out hpop)
  have Hpl2:Hid (plA p lo base st=.ok { st with stk:=rest } 1 0):=by show _=_;rw [Hpl.out,hpop]
  obtain⟨w4,hw4⟩:∃ w4,w4=w3.alloc (.cells #[.int .i64 1,.int .i64 0] 136):=⟨_,rfl⟩
  have hb4:Below w3.heap.size w3 w4:=by rw [hw4];exact balloc (Below.refl _ _) _
  have r12:rowV w4 w3.heap.size 136 #[.int .i64 1,.int .i64 0]:=by rw [hw4];exact rowV.new w3 _ _
  have HK4:=Lib.hid (hK3.below hb4)
  have HV4:=Lib.hid (HV3.out.trans (KV.of_below (g:=g) (mb:=mb) (d:={ d with sn:=rest.length }) hb4 hK3.hB))
  have HL4:=Lib.hid (hl3.below hb4)
  have q6:=r6.below hb4 r6.lt
  have q7:=r7.below hb4 r7.lt
  obtain⟨y7,y8⟩:=two_cellsV q7
  have l7:=q7.lt
  have HR4:=Lib.hid (And.intro q6 (And.intro q7 r12))
  have Hw4:=Lib.hid hw4
  have hs3:w.heap.size≤w3.heap.size:=Nat.le_of_lt r6.lt
  have hs3':=r6.lt
  clear hl3 hK3 hV3 r6 r7 hpop Hpl HV2 HR2 HW2 HL3 HK3 HV3 HR3 hw4 hb4 r12 q6 q7
  go_upto_region 5 with fail
  rw [←Hw4.out]
  go_wp2_with (first | refine wpList_load_row rfl 136 (.tmp 12) rfl _ rfl _ _ _ _ HR4.out.2.2 Tryz.underlying136 rfl (hIbd _ _) ?_ | refine wpList_store_row rfl 136 (.tmp 6) (.tmp 183) rfl _ #[.int .i64 1,.int .i64 0] rfl rfl _ _ HR4.out.1 (hIbd _ _) rfl (hA2 _ _) ?_)
  obtain⟨k1,k2⟩:=two_cellsV (setRow_heap w4 w.heap.size _ #[.int .i64 1,.int .i64 0] _ _ HR4.out.1)
  refine bodyPost_ret (v:=.agg #[.int .i64 1,.int .i64 0]) (by simp [results,Tryz.results101,go_sem,k1,k2]) rfl ?_
  rw [Hpl2.out]
  exact⟨rfl,_,HK4.out.boxG HR4.out.1 (by decide) (by decide) (by decide) (by decide) HW.out.hB (grownBy_setRow3 _ _ _),HV4.out.boxG (Nat.le_refl _) HW.out.hB (grownBy_setRow3 _ _ _),Nat.le_refl _⟩
end Go.Proofs.YtepoclhdklgnhaaGreatDoor
namespace Go.Proofs.YtepoclhdklgnhaaGreatDoor
open Go.RowKit Go.Proofs
variable [Inhabited ArgB]
theorem stored_any{c:List Ins}{lo hi i:Nat}:stored c lo hi i=anyIn ((c.drop lo).take (hi-lo)) ⟨2,(i:Int)⟩ (hi-lo):=by
 unfold stored anyIn
 rw [List.take_take,Nat.min_self]
 congr 1
 funext y
 obtain⟨o,a⟩:=y
 simp only [Ins.mk.injEq]
 exact decide_eq_decide.2 ⟨fun h=>⟨h.1.symm,h.2.symm⟩,fun h=>⟨h.1.symm,h.2.symm⟩⟩
theorem cutIns_lh(A:Option Addr)(n c:Nat)(l h:Int)(h0:0≤l)(hlh:l≤h)(hc:h≤c)(W:World):(Instr.slice 23 (.slice A n c) (some (.int .i64 l)) (some (.int .i64 h)) none).run Tryz.prog W=.ok (.slice (if c=l.toNat then A else A.map (·.add (l.toNat * 2))) (h.toNat-l.toNat) (c-l.toNat)) W:=by
 rw [run_slice_lh W _ A n c (show Tryz.prog.underlying 23=some (.slice (Tryz.prog.elem 23)) by kernel_rfl) .i64 .i64 l h h0 hlh hc,show Tryz.prog.elem 23=53 by kernel_rfl,show (sizeOf 53).run Tryz.prog W=.ok 2 W by kernel_rfl]
 simp only [Result.andThen,sliced]
theorem Codes.sub{w:World}{A:Option Addr}{n c:Nat}{l:List Ins}(h:Codes w A n c l){lo hi:Nat}(h1:lo≤hi)(h2:hi≤n):Codes w (if c=lo then A else A.map (·.add (lo * 2))) (hi-lo) (c-lo) ((l.drop lo).take (hi-lo)):=by
 refine⟨by rw [List.length_take,List.length_drop,h.1];omega,by have:=h.2.1;omega,fun x hx=>h.2.2.1 x (List.mem_of_mem_drop (List.mem_of_mem_take hx)),fun hn=>?_⟩
 obtain⟨b,off,rfl,hlt,hc⟩:=h.2.2.2 (by omega)
 have hcn:=h.2.1
 rw [if_neg (by omega)]
 refine⟨b,off+lo * 2,by rw [Option.map_some,addr_add],hlt,fun i hi2=>?_⟩
 have e:gI ((l.drop lo).take (hi-lo)) i=gI l (lo+i):=by
  simp [gI,List.getD_eq_getElem?_getD,hi2,List.getElem?_drop]
 have h3:=hc (lo+i) (by omega)
 dsimp only at h3 ⊢
 rw [e,show off+lo * 2+i * 2=off+(lo+i) * 2 by omega]
 exact h3
theorem entC_widen(wB:World)(v:WV)(p:Prg)(n:Nat)(hf:v.f1=.func (.func 58) #[] #[]):EntC wB v p n .widen:=by
 refine⟨58,#[],hf,enters_of Tryz.func58 (by kernel_rfl) rfl,fun w lo most A c locs hb hlo h29 h0 h1 hiv hlk hB=>?_⟩
 show Calls Tryz.prog 58 #[.int .i64 (lo:Int),.int .i64 most,.slice A n c] w _
 go_enter Tryz.func58,Tryz.ntmps58
 go_wp2_with fail
 refine bodyPost_ret (v:=.tuple #[.slice A n c,.int .i64 most]) (by simp [results,Tryz.results58,go_sem]) rfl ?_
 exact⟨⟨A,c,rfl,hiv⟩,Below.refl _ _⟩
def nextK(c:List Ins)(lo hi pass:Nat)(head fin:List Iv)(k:Nat):List Iv:=(nextH c lo hi pass head fin).take k++head.drop k
def nextV(c:List Ins)(lo hi pass:Nat)(head fin:List Iv)(i:Nat):Iv:=if pass < 3 then ivWiden (gL head i) (ivJoin (gL head i) (gL fin i)) else if stored c lo hi i then ivFull else gL head i
theorem nextH_get(c:List Ins)(lo hi pass:Nat)(head fin:List Iv){i:Nat}(h:i < head.length):(nextH c lo hi pass head fin)[i]'(by rw [nextH_length];exact h)=nextV c lo hi pass head fin i:=by
 simp [nextH,nextV]
theorem nextK_step{c:List Ins}{lo hi pass:Nat}{head fin:List Iv}{k:Nat}(h:k < head.length):(nextK c lo hi pass head fin k).set k (nextV c lo hi pass head fin k)=nextK c lo hi pass head fin (k+1):=by
 have hl:=nextH_length c lo hi pass head fin
 unfold nextK
 have h1:((nextH c lo hi pass head fin).take k).length=k:=by rw [List.length_take];omega
 rw [List.set_append_right _ _ (by omega),h1,Nat.sub_self,List.drop_eq_getElem_cons h,List.set_cons_zero,List.take_succ_eq_append_getElem (by omega:k < (nextH c lo hi pass head fin).length),nextH_get c lo hi pass head fin h,List.append_assoc,List.singleton_append]
theorem nextK_gL{c:List Ins}{lo hi pass:Nat}{head fin:List Iv}{k:Nat}(h:k < head.length):gL (nextK c lo hi pass head fin k) k=gL head k:=by
 have hl:=nextH_length c lo hi pass head fin
 unfold nextK gL
 rw [List.getD_eq_getElem?_getD,List.getD_eq_getElem?_getD,List.getElem?_append_right (by rw [List.length_take];omega),List.getElem?_drop]
 congr 2
 rw [List.length_take];omega
theorem next_mid{w wr w2:World}{ob n c k:Nat}{L:List Iv}(h:OwnS encIv 2 wr w.heap.size 55 (some ⟨ob,0,none⟩) n c L)(hb:Below w.heap.size w wr)(hb2:Below wr.heap.size wr w2)(hk:k < n) :
  w2.cell? ⟨ob,k * 2,none⟩=some (.int .i64 (gL L k).lo)∧w2.cell? ⟨ob,k * 2+1,none⟩=some (.int .i64 (gL L k).hi)∧w2.frozen? ⟨ob,k * 2,none⟩=false∧w2.frozen? ⟨ob,k * 2+1,none⟩=false∧Hid (OwnS encIv 2 w2 w.heap.size 55 (some ⟨ob,0,none⟩) n c L∧Below w.heap.size w w2):=by
 have ho2:=OwnS.below h hb2
 obtain⟨g2,hg2,-,-,hc2⟩:=ho2.get (fun _=>rfl) (by decide) ⟨0,0⟩ (by omega)
 injection hg2 with hg2
 injection hg2 with hg2
 subst hg2
 exact⟨hc2 k 0 _ hk rfl,hc2 k 1 _ hk rfl,World.ownsRow.frozenAt ho2 (k * 2),World.ownsRow.frozenAt ho2 (k * 2+1),Lib.hid ⟨ho2,hb.trans (hb2.mono hb.size)⟩⟩
theorem agnC_widen(wB:World)(v:WV)(p:Prg)(P:List Int)(n:Nat)(hk:PK wB v p P)(hn:n≤16)(pb:Nat)(hf:v.f2=.func (.func 59) #[] #[.pointer (some ⟨pb,0,none⟩)])(hpr:rowV wB pb 25 #[.slice v.aA v.an v.ac,.int .i64 v.L,.slice v.cA v.cn v.cc]):AgnC wB v p n .widen:=by
 refine⟨59,#[.pointer (some ⟨pb,0,none⟩)],hf,enters_of Tryz.func59 (by kernel_rfl) rfl,fun w lo hi pass A D c c' head fin hb hlh hhi hpass hhd hlk hfn hlf hB=>?_⟩
 show Calls Tryz.prog 59 #[.int .i64 (lo:Int),.int .i64 (hi:Int),.int .i64 (pass:Int),.slice A n c,.slice D n c',.pointer (some ⟨pb,0,none⟩)] w fun e w'=>(∃ A c',e=.returned (.slice A n c')∧IvK wB.heap.size w' A n c' (nextH p.code lo hi pass head fin))∧Below w.heap.size w w'
 have hcl:=cloneIv_any A n c head w hhd.1 (by omega)
 have hcn:=hk.cn
 have hcc:=hk.code.2.1
 have hlen:=hk.ok.len
 have x2:w.cell? ⟨pb,2,none⟩=some (.slice v.cA v.cn v.cc):=(hb.cell (p:=⟨pb,2,none⟩) hpr.lt).trans (cell_rowV hpr rfl)
 have hpl:pb < w.heap.size:=Nat.lt_of_lt_of_le hpr.lt hb.size
 have r5:=cutIns_lh v.cA v.cn v.cc (lo:Int) (hi:Int) (by omega) (by omega) (by omega)
 have hsub:=(hk.code.below hb).sub hlh (hi:=hi) (by omega)
 simp only [Int.toNat_natCast] at r5
 obtain⟨sA,hsA⟩:∃ a,a=(if v.cc=lo then v.cA else v.cA.map (·.add (lo * 2))):=⟨_,rfl⟩
 rw [←hsA] at r5 hsub
 obtain⟨m,hm⟩:∃ m,m=hi-lo:=⟨_,rfl⟩
 have hst:∀ i:Nat,stored p.code lo hi i=anyIn ((p.code.drop lo).take m) ⟨2,(i:Int)⟩ m:=fun i=>by rw [stored_any,hm]
 rw [←hm] at r5 hsub
 obtain⟨cn,hcn'⟩:∃ x,x=v.cn:=⟨_,rfl⟩
 obtain⟨cc,hcc'⟩:∃ x,x=v.cc:=⟨_,rfl⟩
 rw [←hcn',←hcc'] at r5 x2
 rw [←hcc'] at hsub
 obtain⟨sc,hsc⟩:∃ x,x=cc-lo:=⟨_,rfl⟩
 rw [←hsc] at r5 hsub
 have hm2:m≤2000:=by omega
 have HCT:Hid (∀ (i:Nat) W,Below w.heap.size w W→Calls Tryz.prog 61 #[.slice sA m sc,.agg #[.int .i64 2,.int .u32 (i:Int)]] W fun e w'=>e=.returned (.bool (stored p.code lo hi i))∧Below W.heap.size W w'):=fun i W hW=>by
  have h1:=containsIns_any sA m sc _ ⟨2,(i:Int)⟩ W (hsub.below hW) hm2
  rw [←hst] at h1
  exact h1
 have HCl:=Lib.hid hcl
 have HX:=Lib.hid hhd
 have HY:=Lib.hid hfn
 have HL:=Lib.hid (And.intro hlk.1 hlf.1)
 have HB:=Lib.hid hB
 clear hcl hhd hfn hlk hlf hcn' hcc' hsc hsub hst hm hsA hcn hcc hlen hpr hk hb hf hB hhi hm2
 go_enter Tryz.func59,Tryz.ntmps59
 go_wp2_with fail
 refine HCl.out.mono ?_
 rintro e w1 ⟨A2,c2,rfl,ho1,hb1⟩
 have HO1:Hid (OwnS encIv 2 w1 w.heap.size 55 A2 n c2 (nextK p.code lo hi pass head fin 0)∧Below w.heap.size w w1):=⟨by unfold nextK;rw [List.take_zero,List.nil_append,List.drop_zero];exact ho1,hb1⟩
 clear ho1 hb1 HCl
 go_wp2_with fail
 go_loopw [13,14,19,31] (fun _ _ i _ wr=>∃ k:Nat,k≤n∧i=.int .i64 (k:Int)∧Hid (OwnS encIv 2 wr w.heap.size 55 A2 n c2 (nextK p.code lo hi pass head fin k)∧Below w.heap.size w wr)) (fun _ _ i _ _=>n-(intOf i).toNat)
 case atStart=>exact⟨0,Nat.zero_le _,rfl,HO1⟩
 case round=>
  clear HO1
  obtain⟨k,hk,rfl,HR⟩:=hrel
  by_cases hlt:k < n
  ·have d0:decide ((k:Int) < (n:Int))=true:=by simp;omega
   have d0':decide (k < n)=true:=by simp;omega
   have ew:IntKind.u32.wrap (k:Int)=k:=by simp [IntKind.wrap,IntKind.bits,IntKind.signed];omega
   have y2:=(HR.out.2.cell (p:=⟨pb,2,none⟩) hpl).trans x2
   have HC:=Lib.hid (HCT.out k wr HR.out.2)
   have hsp:Hid (nextK p.code lo hi pass head fin (k+1)=(nextK p.code lo hi pass head fin k).set k (nextV p.code lo hi pass head fin k)):=(nextK_step (by rw [HL.out.1];exact hlt)).symm
   obtain⟨b,hsb⟩:∃ b,b=stored p.code lo hi k:=⟨_,rfl⟩
   rw [←hsb] at HC
   by_cases hp3:pass < 3
   ·have d3:decide ((pass:Int) < 3)=true:=by simp;omega
    have hnv:Hid (nextV p.code lo hi pass head fin k=ivWiden (gL head k) (ivJoin (gL head k) (gL fin k))):=by show _=_;unfold nextV;rw [if_pos hp3]
    clear hsb
    go_wp2_with fail
    refine HC.out.mono ?_
    rintro e w2 ⟨rfl,hb2⟩
    have hb2':Below w.heap.size w w2:=HR.out.2.trans (hb2.mono HR.out.2.size)
    obtain⟨ab,ao,rfl,ha1,ha2⟩:=HX.out.1.2.2 (by omega)
    obtain⟨db,do',rfl,hd1,hd2⟩:=HY.out.1.2.2 (by omega)
    have a1:w2.cell? ⟨ab,ao+k * 2,none⟩=some (.int .i64 (gL head k).lo):=(hb2'.cell (p:=⟨ab,ao+k * 2,none⟩) ha1).trans (ha2 k hlt).1
    have a2:w2.cell? ⟨ab,ao+k * 2+1,none⟩=some (.int .i64 (gL head k).hi):=(hb2'.cell (p:=⟨ab,ao+k * 2+1,none⟩) ha1).trans (ha2 k hlt).2
    have b1:w2.cell? ⟨db,do'+k * 2,none⟩=some (.int .i64 (gL fin k).lo):=(hb2'.cell (p:=⟨db,do'+k * 2,none⟩) hd1).trans (hd2 k hlt).1
    have b2:w2.cell? ⟨db,do'+k * 2+1,none⟩=some (.int .i64 (gL fin k).hi):=(hb2'.cell (p:=⟨db,do'+k * 2+1,none⟩) hd1).trans (hd2 k hlt).2
    have HO2:=Lib.hid (And.intro (HR.out.1.below hb2) hb2')
    obtain⟨ob,rfl,hob1,hob2,hoc⟩:=HO2.out.1.get (fun _=>rfl) (by decide) ⟨0,0⟩ (by omega)
    have hnab:Hid (some ab≠some ob):=fun e=>by injection e with e;omega
    have hndb:Hid (some db≠some ob):=fun e=>by injection e with e;omega
    have hal:ab < w2.heap.size:=Nat.lt_of_lt_of_le ha1 hb2'.size
    have hdl:db < w2.heap.size:=Nat.lt_of_lt_of_le hd1 hb2'.size
    clear ha2 hd2 hoc hb2 hb2' HC HCT y2 x2 r5 ew
    have HJ:=Lib.hid (join_any (gL head k) (gL fin k))
    have HWd:=Lib.hid (widen_any (gL head k) (ivJoin (gL head k) (gL fin k)))
    obtain⟨⟨zl,zh⟩,hz⟩:∃ z,z=ivJoin (gL head k) (gL fin k):=⟨_,rfl⟩
    rw [←hz] at HJ HWd hnv
    obtain⟨⟨ul,uh⟩,hu⟩:∃ z,z=ivWiden (gL head k) ⟨zl,zh⟩:=⟨_,rfl⟩
    rw [←hu] at HWd hnv
    obtain⟨⟨xl,xh⟩,hx⟩:∃ x,x=gL head k:=⟨_,rfl⟩
    obtain⟨⟨yl,yh⟩,hy⟩:∃ y,y=gL fin k:=⟨_,rfl⟩
    rw [←hx] at HJ HWd a1 a2
    rw [←hy] at HJ b1 b2
    clear hx hy hz hu
    dsimp only at HJ HWd a1 a2 b1 b2
    go_wp2_with fail
    go_region_held3 (fun W=>W.cell? ⟨ab,ao+k * 2,none⟩=some (.int .i64 xl)∧W.cell? ⟨ab,ao+k * 2+1,none⟩=some (.int .i64 xh)∧W.cell? ⟨db,do'+k * 2,none⟩=some (.int .i64 yl)∧W.cell? ⟨db,do'+k * 2+1,none⟩=some (.int .i64 yh))
     (first | go_keep | exact⟨s1,s2,s3,s4⟩ | exact⟨t1,t2,t3,t4⟩ | exact⟨q1,q2,q3,q4⟩)
     (first
      | (go_at_call 63;refine (HJ.out _).mono ?_;rintro e w3 ⟨rfl,hb3⟩;have s1:=(hb3.cell (p:=⟨ab,ao+k * 2,none⟩) hal).trans a1;have s2:=(hb3.cell (p:=⟨ab,ao+k * 2+1,none⟩) hal).trans a2;have s3:=(hb3.cell (p:=⟨db,do'+k * 2,none⟩) hdl).trans b1;have s4:=(hb3.cell (p:=⟨db,do'+k * 2+1,none⟩) hdl).trans b2)
      | (go_at_call 62;refine (HWd.out _).mono ?_;rintro e w4 ⟨rfl,hb4⟩;have hb34:=hb3.trans (hb4.mono hb3.size);have t1:=(hb34.cell (p:=⟨ab,ao+k * 2,none⟩) hal).trans a1;have t2:=(hb34.cell (p:=⟨ab,ao+k * 2+1,none⟩) hal).trans a2;have t3:=(hb34.cell (p:=⟨db,do'+k * 2,none⟩) hdl).trans b1;have t4:=(hb34.cell (p:=⟨db,do'+k * 2+1,none⟩) hdl).trans b2;obtain⟨y0,y1,f0,f1,HO4⟩:=join_mid HO2.out.1 HO2.out.2 hb34 hlt;have hsz:=hb34.size;have hgq:=(HO4.out.1.setIv k hlt ⟨ul,uh⟩).2;have q1:=(World.cell?_of_block (a:=⟨ab,ao+k * 2,none⟩) (hgq.block ab (Nat.lt_of_lt_of_le hal hsz) hnab.out)).trans t1;have q2:=(World.cell?_of_block (a:=⟨ab,ao+k * 2+1,none⟩) (hgq.block ab (Nat.lt_of_lt_of_le hal hsz) hnab.out)).trans t2;have q3:=(World.cell?_of_block (a:=⟨db,do'+k * 2,none⟩) (hgq.block db (Nat.lt_of_lt_of_le hdl hsz) hndb.out)).trans t3;have q4:=(World.cell?_of_block (a:=⟨db,do'+k * 2+1,none⟩) (hgq.block db (Nat.lt_of_lt_of_le hdl hsz) hndb.out)).trans t4))
    all_goals
     obtain⟨ho3,hg3⟩:=HO4.out.1.setIv k hlt ⟨ul,uh⟩
     have hb5:Below w.heap.size w ((w4.setCell ⟨ob,k * 2,none⟩ (.int .i64 ul)).setCell ⟨ob,k * 2+1,none⟩ (.int .i64 uh)):=HO4.out.2.grown hg3 HO4.out.2.size (fun k hk=>by injection hk with hk;rw [←hk];exact hob1)
     have HN:Hid (OwnS encIv 2 ((w4.setCell ⟨ob,k * 2,none⟩ (.int .i64 ul)).setCell ⟨ob,k * 2+1,none⟩ (.int .i64 uh)) w.heap.size 55 (some ⟨ob,0,none⟩) n c2 (nextK p.code lo hi pass head fin (k+1))∧Below w.heap.size w ((w4.setCell ⟨ob,k * 2,none⟩ (.int .i64 ul)).setCell ⟨ob,k * 2+1,none⟩ (.int .i64 uh))):=⟨by rw [hsp.out,hnv.out];exact ho3,hb5⟩
     clear ho3 hg3 hb5
     go_wp2_with fail
     go_roundw
     case rel=>exact⟨k+1,by omega,by go_num,HN⟩
     case measure=>(simp [intOf]) <;> omega
   ·have d3:decide ((pass:Int) < 3)=false:=by simp;omega
    cases b with
    | false=>
     have hnv:Hid (nextV p.code lo hi pass head fin k=gL (nextK p.code lo hi pass head fin k) k):=by show _=_;unfold nextV;rw [if_neg hp3,←hsb,if_neg (by decide),nextK_gL (by rw [HL.out.1];exact hlt)]
     clear hsb
     go_wp2_with fail
     refine HC.out.mono ?_
     rintro e w2 ⟨rfl,hb2⟩
     have hset:(nextK p.code lo hi pass head fin k).set k (gL (nextK p.code lo hi pass head fin k) k)=nextK p.code lo hi pass head fin k:=by
      rw [gL_get (by have:=HR.out.1.length (fun _=>rfl) (by decide);omega)]
      exact List.set_getElem_self _
     have HN:Hid (OwnS encIv 2 w2 w.heap.size 55 A2 n c2 (nextK p.code lo hi pass head fin (k+1))∧Below w.heap.size w w2):=⟨by rw [hsp.out,hnv.out,hset];exact HR.out.1.below hb2,HR.out.2.trans (hb2.mono HR.out.2.size)⟩
     clear hset hb2
     go_wp2_with fail
     go_roundw
     case rel=>exact⟨k+1,by omega,by go_num,HN⟩
     case measure=>(simp [intOf]) <;> omega
    | true=>
     have hnv:Hid (nextV p.code lo hi pass head fin k=⟨0,4294967295⟩):=by show _=_;unfold nextV;rw [if_neg hp3,←hsb,if_pos rfl];rfl
     clear hsb
     go_wp2_with fail
     refine HC.out.mono ?_
     rintro e w2 ⟨rfl,hb2⟩
     have HO2:=Lib.hid (And.intro (HR.out.1.below hb2) (HR.out.2.trans (hb2.mono HR.out.2.size)))
     obtain⟨ob,rfl,hob1,hob2,hoc⟩:=HO2.out.1.get (fun _=>rfl) (by decide) ⟨0,0⟩ (by omega)
     clear hoc hb2 HC HCT y2 x2 r5 ew
     go_wp2_with fail
     refine (full_any _).mono ?_
     rintro e w4 ⟨rfl,hb4⟩
     obtain⟨y0,y1,f0,f1,HO4⟩:=next_mid HO2.out.1 HO2.out.2 hb4 hlt
     clear hb4
     go_upto_region 10 with fail
     all_goals
      obtain⟨ho3,hg3⟩:=HO4.out.1.setIv k hlt ⟨0,4294967295⟩
      have hb5:Below w.heap.size w ((w4.setCell ⟨ob,k * 2,none⟩ (.int .i64 0)).setCell ⟨ob,k * 2+1,none⟩ (.int .i64 4294967295)):=HO4.out.2.grown hg3 HO4.out.2.size (fun k hk=>by injection hk with hk;rw [←hk];exact hob1)
      have HN:Hid (OwnS encIv 2 ((w4.setCell ⟨ob,k * 2,none⟩ (.int .i64 0)).setCell ⟨ob,k * 2+1,none⟩ (.int .i64 4294967295)) w.heap.size 55 (some ⟨ob,0,none⟩) n c2 (nextK p.code lo hi pass head fin (k+1))∧Below w.heap.size w ((w4.setCell ⟨ob,k * 2,none⟩ (.int .i64 0)).setCell ⟨ob,k * 2+1,none⟩ (.int .i64 4294967295))):=⟨by rw [hsp.out,hnv.out];exact ho3,hb5⟩
      clear ho3 hg3 hb5
      go_wp2_with fail
      go_roundw
      case rel=>exact⟨k+1,by omega,by go_num,HN⟩
      case measure=>(simp [intOf]) <;> omega
  ·obtain rfl:k=n:=by omega
   have d0:decide ((k:Int) < (k:Int))=false:=by simp
   go_wp2_with fail
   go_ret
   refine⟨⟨A2,c2,rfl,?_⟩,HR.out.2⟩
   have h1:=HR.out.1
   unfold nextK at h1
   rw [List.take_of_length_le (by rw [nextH_length,HL.out.1];exact Nat.le_refl _),List.drop_of_length_le (by rw [HL.out.1];exact Nat.le_refl _),List.append_nil] at h1
   exact IvK.of_own h1
end Go.Proofs.YtepoclhdklgnhaaGreatDoor
