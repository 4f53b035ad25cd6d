/- Vt Vu Vv Wv Mr Wx Xa Xr. -/
import Derived.Test.YtpaplehcafeeaaaGreatDoorLE21
import Derived.Lib.SliceRun
import Derived.OwnWalk
import Derived.BigRegion
import Derived.Test.YtpaplehcafeeaaaGreatDoorLE02
import Derived.Test.YtpaplehcafeeaaaGreatDoorLE26
import Derived.BigQuiet
set_option maxRecDepth 100000
set_option maxHeartbeats 40000000
set_option linter.unusedVariables false
set_option linter.unusedSimpArgs false
set_option linter.unusedSectionVars false
namespace Go.Proofs.YtpaplehcafeeaaaGreatDoor
open Go.RowKit Go.Proofs
def encIv(x:Iv):List Value:=[.int .i64 x.lo,.int .i64 x.hi]
theorem encIv_one(x:Iv):∀ u∈encIv x,u.oneCell'=true:=by
 intro u hu
 simp only [encIv,List.mem_cons,List.not_mem_nil,or_false] at hu
 rcases hu with h | h <;> rw [h] <;> rfl
theorem uIvs:Tryz.prog.underlying 48=some (.slice 148):=by kernel_rfl
theorem infoIv:(Tryz.prog.info? 148).map (fun i=>(i.zero,i.size,i.bytes))=some (some (.agg #[.int .i64 0,.int .i64 0]),2,16):=by kernel_rfl
def Ivs(w:World)(A:Option Addr)(n c:Nat)(l:List Iv):Prop:=l.length=n∧n≤c∧Cells2 w A n (fun i=>.int .i64 (gL l i).lo) (fun i=>.int .i64 (gL l i).hi)
theorem Ivs.below{w w':World}{A:Option Addr}{n c:Nat}{l:List Iv}(h:Ivs w A n c l)(hb:Below w.heap.size w w'):Ivs w' A n c l:=⟨h.1,h.2.1,h.2.2.below hb⟩
theorem OwnS.ivs{w:World}{B:Nat}{A:Option Addr}{n c:Nat}{l:List Iv}(h:OwnS encIv 2 w B 148 A n c l):Ivs w A n c l:=by
 refine⟨h.length (fun _=>rfl) (by decide),h.cap,fun hn=>?_⟩
 obtain⟨g,rfl,h1,h2,h3⟩:=h.get (fun _=>rfl) (by decide) ⟨0,0⟩ hn
 exact⟨g,0,rfl,h2,fun i hi=>⟨by rw [Nat.zero_add];exact h3 i 0 _ hi rfl,by rw [Nat.zero_add];exact h3 i 1 _ hi rfl⟩⟩
theorem flat_iv(l:List Iv)(j:Nat)(u:Value)(h:(l.flatMap encIv)[j]?=some u):∃ i,i < l.length∧((j=i * 2∧u=.int .i64 (gL l i).lo)∨(j=i * 2+1∧u=.int .i64 (gL l i).hi)):=by
 have hl:=flat_length (enc:=encIv) (sz:=2) (fun _=>rfl) l
 have hj:=(List.getElem?_eq_some_iff.1 h).1
 rw [hl] at hj
 refine⟨j / 2,by omega,?_⟩
 rcases Nat.mod_two_eq_zero_or_one j with h2 | h2
 ·left
  have h3:=flat_get (enc:=encIv) (sz:=2) (fun _=>rfl) ⟨0,0⟩ l (j / 2) 0 (by omega) (by omega)
  rw [show j / 2 * 2+0=j by omega,h] at h3
  exact⟨by omega,by injection h3⟩
 ·right
  have h3:=flat_get (enc:=encIv) (sz:=2) (fun _=>rfl) ⟨0,0⟩ l (j / 2) 1 (by omega) (by omega)
  rw [show j / 2 * 2+1=j by omega,h] at h3
  exact⟨by omega,by injection h3⟩
theorem cloneIv_any(A:Option Addr)(n c:Nat)(l:List Iv)(w:World)(hx:Ivs w A n c l)(hn:n≤1000) :
  Calls Tryz.prog 81 #[.slice A n c] w fun e w'=>∃ A2 c2,e=.returned (.slice A2 n c2)∧OwnS encIv 2 w' w.heap.size 148 A2 n c2 l∧Below w.heap.size w w':=by
 have q22:∀ (w:World) (a:Option Addr) (n c n' c':Nat),(binOp .eql 48 (.slice a n c) (.slice none n' c')).run Tryz.prog w=.ok (.bool a.isNone) w:=fun w a n c n' c'=>Lib.run_eql_slice_nil w _ _ a n c n' c' uIvs
 obtain⟨i0,hi,hz0,hz1,hz2⟩:=Go.info_parts infoIv
 cases A with
 | none=>
  have h0:n=0:=by
   rcases Nat.eq_zero_or_pos n with h | h
   ·exact h
   ·obtain⟨b,off,h1,-⟩:=hx.2.2 h
    cases h1
  subst h0
  have hl:l=[]:=List.length_eq_zero_iff.1 hx.1
  subst hl
  go_enter Tryz.func81,Tryz.ntmps81
  go_wp2_with fail
  go_ret
  exact⟨none,0,rfl,OwnS.nil _ _ _ _ _,Below.refl _ _⟩
 | some ad=>
  have HX:=Lib.hid hx
  clear hx
  go_enter Tryz.func81,Tryz.ntmps81
  go_wp2_with (at_builtin;refine wpList_append_own _ rfl _ _ 48 rfl w.heap.size 148 i0 (.agg #[.int .i64 0,.int .i64 0]) 2 16 uIvs hi hz0 hz1 hz2 rfl (by decide) _ _ _ rfl (World.ownsRow_made w #[] 0 (Nat.le_refl _) (Nat.zero_le _) rfl) ad n c (l.flatMap encIv) rfl ?qc1 ?qc2 ?qc3 ?qc4 ?qc5 ?qc6 ?_)
  case qc1=>rw [flat_length (enc:=encIv) (sz:=2) (fun _=>rfl),HX.out.1]
  case qc2=>
   intro j u hj
   obtain⟨i,hi,h⟩:=flat_iv l j u hj
   rw [HX.out.1] at hi
   obtain⟨b,off,h1,h2,h3⟩:=HX.out.2.2 (by omega)
   injection h1 with h1
   subst h1
   rw [Addr.add_lit]
   refine Lib.cell?_alloc_some _ ?_
   rcases h with ⟨rfl,rfl⟩ | ⟨rfl,rfl⟩
   ·exact (h3 i hi).1
   ·exact (h3 i hi).2
  case qc3=>intro u hu;obtain⟨x,_,hu⟩:=List.mem_flatMap.1 hu;exact encIv_one x u hu
  case qc4=>unfold maxLen;omega
  case qc5=>omega
  case qc6=>simp
  intro v' w1 hown hgrow hnil
  go_wp2_with fail
  go_ret
  rcases hown.2 with ⟨h1,-⟩ | ⟨g,cap,cur,h1,-⟩
  ·exact absurd h1 hnil
  ·subst h1
   exact⟨_,cap,rfl,hown,((Below.refl _ w).alloc (Nat.le_refl _) _).grown hgrow (by simp) (by intro k hk;simp [Value.ownBlock] at hk;omega)⟩
theorem flat_set2(z:Iv):∀ (xs:List Iv) (i:Nat),i < xs.length→((xs.flatMap encIv).set (i * 2) (.int .i64 z.lo)).set (i * 2+1) (.int .i64 z.hi)=(xs.set i z).flatMap encIv:=by
 intro xs
 induction xs with
 | nil=>intro i h;cases h
 | cons x xs ih=>
  intro i h
  cases i with
  | zero=>rfl
  | succ i=>
   have h1:=ih i (by simpa using h)
   rw [List.set_cons_succ,List.flatMap_cons,List.flatMap_cons,←h1]
   rw [List.set_append_right _ _ (by simp [encIv];omega),List.set_append_right _ _ (by simp [encIv];omega)]
   congr 2
   ·congr 1
    simp [encIv];omega
   ·simp [encIv];omega
theorem OwnS.setIv{w:World}{B b:Nat}{n c:Nat}{l:List Iv}(h:OwnS encIv 2 w B 148 (some ⟨b,0,none⟩) n c l)(i:Nat)(hi:i < n)(z:Iv) :
  OwnS encIv 2 ((w.setCell ⟨b,i * 2,none⟩ (.int .i64 z.lo)).setCell ⟨b,i * 2+1,none⟩ (.int .i64 z.hi)) B 148 (some ⟨b,0,none⟩) n c (l.set i z)∧w.grownBy ((w.setCell ⟨b,i * 2,none⟩ (.int .i64 z.lo)).setCell ⟨b,i * 2+1,none⟩ (.int .i64 z.hi)) (some b):=by
 obtain⟨h1,h2⟩:=World.ownsRow.stored h (i * 2) (.int .i64 z.lo)
 obtain⟨h3,h4⟩:=World.ownsRow.stored h1 (i * 2+1) (.int .i64 z.hi)
 refine⟨?_,grownBy.setCell' h2 _⟩
 rw [flat_set2 z l i (by rw [h.length (fun _=>rfl) (by decide)];exact hi)] at h3
 exact h3
theorem joinL_step{l m:List Iv}{k:Nat}(hl:k < l.length)(hm:m.length=l.length):(List.zipWith ivJoin (l.take k) (m.take k)++l.drop k).set k (ivJoin (gL l k) (gL m k))=List.zipWith ivJoin (l.take (k+1)) (m.take (k+1))++l.drop (k+1):=by
 have h1:(List.zipWith ivJoin (l.take k) (m.take k)).length=k:=by simp;omega
 rw [List.set_append_right _ _ (by omega),h1,Nat.sub_self,List.drop_eq_getElem_cons hl,List.set_cons_zero,List.take_succ_eq_append_getElem hl,List.take_succ_eq_append_getElem (by omega:k < m.length),List.zipWith_append (by simp;omega),gL_get hl,gL_get (by omega:k < m.length)]
 simp
theorem join_mid{w wr w2:World}{ob n c k:Nat}{L:List Iv}(h:OwnS encIv 2 wr w.heap.size 148 (some ⟨ob,0,none⟩) n c L)(hb:Below w.heap.size w wr)(hb2:Below wr.drew.heap.size wr.drew w2)(hk:k < n) :
  w2.cell? ⟨ob,k * 2,none⟩=some (.int .i64 (gL L k).lo)∧w2.cell? ⟨ob,k * 2+1,none⟩=some (.int .i64 (gL L k).hi)∧w2.frozen? ⟨ob,k * 2,none⟩=false∧w2.frozen? ⟨ob,k * 2+1,none⟩=false∧Hid (OwnS encIv 2 w2 w.heap.size 148 (some ⟨ob,0,none⟩) n c L∧Below w.heap.size w w2):=by
 have ho2:OwnS encIv 2 w2 w.heap.size 148 (some ⟨ob,0,none⟩) n c L:=OwnS.below (show OwnS encIv 2 wr.drew w.heap.size 148 (some ⟨ob,0,none⟩) n c L from h) hb2
 obtain⟨g2,hg2,-,-,hc2⟩:=ho2.get (fun _=>rfl) (by decide) ⟨0,0⟩ (by omega)
 injection hg2 with hg2
 injection hg2 with hg2
 subst hg2
 exact⟨hc2 k 0 _ hk rfl,hc2 k 1 _ hk rfl,World.ownsRow.frozenAt ho2 (k * 2),World.ownsRow.frozenAt ho2 (k * 2+1),Lib.hid ⟨ho2,(bdrew hb 1).trans (hb2.mono (bdrew hb 1).size)⟩⟩
theorem joinW_any(A D:Option Addr)(n c c':Nat)(l m:List Iv)(w:World)(hx:Ivs w A n c l)(hy:Ivs w D n c' m)(hn:n≤1000) :
  Calls Tryz.prog 142 #[.slice A n c,.slice D n c'] w fun e w'=>∃ A2 c2,e=.returned (.slice A2 n c2)∧OwnS encIv 2 w' w.heap.size 148 A2 n c2 (joinL l m)∧Below w.heap.size w w':=by
 have HC:=Lib.hid (cloneIv_any A n c l w hx hn)
 have HX:=Lib.hid hx
 have HY:=Lib.hid hy
 clear hx hy
 go_enter Tryz.func142,Tryz.ntmps142
 go_wp2_with fail
 refine HC.out.mono ?_
 rintro e w1 ⟨A2,c2,rfl,ho1,hb1⟩
 have HO1:=Lib.hid (And.intro ho1 hb1)
 clear ho1 hb1
 go_wp2_with fail
 go_loopw [6,11] (fun _ i wr=>∃ k:Nat,k≤n∧i=.int .i64 (k:Int)∧Hid (OwnS encIv 2 wr w.heap.size 148 A2 n c2 (List.zipWith ivJoin (l.take k) (m.take k)++l.drop k)∧Below w.heap.size w wr)) (fun _ i _=>n-(intOf i).toNat)
 case atStart=>exact⟨0,Nat.zero_le _,rfl,HO1⟩
 case round=>
  clear HO1
  obtain⟨k,hk,rfl,HR⟩:=hrel
  have hll:=Lib.hid HX.out.1
  have hml:=Lib.hid HY.out.1
  by_cases hlt:k < n
  ·have d0:decide ((k:Int) < (n:Int))=true:=by simp;omega
   have d0':decide (k < n)=true:=by simp;omega
   obtain⟨ab,ao,rfl,ha1,ha2⟩:=HX.out.2.2 (by omega)
   obtain⟨db,do',rfl,hd1,hd2⟩:=HY.out.2.2 (by omega)
   obtain⟨ob,rfl,hob1,hob2,hoc⟩:=HR.out.1.get (fun _=>rfl) (by decide) ⟨0,0⟩ (by omega)
   have a1:wr.cell? ⟨ab,ao+k * 2,none⟩=some (.int .i64 (gL l k).lo):=(HR.out.2.cell (p:=⟨ab,ao+k * 2,none⟩) ha1).trans (ha2 k hlt).1
   have a2:wr.cell? ⟨ab,ao+k * 2+1,none⟩=some (.int .i64 (gL l k).hi):=(HR.out.2.cell (p:=⟨ab,ao+k * 2+1,none⟩) ha1).trans (ha2 k hlt).2
   have b1:wr.cell? ⟨db,do'+k * 2,none⟩=some (.int .i64 (gL m k).lo):=(HR.out.2.cell (p:=⟨db,do'+k * 2,none⟩) hd1).trans (hd2 k hlt).1
   have b2:wr.cell? ⟨db,do'+k * 2+1,none⟩=some (.int .i64 (gL m k).hi):=(HR.out.2.cell (p:=⟨db,do'+k * 2+1,none⟩) hd1).trans (hd2 k hlt).2
   clear ha2 hd2 hoc
   have HJ:=Lib.hid (join_any (gL l k) (gL m k))
   obtain⟨⟨xl,xh⟩,hx⟩:∃ x,x=gL l k:=⟨_,rfl⟩
   obtain⟨⟨yl,yh⟩,hy⟩:∃ y,y=gL m k:=⟨_,rfl⟩
   rw [←hx] at HJ a1 a2
   rw [←hy] at HJ b1 b2
   have HXY:=Lib.hid (And.intro hx hy)
   clear hx hy
   dsimp only at HJ a1 a2 b1 b2
   obtain⟨⟨zl,zh⟩,hz⟩:∃ z,z=ivJoin ⟨xl,xh⟩ ⟨yl,yh⟩:=⟨_,rfl⟩
   rw [←hz] at HJ
   have HZ:=Lib.hid hz
   clear hz
   dsimp only at HJ
   obtain⟨Lk,hLk⟩:∃ Lk,Lk=List.zipWith ivJoin (l.take k) (m.take k)++l.drop k:=⟨_,rfl⟩
   rw [←hLk] at HR
   have HLk:=Lib.hid hLk
   clear hLk
   go_wp2_with fail
   go_region_with (first | (go_at_call 84;refine (HJ.out _).mono ?_;rintro e w2 ⟨rfl,hb2⟩;obtain⟨y0,y1,f0,f1,HO2⟩:=join_mid HR.out.1 HR.out.2 hb2 hlt))
   all_goals
    obtain⟨ho3,hg3⟩:=HO2.out.1.setIv k hlt ⟨zl,zh⟩
    have hb3:Below w.heap.size w ((w2.setCell ⟨ob,k * 2,none⟩ (.int .i64 zl)).setCell ⟨ob,k * 2+1,none⟩ (.int .i64 zh)):=HO2.out.2.grown hg3 HO2.out.2.size (fun k hk=>by injection hk with hk;rw [←hk];exact hob1)
    have HN:=Lib.hid (And.intro ho3 hb3)
    clear ho3 hg3 hb3
    go_wp2_with fail
    go_roundw
    case rel=>
     refine⟨k+1,by omega,by go_num,Lib.hid ⟨?_,HN.out.2⟩⟩
     have h1:=HN.out.1
     have e:Lk.set k ⟨zl,zh⟩=List.zipWith ivJoin (l.take (k+1)) (m.take (k+1))++l.drop (k+1):=by
      rw [HLk.out,HZ.out,HXY.out.1,HXY.out.2]
      exact joinL_step (by have:=hll.out;omega) (by have:=hll.out;have:=hml.out;omega)
     rw [e] at h1
     exact h1
    case measure=>(simp [intOf]) <;> omega
  ·obtain rfl:k=n:=by omega
   have d0:decide ((k:Int) < (k:Int))=false:=by simp
   go_wp2_with fail
   go_ret
   refine⟨A2,c2,rfl,?_,HR.out.2⟩
   have h1:=HR.out.1
   rw [List.take_of_length_le (by have:=hll.out;omega),List.take_of_length_le (by have:=hml.out;omega),List.drop_of_length_le (by have:=hll.out;omega),List.append_nil] at h1
   exact h1
theorem withinL_false{l m:List Iv}{k:Nat}(hk:k < l.length)(h:ivIn (gL l k) (gL m k)=false):withinL l m=false:=by
 cases hw:withinL l m with
 | false=>rfl
 | true=>rw [(withinL_iff.1 hw).2 k hk] at h;cases h
theorem equalIv_any(A D:Option Addr)(n c c':Nat)(l m:List Iv)(w:World)(hx:Ivs w A n c l)(hy:Ivs w D n c' m)(hn:n≤1000) :
  Calls Tryz.prog 180 #[.slice A n c,.slice D n c',.func (.func 181) #[] #[]] w fun e w'=>e=.returned (.bool (withinL l m))∧Below w.heap.size w w':=by
 have HX:=Lib.hid hx
 have HY:=Lib.hid hy
 clear hx hy
 go_enter Tryz.func180,Tryz.ntmps180
 go_wp2_with fail
 go_loopw [7,8,9,17] (fun _ _ _ i wr=>∃ k:Nat,k≤n∧i=.int .i64 (k:Int)∧Hid (∀ j,j < k→ivIn (gL l j) (gL m j)=true)∧Hid (Below w.heap.size w wr)) (fun _ _ _ i _=>n-(intOf i).toNat)
 case atStart=>exact⟨0,Nat.zero_le _,rfl,Lib.hid (fun j hj=>by omega),Lib.hid (Below.refl _ _)⟩
 case round=>
  obtain⟨k,hk,rfl,HP,HB⟩:=hrel
  have hll:=Lib.hid HX.out.1
  have hml:=Lib.hid HY.out.1
  by_cases hlt:k < n
  ·have d0:decide ((k:Int) < (n:Int))=true:=by simp;omega
   have d0':decide (k < n)=true:=by simp;omega
   obtain⟨ab,ao,rfl,ha1,ha2⟩:=HX.out.2.2 (by omega)
   obtain⟨db,do',rfl,hd1,hd2⟩:=HY.out.2.2 (by omega)
   have a1:wr.cell? ⟨ab,ao+k * 2,none⟩=some (.int .i64 (gL l k).lo):=(HB.out.cell (p:=⟨ab,ao+k * 2,none⟩) ha1).trans (ha2 k hlt).1
   have a2:wr.cell? ⟨ab,ao+k * 2+1,none⟩=some (.int .i64 (gL l k).hi):=(HB.out.cell (p:=⟨ab,ao+k * 2+1,none⟩) ha1).trans (ha2 k hlt).2
   have b1:wr.cell? ⟨db,do'+k * 2,none⟩=some (.int .i64 (gL m k).lo):=(HB.out.cell (p:=⟨db,do'+k * 2,none⟩) hd1).trans (hd2 k hlt).1
   have b2:wr.cell? ⟨db,do'+k * 2+1,none⟩=some (.int .i64 (gL m k).hi):=(HB.out.cell (p:=⟨db,do'+k * 2+1,none⟩) hd1).trans (hd2 k hlt).2
   have hdl:db < wr.heap.size:=Nat.lt_of_lt_of_le hd1 HB.out.size
   clear ha2 hd2
   have HJ:=Lib.hid (within_any (gL l k) (gL m k))
   obtain⟨⟨xl,xh⟩,hx⟩:∃ x,x=gL l k:=⟨_,rfl⟩
   obtain⟨⟨yl,yh⟩,hy⟩:∃ y,y=gL m k:=⟨_,rfl⟩
   rw [←hx] at HJ a1 a2
   rw [←hy] at HJ b1 b2
   obtain⟨z,hz⟩:∃ z,z=ivIn ⟨xl,xh⟩ ⟨yl,yh⟩:=⟨_,rfl⟩
   rw [←hz] at HJ
   rw [hx,hy] at hz
   have HZ:=Lib.hid hz
   clear hx hy hz
   dsimp only at HJ a1 a2 b1 b2
   have hw2:Below w.heap.size w ((wr.alloc (.cells #[.int .i64 xl,.int .i64 xh] 148)).alloc (.cells #[.int .i64 yl,.int .i64 yh] 148)):=balloc (balloc HB.out _) _
   have HW2:=Lib.hid hw2
   clear hw2
   cases z with
   | true=>
    go_wp2_with fail
    refine (HJ.out _).mono ?_
    rintro e w3 ⟨rfl,hb3⟩
    go_wp2_with fail
    go_roundw
    case rel=>exact⟨k+1,by omega,by go_num,Lib.hid (fun j hj=>by
     rcases Nat.lt_succ_iff_lt_or_eq.1 hj with h | rfl
     ·exact HP.out j h
     ·exact HZ.out.symm),Lib.hid (HW2.out.trans (hb3.mono HW2.out.size))⟩
    case measure=>(simp [intOf]) <;> omega
   | false=>
    have hF:=Lib.hid (withinL_false (by have:=hll.out;omega) HZ.out.symm)
    go_wp2_with fail
    refine (HJ.out _).mono ?_
    rintro e w3 ⟨rfl,hb3⟩
    go_wp2_with fail
    rw [hF.out]
    refine bodyPost_ret (results_tmp rfl _ _ _) rfl ?_
    exact⟨rfl,HW2.out.trans (hb3.mono HW2.out.size)⟩
  ·obtain rfl:k=n:=by omega
   have d0:decide ((k:Int) < (k:Int))=false:=by simp
   have hT:Hid (withinL l m=true):=withinL_iff.2 ⟨by rw [hll.out,hml.out],fun j hj=>HP.out j (by have:=hll.out;omega)⟩
   go_wp2_with fail
   rw [hT.out]
   refine bodyPost_ret (results_tmp rfl _ _ _) rfl ?_
   exact⟨rfl,HB.out⟩
theorem withinW_any(A D:Option Addr)(n c c':Nat)(l m:List Iv)(w:World)(hx:Ivs w A n c l)(hy:Ivs w D n c' m)(hn:n≤1000) :
  Calls Tryz.prog 143 #[.slice A n c,.slice D n c'] w fun e w'=>e=.returned (.bool (withinL l m))∧Below w.heap.size w w':=by
 have H:=Lib.hid (equalIv_any A D n c c' l m w hx hy hn)
 go_enter Tryz.func143,Tryz.ntmps143
 go_wp2_with fail
 refine H.out.mono ?_
 rintro e w1 ⟨rfl,hb1⟩
 go_wp2_with fail
 go_ret
 exact⟨rfl,hb1⟩
end Go.Proofs.YtpaplehcafeeaaaGreatDoor
namespace Go.Proofs.YtpaplehcafeeaaaGreatDoor
open Go.RowKit Go.Proofs
theorem OwnS.cut{α:Type}{enc:α→List Value}{sz:Nat}{w:World}{B:Nat}{e:TypeId}{A:Option Addr}{n c:Nat}{xs:List α}(h:OwnS enc sz w B e A n c xs)(hl:∀ x,(enc x).length=sz)(hs:0 < sz){k:Nat}(hk:k≤n):OwnS enc sz w B e A k c (xs.take k):=by
 have hlen:=h.length hl hs
 have e1:(xs.take k).flatMap enc=(xs.flatMap enc).take (k * sz):=by
  have h1:xs.flatMap enc=(xs.take k).flatMap enc++(xs.drop k).flatMap enc:=by rw [←List.flatMap_append,List.take_append_drop]
  have h2:((xs.take k).flatMap enc).length=k * sz:=by rw [flat_length hl,List.length_take,hlen,Nat.min_eq_left hk]
  rw [h1,List.take_append_of_le_length (Nat.le_of_eq h2.symm),List.take_of_length_le (Nat.le_of_eq h2)]
 refine⟨by rw [flat_length hl,List.length_take,hlen,Nat.min_eq_left hk],?_⟩
 rcases h.2 with ⟨h1,h2⟩ | ⟨g,cap,cur,h1,h2,h3,h4,h5,h6,h7⟩
 ·injection h1 with h1 h3 h4
  subst h1 h3 h4
  obtain rfl:k=0:=by omega
  exact .inl ⟨rfl,rfl⟩
 ·injection h1 with h1 h1' h1''
  subst h1 h1''
  refine .inr ⟨g,c,cur,rfl,h2,h3,by omega,h5,h6,?_⟩
  rw [e1,←h7,List.take_take,Nat.min_eq_left (Nat.mul_le_mul_right _ hk)]
def encVl(x:Vl):List Value:=[.bool x.tr,.int .i64 x.iv.lo,.int .i64 x.iv.hi]
theorem encVl_one(x:Vl):∀ u∈encVl x,u.oneCell'=true:=by
 intro u hu
 simp only [encVl,List.mem_cons,List.not_mem_nil,or_false] at hu
 rcases hu with h | h | h <;> rw [h] <;> rfl
structure SlV where
 A:Option Addr
 n:Nat
 c:Nat
def encSv(x:SlV):List Value:=[.slice x.A x.n x.c]
theorem encSv_one(x:SlV):∀ u∈encSv x,u.oneCell'=true:=by
 intro u hu
 simp only [encSv,List.mem_singleton] at hu
 rw [hu];rfl
theorem uVl:Tryz.prog.underlying 143=some (.slice 242):=by kernel_rfl
theorem uSv:Tryz.prog.underlying 124=some (.slice 48):=by kernel_rfl
theorem infoVl:(Tryz.prog.info? 242).map (fun i=>(i.zero,i.size,i.bytes))=some (some (.agg #[.bool false,.int .i64 0,.int .i64 0]),3,24):=by kernel_rfl
theorem infoSv:(Tryz.prog.info? 48).map (fun i=>(i.zero,i.size,i.bytes))=some (some (.slice none 0 0),1,24):=by kernel_rfl
abbrev StkS(w:World)(B:Nat)(A:Option Addr)(n c:Nat)(xs:List Vl):Prop:=OwnS encVl 3 w B 242 A n c xs
abbrev LvsS(w:World)(B:Nat)(A:Option Addr)(n c:Nat)(xs:List SlV):Prop:=OwnS encSv 1 w B 48 A n c xs
structure ArgB where
 q:Nat→Prop
variable [Inhabited ArgB]
def IvB(B:Nat)(w:World)(b:Nat):Prop:=(b < B∧(default:ArgB).q b)∨∃ cs fr,w.heap[b]?=some (Obj.cells cs 148 fr)
def IvK(B:Nat)(w:World)(A:Option Addr)(n c:Nat)(l:List Iv):Prop:=Ivs w A n c l∧(0 < n→∃ b off,A=some ⟨b,off,none⟩∧b < w.heap.size∧IvB B w b)
theorem IvK.of_own{B B2:Nat}{w:World}{A:Option Addr}{n c:Nat}{l:List Iv}(h:OwnS encIv 2 w B2 148 A n c l):IvK B w A n c l:=by
 refine⟨h.ivs,fun hn=>?_⟩
 obtain⟨g,rfl,h1,h2,-⟩:=h.get (fun _=>rfl) (by decide) ⟨0,0⟩ hn
 obtain⟨-,-,cur,hcur⟩:=h.blk (b:=g) (by unfold Value.ownBlock;rfl)
 exact⟨g,0,rfl,h2,.inr ⟨cur,_,hcur⟩⟩
structure KI (B:Nat) (w w':World):Prop where
 below:Below B w w'
 iv:∀ (k:Nat) cs fr,w.heap[k]?=some (Obj.cells cs 148 fr)→w'.heap[k]?=w.heap[k]?
theorem KI.refl(B:Nat)(w:World):KI B w w:=⟨Below.refl _ _,fun _ _ _ _=>rfl⟩
theorem KI.trans{B:Nat}{w w1 w2:World}(h:KI B w w1)(h':KI B w1 w2):KI B w w2:=⟨h.below.trans h'.below,fun k cs fr hk=>(h'.iv k cs fr ((h.iv k cs fr hk).trans hk)).trans (h.iv k cs fr hk)⟩
theorem lt_of_heap{w:World}{k:Nat}{o:Obj}(h:w.heap[k]?=some o):k < w.heap.size:=by
 obtain⟨h1,-⟩:=Array.getElem?_eq_some_iff.1 h
 exact h1
theorem KI.of_below{B:Nat}{w w':World}(h:Below w.heap.size w w')(hB:B≤w.heap.size):KI B w w':=⟨h.mono hB,fun k cs fr hk=>h.block k (lt_of_heap hk)⟩
theorem KI.of_grown{B:Nat}{w w':World}{row:Option Nat}(h:w.grownBy w' row)(hB:∀ k,row=some k→B≤k)(hs:B≤w.heap.size)(ht:∀ (k:Nat) cs fr,row=some k→w.heap[k]?≠some (Obj.cells cs 148 fr)):KI B w w':=
 ⟨(Below.refl _ w).grown h hs hB,fun k cs fr hk=>h.block k (lt_of_heap hk) (fun e=>ht k cs fr e.symm hk)⟩
theorem KI.drewN{B:Nat}{w w':World}(h:KI B w w')(q:Nat):KI B w (w'.drewN q):=⟨bdrew h.below q,h.iv⟩
theorem IvK.keep{B:Nat}{w w':World}{A:Option Addr}{n c:Nat}{l:List Iv}(h:IvK B w A n c l)(hk:KI B w w'):IvK B w' A n c l:=by
 have hblk:∀ b,IvB B w b→w'.heap[b]?=w.heap[b]?:=fun b hb=>by
  rcases hb with ⟨h1,-⟩ | ⟨cs,fr,h1⟩
  ·exact hk.below.block b h1
  ·exact hk.iv b cs fr h1
 refine⟨⟨h.1.1,h.1.2.1,fun hn=>?_⟩,fun hn=>?_⟩
 ·obtain⟨b,off,rfl,h1,h2⟩:=h.1.2.2 hn
  obtain⟨b',off',e1,-,h3⟩:=h.2 hn
  injection e1 with e1
  injection e1 with e1 e2
  subst e1 e2
  have e:=hblk b h3
  exact⟨b,off,rfl,Nat.lt_of_lt_of_le h1 hk.below.size,fun i hi=>⟨(World.cell?_of_block (a:=⟨b,off+i * 2,none⟩) e).trans (h2 i hi).1,(World.cell?_of_block (a:=⟨b,off+i * 2+1,none⟩) e).trans (h2 i hi).2⟩⟩
 ·obtain⟨b,off,rfl,h1,h2⟩:=h.2 hn
  refine⟨b,off,rfl,Nat.lt_of_lt_of_le h1 hk.below.size,?_⟩
  rcases h2 with h3 | ⟨cs,fr,h3⟩
  ·exact .inl h3
  ·exact .inr ⟨cs,fr,(hk.iv b cs fr h3).trans h3⟩
structure WV where
 aA:Option Addr
 an:Nat
 ac:Nat
 L:Int
 cA:Option Addr
 cn:Nat
 cc:Nat
 pA:Option Addr
 pn:Nat
 pc:Nat
 f1:Value
 f2:Value
structure WD where
 lA:Option Addr
 ln:Nat
 lc:Nat
 sA:Option Addr
 sn:Nat
 sc:Nat
 vA:Option Addr
 vn:Nat
 vc:Nat
 X:List SlV
 mn:Nat
def rowK(v:WV)(d:WD)(hgt:Int)(mb:Nat):Array Value:=#[.slice v.aA v.an v.ac,.int .i64 v.L,.slice v.cA v.cn v.cc,.slice v.pA v.pn v.pc,v.f1,v.f2,.slice d.lA d.ln d.lc,.slice d.sA d.sn d.sc,.int .i64 hgt,.slice d.vA d.vn d.vc,.map (some mb)]
def InvV(B:Nat)(w:World)(x:Inv)(v:Value):Prop:=∃ A c,v=.agg #[.int .i64 x.at_,.int .i64 x.most,.slice A x.locs.length c]∧IvK B w A x.locs.length c x.locs
def MapI(B:Nat)(w:World)(l:List Inv)(f:Int→Option Value):Prop:=∀ k:Nat,match invAt l k with
 | none=>f (k:Int)=none
 | some x=>∃ v,f (k:Int)=some v∧InvV B w x v
structure WK (B g mb:Nat) (v:WV) (w:World) (st:St) (d:WD):Prop where
 row:rowV w g 145 (rowK v d (st.hgt:Int) mb)
 hg:B≤g
 hB:B≤w.heap.size
 locs:IvK B w d.lA d.ln d.lc st.locs
 stk:StkS w B d.sA d.sn d.sc st.stk
 lvs:LvsS w B d.vA d.vn d.vc d.X
 lvl:d.X.length=st.lvs.length
 lvi:∀ i,i < d.X.length→IvK B w (d.X.getD i ⟨none,0,0⟩).A (d.X.getD i ⟨none,0,0⟩).n (d.X.getD i ⟨none,0,0⟩).c (st.lvs.getD i [])
 hm:B≤mb
 map:∃ f,MapZ Tryz.prog 3 .i64 w mb d.mn f∧MapI B w st.inv f
structure KW (B:Nat) (o o':Option Nat) (w w':World):Prop where
 ki:KI B w w'
 lv:∀ (k:Nat) cs fr,w.heap[k]?=some (Obj.cells cs 48 fr)→o≠some k→w'.heap[k]?=w.heap[k]?
 fr:∀ k,o'=some k→o=some k∨w.heap.size≤k
def WD.own(d:WD):Option Nat:=(Value.slice d.vA d.vn d.vc).ownBlock
theorem KW.refl(B:Nat)(o:Option Nat)(w:World):KW B o o w w:=⟨KI.refl _ _,fun _ _ _ _ _=>rfl,fun k hk=>.inl hk⟩
theorem KW.trans{B:Nat}{o o1 o2:Option Nat}{w w1 w2:World}(h:KW B o o1 w w1)(h':KW B o1 o2 w1 w2):KW B o o2 w w2:=by
 refine⟨h.ki.trans h'.ki,fun k cs fr hk hne=>?_,fun k hk=>?_⟩
 ·have e1:=h.lv k cs fr hk hne
  refine (h'.lv k cs fr (e1.trans hk) (fun e=>?_)).trans e1
  rcases h.fr k e with h2 | h2
  ·exact hne h2
  ·have:=lt_of_heap hk;omega
 ·rcases h'.fr k hk with h1 | h1
  ·exact h.fr k h1
  ·right;have:=h.ki.below.size;omega
theorem KW.of_below{B:Nat}{o:Option Nat}{w w':World}(h:Below w.heap.size w w')(hB:B≤w.heap.size):KW B o o w w':=⟨KI.of_below h hB,fun k cs fr hk _=>h.block k (lt_of_heap hk),fun k hk=>.inl hk⟩
theorem KW.of_grown{B:Nat}{o:Option Nat}{w w':World}{row:Option Nat}(h:w.grownBy w' row)(hB:∀ k,row=some k→B≤k)(hs:B≤w.heap.size)(ht:∀ (k:Nat) cs fr,row=some k→w.heap[k]?≠some (Obj.cells cs 148 fr))(ht2:∀ (k:Nat) cs fr,row=some k→w.heap[k]?≠some (Obj.cells cs 48 fr)):KW B o o w w':=
 ⟨KI.of_grown h hB hs ht,fun k cs fr hk _=>h.block k (lt_of_heap hk) (fun e=>ht2 k cs fr e.symm hk),fun k hk=>.inl hk⟩
theorem KW.drewN{B:Nat}{o o':Option Nat}{w w':World}(h:KW B o o' w w')(q:Nat):KW B o o' w (w'.drewN q):=⟨h.ki.drewN q,h.lv,h.fr⟩
theorem ownBlock_len(A:Option Addr)(n c n' c':Nat):(Value.slice A n c).ownBlock=(Value.slice A n' c').ownBlock:=by cases A <;> rfl
def WD.sown(d:WD):Option Nat:=(Value.slice d.sA d.sn d.sc).ownBlock
structure KV (B g mb:Nat) (d d':WD) (w w':World):Prop where
 kw:KW B d.own d'.own w w'
 keep:∀ (k:Nat),k < w.heap.size→k≠g→k≠mb→d.own≠some k→d.sown≠some k→w'.heap[k]?=w.heap[k]?
 fs:∀ k,d'.sown=some k→d.sown=some k∨w.heap.size≤k
theorem KV.refl(B g mb:Nat)(d:WD)(w:World):KV B g mb d d w w:=⟨KW.refl _ _ _,fun _ _ _ _ _ _=>rfl,fun k hk=>.inl hk⟩
theorem KV.trans{B g mb:Nat}{d d1 d2:WD}{w w1 w2:World}(h:KV B g mb d d1 w w1)(h':KV B g mb d1 d2 w1 w2):KV B g mb d d2 w w2:=by
 have hsz:=h.kw.ki.below.size
 refine⟨h.kw.trans h'.kw,fun k h0 h1 h2 h3 h4=>(h'.keep k (by omega) h1 h2 (fun e=>?_) (fun e=>?_)).trans (h.keep k h0 h1 h2 h3 h4),fun k hk=>?_⟩
 ·rcases h.kw.fr k e with h5 | h5
  ·exact h3 h5
  ·omega
 ·rcases h.fs k e with h5 | h5
  ·exact h4 h5
  ·omega
 ·rcases h'.fs k hk with h5 | h5
  ·exact h.fs k h5
  ·exact .inr (by omega)
theorem KV.of_below{B g mb:Nat}{d:WD}{w w':World}(h:Below w.heap.size w w')(hB:B≤w.heap.size):KV B g mb d d w w':=⟨KW.of_below h hB,fun k h0 _ _ _ _=>h.block k h0,fun k hk=>.inl hk⟩
theorem KV.drewN{B g mb:Nat}{d d':WD}{w w':World}(h:KV B g mb d d' w w')(q:Nat):KV B g mb d d' w (w'.drewN q):=⟨h.kw.drewN q,h.keep,h.fs⟩
theorem KV.row{B g mb:Nat}{d d':WD}{w w':World}(h:KV B g mb d d' w w'){k:Nat}{t:TypeId}{cs:Array Value}(hr:rowV w k t cs)(hf:k≠g∧k≠mb∧d.own≠some k∧d.sown≠some k):rowV w' k t cs:=(h.keep k hr.lt hf.1 hf.2.1 hf.2.2.1 hf.2.2.2).trans hr
theorem MapI.keep{B:Nat}{w w':World}{l:List Inv}{f:Int→Option Value}(h:MapI B w l f)(hk:KI B w w'):MapI B w' l f:=by
 intro k
 have h1:=h k
 cases hi:invAt l k with
 | none=>rw [hi] at h1;exact h1
 | some x=>
  rw [hi] at h1
  obtain⟨v,e1,A,c,e2,e3⟩:=h1
  exact⟨v,e1,A,c,e2,e3.keep hk⟩
theorem ne_of_cells{w:World}{k:Nat}{cs cs':Array Value}{t t':TypeId}{fr fr':Nat × Nat}(h:w.heap[k]?=some (Obj.cells cs t fr))(hne:t≠t'):w.heap[k]?≠some (Obj.cells cs' t' fr'):=fun e=>by
 rw [h] at e
 injection e with e
 injection e with _ e _
 exact hne e
section
variable {B g mb : Nat} {v : WV} {w w' : World} {st : St} {d : WD}
theorem WK.below(h:WK B g mb v w st d)(hb:Below w.heap.size w w'):WK B g mb v w' st d:=by
 have hk:=KI.of_below hb h.hB
 obtain⟨f,m1,m2⟩:=h.map
 exact⟨h.row.below hb h.row.lt,h.hg,Nat.le_trans h.hB hb.size,h.locs.keep hk,h.stk.below hb,h.lvs.below hb,h.lvl,fun i hi=>(h.lvi i hi).keep hk,h.hm,f,m1.same (hb.block mb m1.lt),m2.keep hk⟩
theorem WK.drewN(h:WK B g mb v w st d)(q:Nat):WK B g mb v (w.drewN q) st d:=by
 have hk:KI B w (w.drewN q):=(KI.refl B w).drewN q
 obtain⟨f,m1,m2⟩:=h.map
 exact⟨h.row,h.hg,h.hB,h.locs.keep hk,h.stk,h.lvs,h.lvl,fun i hi=>(h.lvi i hi).keep hk,h.hm,f,m1.same rfl,m2.keep hk⟩
theorem WK.ne_map(h:WK B g mb v w st d):mb≠g:=fun e=>by
 obtain⟨f,m1,-⟩:=h.map
 obtain⟨o,h1,h2⟩:=m1.isMap
 have:=h.row
 unfold rowV at this
 rw [←e,h1] at this
 injection this with this
 rw [this] at h2
 cases h2
theorem WK.ln(h:WK B g mb v w st d):d.ln=st.locs.length:=h.locs.1.1.symm
theorem WK.sn(h:WK B g mb v w st d):d.sn=st.stk.length:=(h.stk.length (fun _=>rfl) (by decide)).symm
theorem WK.vn(h:WK B g mb v w st d):d.vn=st.lvs.length:=(h.lvs.length (fun _=>rfl) (by decide)).symm.trans h.lvl
theorem KW.setG(h:WK B g mb v w st d)(j:Nat)(x:Value)(o:Option Nat):KW B o o w (w.setCell ⟨g,j,none⟩ x):=by
 have hr:w.heap[g]?=some (.cells (rowK v d (st.hgt:Int) mb) 145 (0,0)):=h.row
 refine KW.of_grown (grownBy.setCell' (World.grownBy.refl _ _) _) (fun k hk=>by injection hk with hk;rw [←hk];exact h.hg) h.hB (fun k cs fr hk=>?_) (fun k cs fr hk=>?_)
 ·injection hk with hk;rw [←hk];exact ne_of_cells hr (by decide)
 ·injection hk with hk;rw [←hk];exact ne_of_cells hr (by decide)
theorem WK.set(h:WK B g mb v w st d)(j:Nat)(x:Value){d':WD}{st':St}(hrow:(rowK v d (st.hgt:Int) mb).setIfInBounds j x=rowK v d' (st'.hgt:Int) mb)
  (h1:IvK B w d'.lA d'.ln d'.lc st'.locs) (h2:StkS w B d'.sA d'.sn d'.sc st'.stk) (h3:LvsS w B d'.vA d'.vn d'.vc d'.X) (h4:d'.X.length=st'.lvs.length)
  (h5:∀ i,i < d'.X.length→IvK B w (d'.X.getD i ⟨none,0,0⟩).A (d'.X.getD i ⟨none,0,0⟩).n (d'.X.getD i ⟨none,0,0⟩).c (st'.lvs.getD i [])) (h6:d'.mn=d.mn) (h7:st'.inv=st.inv) :
  WK B g mb v (w.setCell ⟨g,j,none⟩ x) st' d':=by
 have hk:=(KW.setG h j x none).ki
 obtain⟨f,m1,m2⟩:=h.map
 have g2:w.grownBy (w.setCell ⟨g,j,none⟩ x) (some g):=grownBy.setCell' (World.grownBy.refl _ _) _
 have hr:=h.row.set j x
 rw [hrow] at hr
 have hsz:(w.setCell ⟨g,j,none⟩ x).heap.size=w.heap.size:=by simp
 exact⟨hr,h.hg,by rw [hsz];exact h.hB,h1.keep hk,h2.grown g2 (h2.ne_row h.row (by decide)),h3.grown g2 (h3.ne_row h.row (by decide)),h4,fun i hi=>(h5 i hi).keep hk,h.hm,f,by rw [h6];exact m1.same (g2.block mb m1.lt (fun e=>h.ne_map (by injection e))),by rw [h7];exact m2.keep hk⟩
theorem KV.setG(h:WK B g mb v w st d)(j:Nat)(x:Value){d':WD}(h1:d'.own=d.own)(h2:d'.sown=d.sown):KV B g mb d d' w (w.setCell ⟨g,j,none⟩ x):=by
 refine⟨by rw [h1];exact KW.setG h j x _,fun k h0 h3 _ _ _=>Below.heap_setCell w ⟨g,j,none⟩ x k h3,fun k hk=>.inl (by rw [←h2];exact hk)⟩
theorem WK.fresh(h:WK B g mb v w st d){k:Nat}(hk:w.heap.size≤k):k≠g∧k≠mb∧d.own≠some k∧d.sown≠some k:=by
 obtain⟨f,m1,-⟩:=h.map
 have h1:=h.row.lt
 have h2:=m1.lt
 refine⟨by omega,by omega,fun e=>?_,fun e=>?_⟩
 ·have:=(h.lvs.blk e).1;omega
 ·have:=(h.stk.blk e).1;omega
theorem WK.cells(h:WK B g mb v w st d):w.cell? ⟨g,0,none⟩=some (.slice v.aA v.an v.ac)∧w.cell? ⟨g,1,none⟩=some (.int .i64 v.L)∧w.cell? ⟨g,2,none⟩=some (.slice v.cA v.cn v.cc)∧w.cell? ⟨g,3,none⟩=some (.slice v.pA v.pn v.pc)∧w.cell? ⟨g,4,none⟩=some v.f1∧w.cell? ⟨g,5,none⟩=some v.f2∧w.cell? ⟨g,6,none⟩=some (.slice d.lA d.ln d.lc)∧w.cell? ⟨g,7,none⟩=some (.slice d.sA d.sn d.sc)∧w.cell? ⟨g,8,none⟩=some (.int .i64 (st.hgt:Int))∧w.cell? ⟨g,9,none⟩=some (.slice d.vA d.vn d.vc)∧w.cell? ⟨g,10,none⟩=some (.map (some mb)):=
 ⟨cell_rowV h.row rfl,cell_rowV h.row rfl,cell_rowV h.row rfl,cell_rowV h.row rfl,cell_rowV h.row rfl,cell_rowV h.row rfl,cell_rowV h.row rfl,cell_rowV h.row rfl,cell_rowV h.row rfl,cell_rowV h.row rfl,cell_rowV h.row rfl⟩
theorem WK.frozen(h:WK B g mb v w st d)(j:Nat):w.frozen? ⟨g,j,none⟩=false:=frozen_rowV' h.row j
end
end Go.Proofs.YtpaplehcafeeaaaGreatDoor
namespace Go.Proofs.YtpaplehcafeeaaaGreatDoor
open Go.RowKit Go.Proofs
theorem tIs:Tryz.prog.underlying 52=some (.slice (Tryz.prog.elem 52)):=by kernel_rfl
theorem eIs:Tryz.prog.elem 52=3:=by kernel_rfl
theorem sIs:∀ W:World,(sizeOf 3).run Tryz.prog W=.ok 1 W:=fun _=>by kernel_rfl
theorem cutZ_h(A:Option Addr)(n c:Nat)(h:Int)(h0:0≤h)(hc:h≤c)(W:World):(Instr.slice 52 (.slice A n c) none (some (.int .i64 h)) none).run Tryz.prog W=.ok (.slice A h.toNat c) W:=by
 rw [run_slice_h W _ A n c tIs .i64 h h0 hc,eIs,sIs W]
 simp only [Result.andThen,sliced,Nat.zero_mul,add_zero_map,ite_self,Nat.sub_zero]
theorem own_sl(A:Option Addr)(n n' c c':Nat):(Value.slice A n c).ownBlock=(Value.slice A n' c').ownBlock:=by cases A <;> rfl
section
variable {w wr : World} {c : List Ins} {n k : Nat} {R : Except Nat PS} {s : PS} {A1 A2 : Option Addr} {n1 c1 n2 c2 : Nat}
theorem PM.keep(h:PM w wr c n k R s A1 n1 c1 A2 n2 c2){W:World}(hb:Below wr.heap.size wr W):PM w W c n k R s A1 n1 c1 A2 n2 c2:=
 ⟨h.below.trans (hb.mono h.below.size),h.out.below hb,h.op.below hb,h.ot.below hb,h.ne,h.ok,h.run⟩
theorem PM.push(h:PM w wr c n k R s A1 n1 c1 A2 n2 c2){w8 w9:World}{A8 A9:Option Addr}{c8 c9:Nat}{R':Except Nat PS}
  (ho8:OwnS encZ 1 w8 (w.heap.size+1) 3 A8 (n1+1) c8 (upI s.op++[(k:Int)])) (hg8:wr.grownBy w8 (Value.slice A1 n1 c1).ownBlock) (hf8:∀ b,(Value.slice A8 (n1+1) c8).ownBlock=some b→(Value.slice A1 n1 c1).ownBlock=some b∨wr.heap.size≤b)
  (ho9:OwnS encZ 1 w9 (w.heap.size+1) 3 A9 (n2+1) c9 (s.ot.reverse++[-1])) (hg9:w8.grownBy w9 (Value.slice A2 n2 c2).ownBlock) (hf9:∀ b,(Value.slice A9 (n2+1) c9).ownBlock=some b→(Value.slice A2 n2 c2).ownBlock=some b∨w8.heap.size≤b)
  (hok:PsOk c (k+1) ⟨k :: s.op,-1 :: s.ot,s.P⟩) (hr:runM c (n-(k+1)) (k+1) ⟨k :: s.op,-1 :: s.ot,s.P⟩=R'):PM w w9 c n (k+1) R' ⟨k :: s.op,-1 :: s.ot,s.P⟩ A8 (n1+1) c8 A9 (n2+1) c9:=by
 have hs8:=hg8.size
 have hs9:=hg9.size
 have hB:=h.hB
 have hbel8:=h.below.grown hg8 h.below.size (fun b hb=>by have:=(h.op.blk hb).2.1;omega)
 have hbel9:=hbel8.grown hg9 hbel8.size (fun b hb=>by have:=(h.ot.blk hb).2.1;omega)
 have hout8:=h.out.grown hg8 (fun b hb e=>by injection hb with hb;have:=(h.op.blk e.symm).2.1;simp only [] at hb;omega)
 have hout9:=hout8.grown hg9 (fun b hb e=>by injection hb with hb;have:=(h.ot.blk e.symm).2.1;simp only [] at hb;omega)
 refine⟨hbel9,hout9,?_,?_,?_,hok,hr⟩
 ·rw [upI_cons]
  refine ho8.grown hg9 (fun b hb e=>?_)
  rcases hf8 b hb with h1 | h1
  ·exact h.ne b h1 e.symm
  ·have:=(h.ot.blk e.symm).1;omega
 ·rw [List.reverse_cons]
  exact ho9
 ·intro b hb8 hb9
  rcases hf8 b hb8 with h1 | h1
  ·rcases hf9 b hb9 with h2 | h2
   ·exact h.ne b h1 h2
   ·have:=(h.op.blk h1).1;omega
  ·rcases hf9 b hb9 with h2 | h2
   ·have:=(h.ot.blk h2).1;omega
   ·have:=(ho8.blk hb8).1;omega
end
def PartR(w:World)(c:List Ins)(n:Nat)(e:Ending)(w':World):Prop:=Below w.heap.size w w'∧(if 1024 < n then e=.returned (.tuple #[.slice none 0 0,.int .i64 0,.int .i64 6]) else match runM c n 0 (ps0 c) with
 | .error q=>e=.returned (.tuple #[.slice none 0 0,.int .i64 (q:Int),.int .i64 15])
 | .ok s=>if s.op=[] then ∃ P',e=.returned (.tuple #[.slice (some ⟨w.heap.size,0,none⟩) n n,.int .i64 0,.int .i64 0])∧OwnS encZ 1 w' w.heap.size 3 (some ⟨w.heap.size,0,none⟩) n n P'∧(∀ k,oI c k≠30→gi P' k=gi s.P k) else e=.returned (.tuple #[.slice none 0 0,.int .i64 (n:Int),.int .i64 15]))
theorem PartR.err{w w':World}{c:List Ins}{n q:Nat}(hn:n≤1024)(hb:Below w.heap.size w w')(h:runM c n 0 (ps0 c)=.error q):PartR w c n (.returned (.tuple #[.slice none 0 0,.int .i64 (q:Int),.int .i64 15])) w':=by
 refine⟨hb,?_⟩
 rw [if_neg (by omega),h]
def VlsAt(w:World)(A:Option Addr)(n:Nat)(l:List Vl):Prop:=l.length=n∧(0 < n→∃ b off,A=some ⟨b,off,none⟩∧b < w.heap.size∧∀ i,i < n→w.cell? ⟨b,off+i * 3,none⟩=some (.bool (gV l i).tr)∧w.cell? ⟨b,off+i * 3+1,none⟩=some (.int .i64 (gV l i).iv.lo)∧w.cell? ⟨b,off+i * 3+2,none⟩=some (.int .i64 (gV l i).iv.hi))
theorem flat_vl(l:List Vl)(j:Nat)(u:Value)(h:(l.flatMap encVl)[j]?=some u):∃ i,i < l.length∧((j=i * 3∧u=.bool (gV l i).tr)∨(j=i * 3+1∧u=.int .i64 (gV l i).iv.lo)∨(j=i * 3+2∧u=.int .i64 (gV l i).iv.hi)):=by
 have hl:=flat_length (enc:=encVl) (sz:=3) (fun _=>rfl) l
 have hj:=(List.getElem?_eq_some_iff.1 h).1
 rw [hl] at hj
 refine⟨j / 3,by omega,?_⟩
 have h3:j % 3=0∨j % 3=1∨j % 3=2:=by omega
 rcases h3 with h2 | h2 | h2
 ·left
  have h3:=flat_get (enc:=encVl) (sz:=3) (fun _=>rfl) ⟨false,⟨0,0⟩⟩ l (j / 3) 0 (by omega) (by omega)
  rw [show j / 3 * 3+0=j by omega,h] at h3
  exact⟨by omega,by injection h3⟩
 ·right;left
  have h3:=flat_get (enc:=encVl) (sz:=3) (fun _=>rfl) ⟨false,⟨0,0⟩⟩ l (j / 3) 1 (by omega) (by omega)
  rw [show j / 3 * 3+1=j by omega,h] at h3
  exact⟨by omega,by injection h3⟩
 ·right;right
  have h3:=flat_get (enc:=encVl) (sz:=3) (fun _=>rfl) ⟨false,⟨0,0⟩⟩ l (j / 3) 2 (by omega) (by omega)
  rw [show j / 3 * 3+2=j by omega,h] at h3
  exact⟨by omega,by injection h3⟩
theorem OwnS.vls{w:World}{B:Nat}{A:Option Addr}{n c:Nat}{l:List Vl}(h:StkS w B A n c l):VlsAt w A n l:=by
 refine⟨h.length (fun _=>rfl) (by decide),fun hn=>?_⟩
 obtain⟨g,rfl,h1,h2,h3⟩:=h.get (fun _=>rfl) (by decide) ⟨false,⟨0,0⟩⟩ hn
 exact⟨g,0,rfl,h2,fun i hi=>⟨by rw [Nat.zero_add];exact h3 i 0 _ hi rfl,by rw [Nat.zero_add];exact h3 i 1 _ hi rfl,by rw [Nat.zero_add];exact h3 i 2 _ hi rfl⟩⟩
theorem VlsAt.drop{w:World}{b n:Nat}{l:List Vl}(h:VlsAt w (some ⟨b,0,none⟩) n l){k:Nat}(hk:k≤n):VlsAt w (some ⟨b,k * 3,none⟩) (n-k) (l.drop k):=by
 refine⟨by rw [List.length_drop,h.1],fun hn=>?_⟩
 obtain⟨b',off,e,h1,h2⟩:=h.2 (by omega)
 injection e with e
 injection e with e1 e2
 subst e1 e2
 refine⟨b,k * 3,rfl,h1,fun i hi=>?_⟩
 have h3:=h2 (k+i) (by omega)
 have e:gV (l.drop k) i=gV l (k+i):=by simp [gV,List.getD,List.getElem?_drop]
 rw [e]
 rw [show 0+(k+i) * 3=k * 3+i * 3 by omega] at h3
 exact h3
theorem cloneVl_any(ad:Addr)(n c:Nat)(l:List Vl)(w:World)(hx:VlsAt w (some ad) n l)(hn:n≤1000) :
  Calls Tryz.prog 145 #[.slice (some ad) n c] w fun e w'=>∃ A2 c2,e=.returned (.slice A2 n c2)∧StkS w' w.heap.size A2 n c2 l∧Below w.heap.size w w':=by
 have q22:∀ (w:World) (a:Option Addr) (n c n' c':Nat),(binOp .eql 143 (.slice a n c) (.slice none n' c')).run Tryz.prog w=.ok (.bool a.isNone) w:=fun w a n c n' c'=>Lib.run_eql_slice_nil w _ _ a n c n' c' uVl
 obtain⟨i0,hi,hz0,hz1,hz2⟩:=Go.info_parts infoVl
 have HX:=Lib.hid hx
 clear hx
 go_enter Tryz.func145,Tryz.ntmps145
 go_wp2_with (at_builtin;refine wpList_append_own _ rfl _ _ 143 rfl w.heap.size 242 i0 (.agg #[.bool false,.int .i64 0,.int .i64 0]) 3 24 uVl hi hz0 hz1 hz2 rfl (by decide) _ _ _ rfl (World.ownsRow_made w #[] 0 (Nat.le_refl _) (Nat.zero_le _) rfl) ad n c (l.flatMap encVl) rfl ?qc1 ?qc2 ?qc3 ?qc4 ?qc5 ?qc6 ?_)
 case qc1=>rw [flat_length (enc:=encVl) (sz:=3) (fun _=>rfl),HX.out.1]
 case qc2=>
  intro j u hj
  obtain⟨i,hi,h⟩:=flat_vl l j u hj
  rw [HX.out.1] at hi
  obtain⟨b,off,h1,h2,h3⟩:=HX.out.2 (by omega)
  injection h1 with h1
  subst h1
  rw [Addr.add_lit]
  refine Lib.cell?_alloc_some _ ?_
  rcases h with ⟨rfl,rfl⟩ | ⟨rfl,rfl⟩ | ⟨rfl,rfl⟩
  ·exact (h3 i hi).1
  ·exact (h3 i hi).2.1
  ·exact (h3 i hi).2.2
 case qc3=>intro u hu;obtain⟨x,_,hu⟩:=List.mem_flatMap.1 hu;exact encVl_one x u hu
 case qc4=>unfold maxLen;omega
 case qc5=>omega
 case qc6=>simp
 intro v' w1 hown hgrow hnil
 go_wp2_with fail
 go_ret
 rcases hown.2 with ⟨h1,-⟩ | ⟨g,cap,cur,h1,-⟩
 ·exact absurd h1 hnil
 ·subst h1
  exact⟨_,cap,rfl,hown,((Below.refl _ w).alloc (Nat.le_refl _) _).grown hgrow (by simp) (by intro k hk;simp [Value.ownBlock] at hk;omega)⟩
theorem cloneVl_nil(w:World):Calls Tryz.prog 145 #[.slice none 0 0] w fun e w'=>e=.returned (.slice none 0 0)∧w'=w:=by
 have q22:∀ (w:World) (a:Option Addr) (n c n' c':Nat),(binOp .eql 143 (.slice a n c) (.slice none n' c')).run Tryz.prog w=.ok (.bool a.isNone) w:=fun w a n c n' c'=>Lib.run_eql_slice_nil w _ _ a n c n' c' uVl
 go_enter Tryz.func145,Tryz.ntmps145
 go_wp2_with fail
 go_ret
 exact⟨rfl,rfl⟩
end Go.Proofs.YtpaplehcafeeaaaGreatDoor
namespace Go.Proofs.YtpaplehcafeeaaaGreatDoor
open Go.RowKit Go.Proofs
variable [Inhabited ArgB]
theorem tVl:Tryz.prog.underlying 143=some (.slice (Tryz.prog.elem 143)):=by kernel_rfl
theorem eVl:Tryz.prog.elem 143=242:=by kernel_rfl
theorem sVl:∀ W:World,(sizeOf 242).run Tryz.prog W=.ok 3 W:=fun _=>by kernel_rfl
theorem cutVl_l(A:Option Addr)(n c:Nat)(l:Int)(h0:0≤l)(hl:l≤n)(W:World):(Instr.slice 143 (.slice A n c) (some (.int .i64 l)) none none).run Tryz.prog W=.ok (.slice (if c=l.toNat then A else A.map (·.add (l.toNat * 3))) (n-l.toNat) (c-l.toNat)) W:=by
 rw [run_slice_l W _ A n c tVl .i64 l h0 hl,eVl,sVl W]
 simp only [Result.andThen,sliced]
theorem cutVl_h(A:Option Addr)(n c:Nat)(h:Int)(h0:0≤h)(hc:h≤c)(W:World):(Instr.slice 143 (.slice A n c) none (some (.int .i64 h)) none).run Tryz.prog W=.ok (.slice A h.toNat c) W:=by
 rw [run_slice_h W _ A n c tVl .i64 h h0 hc,eVl,sVl W]
 simp only [Result.andThen,sliced,Nat.zero_mul,add_zero_map,ite_self,Nat.sub_zero]
theorem cloneVl_all(A:Option Addr)(n c:Nat)(l:List Vl)(w:World)(hx:VlsAt w A n l)(hn:n≤1000)(h0:A=none→n=0∧c=0) :
  Calls Tryz.prog 145 #[.slice A n c] w fun e w'=>∃ A2 c2,e=.returned (.slice A2 n c2)∧StkS w' w.heap.size A2 n c2 l∧Below w.heap.size w w':=by
 cases A with
 | none=>
  obtain⟨rfl,rfl⟩:=h0 rfl
  have hl:l=[]:=List.length_eq_zero_iff.1 hx.1
  subst hl
  refine (cloneVl_nil w).mono ?_
  rintro e w' ⟨rfl,rfl⟩
  exact⟨none,0,rfl,OwnS.nil _ _ _ _ _,Below.refl _ _⟩
 | some ad=>exact cloneVl_any ad n c l w hx hn
theorem StkS.cutAt{w:World}{B:Nat}{A:Option Addr}{n c:Nat}{l:List Vl}(h:StkS w B A n c l){k:Nat}(hk:k≤n):VlsAt w (if c=n-k then A else A.map (·.add ((n-k) * 3))) k (l.drop (n-k))∧((if c=n-k then A else A.map (·.add ((n-k) * 3)))=none→k=0∧c-(n-k)=0):=by
 have hc:=h.cap
 have hlen:=h.length (fun _=>rfl) (by decide)
 rcases h.2 with ⟨h1,h2⟩ | ⟨g,cap,cur,h1,-⟩
 ·injection h1 with h1 h3 h4
  subst h1 h3 h4
  obtain rfl:k=0:=by omega
  refine⟨⟨by rw [List.length_drop];omega,fun h=>by omega⟩,fun _=>⟨rfl,rfl⟩⟩
 ·injection h1 with h1 h1' h1''
  subst h1
  have hv:=h.vls
  refine⟨?_,fun hn=>?_⟩
  ·split
   ·rename_i hcn
    obtain rfl:k=0:=by omega
    exact⟨by rw [List.length_drop];omega,fun h=>by omega⟩
   ·have h5:=hv.drop (k:=n-k) (by omega)
    rw [show n-(n-k)=k by omega] at h5
    rw [Option.map_some,Addr.add_lit,Nat.zero_add]
    exact h5
  ·split at hn
   ·cases hn
   ·cases hn
def chkT(t:UInt8)(v:Vl):Bool:=(t != 110 && t != 116) || ((t==116)==v.tr)
theorem popA_eq(stk:List Vl)(base:Nat)(ty:List UInt8):popA stk base ty=if stk.length < base+ty.length then .error 14 else if (List.zipWith chkT ty (stk.drop (stk.length-ty.length))).all id then .ok (stk.take (stk.length-ty.length),stk.drop (stk.length-ty.length)) else .error 13:=rfl
def gb8(l:List UInt8)(k:Nat):UInt8:=l.getD k 0
theorem zip_all{ty:List UInt8}{l:List Vl}(hl:l.length=ty.length):((List.zipWith chkT ty l).all id=true↔∀ k,k < ty.length→chkT (gb8 ty k) (gV l k)=true):=by
 rw [List.all_eq_true]
 constructor
 ·intro h k hk
  have h1:=h ((List.zipWith chkT ty l)[k]'(by simp;omega)) (List.getElem_mem _)
  rw [List.getElem_zipWith] at h1
  have e1:gb8 ty k=ty[k]:=by simp [gb8,List.getD,hk]
  have e2:gV l k=l[k]'(by omega):=by simp [gV,List.getD,show k < l.length by omega]
  rw [e1,e2]
  exact h1
 ·intro h x hx
  obtain⟨k,hk,rfl⟩:=List.mem_iff_getElem.1 hx
  have hk':k < ty.length:=by simp at hk;omega
  rw [List.getElem_zipWith]
  have h1:=h k hk'
  have e1:gb8 ty k=ty[k]:=by simp [gb8,List.getD,hk']
  have e2:gV l k=l[k]'(by omega):=by simp [gV,List.getD,show k < l.length by omega]
  rw [e1,e2] at h1
  exact h1
def PopR(B g mb:Nat)(v:WV)(d:WD)(st:St)(w:World)(at_ m:Nat)(r:Except Int (List Vl × List Vl))(e:Ending)(w':World):Prop:=match r with
 | .error x=>e=.panicked [{ v:=failW at_ x,recovered:=false }]∧Below B w w'
 | .ok (rest,l)=>∃ A c,e=.returned (.slice A m c)∧StkS w' w.heap.size A m c l∧WK B g mb v w' { st with stk:=rest } { d with sn:=rest.length }∧KV B g mb d { d with sn:=rest.length } w w'
theorem popW_any(B g mb:Nat)(v:WV)(d:WD)(st:St)(w:World)(h:WK B g mb v w st d)(at_ base:Nat)(ty:List UInt8)(hty:ty.length≤8)(hst:st.stk.length≤32)(hba:base≤1000) :
  Calls Tryz.prog 111 #[.pointer (some ⟨g,0,none⟩),.int .i64 (at_:Int),.int .i64 (base:Int),.string (strB ty)] w (PopR B g mb v d st w at_ ty.length (popA st.stk base ty)):=by
 have hsn:=h.sn
 have hsz:=strB_size' ty
 obtain⟨-,-,-,-,-,-,-,e7,-,-,-⟩:=h.cells
 have HW:=Lib.hid h
 clear h
 obtain⟨m,hm⟩:∃ m,m=ty.length:=⟨_,rfl⟩
 rw [←hm] at hsz hty ⊢
 have Hm:=Lib.hid hm
 clear hm
 obtain⟨sn,hsn'⟩:∃ s,s=d.sn:=⟨_,rfl⟩
 rw [←hsn'] at e7 hsn
 have Hsn:=Lib.hid (And.intro hsn hsn')
 have hsn32:sn≤32:=by omega
 clear hsn hst hsn'
 by_cases hlen:base+m≤sn
 ·obtain⟨n0,hn0⟩:∃ n0,n0+m=sn:=⟨sn-m,by omega⟩
  have e9:(sn:Int)-(m:Int)=(n0:Int):=by omega
  have d9:decide ((base:Int)≤(n0:Int))=true:=by simp;omega
  have d9':decide (base≤n0)=true:=by simp;omega
  have hcut:=HW.out.stk.cutAt (k:=m) (by have:=Hsn.out.2;omega)
  have hr3:=cutVl_l d.sA sn d.sc (n0:Int) (by omega) (by omega)
  have hr4:=fun c hc=>cutVl_h d.sA sn c (n0:Int) (by omega) hc
  have hr4:=hr4 d.sc (by have:=HW.out.stk.cap;have:=Hsn.out.2;omega)
  simp only [Int.toNat_natCast] at hr3 hr4
  have hnm:d.sn-m=n0:=by have:=Hsn.out.2;omega
  have hnm2:sn-n0=m:=by omega
  rw [hnm] at hcut
  rw [hnm2] at hr3
  obtain⟨A1,hA1⟩:∃ A1,A1=if d.sc=n0 then d.sA else d.sA.map (·.add (n0 * 3)):=⟨_,rfl⟩
  rw [←hA1] at hcut hr3
  clear hA1
  have HC:=Lib.hid (cloneVl_all A1 m (d.sc-n0) (st.stk.drop n0) w hcut.1 (by omega) (fun hn=>⟨(hcut.2 hn).1,(hcut.2 hn).2⟩))
  have Hn0:=Lib.hid (And.intro hn0 (And.intro hnm hnm2))
  have hn0b:n0≤32:=by omega
  have Hlen:=Lib.hid hlen
  clear hcut hn0 hnm hnm2 hlen
  go_enter Tryz.func111,Tryz.ntmps111
  go_wp2_with fail
  refine (demandW_ok _ _ _).mono ?_
  rintro e w1 ⟨rfl,hw1⟩
  obtain rfl:=hw1.symm
  go_wp2_with fail
  refine HC.out.mono ?_
  rintro e w2 ⟨A2,c2,rfl,ho2,hb2⟩
  have HO2:=Lib.hid (And.intro ho2 hb2)
  clear ho2 hb2 hr3 e7 HC
  go_wp2_with fail
  have HB0:Hid (Below B w w2):=HO2.out.2.mono HW.out.hB
  have Hl:Hid ((st.stk.drop n0).length=m):=by show _=_;rw [List.length_drop];have:=Hsn.out;have:=Hn0.out;omega
  go_loopw [11,12,35] (fun _ _ i wr=>∃ k:Nat,k≤m∧i=.int .i64 (k:Int)∧Hid (∀ j,j < k→chkT (gb8 ty j) (gV (st.stk.drop n0) j)=true)∧Hid (Below w2.heap.size w2 wr)) (fun _ _ i _=>m-(intOf i).toNat)
  case atStart=>exact⟨0,Nat.zero_le _,rfl,Lib.hid (fun j hj=>by omega),Lib.hid (Below.refl _ _)⟩
  case round=>
   obtain⟨k,hk,rfl,HP,HB⟩:=hrel
   by_cases hlt:k < m
   ·have d0:decide ((k:Int) < (m:Int))=true:=by simp;omega
    have d0':decide (k < m)=true:=by simp;omega
    obtain⟨ob,rfl,hob1,hob2,hoc⟩:=HO2.out.1.get (fun _=>rfl) (by decide) ⟨false,⟨0,0⟩⟩ (by omega)
    have x0:wr.cell? ⟨ob,k * 3,none⟩=some (.bool (gV (st.stk.drop n0) k).tr):=(HB.out.cell (p:=⟨ob,k * 3,none⟩) hob2).trans (hoc k 0 _ hlt rfl)
    have x1:wr.cell? ⟨ob,k * 3+1,none⟩=some (.int .i64 (gV (st.stk.drop n0) k).iv.lo):=(HB.out.cell (p:=⟨ob,k * 3+1,none⟩) hob2).trans (hoc k 1 _ hlt rfl)
    have x2:wr.cell? ⟨ob,k * 3+2,none⟩=some (.int .i64 (gV (st.stk.drop n0) k).iv.hi):=(HB.out.cell (p:=⟨ob,k * 3+2,none⟩) hob2).trans (hoc k 2 _ hlt rfl)
    clear hoc
    have hob3:ob < wr.heap.size:=Nat.lt_of_lt_of_le hob2 HB.out.size
    have hix:=fun W=>run_index_strB ty (k:=k) (by have:=Hm.out;omega) W
    have HR13:Hid (chkT (gb8 ty k) (gV (st.stk.drop n0) k)=false→popA st.stk base ty=.error 13):=fun hf=>by
     have h1:=Hm.out
     have h2:=Hsn.out
     have h3:=Hn0.out
     rw [popA_eq,if_neg (by have:=Hlen.out;omega),if_neg]
     rw [zip_all (by rw [List.length_drop];omega)]
     intro hall
     have h4:=hall k (by omega)
     rw [show st.stk.length-ty.length=n0 by omega,hf] at h4
     cases h4
    have hgb:gb ty k=((gb8 ty k).toNat:Int):=rfl
    obtain⟨z8,hz8⟩:∃ z,z=gb8 ty k:=⟨_,rfl⟩
    rw [hgb,←hz8] at hix
    obtain⟨⟨tr,⟨lo,hi⟩⟩,hv⟩:∃ x,x=gV (st.stk.drop n0) k:=⟨_,rfl⟩
    have HZ8:=Lib.hid (And.intro hz8 hv)
    rw [←hv] at x0 x1 x2
    rw [←hz8,←hv] at HR13
    clear hgb hz8 hv
    simp only [] at x0 x1 x2
    have HB4:Hid (Below w2.heap.size w2 (wr.alloc (.cells #[.bool tr,.int .i64 lo,.int .i64 hi] 242))):=balloc HB.out _
    have hz0:(0:Int)≤(z8.toNat:Int):=by omega
    by_cases h110:z8=110
    ·subst h110
     cases tr with
     | false=>
      have HZ:Hid (chkT (gb8 ty k) (gV (st.stk.drop n0) k)=true):=by show _=_;rw [←HZ8.out.1,←HZ8.out.2];rfl
      go_upto_region 7 with fail
      go_quiet (first | (go_at_call 41;exact (demandW_ok _ _ _).mono fun e w2 h=>⟨h.1,_,h.2⟩))
      go_wp2_with fail
      go_roundw
      case rel=>exact⟨k+1,by omega,by go_num,Lib.hid (fun j hj=>by
       rcases Nat.lt_succ_iff_lt_or_eq.1 hj with h | rfl
       ·exact HP.out j h
       ·exact HZ.out),Lib.hid (bdrew HB4.out _)⟩
      case measure=>(simp [intOf]) <;> omega
     | true=>
      have HZ:Hid (chkT 110 ⟨true,⟨lo,hi⟩⟩=false):=rfl
      go_upto_region 7 with fail
      refine wp_region_quiet_tail 20 (by kernel_rfl) (by kernel_rfl) ?_
      simp only [List.take_succ_cons,List.take_zero,List.drop_succ_cons,List.drop_zero]
      repeat (go_big_quiet_step (fail))
      refine wpQuiet_nil ?_
      intro _ hw'
      obtain⟨nr,hw''⟩:=hw'
      subst hw''
      go_wp2_with fail
      refine (demandW_bad _ _ _).mono ?_
      rintro e w3 ⟨rfl,hw3⟩
      subst hw3
      refine⟨rfl,?_⟩
      rw [HR13.out HZ.out]
      exact⟨rfl,bdrew (HB0.out.trans (HB4.out.mono (Nat.le_trans HW.out.hB HO2.out.2.size))) nr⟩
    by_cases h116:z8=116
    ·subst h116
     cases tr with
     | true=>
      have HZ:Hid (chkT (gb8 ty k) (gV (st.stk.drop n0) k)=true):=by show _=_;rw [←HZ8.out.1,←HZ8.out.2];rfl
      go_upto_region 7 with fail
      go_quiet (first | (go_at_call 41;exact (demandW_ok _ _ _).mono fun e w2 h=>⟨h.1,_,h.2⟩))
      go_wp2_with fail
      go_roundw
      case rel=>exact⟨k+1,by omega,by go_num,Lib.hid (fun j hj=>by
       rcases Nat.lt_succ_iff_lt_or_eq.1 hj with h | rfl
       ·exact HP.out j h
       ·exact HZ.out),Lib.hid (bdrew HB4.out _)⟩
      case measure=>(simp [intOf]) <;> omega
     | false=>
      have HZ:Hid (chkT 116 ⟨false,⟨lo,hi⟩⟩=false):=rfl
      go_upto_region 7 with fail
      refine wp_region_quiet_tail 20 (by kernel_rfl) (by kernel_rfl) ?_
      simp only [List.take_succ_cons,List.take_zero,List.drop_succ_cons,List.drop_zero]
      repeat (go_big_quiet_step (fail))
      refine wpQuiet_nil ?_
      intro _ hw'
      obtain⟨nr,hw''⟩:=hw'
      subst hw''
      go_wp2_with fail
      refine (demandW_bad _ _ _).mono ?_
      rintro e w3 ⟨rfl,hw3⟩
      subst hw3
      refine⟨rfl,?_⟩
      rw [HR13.out HZ.out]
      exact⟨rfl,bdrew (HB0.out.trans (HB4.out.mono (Nat.le_trans HW.out.hB HO2.out.2.size))) nr⟩
    have HZ:Hid (chkT (gb8 ty k) (gV (st.stk.drop n0) k)=true):=by
     show _=_
     rw [←HZ8.out.1,←HZ8.out.2]
     unfold chkT
     rw [show (z8 != 110)=true by simpa using h110,show (z8 != 116)=true by simpa using h116]
     rfl
    have hn110:z8.toNat≠110:=fun e=>h110 (UInt8.toNat_inj.1 e)
    have hn116:z8.toNat≠116:=fun e=>h116 (UInt8.toNat_inj.1 e)
    obtain⟨z,hz⟩:∃ z:Int,z=(z8.toNat:Int):=⟨_,rfl⟩
    rw [←hz] at hix hz0
    have q110:(z != 110)=true:=by simp;omega
    have q116:(z != 116)=true:=by simp;omega
    clear hz h110 h116 hn110 hn116
    go_upto_region 7 with fail
    go_quiet (first | (go_at_call 41;exact (demandW_ok _ _ _).mono fun e w2 h=>⟨h.1,_,h.2⟩))
    go_wp2_with fail
    go_roundw
    case rel=>exact⟨k+1,by omega,by go_num,Lib.hid (fun j hj=>by
     rcases Nat.lt_succ_iff_lt_or_eq.1 hj with h | rfl
     ·exact HP.out j h
     ·exact HZ.out),Lib.hid (bdrew HB4.out _)⟩
    case measure=>(simp [intOf]) <;> omega
   ·obtain rfl:k=m:=by omega
    have d0:decide ((k:Int) < (k:Int))=false:=by simp
    have hWr:=HW.out.below (HO2.out.2.trans (HB.out.mono HO2.out.2.size))
    obtain⟨-,-,-,-,-,-,-,e7,-,-,-⟩:=hWr.cells
    have f7:=hWr.frozen 7
    rw [←Hsn.out.2] at e7
    have HWr:=Lib.hid hWr
    clear hWr
    have Hr:Hid (popA st.stk base ty=.ok (st.stk.take n0,st.stk.drop n0)):=by
     show _=_
     have h1:=Hm.out
     have h2:=Hsn.out
     have h3:=Hn0.out
     have h4:st.stk.length-ty.length=n0:=by omega
     rw [popA_eq,if_neg (by have:=Hlen.out;omega),h4,if_pos]
     rw [zip_all (by rw [Hl.out];exact h1)]
     intro j hj
     exact HP.out j (by omega)
    go_wp2_with fail
    refine bodyPost_ret (results_tmp rfl _ _ _) rfl ?_
    rw [Hr.out]
    have h2:=Hsn.out
    have h3:=Hn0.out
    have hlt:(st.stk.take n0).length=n0:=by rw [List.length_take];omega
    have hcutS:StkS wr B d.sA n0 d.sc (st.stk.take n0):=HWr.out.stk.cut (fun _=>rfl) (by decide) (by omega)
    refine⟨A2,c2,rfl,?_,?_,?_⟩
    ·exact OwnS.grown (HO2.out.1.below HB.out) (grownBy.setCell' (World.grownBy.refl _ _) _) (OwnS.ne_row (HO2.out.1.below HB.out) HWr.out.row (by decide))
    ·rw [hlt]
     exact HWr.out.set 7 _ rfl HWr.out.locs hcutS HWr.out.lvs HWr.out.lvl HWr.out.lvi rfl rfl
    ·exact (KV.of_below (HO2.out.2.trans (HB.out.mono HO2.out.2.size)) HW.out.hB).trans (KV.setG HWr.out 7 _ rfl (ownBlock_len _ _ _ _ _))
 ·have Hlen:=Lib.hid hlen
  have d9:decide ((base:Int)≤(sn:Int)-(m:Int))=false:=by simp;omega
  clear hlen
  have hr:popA st.stk base ty=.error 14:=by rw [popA_eq,if_pos (by have:=Hlen.out;have:=Hsn.out.1;have:=Hm.out;omega)]
  rw [hr]
  clear hr
  go_enter Tryz.func111,Tryz.ntmps111
  go_wp2_with fail
  refine (demandW_bad _ _ _).mono ?_
  rintro e w1 ⟨rfl,hw1⟩
  subst hw1
  exact⟨rfl,rfl,Below.refl _ _⟩
end Go.Proofs.YtpaplehcafeeaaaGreatDoor
namespace Go.Proofs.YtpaplehcafeeaaaGreatDoor
open Go.RowKit Go.Proofs
variable [Inhabited ArgB]
theorem eqIn(a b:Ins)(W:World):(binOp .eql 44 (.agg #[.int .i64 a.op,.int .u32 a.arg]) (.agg #[.int .i64 b.op,.int .u32 b.arg])).run Tryz.prog W=.ok (.bool (decide (a=b))) W:=by
 obtain⟨o1,x1⟩:=a
 obtain⟨o2,x2⟩:=b
 rw [run_eql_struct,run_equalIn_agg W 9999 _ _ _ utIn stIn]
 by_cases h1:o1=o2
 ·by_cases h2:x1=x2
  ·subst h1 h2;simp [go_sem,part]
  ·subst h1;simp [go_sem,part,h2]
 ·simp [go_sem,part,h1]
def anyIn(l:List Ins)(x:Ins)(k:Nat):Bool:=(l.take k).any fun y=>decide (x=y)
theorem anyIn_next{l:List Ins}{x:Ins}{k:Nat}(hk:k < l.length):anyIn l x (k+1)=(anyIn l x k || decide (x=gI l k)):=by
 unfold anyIn gI
 rw [List.take_succ_eq_append_getElem hk,List.any_append]
 simp [List.getD,hk]
theorem anyIn_mono{l:List Ins}{x:Ins}{k n:Nat}(hk:k≤n)(h:anyIn l x k=true):anyIn l x n=true:=by
 unfold anyIn at h ⊢
 rw [List.any_eq_true] at h ⊢
 obtain⟨y,hy,hb⟩:=h
 refine⟨y,?_,hb⟩
 have h1:l.take k=(l.take n).take k:=by rw [List.take_take,Nat.min_eq_left hk]
 rw [h1] at hy
 exact List.mem_of_mem_take hy
theorem indexIns_any(A:Option Addr)(n c:Nat)(l:List Ins)(x:Ins)(w:World)(hc:Codes w A n c l)(hn:n≤2000) :
  Calls Tryz.prog 114 #[.slice A n c,.agg #[.int .i64 x.op,.int .u32 x.arg]] w fun e w'=>(∃ z:Int,e=.returned (.int .i64 z)∧decide (0≤z)=anyIn l x n)∧Below w.heap.size w w':=by
 obtain⟨xo,xa⟩:=x
 simp only []
 obtain⟨w1,hw1⟩:∃ w1,w1=w.alloc (.cells #[.int .i64 xo,.int .u32 xa] 44):=⟨_,rfl⟩
 have g1:Below w.heap.size w w1:=by rw [hw1];exact balloc (Below.refl _ _) _
 have r1:rowV w1 w.heap.size 44 #[.int .i64 xo,.int .u32 xa]:=by rw [hw1];exact rowV.new w _ _
 have HC:=Lib.hid hc
 have Hw1:=Lib.hid hw1
 have HR1:=Lib.hid (And.intro r1 g1)
 clear hc hw1 r1 g1
 go_enter Tryz.func114,Tryz.ntmps114
 go_wp2_with fail
 rw [←Hw1.out]
 go_loopw [5,8] (fun _ i wr=>∃ k:Nat,k≤n∧i=.int .i64 (k:Int)∧Hid (anyIn l ⟨xo,xa⟩ k=false)∧Hid (rowV wr w.heap.size 44 #[.int .i64 xo,.int .u32 xa]∧Below w.heap.size w wr)) (fun _ i _=>n-(intOf i).toNat)
 case atStart=>exact⟨0,Nat.zero_le _,rfl,rfl,HR1⟩
 case round=>
  clear HR1 Hw1
  obtain⟨k,hk,rfl,HB,HR⟩:=hrel
  by_cases hlt:k < n
  ·have dk:decide ((k:Int) < (n:Int))=true:=by simp;omega
   have dk':decide (k < n)=true:=by simp;omega
   obtain⟨b,off,rfl,hb,hcc⟩:=HC.out.get hlt
   have c0:wr.cell? ⟨b,off+k * 2,none⟩=some (.int .i64 (gI l k).op):=(HR.out.2.cell (p:=⟨b,off+k * 2,none⟩) hb).trans (hcc k hlt).1
   have c1:wr.cell? ⟨b,off+k * 2+1,none⟩=some (.int .u32 (gI l k).arg):=(HR.out.2.cell (p:=⟨b,off+k * 2+1,none⟩) hb).trans (hcc k hlt).2
   obtain⟨y0,y1⟩:=two_cellsV HR.out.1
   have hnx:Hid (anyIn l ⟨xo,xa⟩ (k+1)=decide (Ins.mk xo xa=gI l k)):=by show _=_;rw [anyIn_next (by rw [HC.out.1];exact hlt),HB.out,Bool.false_or]
   have hq:=fun W=>eqIn ⟨xo,xa⟩ (gI l k) W
   obtain⟨⟨zo,za⟩,hz⟩:∃ z,z=gI l k:=⟨_,rfl⟩
   rw [←hz] at c0 c1 hq hnx
   simp only [] at hq c0 c1
   clear hz hcc
   cases hd:decide (Ins.mk xo xa=Ins.mk zo za) with
   | true=>
    rw [hd] at hq hnx
    clear hd
    go_wp2_with fail
    go_quiet (fail)
    go_wp2_with fail
    go_ret
    exact⟨⟨(k:Int),rfl,by rw [anyIn_mono hlt hnx.out];simp⟩,bdrew HR.out.2 _⟩
   | false=>
    rw [hd] at hq hnx
    clear hd
    go_wp2_with fail
    go_quiet (fail)
    have HN:Hid (rowV (wr.drewN nq) w.heap.size 44 #[.int .i64 xo,.int .u32 xa]∧Below w.heap.size w (wr.drewN nq)):=⟨HR.out.1,bdrew HR.out.2 _⟩
    go_wp2_with fail
    go_roundw
    case rel=>exact⟨k+1,by omega,by go_num,hnx,HN⟩
    case measure=>(simp [intOf]) <;> omega
  ·obtain rfl:k=n:=by omega
   have dk:decide ((k:Int) < (k:Int))=false:=by simp
   go_wp2_with fail
   go_ret
   exact⟨⟨-1,rfl,by rw [HB.out];rfl⟩,HR.out.2⟩
theorem containsIns_any(A:Option Addr)(n c:Nat)(l:List Ins)(x:Ins)(w:World)(hc:Codes w A n c l)(hn:n≤2000) :
  Calls Tryz.prog 82 #[.slice A n c,.agg #[.int .i64 x.op,.int .u32 x.arg]] w fun e w'=>e=.returned (.bool (anyIn l x n))∧Below w.heap.size w w':=by
 obtain⟨xo,xa⟩:=x
 simp only []
 obtain⟨w1,hw1⟩:∃ w1,w1=w.alloc (.cells #[.int .i64 xo,.int .u32 xa] 44):=⟨_,rfl⟩
 have g1:Below w.heap.size w w1:=by rw [hw1];exact balloc (Below.refl _ _) _
 have r1:rowV w1 w.heap.size 44 #[.int .i64 xo,.int .u32 xa]:=by rw [hw1];exact rowV.new w _ _
 obtain⟨y0,y1⟩:=two_cellsV r1
 have H:=Lib.hid (indexIns_any A n c l ⟨xo,xa⟩ w1 (hc.below g1) hn)
 have HB:=Lib.hid g1
 have Hw1:=Lib.hid hw1
 clear hc r1 g1 hw1
 go_enter Tryz.func82,Tryz.ntmps82
 go_wp2_with fail
 rw [←Hw1.out]
 refine H.out.mono ?_
 rintro e w2 ⟨⟨z,rfl,hz⟩,hb2⟩
 have HN:=Lib.hid (HB.out.trans (hb2.mono HB.out.size))
 have Hz:=Lib.hid hz
 clear hz hb2 H
 go_wp2_with fail
 go_ret
 rw [←Hz.out]
 exact⟨rfl,HN.out⟩
def EntR(B n:Nat)(w:World)(lo:Nat)(r:Except Int (List Iv × Int))(e:Ending)(w':World):Prop:=match r with
 | .error x=>e=.panicked [{ v:=failW lo x,recovered:=false }]∧Below w.heap.size w w'
 | .ok hm=>(∃ A c,e=.returned (.tuple #[.slice A n c,.int .i64 hm.2])∧IvK B w' A n c hm.1)∧Below w.heap.size w w'
def EntC(wB:World)(v:WV)(p:Prg)(n:Nat)(h:Hd):Prop:=∃ F lb,v.f1=.func (.func F) #[] lb∧Enters Tryz.prog F∧∀ (w:World) (lo:Nat) (most:Int) (A:Option Addr) (c:Nat) (locs:List Iv),Below wB.heap.size wB w→lo < p.code.length→oI p.code lo=29→0≤most→most≤65536→IvK wB.heap.size w A n c locs→LOk n locs→wB.heap.size≤w.heap.size →
 Calls Tryz.prog F (#[.int .i64 (lo:Int),.int .i64 most,.slice A n c]++lb) w (EntR wB.heap.size n w lo (enterA h lo most locs))
def AgnR(B n:Nat)(w:World)(c:List Ins)(h:Hd)(lo hi pass:Nat)(head fin:List Iv)(e:Ending)(w':World):Prop:=match h with
 | .given _=>e=.panicked [{ v:=failW hi 23,recovered:=false }]∧Below w.heap.size w w'
 | .widen=>(∃ A c',e=.returned (.slice A n c')∧IvK B w' A n c' (nextH c lo hi pass head fin))∧Below w.heap.size w w'
def AgnC(wB:World)(v:WV)(p:Prg)(n:Nat)(h:Hd):Prop:=∃ F lb,v.f2=.func (.func F) #[] lb∧Enters Tryz.prog F∧∀ (w:World) (lo hi pass:Nat) (A D:Option Addr) (c c':Nat) (head fin:List Iv),Below wB.heap.size wB w→lo≤hi→hi≤p.code.length→pass≤10→IvK wB.heap.size w A n c head→LOk n head→IvK wB.heap.size w D n c' fin→LOk n fin→wB.heap.size≤w.heap.size →
 Calls Tryz.prog F (#[.int .i64 (lo:Int),.int .i64 (hi:Int),.int .i64 (pass:Int),.slice A n c,.slice D n c']++lb) w (AgnR wB.heap.size n w p.code h lo hi pass head fin)
end Go.Proofs.YtpaplehcafeeaaaGreatDoor
