/- Xz Xy. -/
import Derived.Test.YtepoclhdklgnhaaGreatDoorRC22
import Derived.Test.YtepoclhdklgnhaaGreatDoorRC27
import Derived.Test.YtepoclhdklgnhaaGreatDoorRC25
set_option maxRecDepth 100000
set_option maxHeartbeats 40000000
set_option linter.unusedVariables false
set_option linter.unusedSimpArgs false
set_option linter.unusedSectionVars false
namespace Go.Proofs.YtepoclhdklgnhaaGreatDoor
open Go.RowKit Go.Proofs
variable [Inhabited ArgB]
theorem formed1_any(at_ xa xm:Int)(A:Option Addr)(n c:Nat)(w:World) :
  Calls Tryz.prog 72 #[.int .i64 at_,.agg #[.int .i64 xa,.int .i64 xm,.slice A n c]] w fun e w'=>e=.returned (.bool (at_==xa))∧Below w.heap.size w w':=by
 go_enter Tryz.func72,Tryz.ntmps72
 go_wp2_with fail
 go_ret
 exact⟨rfl,balloc (Below.refl _ _) _⟩
theorem formed2_any(x:Iv)(w:World) :
  Calls Tryz.prog 74 #[.agg #[.int .i64 x.lo,.int .i64 x.hi]] w fun e w'=>e=.returned (.bool (ivE x != 0))∧Below w.heap.size w w':=by
 obtain⟨w1,hw1⟩:∃ w1,w1=w.alloc (.cells #[.int .i64 x.lo,.int .i64 x.hi] 55):=⟨_,rfl⟩
 have g1:Below w.heap.size w w1:=by rw [hw1];exact balloc (Below.refl _ _) _
 have r1:rowV w1 w.heap.size 55 #[.int .i64 x.lo,.int .i64 x.hi]:=by rw [hw1];exact rowV.new w _ _
 obtain⟨y0,y1⟩:=two_cellsV r1
 have HC:=Lib.hid (checkI_any x w1)
 have HB:=Lib.hid g1
 have Hw1:=Lib.hid hw1
 clear hw1 g1 r1
 obtain⟨lo,hi⟩:=x
 simp only [] at HC y0 y1 ⊢
 go_enter Tryz.func74,Tryz.ntmps74
 go_upto_region 1 with fail
 rw [←Hw1.out]
 go_wp2_with fail
 refine HC.out.mono ?_
 rintro e w2 ⟨rfl,hb2⟩
 have HN:=Lib.hid (HB.out.trans (hb2.mono HB.out.size))
 clear hb2 y0 y1 HC
 go_wp2_with fail
 go_ret
 exact⟨rfl,HN.out⟩
def wrongK(l:List Iv)(k:Nat):Bool:=(l.take k).any fun y=>ivE y != 0
theorem wrongK_next{l:List Iv}{k:Nat}(hk:k < l.length):wrongK l (k+1)=(wrongK l k || (ivE (gL l k) != 0)):=by
 unfold wrongK
 rw [List.take_succ_eq_append_getElem hk,List.any_append,gL_get hk]
 simp
theorem wrongK_mono{l:List Iv}{k n:Nat}(hk:k≤n)(h:wrongK l k=true):wrongK l n=true:=by
 unfold wrongK at h ⊢
 rw [List.any_eq_true] at h ⊢
 obtain⟨y,hy,hb⟩:=h
 refine⟨y,?_,hb⟩
 have h1:l.take k=(l.take n).take k:=by rw [List.take_take,Nat.min_eq_left hk]
 rw [h1] at hy
 exact List.mem_of_mem_take hy
theorem indexIv_any(A:Option Addr)(n c:Nat)(l:List Iv)(w:World)(hx:Ivs w A n c l)(hn:n≤1000) :
  Calls Tryz.prog 112 #[.slice A n c,.func (.func 74) #[] #[]] w fun e w'=>(∃ z:Int,e=.returned (.int .i64 z)∧decide (0≤z)=wrongK l n)∧Below w.heap.size w w':=by
 have HX:=Lib.hid hx
 clear hx
 go_enter Tryz.func112,Tryz.ntmps112
 go_wp2_with fail
 go_loopw [5,8] (fun _ i wr=>∃ k:Nat,k≤n∧i=.int .i64 (k:Int)∧Hid (wrongK l k=false)∧Hid (Below w.heap.size w wr)) (fun _ i _=>n-(intOf i).toNat)
 case atStart=>exact⟨0,Nat.zero_le _,rfl,rfl,Lib.hid (Below.refl _ _)⟩
 case round=>
  obtain⟨k,hk,rfl,HW,HB⟩:=hrel
  by_cases hlt:k < n
  ·have dk:decide ((k:Int) < (n:Int))=true:=by simp;omega
   have dk':decide (k < n)=true:=by simp;omega
   obtain⟨b,off,rfl,hb,hc⟩:=HX.out.2.2 (by omega)
   have c0:w.cell? ⟨b,off+k * 2,none⟩=some (.int .i64 (gL l k).lo):=(hc k hlt).1
   have c1:w.cell? ⟨b,off+k * 2+1,none⟩=some (.int .i64 (gL l k).hi):=(hc k hlt).2
   have x0:=(HB.out.cell (p:=⟨b,off+k * 2,none⟩) hb).trans c0
   have x1:=(HB.out.cell (p:=⟨b,off+k * 2+1,none⟩) hb).trans c1
   have HF:=Lib.hid (formed2_any (gL l k) wr)
   have hnx:Hid (wrongK l (k+1)=(ivE (gL l k) != 0)):=by show _=_;rw [wrongK_next (by rw [HX.out.1];exact hlt),HW.out,Bool.false_or]
   obtain⟨bz,hbz⟩:∃ z,z=(ivE (gL l k) != 0):=⟨_,rfl⟩
   rw [←hbz] at HF hnx
   obtain⟨⟨xl,xh⟩,hxx⟩:∃ z,z=gL l k:=⟨_,rfl⟩
   rw [←hxx] at x0 x1 HF
   simp only [] at x0 x1 HF
   clear hc c0 c1 hbz hxx
   cases bz with
   | true=>
    go_wp2_with fail
    refine HF.out.mono ?_
    rintro e w2 ⟨rfl,hb2⟩
    have HN:=Lib.hid (HB.out.trans (hb2.mono HB.out.size))
    clear hb2 HF
    go_wp2_with fail
    go_ret
    exact⟨⟨(k:Int),rfl,by rw [wrongK_mono hlt hnx.out];simp⟩,HN.out⟩
   | false=>
    go_wp2_with fail
    refine HF.out.mono ?_
    rintro e w2 ⟨rfl,hb2⟩
    have HN:=Lib.hid (HB.out.trans (hb2.mono HB.out.size))
    clear hb2 HF
    go_wp2_with fail
    go_roundw
    case rel=>exact⟨k+1,by omega,by go_num,hnx,HN⟩
    case measure=>(simp [intOf]) <;> omega
  ·obtain rfl:k=n:=by omega
   have dk:decide ((k:Int) < (k:Int))=false:=by simp
   go_wp2_with fail
   go_ret
   exact⟨⟨-1,rfl,by rw [HW.out];rfl⟩,HB.out⟩
theorem containsIv_any(A:Option Addr)(n c:Nat)(l:List Iv)(w:World)(hx:Ivs w A n c l)(hn:n≤1000) :
  Calls Tryz.prog 73 #[.slice A n c,.func (.func 74) #[] #[]] w fun e w'=>e=.returned (.bool (wrongK l n))∧Below w.heap.size w w':=by
 have H:=Lib.hid (indexIv_any A n c l w hx hn)
 clear hx
 go_enter Tryz.func73,Tryz.ntmps73
 go_wp2_with fail
 refine H.out.mono ?_
 rintro e w1 ⟨⟨z,rfl,hz⟩,hb1⟩
 have HN:=Lib.hid hb1
 have Hz:=Lib.hid hz
 clear hz hb1 H
 go_wp2_with fail
 go_ret
 rw [←Hz.out]
 exact⟨rfl,HN.out⟩
theorem equalInv_any(A D:Option Addr)(n c m d:Nat)(zs:List Int)(l:List Inv)(w:World)(hz:Ints w A n c zs)(hx:Invs w D m d l)(hn:n≤2000)(hm:m≤1000) :
  Calls Tryz.prog 71 #[.slice A n c,.slice D m d,.func (.func 72) #[] #[]] w fun e w'=>e=.returned (.bool (decide (zs=l.map fun x=>x.at_)))∧Below w.heap.size w w':=by
 have HX:=Lib.hid hx
 have HZ:=Lib.hid hz
 clear hx hz
 by_cases hnm:n=m
 rotate_left 1
 ·have hq:Hid (decide (zs=l.map fun x=>x.at_)=false):=by
   show _=_
   refine decide_eq_false fun e=>hnm ?_
   rw [←HX.out.1,←HZ.out.1,e,List.length_map]
  rw [hq.out]
  have d0:(((n:Int)) != (m:Int))=true:=by simp;omega
  have d0':(n != m)=true:=by simpa using hnm
  go_enter Tryz.func71,Tryz.ntmps71
  go_wp2_with fail
  go_ret
  exact⟨rfl,Below.refl _ _⟩
 subst hnm
 go_enter Tryz.func71,Tryz.ntmps71
 go_wp2_with fail
 go_loopw [7,8,9,17] (fun _ _ _ i wr=>∃ k:Nat,k≤n∧i=.int .i64 (k:Int)∧Hid (∀ j,j < k→gi zs j=(gN l j).at_)∧Hid (Below w.heap.size w wr)) (fun _ _ _ i _=>n-(intOf i).toNat)
 case atStart=>exact⟨0,Nat.zero_le _,rfl,Lib.hid (fun j hj=>absurd hj (Nat.not_lt_zero _)),Lib.hid (Below.refl _ _)⟩
 case round=>
  obtain⟨k,hk,rfl,HW,HB⟩:=hrel
  by_cases hlt:k < n
  ·have dk:decide ((k:Int) < (n:Int))=true:=by simp;omega
   have dk':decide (k < n)=true:=by simp;omega
   obtain⟨b,off,rfl,hb,hc⟩:=HZ.out.get (k:=k) hlt
   have z0:=(HB.out.cell (p:=⟨b,off+k,none⟩) hb).trans (hc k hlt)
   obtain⟨b2,off2,rfl,hb3,c0,c1,A',c',c2,-⟩:=(HX.out.below HB.out).get hlt
   obtain⟨⟨xa,xm,xl⟩,hxx⟩:∃ z,z=gN l k:=⟨_,rfl⟩
   rw [←hxx] at c0 c1 c2
   simp only [] at c0 c1 c2
   obtain⟨L,hL⟩:∃ L,L=xl.length:=⟨_,rfl⟩
   rw [←hL] at c2
   obtain⟨z,hzz⟩:∃ z,z=gi zs k:=⟨_,rfl⟩
   rw [←hzz] at z0
   have HK:=Lib.hid (And.intro hxx hzz)
   obtain⟨w1,hw1⟩:∃ w1,w1=wr.alloc (.cells #[.int .i64 xa,.int .i64 xm,.slice A' L c'] 50):=⟨_,rfl⟩
   have g1:Below wr.heap.size wr w1:=by rw [hw1];exact balloc (Below.refl _ _) _
   have r1:rowV w1 wr.heap.size 50 #[.int .i64 xa,.int .i64 xm,.slice A' L c']:=by rw [hw1];exact rowV.new wr _ _
   obtain⟨y0,y1,y2⟩:=three_cellsV r1
   have HF:=Lib.hid (formed1_any z xa xm A' L c' w1)
   have Hw1:=Lib.hid hw1
   have HB1:=Lib.hid (HB.out.trans (g1.mono HB.out.size))
   clear hc hL hxx hzz hw1 g1 r1
   by_cases hq:z=xa
   ·have hqb:(z==xa)=true:=by simpa using hq
    rw [hqb] at HF
    have HW2:Hid (∀ j,j < k+1→gi zs j=(gN l j).at_):=fun j hj=>by
     rcases Nat.lt_succ_iff_lt_or_eq.1 hj with h | rfl
     ·exact HW.out j h
     ·rw [←HK.out.1,←HK.out.2];exact hq
    clear hq hqb
    go_upto_region 7 with fail
    rw [←Hw1.out]
    clear z0 c0 c1 c2
    go_wp2_with fail
    refine HF.out.mono ?_
    rintro e w2 ⟨rfl,hb2⟩
    have HN:=Lib.hid (HB1.out.trans (hb2.mono HB1.out.size))
    clear hb2 HF y0 y1 y2
    go_wp2_with fail
    go_roundw
    case rel=>exact⟨k+1,by omega,by go_num,HW2,HN⟩
    case measure=>(simp [intOf]) <;> omega
   ·have hqb:(z==xa)=false:=by simpa using hq
    rw [hqb] at HF
    have hq2:Hid (decide (zs=l.map fun x=>x.at_)=false):=by
     show _=_
     refine decide_eq_false fun e=>hq ?_
     have h1:k < l.length:=by rw [HX.out.1];exact hlt
     rw [HK.out.2,e]
     have h2:gN l k=l[k]:=by unfold gN;rw [List.getD_eq_getElem?_getD,List.getElem?_eq_getElem h1];rfl
     have h3:=HK.out.1
     rw [h2] at h3
     unfold gi
     rw [List.getD_eq_getElem?_getD,List.getElem?_map,List.getElem?_eq_getElem h1,←h3]
     rfl
    clear hq hqb
    go_upto_region 7 with fail
    rw [←Hw1.out]
    clear z0 c0 c1 c2
    go_wp2_with fail
    refine HF.out.mono ?_
    rintro e w2 ⟨rfl,hb2⟩
    have HN:=Lib.hid (HB1.out.trans (hb2.mono HB1.out.size))
    clear hb2 HF y0 y1 y2
    go_wp2_with fail
    go_ret
    rw [hq2.out]
    exact⟨rfl,HN.out⟩
  ·obtain rfl:k=n:=by omega
   have dk:decide ((k:Int) < (k:Int))=false:=by simp
   have hq2:Hid (decide (zs=l.map fun x=>x.at_)=true):=by
    show _=_
    refine decide_eq_true (List.ext_getElem (by rw [List.length_map,HX.out.1,HZ.out.1]) fun j h1 h2=>?_)
    have h3:j < l.length:=by simpa using h2
    have h4:=HW.out j (by rw [←HZ.out.1];exact h1)
    unfold gi gN at h4
    rw [List.getD_eq_getElem?_getD,List.getElem?_eq_getElem h1,List.getD_eq_getElem?_getD,List.getElem?_eq_getElem h3] at h4
    rw [List.getElem_map]
    exact h4
   go_wp2_with fail
   go_ret
   rw [hq2.out]
   exact⟨rfl,HB.out⟩
end Go.Proofs.YtepoclhdklgnhaaGreatDoor
namespace Go.Proofs.YtepoclhdklgnhaaGreatDoor
open Go.RowKit Go.Proofs
theorem run_copy_zero{P:Program}(w:World)(dT sT ty elem:TypeId)(g off dLen dCap sLen sCap N:Nat)(t:TypeId)(a:Option Addr)
  (hu:P.underlying dT=some (.slice elem)) (hs:(P.info? elem).map (·.size)=some 2)
  (hg:w.heap[g]?=some (.cells (Array.replicate N (.int .i64 0)) t (0,0))) (hfit:off+Nat.min sLen dLen * 2≤N) (hsrc:0 < Nat.min sLen dLen→∃ ad,a=some ad∧∀ j,j < Nat.min sLen dLen * 2→w.cell? (ad.add j)=some (.int .i64 0))
  (hd:0 < Nat.min sLen dLen→off < N) :
  (Builtin.copy_ #[dT,sT] ty #[.slice (some ⟨g,off,none⟩) dLen dCap,.slice a sLen sCap]).run P w=.ok (goInt (Nat.min sLen dLen)) w:=by
 cases hq:P.info? elem with
 | none=>simp [hq] at hs
 | some i=>
  have hi:i.size=2:=by simpa [hq] using hs
  by_cases h0:Nat.min sLen dLen=0
  ·have hl:∀ (x:Addr),(loadCells x 0).run P w=.ok #[] w:=fun x=>by simpa using run_loadCells_list (P:=P) w x [] (by simp)
   cases a <;> simp [Builtin.copy_,run_underlying hu,Builtin.lenOf,Builtin.firstCells,sizeOf,typeInfo,hq,hi,h0,storeCells,hl]
  ·obtain⟨ad,rfl,hc⟩:=hsrc (by omega)
   have hl:=run_loadCells_list (P:=P) w ad (List.replicate (Nat.min sLen dLen * 2) (.int .i64 0)) (fun j v hj=>by
    rw [List.getElem?_replicate] at hj
    split at hj
    ·injection hj with hj
     subst hj
     exact hc j (by assumption)
    ·cases hj)
   rw [List.length_replicate] at hl
   have hst:=run_storeCells_at P g off t (List.replicate (Nat.min sLen dLen * 2) (.int .i64 0)) 0 _ w hg (by simpa using hfit) (fun v hv=>by rw [(List.mem_replicate.1 hv).2];rfl)
   have he:((Array.replicate N (Value.int .i64 0)).toList.take (off+0)++List.replicate (Nat.min sLen dLen * 2) (Value.int .i64 0)++(Array.replicate N (Value.int .i64 0)).toList.drop (off+0+(List.replicate (Nat.min sLen dLen * 2) (Value.int .i64 0)).length)).toArray=Array.replicate N (Value.int .i64 0):=by
    rw [Array.toList_replicate,List.take_replicate,List.drop_replicate,List.length_replicate,List.replicate_append_replicate,List.replicate_append_replicate]
    rw [show min (off+0) N+Nat.min sLen dLen * 2+(N-(off+0+Nat.min sLen dLen * 2))=N by omega]
    simp
   rw [he,setRow_self w g _ t (0,0) hg] at hst
   have e3:(List.replicate (Nat.min sLen dLen * 2) (Value.int .i64 0)).toArray.toList=List.replicate (Nat.min sLen dLen * 2) (Value.int .i64 0):=by simp
   simp only [Builtin.copy_]
   simp [run_underlying hu,Builtin.lenOf,Builtin.firstCells,sizeOf,typeInfo,hq,hi]
   simp [hl,hst]
section
variable {P : Program} {o : Oper} {a : Act} {Q : Exit → Act → World → Prop} {w : World}
theorem wp_copyr{K:Act→World→Prop}(d s:Operand)(t t':TypeId)
  (ho:o.op=.call { callee:=.builtin .copy,args:=#[d,s],argTypes:=#[t,t'] }) (v u:Value) (hd:a.eval d=v) (hs:a.eval s=u) {v':Value} {w':World}
  (hr:(Builtin.copy_ #[t,t'] o.type #[v,u]).run P w=.ok v' w') (h:K (a.put o.dst v') w'):o.wp P a w K Q:=by
 unfold Oper.wp execOp
 simp only [ho,resolve,invoke,builtin,Sem.run_bind,Sem.run_pure,Result.andThen_ok,List.map_toArray,List.map_cons,List.map_nil,hd,hs,hr]
 exact h
theorem wpList_copyr{ops:Array Oper}{rest:List Oper}(hgd:o.guard=none)(d s:Operand)(t t':TypeId)
  (ho:o.op=.call { callee:=.builtin .copy,args:=#[d,s],argTypes:=#[t,t'] }) (v u:Value) (hd:a.eval d=v) (hs:a.eval s=u) {v':Value} {w':World}
  (hr:(Builtin.copy_ #[t,t'] o.type #[v,u]).run P w=.ok v' w') (h:wpList P ops Q rest (a.put o.dst v') w'):wpList P ops Q (o :: rest) a w:=
 wpList_plain hgd fun _ hK=>wp_copyr d s t t' ho v u hd hs hr (hK _ _ h)
theorem step_copyr{ops:Array Oper}{K:Act→World→Prop}{E:Prop}(hgd:o.guard=none)(d s:Operand)(t t':TypeId)
  (ho:o.op=.call { callee:=.builtin .copy,args:=#[d,s],argTypes:=#[t,t'] }) (v u:Value) (hd:a.eval d=v) (hs:a.eval s=u) {v':Value} {w':World}
  (hr:(Builtin.copy_ #[t,t'] o.type #[v,u]).run P w=.ok v' w') (h:K (a.put o.dst v') w'):if Region.wanted o (yielded ops a.tmps)=true then Oper.wp P o a w K Q else E:=by
 rw [if_pos (by simp [Region.wanted,hgd])]
 exact wp_copyr d s t t' ho v u hd hs hr h
end
theorem sz2:(Tryz.prog.info? 55).map (·.size)=some 2:=by kernel_rfl
theorem tIvs:Tryz.prog.underlying 48=some (.slice (Tryz.prog.elem 48)):=by kernel_rfl
theorem eIvs:Tryz.prog.elem 48=55:=by kernel_rfl
theorem sIvs:∀ W:World,(sizeOf 55).run Tryz.prog W=.ok 2 W:=fun _=>by kernel_rfl
theorem cutIv_l(A:Option Addr)(n c:Nat)(l:Int)(h0:0≤l)(hl:l≤n)(W:World):(Instr.slice 48 (.slice A n c) (some (.int .i64 l)) none none).run Tryz.prog W=.ok (.slice (if c=l.toNat then A else A.map (·.add (l.toNat * 2))) (n-l.toNat) (c-l.toNat)) W:=by
 rw [run_slice_l W _ A n c tIvs .i64 l h0 hl,eIvs,sIvs W]
 simp only [Result.andThen,sliced]
theorem cutIv_h(A:Option Addr)(n c:Nat)(h:Int)(h0:0≤h)(hc:h≤c)(W:World):(Instr.slice 48 (.slice A n c) none (some (.int .i64 h)) none).run Tryz.prog W=.ok (.slice A h.toNat c) W:=by
 rw [run_slice_h W _ A n c tIvs .i64 h h0 hc,eIvs,sIvs W]
 simp only [Result.andThen,sliced,Nat.zero_mul,add_zero_map,ite_self,Nat.sub_zero]
def zr2(k:Nat):Array Value:=Array.replicate (k * 2) (.int .i64 0)
theorem zr2_get{k j:Nat}(h:j < k * 2):(zr2 k)[j]?=some (.int .i64 0):=by unfold zr2;rw [Array.getElem?_replicate,if_pos h]
theorem made_iv(k:Nat):madeCells (Value.agg #[.int .i64 0,.int .i64 0]).cells (k * 2)=zr2 k:=by
 apply Array.ext
 ·rw [size_madeCells];simp [zr2]
 ·intro i h1 h2
  have hz:∀ j,j < 2→(#[Value.int .i64 0,.int .i64 0]:Array Value)[j]! = .int .i64 0:=fun j hj=>by
   have h3:j=0∨j=1:=by omega
   rcases h3 with rfl | rfl <;> rfl
  simp only [madeCells,zr2,Value.cells,Array.getElem_map,Array.getElem_range,Array.getElem_replicate]
  exact hz _ (Nat.mod_lt _ (by decide))
theorem run_make_iv(k:Nat)(hk:k≤1000000)(W:World):(Instr.makeSlice 48 (.int .i64 (k:Int)) (.int .i64 (k:Int))).run Tryz.prog W=.ok (.slice (some ⟨W.heap.size,0,none⟩) k k) (W.alloc (.cells (zr2 k) 55)):=by
 obtain⟨i0,hi,hz0,hz1,hz2⟩:=Go.info_parts infoIv
 have h:=run_make (P:=Tryz.prog) W 48 55 i0 _ uIvs hi hz0 .i64 .i64 k k (by omega) (Int.le_refl _) (by rw [hz2];omega) (by omega)
 rw [hz1] at h
 simp only [Int.toNat_natCast,made_iv] at h
 exact h
theorem flat_zero(k:Nat):(List.replicate k (⟨0,0⟩:Iv)).flatMap encIv=List.replicate (k * 2) (.int .i64 0):=by
 induction k with
 | zero=>rfl
 | succ k ih=>
  rw [List.replicate_succ,List.flatMap_cons,ih,show (k+1) * 2=2+k * 2 by omega,←List.replicate_append_replicate]
  rfl
theorem zr2_own{w:World}{g B k:Nat}(h:rowV w g 55 (zr2 k))(hB:B≤g)(hk:k≤1000000):OwnS encIv 2 w B 55 (some ⟨g,0,none⟩) k k (List.replicate k ⟨0,0⟩):=by
 have e:=flat_zero k
 refine⟨by rw [e,List.length_replicate],.inr ⟨g,k,zr2 k,rfl,hB,h,Nat.le_refl _,by unfold maxLen;omega,by simp [zr2],?_⟩⟩
 rw [e]
 simp [zr2]
theorem repeatIv_any(A:Option Addr)(c k:Nat)(w:World)(hx:Ivs w A 1 c [⟨0,0⟩])(hk:k≤1000) :
  Calls Tryz.prog 54 #[.slice A 1 c,.int .i64 (k:Int)] w fun e w'=>∃ A' c',e=.returned (.slice A' k c')∧OwnS encIv 2 w' w.heap.size 55 A' k c' (List.replicate k ⟨0,0⟩)∧Below w.heap.size w w':=by
 have d0:decide ((k:Int) < 0)=false:=by simp
 have d2:decide ((9223372036854775807:Int) < (k:Int))=false:=by simp;omega
 have e1:IntKind.u64.wrap (k:Int)=k:=by simp [IntKind.wrap,IntKind.bits,IntKind.signed];omega
 have hmk:=run_make_iv k (by omega)
 obtain⟨b,off,rfl,hb,hcell⟩:=hx.2.2 (by omega)
 have c0:w.cell? ⟨b,off,none⟩=some (.int .i64 0):=by have:=(hcell 0 (by omega)).1;simpa [gL] using this
 have c1:w.cell? ⟨b,off+1,none⟩=some (.int .i64 0):=by have:=(hcell 0 (by omega)).2;simpa [gL] using this
 have Hmul:=Lib.hid (mul_one_any k (by omega) w)
 clear hcell hx
 go_enter Tryz.func54,Tryz.ntmps54
 go_wp2_with fail
 refine Hmul.out.mono ?_
 rintro e w1 ⟨rfl,hw1⟩
 obtain rfl:w=w1:=hw1.symm
 go_upto_region 7 with fail
 obtain⟨W,hW⟩:∃ W,W=w.alloc (.cells (zr2 k) 55):=⟨_,rfl⟩
 have rg:rowV W w.heap.size 55 (zr2 k):=by rw [hW];exact rowV.new w _ _
 have hbe:Below w.heap.size w W:=by rw [hW];exact balloc (Below.refl _ _) _
 rw [←hW]
 clear hW
 have x0:=(hbe.cell (p:=⟨b,off,none⟩) hb).trans c0
 have x1:=(hbe.cell (p:=⟨b,off+1,none⟩) hb).trans c1
 have hcp:∀ ty,(Builtin.copy_ #[48,48] ty #[.slice (some ⟨w.heap.size,0,none⟩) k k,.slice (some ⟨b,off,none⟩) 1 c]).run Tryz.prog W=.ok (goInt (Nat.min 1 k)) W:=fun ty=>
  run_copy_zero W _ _ ty _ w.heap.size 0 k k 1 c (k * 2) 55 _ uIvs sz2 rg (by have:Nat.min 1 k≤k:=Nat.min_le_right _ _;omega) (fun h=>⟨_,rfl,fun j hj=>by
   have:Nat.min 1 k≤1:=Nat.min_le_left _ _
   have h2:j=0∨j=1:=by omega
   rcases h2 with rfl | rfl
   ·exact x0
   ·exact x1⟩) (fun h=>by have:Nat.min 1 k≤k:=Nat.min_le_right _ _;omega)
 have HR:=Lib.hid (And.intro rg hbe)
 clear rg hbe x0 x1 c0 c1 hb
 go_wp2_with (refine wpList_copyr (o:=⟨some 33,_,_,_,_,_⟩) rfl (.tmp 31) (.tmp 32) _ _ rfl _ _ rfl rfl (hcp _) ?_)
 clear hcp
 go_loopw [8] (fun i wr=>∃ m:Nat,(k=0∨1≤m)∧m≤k∧i=.int .i64 (m:Int)∧Hid (rowV wr w.heap.size 55 (zr2 k)∧Below w.heap.size w wr)) (fun i _=>k-(intOf i).toNat)
 case atStart=>exact⟨min 1 k,by omega,by omega,by simp [Nat.min_comm],HR⟩
 case round=>
  clear HR
  obtain⟨m,hm1,hm,rfl,HR⟩:=hrel
  by_cases hlt:m < k
  ·have r4:=cutIv_l (some ⟨w.heap.size,0,none⟩) k k (m:Int) (by omega) (by omega)
   simp only [Int.toNat_natCast,if_neg (show ¬ k=m by omega),Option.map_some,addr_add,Nat.zero_add] at r4
   have r5:=cutIv_h (some ⟨w.heap.size,0,none⟩) k k (m:Int) (by omega) (by omega)
   simp only [Int.toNat_natCast] at r5
   have hcp:∀ ty,(Builtin.copy_ #[48,48] ty #[.slice (some ⟨w.heap.size,m * 2,none⟩) (k-m) (k-m),.slice (some ⟨w.heap.size,0,none⟩) m k]).run Tryz.prog wr.drew=.ok (goInt (Nat.min m (k-m))) wr.drew:=fun ty=>
    run_copy_zero wr.drew _ _ ty _ w.heap.size (m * 2) (k-m) (k-m) m k (k * 2) 55 _ uIvs sz2 HR.out.1 (by have:Nat.min m (k-m)≤k-m:=Nat.min_le_right _ _;omega) (fun h=>⟨_,rfl,fun j hj=>by
     have:Nat.min m (k-m)≤m:=Nat.min_le_left _ _
     rw [addr_add,Nat.zero_add]
     exact cell_rowV HR.out.1 (zr2_get (Nat.lt_of_lt_of_le hj (Nat.mul_le_mul_right 2 (Nat.le_trans this hm))))⟩) (fun h=>by omega)
   have ew:IntKind.i64.wrap ((m:Int)+((min m (k-m):Nat):Int))=(m:Int)+((min m (k-m):Nat):Int):=IntWalk.i64_in _ (by omega)
   have HN:Hid (rowV wr.drew w.heap.size 55 (zr2 k)∧Below w.heap.size w wr.drew):=⟨HR.out.1,bdrew HR.out.2 1⟩
   go_wp2_with fail
   go_region_law (first
    | (refine step_copyr (w:=wr.drew) (o:=⟨some 45,_,_,_,_,_⟩) rfl (.tmp 41) (.tmp 44) _ _ rfl _ _ (by simp [Act.eval,Act.put]) (by simp [Act.eval,Act.put]) (hcp _) ?_))
   all_goals
    clear r4 r5 ew
    simp only [Act.put,List.getElem_toArray,List.getElem_cons_succ,List.getElem_cons_zero,List.setIfInBounds_toArray,List.set_cons_succ,List.set_cons_zero]
    go_wp2_with fail
    go_roundw
    case rel=>exact⟨m+min m (k-m),by omega,by omega,by go_num,HN⟩
    case measure=>simp [intOf];omega
  ·obtain rfl:m=k:=by omega
   go_wp2_with fail
   go_ret
   exact⟨_,_,rfl,zr2_own HR.out.1 (Nat.le_refl _) (by omega),HR.out.2⟩
end Go.Proofs.YtepoclhdklgnhaaGreatDoor
