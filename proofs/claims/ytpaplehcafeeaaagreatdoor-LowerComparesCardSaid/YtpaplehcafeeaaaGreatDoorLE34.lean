/- Xy Xu Mm Xw Xz. -/
import Derived.Test.YtpaplehcafeeaaaGreatDoorLE27
import Derived.Test.YtpaplehcafeeaaaGreatDoorLE33
import Derived.Test.YtpaplehcafeeaaaGreatDoorLE32
import Derived.Test.YtpaplehcafeeaaaGreatDoorLE30
set_option maxRecDepth 100000
set_option maxHeartbeats 40000000
set_option linter.unusedVariables false
set_option linter.unusedSimpArgs false
set_option linter.unusedSectionVars false
namespace Go.Proofs.YtpaplehcafeeaaaGreatDoor
open Go.RowKit Go.Proofs
theorem run_copy_zero{P:Program}(w:World)(dT sT ty elem:TypeId)(g off dLen dCap sLen sCap N:Nat)(t:TypeId)(a:Option Addr)
  (hu:P.underlying dT=some (.slice elem)) (hs:(P.info? elem).map (·.size)=some 2)
  (hg:w.heap[g]?=some (.cells (Array.replicate N (.int .i64 0)) t (0,0))) (hfit:off+Nat.min sLen dLen * 2≤N) (hsrc:0 < Nat.min sLen dLen→∃ ad,a=some ad∧∀ j,j < Nat.min sLen dLen * 2→w.cell? (ad.add j)=some (.int .i64 0))
  (hd:0 < Nat.min sLen dLen→off < N) :
  (Builtin.copy_ #[dT,sT] ty #[.slice (some ⟨g,off,none⟩) dLen dCap,.slice a sLen sCap]).run P w=.ok (goInt (Nat.min sLen dLen)) w:=by
 cases hq:P.info? elem with
 | none=>simp [hq] at hs
 | some i=>
  have hi:i.size=2:=by simpa [hq] using hs
  by_cases h0:Nat.min sLen dLen=0
  ·have hl:∀ (x:Addr),(loadCells x 0).run P w=.ok #[] w:=fun x=>by simpa using run_loadCells_list (P:=P) w x [] (by simp)
   cases a <;> simp [Builtin.copy_,run_underlying hu,Builtin.lenOf,Builtin.firstCells,sizeOf,typeInfo,hq,hi,h0,storeCells,hl]
  ·obtain⟨ad,rfl,hc⟩:=hsrc (by omega)
   have hl:=run_loadCells_list (P:=P) w ad (List.replicate (Nat.min sLen dLen * 2) (.int .i64 0)) (fun j v hj=>by
    rw [List.getElem?_replicate] at hj
    split at hj
    ·injection hj with hj
     subst hj
     exact hc j (by assumption)
    ·cases hj)
   rw [List.length_replicate] at hl
   have hst:=run_storeCells_at P g off t (List.replicate (Nat.min sLen dLen * 2) (.int .i64 0)) 0 _ w hg (by simpa using hfit) (fun v hv=>by rw [(List.mem_replicate.1 hv).2];rfl)
   have he:((Array.replicate N (Value.int .i64 0)).toList.take (off+0)++List.replicate (Nat.min sLen dLen * 2) (Value.int .i64 0)++(Array.replicate N (Value.int .i64 0)).toList.drop (off+0+(List.replicate (Nat.min sLen dLen * 2) (Value.int .i64 0)).length)).toArray=Array.replicate N (Value.int .i64 0):=by
    rw [Array.toList_replicate,List.take_replicate,List.drop_replicate,List.length_replicate,List.replicate_append_replicate,List.replicate_append_replicate]
    rw [show min (off+0) N+Nat.min sLen dLen * 2+(N-(off+0+Nat.min sLen dLen * 2))=N by omega]
    simp
   rw [he,setRow_self w g _ t (0,0) hg] at hst
   have e3:(List.replicate (Nat.min sLen dLen * 2) (Value.int .i64 0)).toArray.toList=List.replicate (Nat.min sLen dLen * 2) (Value.int .i64 0):=by simp
   simp only [Builtin.copy_]
   simp [run_underlying hu,Builtin.lenOf,Builtin.firstCells,sizeOf,typeInfo,hq,hi]
   simp [hl,hst]
section
variable {P : Program} {o : Oper} {a : Act} {Q : Exit → Act → World → Prop} {w : World}
theorem wp_copyr{K:Act→World→Prop}(d s:Operand)(t t':TypeId)
  (ho:o.op=.call { callee:=.builtin .copy,args:=#[d,s],argTypes:=#[t,t'] }) (v u:Value) (hd:a.eval d=v) (hs:a.eval s=u) {v':Value} {w':World}
  (hr:(Builtin.copy_ #[t,t'] o.type #[v,u]).run P w=.ok v' w') (h:K (a.put o.dst v') w'):o.wp P a w K Q:=by
 unfold Oper.wp execOp
 simp only [ho,resolve,invoke,builtin,Sem.run_bind,Sem.run_pure,Result.andThen_ok,List.map_toArray,List.map_cons,List.map_nil,hd,hs,hr]
 exact h
theorem wpList_copyr{ops:Array Oper}{rest:List Oper}(hgd:o.guard=none)(d s:Operand)(t t':TypeId)
  (ho:o.op=.call { callee:=.builtin .copy,args:=#[d,s],argTypes:=#[t,t'] }) (v u:Value) (hd:a.eval d=v) (hs:a.eval s=u) {v':Value} {w':World}
  (hr:(Builtin.copy_ #[t,t'] o.type #[v,u]).run P w=.ok v' w') (h:wpList P ops Q rest (a.put o.dst v') w'):wpList P ops Q (o :: rest) a w:=
 wpList_plain hgd fun _ hK=>wp_copyr d s t t' ho v u hd hs hr (hK _ _ h)
theorem step_copyr{ops:Array Oper}{K:Act→World→Prop}{E:Prop}(hgd:o.guard=none)(d s:Operand)(t t':TypeId)
  (ho:o.op=.call { callee:=.builtin .copy,args:=#[d,s],argTypes:=#[t,t'] }) (v u:Value) (hd:a.eval d=v) (hs:a.eval s=u) {v':Value} {w':World}
  (hr:(Builtin.copy_ #[t,t'] o.type #[v,u]).run P w=.ok v' w') (h:K (a.put o.dst v') w'):if Region.wanted o (yielded ops a.tmps)=true then Oper.wp P o a w K Q else E:=by
 rw [if_pos (by simp [Region.wanted,hgd])]
 exact wp_copyr d s t t' ho v u hd hs hr h
end
theorem sz2:(Tryz.prog.info? 148).map (·.size)=some 2:=by kernel_rfl
theorem tIvs:Tryz.prog.underlying 48=some (.slice (Tryz.prog.elem 48)):=by kernel_rfl
theorem eIvs:Tryz.prog.elem 48=148:=by kernel_rfl
theorem sIvs:∀ W:World,(sizeOf 148).run Tryz.prog W=.ok 2 W:=fun _=>by kernel_rfl
theorem cutIv_l(A:Option Addr)(n c:Nat)(l:Int)(h0:0≤l)(hl:l≤n)(W:World):(Instr.slice 48 (.slice A n c) (some (.int .i64 l)) none none).run Tryz.prog W=.ok (.slice (if c=l.toNat then A else A.map (·.add (l.toNat * 2))) (n-l.toNat) (c-l.toNat)) W:=by
 rw [run_slice_l W _ A n c tIvs .i64 l h0 hl,eIvs,sIvs W]
 simp only [Result.andThen,sliced]
theorem cutIv_h(A:Option Addr)(n c:Nat)(h:Int)(h0:0≤h)(hc:h≤c)(W:World):(Instr.slice 48 (.slice A n c) none (some (.int .i64 h)) none).run Tryz.prog W=.ok (.slice A h.toNat c) W:=by
 rw [run_slice_h W _ A n c tIvs .i64 h h0 hc,eIvs,sIvs W]
 simp only [Result.andThen,sliced,Nat.zero_mul,add_zero_map,ite_self,Nat.sub_zero]
def zr2(k:Nat):Array Value:=Array.replicate (k * 2) (.int .i64 0)
theorem zr2_get{k j:Nat}(h:j < k * 2):(zr2 k)[j]?=some (.int .i64 0):=by unfold zr2;rw [Array.getElem?_replicate,if_pos h]
theorem made_iv(k:Nat):madeCells (Value.agg #[.int .i64 0,.int .i64 0]).cells (k * 2)=zr2 k:=by
 apply Array.ext
 ·rw [size_madeCells];simp [zr2]
 ·intro i h1 h2
  have hz:∀ j,j < 2→(#[Value.int .i64 0,.int .i64 0]:Array Value)[j]! = .int .i64 0:=fun j hj=>by
   have h3:j=0∨j=1:=by omega
   rcases h3 with rfl | rfl <;> rfl
  simp only [madeCells,zr2,Value.cells,Array.getElem_map,Array.getElem_range,Array.getElem_replicate]
  exact hz _ (Nat.mod_lt _ (by decide))
theorem run_make_iv(k:Nat)(hk:k≤1000000)(W:World):(Instr.makeSlice 48 (.int .i64 (k:Int)) (.int .i64 (k:Int))).run Tryz.prog W=.ok (.slice (some ⟨W.heap.size,0,none⟩) k k) (W.alloc (.cells (zr2 k) 148)):=by
 obtain⟨i0,hi,hz0,hz1,hz2⟩:=Go.info_parts infoIv
 have h:=run_make (P:=Tryz.prog) W 48 148 i0 _ uIvs hi hz0 .i64 .i64 k k (by omega) (Int.le_refl _) (by rw [hz2];omega) (by omega)
 rw [hz1] at h
 simp only [Int.toNat_natCast,made_iv] at h
 exact h
theorem flat_zero(k:Nat):(List.replicate k (⟨0,0⟩:Iv)).flatMap encIv=List.replicate (k * 2) (.int .i64 0):=by
 induction k with
 | zero=>rfl
 | succ k ih=>
  rw [List.replicate_succ,List.flatMap_cons,ih,show (k+1) * 2=2+k * 2 by omega,←List.replicate_append_replicate]
  rfl
theorem zr2_own{w:World}{g B k:Nat}(h:rowV w g 148 (zr2 k))(hB:B≤g)(hk:k≤1000000):OwnS encIv 2 w B 148 (some ⟨g,0,none⟩) k k (List.replicate k ⟨0,0⟩):=by
 have e:=flat_zero k
 refine⟨by rw [e,List.length_replicate],.inr ⟨g,k,zr2 k,rfl,hB,h,Nat.le_refl _,by unfold maxLen;omega,by simp [zr2],?_⟩⟩
 rw [e]
 simp [zr2]
theorem repeatIv_any(A:Option Addr)(c k:Nat)(w:World)(hx:Ivs w A 1 c [⟨0,0⟩])(hk:k≤1000) :
  Calls Tryz.prog 75 #[.slice A 1 c,.int .i64 (k:Int)] w fun e w'=>∃ A' c',e=.returned (.slice A' k c')∧OwnS encIv 2 w' w.heap.size 148 A' k c' (List.replicate k ⟨0,0⟩)∧Below w.heap.size w w':=by
 have d0:decide ((k:Int) < 0)=false:=by simp
 have d2:decide ((9223372036854775807:Int) < (k:Int))=false:=by simp;omega
 have e1:IntKind.u64.wrap (k:Int)=k:=by simp [IntKind.wrap,IntKind.bits,IntKind.signed];omega
 have hmk:=run_make_iv k (by omega)
 obtain⟨b,off,rfl,hb,hcell⟩:=hx.2.2 (by omega)
 have c0:w.cell? ⟨b,off,none⟩=some (.int .i64 0):=by have:=(hcell 0 (by omega)).1;simpa [gL] using this
 have c1:w.cell? ⟨b,off+1,none⟩=some (.int .i64 0):=by have:=(hcell 0 (by omega)).2;simpa [gL] using this
 have Hmul:=Lib.hid (mul_one_any k (by omega) w)
 clear hcell hx
 go_enter Tryz.func75,Tryz.ntmps75
 go_wp2_with fail
 refine Hmul.out.mono ?_
 rintro e w1 ⟨rfl,hw1⟩
 obtain rfl:w=w1:=hw1.symm
 go_upto_region 7 with fail
 obtain⟨W,hW⟩:∃ W,W=w.alloc (.cells (zr2 k) 148):=⟨_,rfl⟩
 have rg:rowV W w.heap.size 148 (zr2 k):=by rw [hW];exact rowV.new w _ _
 have hbe:Below w.heap.size w W:=by rw [hW];exact balloc (Below.refl _ _) _
 rw [←hW]
 clear hW
 have x0:=(hbe.cell (p:=⟨b,off,none⟩) hb).trans c0
 have x1:=(hbe.cell (p:=⟨b,off+1,none⟩) hb).trans c1
 have hcp:∀ ty,(Builtin.copy_ #[48,48] ty #[.slice (some ⟨w.heap.size,0,none⟩) k k,.slice (some ⟨b,off,none⟩) 1 c]).run Tryz.prog W=.ok (goInt (Nat.min 1 k)) W:=fun ty=>
  run_copy_zero W _ _ ty _ w.heap.size 0 k k 1 c (k * 2) 148 _ uIvs sz2 rg (by have:Nat.min 1 k≤k:=Nat.min_le_right _ _;omega) (fun h=>⟨_,rfl,fun j hj=>by
   have:Nat.min 1 k≤1:=Nat.min_le_left _ _
   have h2:j=0∨j=1:=by omega
   rcases h2 with rfl | rfl
   ·exact x0
   ·exact x1⟩) (fun h=>by have:Nat.min 1 k≤k:=Nat.min_le_right _ _;omega)
 have HR:=Lib.hid (And.intro rg hbe)
 clear rg hbe x0 x1 c0 c1 hb
 go_wp2_with (refine wpList_copyr (o:=⟨some 33,_,_,_,_,_⟩) rfl (.tmp 31) (.tmp 32) _ _ rfl _ _ rfl rfl (hcp _) ?_)
 clear hcp
 go_loopw [8] (fun i wr=>∃ m:Nat,(k=0∨1≤m)∧m≤k∧i=.int .i64 (m:Int)∧Hid (rowV wr w.heap.size 148 (zr2 k)∧Below w.heap.size w wr)) (fun i _=>k-(intOf i).toNat)
 case atStart=>exact⟨min 1 k,by omega,by omega,by simp [Nat.min_comm],HR⟩
 case round=>
  clear HR
  obtain⟨m,hm1,hm,rfl,HR⟩:=hrel
  by_cases hlt:m < k
  ·have r4:=cutIv_l (some ⟨w.heap.size,0,none⟩) k k (m:Int) (by omega) (by omega)
   simp only [Int.toNat_natCast,if_neg (show ¬ k=m by omega),Option.map_some,addr_add,Nat.zero_add] at r4
   have r5:=cutIv_h (some ⟨w.heap.size,0,none⟩) k k (m:Int) (by omega) (by omega)
   simp only [Int.toNat_natCast] at r5
   have hcp:∀ ty,(Builtin.copy_ #[48,48] ty #[.slice (some ⟨w.heap.size,m * 2,none⟩) (k-m) (k-m),.slice (some ⟨w.heap.size,0,none⟩) m k]).run Tryz.prog wr.drew=.ok (goInt (Nat.min m (k-m))) wr.drew:=fun ty=>
    run_copy_zero wr.drew _ _ ty _ w.heap.size (m * 2) (k-m) (k-m) m k (k * 2) 148 _ uIvs sz2 HR.out.1 (by have:Nat.min m (k-m)≤k-m:=Nat.min_le_right _ _;omega) (fun h=>⟨_,rfl,fun j hj=>by
     have:Nat.min m (k-m)≤m:=Nat.min_le_left _ _
     rw [addr_add,Nat.zero_add]
     exact cell_rowV HR.out.1 (zr2_get (Nat.lt_of_lt_of_le hj (Nat.mul_le_mul_right 2 (Nat.le_trans this hm))))⟩) (fun h=>by omega)
   have ew:IntKind.i64.wrap ((m:Int)+((min m (k-m):Nat):Int))=(m:Int)+((min m (k-m):Nat):Int):=IntWalk.i64_in _ (by omega)
   have HN:Hid (rowV wr.drew w.heap.size 148 (zr2 k)∧Below w.heap.size w wr.drew):=⟨HR.out.1,bdrew HR.out.2 1⟩
   go_wp2_with fail
   go_region_law (first
    | (refine step_copyr (w:=wr.drew) (o:=⟨some 45,_,_,_,_,_⟩) rfl (.tmp 41) (.tmp 44) _ _ rfl _ _ (by simp [Act.eval,Act.put]) (by simp [Act.eval,Act.put]) (hcp _) ?_))
   all_goals
    clear r4 r5 ew
    simp only [Act.put,List.getElem_toArray,List.getElem_cons_succ,List.getElem_cons_zero,List.setIfInBounds_toArray,List.set_cons_succ,List.set_cons_zero]
    go_wp2_with fail
    go_roundw
    case rel=>exact⟨m+min m (k-m),by omega,by omega,by go_num,HN⟩
    case measure=>simp [intOf];omega
  ·obtain rfl:m=k:=by omega
   go_wp2_with fail
   go_ret
   exact⟨_,_,rfl,zr2_own HR.out.1 (Nat.le_refl _) (by omega),HR.out.2⟩
end Go.Proofs.YtpaplehcafeeaaaGreatDoor
namespace Go.Proofs.YtpaplehcafeeaaaGreatDoor
open Go.RowKit Go.Proofs
variable [Inhabited ArgB]
theorem codeC_all(wB:World)(g mb:Nat)(v:WV)(p:Prg)(P:List Int)(n:Nat)(h:Hd)(hk:PK wB v p P)(hP:P.length=p.code.length)(hn:p.locs=(n:Int))(hh:HdOk n h)(hE:EntC wB v p n h)(hA:AgnC wB v p n h):∀ N,CodeC wB g mb v p P n h N:=by
 intro N
 induction N with
 | zero=>intro t lo base loop st d w b h;exact absurd h (Nat.not_lt_zero _)
 | succ N ih=>exact code_step wB g mb v p P n h N ih (rep_of wB g mb v p P n h N ih hk hP hn hh hE hA) hk hP hn hh
structure NV where
 at_:Int
 most:Int
 A:Option Addr
 n:Nat
 c:Nat
def encNV(x:NV):List Value:=[.int .i64 x.at_,.int .i64 x.most,.slice x.A x.n x.c]
theorem encNV_one(x:NV):∀ u∈encNV x,u.oneCell'=true:=by
 intro u hu
 simp only [encNV,List.mem_cons,List.not_mem_nil,or_false] at hu
 rcases hu with h | h | h <;> rw [h] <;> rfl
theorem uNvs:Tryz.prog.underlying 37=some (.slice 50):=by kernel_rfl
theorem infoNV:(Tryz.prog.info? 50).map (fun i=>(i.zero,i.size,i.bytes))=some (some (.agg #[.int .i64 0,.int .i64 0,.slice none 0 0]),3,40):=by kernel_rfl
def nv(xs:List NV)(k:Nat):NV:=xs.getD k ⟨0,0,none,0,0⟩
def NVs(B:Nat)(w:World)(xs:List NV)(l:List Inv):Prop:=xs.length=l.length∧∀ i,i < l.length→(nv xs i).at_=(gN l i).at_∧(nv xs i).most=(gN l i).most∧(nv xs i).n=(gN l i).locs.length∧IvK B w (nv xs i).A (nv xs i).n (nv xs i).c (gN l i).locs
theorem NVs.nil(B:Nat)(w:World):NVs B w [] []:=⟨rfl,fun i hi=>absurd hi (Nat.not_lt_zero _)⟩
theorem NVs.snoc{B:Nat}{w:World}{xs:List NV}{l:List Inv}(h:NVs B w xs l){x:Inv}{A:Option Addr}{c:Nat}(hi:IvK B w A x.locs.length c x.locs):NVs B w (xs++[⟨x.at_,x.most,A,x.locs.length,c⟩]) (l++[x]):=by
 refine⟨by simp [h.1],fun i hl=>?_⟩
 by_cases hlt:i < l.length
 ·have e1:nv (xs++[⟨x.at_,x.most,A,x.locs.length,c⟩]) i=nv xs i:=by
   unfold nv;rw [List.getD_eq_getElem?_getD,List.getD_eq_getElem?_getD,List.getElem?_append_left (by rw [h.1];exact hlt)]
  have e2:gN (l++[x]) i=gN l i:=by
   unfold gN;rw [List.getD_eq_getElem?_getD,List.getD_eq_getElem?_getD,List.getElem?_append_left hlt]
  rw [e1,e2]
  exact h.2 i hlt
 ·have hi2:i=l.length:=by simp at hl;omega
  subst hi2
  have e1:nv (xs++[⟨x.at_,x.most,A,x.locs.length,c⟩]) l.length=⟨x.at_,x.most,A,x.locs.length,c⟩:=by
   unfold nv;rw [List.getD_eq_getElem?_getD,List.getElem?_append_right (by rw [h.1];exact Nat.le_refl _),h.1,Nat.sub_self];rfl
  have e2:gN (l++[x]) l.length=x:=by
   unfold gN;rw [List.getD_eq_getElem?_getD,List.getElem?_append_right (Nat.le_refl _),Nat.sub_self];rfl
  rw [e1,e2]
  exact⟨rfl,rfl,rfl,hi⟩
theorem Ivs.of_block{w w':World}{A:Option Addr}{n c:Nat}{l:List Iv}(h:Ivs w A n c l)(hs:w.heap.size≤w'.heap.size)(hb:0 < n→∀ b off,A=some ⟨b,off,none⟩→w'.heap[b]?=w.heap[b]?):Ivs w' A n c l:=by
 refine⟨h.1,h.2.1,fun hn=>?_⟩
 obtain⟨b,off,rfl,h1,h2⟩:=h.2.2 hn
 have e:=hb hn b off rfl
 exact⟨b,off,rfl,Nat.lt_of_lt_of_le h1 hs,fun i hi=>⟨(World.cell?_of_block (a:=⟨b,off+i * 2,none⟩) e).trans (h2 i hi).1,(World.cell?_of_block (a:=⟨b,off+i * 2+1,none⟩) e).trans (h2 i hi).2⟩⟩
def IvT(w:World)(A:Option Addr)(n c:Nat)(l:List Iv):Prop:=Ivs w A n c l∧(0 < n→∃ b off cs fr,A=some ⟨b,off,none⟩∧w.heap[b]?=some (Obj.cells cs 148 fr))
def InvT(w:World)(A:Option Addr)(n c:Nat)(l:List Inv):Prop:=l.length=n∧n≤c∧(0 < n→∃ b off cs fr,A=some ⟨b,off,none⟩∧w.heap[b]?=some (Obj.cells cs 50 fr)∧∀ i,i < n→w.cell? ⟨b,off+i * 3,none⟩=some (.int .i64 (gN l i).at_)∧w.cell? ⟨b,off+i * 3+1,none⟩=some (.int .i64 (gN l i).most)∧∃ A' c',w.cell? ⟨b,off+i * 3+2,none⟩=some (.slice A' (gN l i).locs.length c')∧IvT w A' (gN l i).locs.length c' (gN l i).locs)
theorem InvT.invs{w:World}{A:Option Addr}{n c:Nat}{l:List Inv}(h:InvT w A n c l):Invs w A n c l:=⟨h.1,h.2.1,fun hn=>by
 obtain⟨b,off,cs,fr,rfl,hb,hc⟩:=h.2.2 hn
 refine⟨b,off,rfl,lt_of_heap hb,fun i hi=>?_⟩
 obtain⟨h1,h2,A',c',h3,h4⟩:=hc i hi
 exact⟨h1,h2,A',c',h3,h4.1⟩⟩
theorem InvT.keep{w w':World}{A:Option Addr}{n c:Nat}{l:List Inv}(h:InvT w A n c l)(hs:w.heap.size≤w'.heap.size)(h1:∀ (k:Nat) cs fr,w.heap[k]?=some (Obj.cells cs 50 fr)→w'.heap[k]?=w.heap[k]?)(h2:∀ (k:Nat) cs fr,w.heap[k]?=some (Obj.cells cs 148 fr)→w'.heap[k]?=w.heap[k]?):InvT w' A n c l:=⟨h.1,h.2.1,fun hn=>by
 obtain⟨b,off,cs,fr,rfl,hb,hc⟩:=h.2.2 hn
 have e:=h1 b cs fr hb
 refine⟨b,off,cs,fr,rfl,e.trans hb,fun i hi=>?_⟩
 obtain⟨k1,k2,A',c',k3,k4,k5⟩:=hc i hi
 refine⟨(World.cell?_of_block (a:=⟨b,off+i * 3,none⟩) e).trans k1,(World.cell?_of_block (a:=⟨b,off+i * 3+1,none⟩) e).trans k2,A',c',(World.cell?_of_block (a:=⟨b,off+i * 3+2,none⟩) e).trans k3,k4.of_block hs (fun hl b' off' hA=>?_),fun hl=>?_⟩
 ·obtain⟨b2,off2,cs2,fr2,hA2,hb2⟩:=k5 hl
  rw [hA] at hA2
  injection hA2 with hA2
  injection hA2 with hA2 _
  subst hA2
  exact h2 _ _ _ hb2
 ·obtain⟨b2,off2,cs2,fr2,hA2,hb2⟩:=k5 hl
  exact⟨b2,off2,cs2,fr2,hA2,(h2 _ _ _ hb2).trans hb2⟩⟩
theorem InvT.below{w w':World}{A:Option Addr}{n c:Nat}{l:List Inv}(h:InvT w A n c l)(hb:Below w.heap.size w w'):InvT w' A n c l:=h.keep hb.size (fun k cs fr hk=>hb.block k (lt_of_heap hk)) (fun k cs fr hk=>hb.block k (lt_of_heap hk))
theorem InvT.grown{w w':World}{A:Option Addr}{n c R:Nat}{l:List Inv}{t:TypeId}{cs:Array Value}(h:InvT w A n c l)(hg:w.grownBy w' (some R))(hR:rowV w R t cs)(h1:t≠50)(h2:t≠148):InvT w' A n c l:=
 h.keep hg.size (fun k cs' fr hk=>hg.block k (lt_of_heap hk) (fun e=>by injection e with e;subst e;exact ne_of_cells hR h1 hk)) (fun k cs' fr hk=>hg.block k (lt_of_heap hk) (fun e=>by injection e with e;subst e;exact ne_of_cells hR h2 hk))
theorem NVs.typed{B:Nat}{w wr:World}{A:Option Addr}{n c:Nat}{xs:List NV}{l:List Inv}(h:NVs B w xs l)(hb:Below w.heap.size w wr)(hq:∀ b,¬ (default:ArgB).q b)(ho:OwnS encNV 3 wr w.heap.size 50 A n c xs):InvT wr A n c l:=by
 have hn:=ho.length (fun _=>rfl) (by decide)
 refine⟨by rw [←h.1];exact hn,ho.cap,fun hp=>?_⟩
 obtain⟨g,rfl,h1,h2,h3⟩:=ho.get (fun _=>rfl) (by decide) ⟨0,0,none,0,0⟩ hp
 obtain⟨-,-,cur,hcur⟩:=ho.blk (b:=g) (by unfold Value.ownBlock;rfl)
 refine⟨g,0,cur,_,rfl,hcur,fun i hi=>?_⟩
 obtain⟨k1,k2,k3,k4⟩:=h.2 i (by rw [←h.1,hn];exact hi)
 have c0:=h3 i 0 _ hi rfl
 have c1:=h3 i 1 _ hi rfl
 have c2:=h3 i 2 _ hi rfl
 rw [show xs.getD i ⟨0,0,none,0,0⟩=nv xs i from rfl] at c0 c1 c2
 rw [k1,Nat.add_zero] at c0
 rw [k2] at c1
 rw [k3] at c2 k4
 rw [Nat.zero_add]
 refine⟨c0,c1,_,_,c2,k4.1.below hb,fun hl=>?_⟩
 obtain⟨b',off',e1,hlt,hB⟩:=k4.2 hl
 rcases hB with ⟨-,h5⟩ | ⟨cs',fr,h5⟩
 ·exact absurd h5 (hq b')
 ·exact⟨b',off',cs',fr,e1,(hb.block b' hlt).trans h5⟩
def sortK(l:List Inv)(k:Nat):List Inv:=(List.range k).filterMap fun j=>invAt l j
theorem sortK_none{l:List Inv}{k:Nat}(h:invAt l k=none):sortK l (k+1)=sortK l k:=by
 unfold sortK
 rw [List.range_succ,List.filterMap_append]
 simp [h]
theorem sortK_some{l:List Inv}{k:Nat}{x:Inv}(h:invAt l k=some x):sortK l (k+1)=sortK l k++[x]:=by
 unfold sortK
 rw [List.range_succ,List.filterMap_append]
 simp [h]
theorem ana_boxes(w:World)(aA cA:Option Addr)(an ac cn cc:Nat)(L:Int)(f1 f2:Value):∃ w1,w1=((w.alloc (.cells #[.slice aA an ac,.int .i64 L,.slice cA cn cc] 25)).alloc (.cells #[f1,f2] 93)).alloc (.cells #[.int .i64 0,.int .i64 0,.int .i64 0,.slice none 0 0] 39)∧Below w.heap.size w w1∧rowV w1 w.heap.size 25 #[.slice aA an ac,.int .i64 L,.slice cA cn cc]∧rowV w1 (w.heap.size+1) 93 #[f1,f2]∧rowV w1 (w.heap.size+1+1) 39 #[.int .i64 0,.int .i64 0,.int .i64 0,.slice none 0 0]∧w1.heap.size=w.heap.size+1+1+1:=by
 have r1:=rowV.new w 25 #[.slice aA an ac,.int .i64 L,.slice cA cn cc]
 have e1:(w.alloc (.cells #[.slice aA an ac,.int .i64 L,.slice cA cn cc] 25)).heap.size=w.heap.size+1:=by simp
 obtain⟨wa,hwa⟩:∃ x,x=w.alloc (.cells #[.slice aA an ac,.int .i64 L,.slice cA cn cc] 25):=⟨_,rfl⟩
 have k1:Below w.heap.size w wa:=by rw [hwa];exact balloc (Below.refl _ _) _
 rw [←hwa] at r1 e1 ⊢
 have r2:=rowV.new wa 93 #[f1,f2]
 have e2:(wa.alloc (.cells #[f1,f2] 93)).heap.size=w.heap.size+1+1:=by simp [e1]
 obtain⟨wb,hwb⟩:∃ x,x=wa.alloc (.cells #[f1,f2] 93):=⟨_,rfl⟩
 have k2:Below wa.heap.size wa wb:=by rw [hwb];exact balloc (Below.refl _ _) _
 rw [←hwb] at r2 e2 ⊢
 have r3:=rowV.new wb 39 #[.int .i64 0,.int .i64 0,.int .i64 0,.slice none 0 0]
 have k3:Below wb.heap.size wb (wb.alloc (.cells #[.int .i64 0,.int .i64 0,.int .i64 0,.slice none 0 0] 39)):=balloc (Below.refl _ _) _
 rw [e1] at r2
 rw [e2] at r3
 exact⟨_,rfl,(k1.trans (k2.mono k1.size)).trans (k3.mono (by omega)),(r1.below k2 r1.lt).below k3 (r1.below k2 r1.lt).lt,r2.below k3 r2.lt,r3,by simp [e2]⟩
def WhoR(w:World)(r:RR)(e:Ending)(w':World):Prop:=match r with
 | .stuck=>False
 | .bad a x=>e=.panicked [{ v:=failW a x,recovered:=false }]∧Below w.heap.size w w'
 | .ok rp=>(∃ A n c,e=.returned (.agg #[.int .i64 rp.steps,.int .i64 rp.emits,.int .i64 rp.hgt,.slice A n c])∧((∀ b,¬ (default:ArgB).q b)→InvT w' A n c rp.inv))∧Below w.heap.size w w'
theorem one_iv(w:World)(e:TypeId):Ivs (w.alloc (.cells #[.int .i64 0,.int .i64 0] e)) (some ⟨w.heap.size,0,none⟩) 1 1 [⟨0,0⟩]:=
 ⟨rfl,Nat.le_refl _,fun _=>⟨w.heap.size,0,rfl,by simp,fun i hi=>by
  obtain rfl:i=0:=by omega
  simp [gL]⟩⟩
theorem analyseW_any(w:World)(aA cA:Option Addr)(an ac cn cc:Nat)(L:Int)(p:Prg)(n:Nat)(hp:Progs w aA an ac L cA cn cc p)(hok:PrgOk p)(hn:p.locs=(n:Int))(t:Tr)(ht:parse p.code=.ok t p.code.length)(h:Hd)(hh:HdOk n h)(f1 f2:Value)
  (hE:∀ wB v,Below w.heap.size w wB→v.f1=f1→EntC wB v p n h) (hA:∀ wB v P,Below w.heap.size w wB→v.f2=f2→v.aA=aA→v.an=an→v.ac=ac→v.L=L→v.cA=cA→v.cn=cn→v.cc=cc→PK wB v p P→AgnC wB v p n h) :
  Calls Tryz.prog 39 #[.agg #[.slice aA an ac,.int .i64 L,.slice cA cn cc],.agg #[f1,f2]] w (WhoR w (whole p h t)):=by
 have hLn:L=(n:Int):=hp.locs.trans hn
 subst hLn
 obtain⟨w1,hw1,g1,rp,rh,rr,s1⟩:=ana_boxes w aA cA an ac cn cc (n:Int) f1 f2
 have hcl:=hp.code.1
 have hlen:=hok.len
 have HPt:=partnersW_any cA cn cc p.code w1 (hp.code.below g1) (by omega)
 rw [ht] at HPt
 simp only [] at HPt
 obtain⟨fk1,fk2,fk3,fk4,fk5⟩:=parse_ok ht
 have x2:=cell_rowV rp (j:=2) rfl
 have HP:=Lib.hid hp
 have HO:=Lib.hid hok
 have Hn:=Lib.hid hn
 have HH:=Lib.hid hh
 have HE:=Lib.hid hE
 have HA:=Lib.hid hA
 have HG:=Lib.hid (And.intro g1 s1)
 have HR:=Lib.hid (And.intro rp (And.intro rh rr))
 have HF:=Lib.hid (And.intro fk3 (And.intro fk4 fk5))
 have HL:=Lib.hid (And.intro hcl hlen)
 have HPt:=Lib.hid HPt
 have Hw1:=Lib.hid hw1
 clear hp hok hn hh hE hA g1 s1 rp rh rr fk1 fk2 fk3 fk4 fk5 hcl hlen hw1
 have hmk:∀ W:World,(Instr.makeMap 142 none).run Tryz.prog W=.ok (.map (some W.heap.size)) (W.alloc (.map #[] 0)):=fun W=>run_makeMap_plain W _
 go_enter Tryz.func39,Tryz.ntmps39
 go_upto_region 1 with fail
 rw [←Hw1.out]
 go_wp2_with fail
 refine HPt.out.mono ?_
 rintro e w2 ⟨pb,P,rfl,hb2,hpb,hrow,hPl,hpo⟩
 clear HPt x2
 have rp2:=HR.out.1.below hb2 HR.out.1.lt
 have rh2:=HR.out.2.1.below hb2 HR.out.2.1.lt
 have rr2:=HR.out.2.2.below hb2 HR.out.2.2.lt
 have g2:Below w.heap.size w w2:=HG.out.1.trans (hb2.mono HG.out.1.size)
 obtain⟨v,hv⟩:∃ v:WV,v=⟨aA,an,ac,(n:Int),cA,cn,cc,some ⟨pb,0,none⟩,cn,cn,f1,f2⟩:=⟨_,rfl⟩
 have hk:PK w2 v p P:=by
  subst hv
  exact⟨HP.out.arrs.below g2,HP.out.code.below g2,hrow.ints hPl (Nat.le_refl _),HO.out⟩
 have hE2:EntC w2 v p n h:=HE.out w2 v g2 (by rw [hv])
 have hA2:AgnC w2 v p n h:=HA.out w2 v P g2 (by rw [hv]) (by rw [hv]) (by rw [hv]) (by rw [hv]) (by rw [hv]) (by rw [hv]) (by rw [hv]) (by rw [hv]) hk
 obtain⟨w3,hw3⟩:∃ w3,w3=w2.alloc (.map #[] 0):=⟨_,rfl⟩
 have k3:Below w2.heap.size w2 w3:=by rw [hw3];exact balloc (Below.refl _ _) _
 have e3:w3.heap.size=w2.heap.size+1:=by rw [hw3];simp
 have m3:MapZ Tryz.prog 3 .i64 w3 w2.heap.size 0 (fun _=>none):=by rw [hw3];exact MapZ.made w2
 obtain⟨w4,hw4⟩:∃ w4,w4=w3.alloc (.cells #[.slice aA an ac,.int .i64 (n:Int),.slice cA cn cc,.slice (some ⟨pb,0,none⟩) cn cn,f1,f2,.slice none 0 0,.slice none 0 0,.int .i64 0,.slice none 0 0,.map (some w2.heap.size)] 145):=⟨_,rfl⟩
 have k4:Below w3.heap.size w3 w4:=by rw [hw4];exact balloc (Below.refl _ _) _
 have r4:rowV w4 w3.heap.size 145 (rowK v ⟨none,0,0,none,0,0,none,0,0,[],0⟩ ((0:Nat):Int) w2.heap.size):=by rw [hw4,hv];exact rowV.new w3 _ _
 have k24:Below w2.heap.size w2 w4:=k3.trans (k4.mono k3.size)
 have hW4:WK w2.heap.size w3.heap.size w2.heap.size v w4 ⟨[],[],0,[],[]⟩ ⟨none,0,0,none,0,0,none,0,0,[],0⟩:=
  ⟨r4,by omega,k24.size,⟨⟨rfl,Nat.le_refl _,fun h=>absurd h (Nat.lt_irrefl _)⟩,fun h=>absurd h (Nat.lt_irrefl _)⟩,OwnS.nil _ _ _ _ _,OwnS.nil _ _ _ _ _,rfl,fun i hi=>absurd hi (Nat.not_lt_zero _),Nat.le_refl _,_,m3.same (k4.block _ m3.lt),fun k=>rfl⟩
 have y0:=cell_rowV rp2 (j:=0) rfl
 have y1:=cell_rowV rp2 (j:=1) rfl
 have y2:=cell_rowV rp2 (j:=2) rfl
 obtain⟨z0,z1⟩:=two_cellsV rh2
 have HC:=Lib.hid (codeC_all w2 w3.heap.size w2.heap.size v p P n h hk (hPl.trans HL.out.1.symm) Hn.out HH.out hE2 hA2)
 have HW4:=Lib.hid hW4
 have HB4:=Lib.hid (And.intro k24 g2)
 have HR2:=Lib.hid (And.intro rp2 (And.intro rh2 rr2))
 have Hw3:=Lib.hid hw3
 have Hw4:=Lib.hid hw4
 have He3:=Lib.hid e3
 have Hpo:=Lib.hid hpo
 have Hk:=Lib.hid hk
 have Hv:=Lib.hid hv
 clear hv hk hE2 hA2 hw3 k3 e3 m3 hw4 k4 r4 k24 hW4 rp2 rh2 rr2 g2 hb2 hrow hPl hpo HE HA HP
 go_wp2_with fail
 refine (demandW_ok _ _ _).mono ?_
 rintro e w5 ⟨rfl,hw5⟩
 obtain rfl:=hw5.symm
 clear hw5
 go_upto_region 4 with fail
 rw [←Hw3.out,←Hw4.out]
 have hg1:=He3.out
 obtain⟨g,hg⟩:∃ g,g=w3.heap.size:=⟨_,rfl⟩
 rw [←hg] at hg1 HC HW4
 rw [←hg1]
 have Hg1:=Lib.hid hg1
 clear hg hg1 y0 y1 y2 z0 z1
 have r4p:=HR2.out.1.below HB4.out.1 HR2.out.1.lt
 have y1:=cell_rowV r4p (j:=1) rfl
 have y2:=cell_rowV r4p (j:=2) rfl
 have hl4:=r4p.lt
 have e6:=HW4.out.cells.2.2.2.2.2.2.1
 have f6:=HW4.out.frozen 6
 have hgl:=HW4.out.row.lt
 have hn16:n≤16:=by have h1:=HO.out.locs;have h2:=Hn.out;omega
 have hex:∀ W:World,Calls Tryz.prog 76 #[.int .u32 0] W fun e w'=>e=.returned (.agg #[.int .i64 0,.int .i64 0])∧Below W.heap.size W w':=fun W=>exact_any 0 (by decide) W
 have hrep:∀ W:World,Calls Tryz.prog 75 #[.slice (some ⟨W.heap.size,0,none⟩) 1 1,.int .i64 (n:Int)] (W.alloc (.cells #[.int .i64 0,.int .i64 0] 148)) fun e w'=>∃ A' c',e=.returned (.slice A' n c')∧OwnS encIv 2 w' (W.alloc (.cells #[.int .i64 0,.int .i64 0] 148)).heap.size 148 A' n c' (List.replicate n ⟨0,0⟩)∧Below (W.alloc (.cells #[.int .i64 0,.int .i64 0] 148)).heap.size (W.alloc (.cells #[.int .i64 0,.int .i64 0] 148)) w':=fun W=>repeatIv_any _ 1 n _ (one_iv W _) (by omega)
 have hgne:Hid (w.heap.size≠g):=by show _≠_;have h1:=HR2.out.1.lt;have h2:=Hg1.out;omega
 clear r4p
 go_region_held3 (fun W=>W.cell? ⟨w.heap.size,1,none⟩=some (.int .i64 (n:Int)))
  (first | go_keep | exact v1 | exact u1 | exact q1)
  (first
   | (go_at_call 76;refine (hex _).mono ?_;rintro e w5 ⟨rfl,hb5⟩;have v1:=(hb5.cell (p:=⟨w.heap.size,1,none⟩) hl4).trans y1)
   | (go_at_call 75;refine (hrep _).mono ?_;rintro e w6 ⟨A6,c6,rfl,ho6,hb6⟩;have h45:Below w4.heap.size w4 w5:=(bdrew (Below.refl _ w4) 1).trans hb5;have hb46:Below w4.heap.size w4 w6:=by { first | exact h45.trans (((balloc (Below.refl _ w5) _).trans (hb6.mono (balloc (Below.refl _ w5) _).size)).mono h45.size) | exact h45.trans (((balloc (bdrew (Below.refl _ w5) 1) _).trans (hb6.mono (balloc (bdrew (Below.refl _ w5) 1) _).size)).mono h45.size) };have x6:=(hb46.cell (p:=⟨g,6,none⟩) hgl).trans e6;have x6':=(hb46.frozen (p:=⟨g,6,none⟩) hgl).trans f6;have u1:=(hb46.cell (p:=⟨w.heap.size,1,none⟩) hl4).trans y1;have q1:=(World.cell?_of_block (a:=⟨w.heap.size,1,none⟩) (Below.heap_setCell w6 ⟨g,6,none⟩ (.slice A6 n c6) w.heap.size hgne.out)).trans u1))
 rename_i hHeld
 have hW6:=HW4.out.below hb46
 have hIv:IvK w2.heap.size w6 A6 n c6 (List.replicate n ⟨0,0⟩):=IvK.of_own ho6
 have hst0:st0 p=⟨List.replicate n ⟨0,0⟩,[],0,[],[]⟩:=by unfold st0;rw [Hn.out];simp
 have hW7:=hW6.set 6 (.slice A6 n c6) (d':=⟨A6,n,c6,none,0,0,none,0,0,[],0⟩) (st':=st0 p) (by rw [hst0];rfl) (by rw [hst0];exact hIv) (by rw [hst0];exact hW6.stk) hW6.lvs (by rw [hst0];rfl) (fun i hi=>absurd hi (Nat.not_lt_zero _)) rfl (by rw [hst0])
 have hV7:KV w2.heap.size g w2.heap.size ⟨none,0,0,none,0,0,none,0,0,[],0⟩ ⟨A6,n,c6,none,0,0,none,0,0,[],0⟩ w4 (w6.setCell ⟨g,6,none⟩ (.slice A6 n c6)):=(KV.of_below hb46 HW4.out.hB).trans (KV.setG hW6 6 (.slice A6 n c6) rfl rfl)
 obtain⟨w7,hw7⟩:∃ w7,w7=w6.setCell ⟨g,6,none⟩ (.slice A6 n c6):=⟨_,rfl⟩
 rw [←hw7] at hW7 hV7
 have hb47:Below w2.heap.size w4 w7:=hV7.kw.ki.below
 have hb27:Below w2.heap.size w2 w7:=HB4.out.1.trans hb47
 have hst:StOk n (st0 p):=by
  rw [hst0]
  exact⟨⟨List.length_replicate,fun x hx=>by rw [(List.mem_replicate.1 hx).2];decide⟩,fun v hv=>absurd hv (List.not_mem_nil),Nat.zero_le _,Nat.zero_le _,fun l hl=>absurd hl (List.not_mem_nil),fun x hx=>absurd hx (List.not_mem_nil)⟩
 have hct:cT t≤1000000000000:=by
  have h1:=cT_le t
  have h2:t.size * 7 ^ t.dep≤1024 * 7 ^ 8:=Nat.mul_le_mul (by rw [HF.out.2.1];exact HL.out.2) (Nat.pow_le_pow_right (by omega) HF.out.2.2)
  have h3:(1024 * 7 ^ 8:Nat)≤1000000000000:=by decide
  omega
 have hsz:=HF.out.2.1
 have hCd:=HC.out (t.size+1) t 0 0 0 (st0 p) _ w7 false (Nat.lt_succ_self _) HF.out.1 Hpo.out (by rw [hsz,Nat.zero_add];exact Nat.le_refl _) hb27 hW7 hst (by omega) (by omega) (by unfold NOTES;show 0+cT t≤_;omega) (by rw [hst0];exact Nat.le_refl _)
 have hgd:=anaT_good HO.out Hn.out HH.out t 0 0 0 (st0 p) 0 0 false HF.out.1 (by rw [hsz,Nat.zero_add];exact Nat.le_refl _) hst (by omega) (by omega) (by unfold tooMany;omega)
 rw [show (0+t.size:Nat)=cn by rw [hsz,HL.out.1,Nat.zero_add]] at hCd
 have HCd:=Lib.hid hCd
 have Hgd:=Lib.hid hgd
 have rp7:=HR2.out.1.below hb27 HR2.out.1.lt
 have y2:=cell_rowV rp7 (j:=2) rfl
 have HB7:=Lib.hid (And.intro hb27 (HB4.out.2.trans (hb27.mono HB4.out.2.size)))
 have Hw7:=Lib.hid hw7
 clear hHeld hW6 hIv hst0 hW7 hV7 hw7 hb47 hb27 hst hct hsz hCd hgd rp7 hgne e6 f6 x6 x6' u1 q1 v1 y1 hb46 ho6 hb6 h45 hex hrep hb5 hgl hl4
 go_upto_region 5 with fail
 rw [←Hw7.out]
 go_wp2_with fail
 refine HCd.out.mono ?_
 intro e w8 hr
 clear HCd
 have hwh:Hid (whole p h t=match anaT p h t 0 0 0 (st0 p) 0 0 with
  | .bad a e=>.bad a e
  | .stuck=>.stuck
  | .ok st s e=>if st.stk.length≠0 then .bad p.code.length 14 else .ok ⟨s,e,(st.hgt:Int),sortI p.code.length st.inv⟩):=rfl
 cases hana:anaT p h t 0 0 0 (st0 p) 0 0 with
 | stuck=>rw [hana] at hr;exact hr.elim
 | bad a x=>
  rw [hana] at hr hwh
  obtain⟨rfl,hb8⟩:=hr
  refine⟨rfl,?_⟩
  rw [hwh.out]
  exact⟨rfl,HB7.out.2.trans (hb8.mono HB4.out.2.size)⟩
 | ok s8 xs xe=>
  rw [hana] at hr hwh Hgd
  obtain⟨rfl,d8,hK8,hV8,-⟩:=hr
  have hb8:Below w2.heap.size w7 w8:=hV8.kw.ki.below
  have hb28:Below w2.heap.size w2 w8:=HB7.out.1.trans hb8
  have rp8:=HR2.out.1.below hb28 HR2.out.1.lt
  have rr8:=HR2.out.2.2.below hb28 HR2.out.2.2.lt
  obtain⟨w9,hw9⟩:∃ w9,w9=w8.alloc (.cells #[.int .i64 xs,.int .i64 xe] 151):=⟨_,rfl⟩
  have k9:Below w8.heap.size w8 w9:=by rw [hw9];exact balloc (Below.refl _ _) _
  have rb9:rowV w9 w8.heap.size 151 #[.int .i64 xs,.int .i64 xe]:=by rw [hw9];exact rowV.new w8 _ _
  have hK9:=hK8.below k9
  have rp9:=rp8.below k9 rp8.lt
  have rr9:=rr8.below k9 rr8.lt
  have y2:=cell_rowV rp9 (j:=2) rfl
  have HK9:=Lib.hid hK9
  have HR9:=Lib.hid (And.intro rp9 (And.intro rr9 rb9))
  have HB9:Hid (Below w2.heap.size w2 w9∧Below w.heap.size w w9):=⟨hb28.trans (k9.mono hb28.size),HB4.out.2.trans ((hb28.trans (k9.mono hb28.size)).mono HB4.out.2.size)⟩
  have Hw9:=Lib.hid hw9
  clear hana hK8 hV8 hb8 hb28 rp8 rr8 k9 rb9 hK9 rp9 rr9 hw9
  go_upto_region 6 with fail
  rw [←Hw9.out]
  by_cases hlv:s8.stk.length=0
  ·have hw2:Hid (whole p h t=.ok ⟨xs,xe,(s8.hgt:Int),sortI p.code.length s8.inv⟩):=by show _=_;rw [hwh.out,if_neg (by simpa using hlv)]
   have HLv:=Lib.hid (levelW_ok w2.heap.size g w2.heap.size v d8 s8 w9 HK9.out cn 0 hlv)
   clear hlv
   go_wp2_with fail
   refine HLv.out.mono ?_
   rintro e w10 ⟨rfl,hw10⟩
   obtain rfl:=hw10.symm
   clear hw10 HLv
   obtain⟨z0,z1⟩:=two_cellsV HR9.out.2.2
   have e8:=HK9.out.cells.2.2.2.2.2.2.2.2.1
   have y2:=cell_rowV HR9.out.1 (j:=2) rfl
   obtain⟨hh,hhe⟩:∃ x:Int,x=(s8.hgt:Int):=⟨_,rfl⟩
   rw [←hhe] at e8 hw2
   obtain⟨w11,hw11⟩:∃ w11,w11=(w9.alloc (.cells #[.int .i64 xs,.int .i64 xe,.int .i64 hh,.slice none 0 0] 39)).drew:=⟨_,rfl⟩
   have k11:Below w9.heap.size w9 w11:=by rw [hw11];exact bdrew (balloc (Below.refl _ _) _) 1
   have r11:rowV w11 w9.heap.size 39 #[.int .i64 xs,.int .i64 xe,.int .i64 hh,.slice none 0 0]:=by rw [hw11];exact rowV.new w9 _ _
   obtain⟨fm,m1,m2⟩:=HK9.out.map
   have hLk:Hid (∀ (k:Nat) W,W.heap[w2.heap.size]?=w9.heap[w2.heap.size]?→k≤1024→(Instr.lookup 142 (.map (some w2.heap.size)) (.int .i64 (k:Int)) true).run Tryz.prog W=.ok (.tuple #[(fm (k:Int)).getD (.agg #[.int .i64 0,.int .i64 0,.slice none 0 0]),.bool (fm (k:Int)).isSome]) W):=fun k W hW hk=>
    MapZ.look (w:=W) uInt uMapI (by kernel_rfl) (m1.same hW) (k:Int) (by simp [Lit.wf,IntKind.min,IntKind.max,IntKind.bits,IntKind.signed];omega)
   have HM2:=Lib.hid m2
   have hmlt:=m1.lt
   have hglt:=HK9.out.row.lt
   have HR11:=Lib.hid (And.intro r11 k11)
   have Hw11:=Lib.hid hw11
   have hplt:=HR9.out.1.lt
   clear hhe hw11 k11 r11 m1 m2
   go_wp2_with fail
   go_region_held3 (fun W=>W.cell? ⟨w8.heap.size,0,none⟩=some (.int .i64 xs)∧W.cell? ⟨w8.heap.size,1,none⟩=some (.int .i64 xe)∧W.cell? ⟨g,8,none⟩=some (.int .i64 hh))
    (first | go_keep)
    (first | fail)
   rename_i hHeld
   rw [←Hw11.out]
   clear z0 z1 e8 hHeld
   have y2':=(HR11.out.2.cell (p:=⟨w.heap.size,2,none⟩) hplt).trans y2
   have hcn:cn≤1024:=by have h1:=HL.out;omega
   clear y2
   go_wp2_with fail
   go_loopw [10,11,12,59] (fun _ _ _ i wr=>∃ (k:Nat) (A:Option Addr) (m c:Nat) (ys:List NV),k≤cn∧i=.int .i64 (k:Int)∧Hid (m≤k)∧Hid (rowV wr w9.heap.size 39 #[.int .i64 xs,.int .i64 xe,.int .i64 hh,.slice A m c]∧OwnS encNV 3 wr w9.heap.size 50 A m c ys∧NVs w2.heap.size w9 ys (sortK s8.inv k)∧Below w9.heap.size w9 wr)) (fun _ _ _ i _=>cn-(intOf i).toNat)
   case atStart=>exact⟨0,none,0,0,[],Nat.zero_le _,rfl,Lib.hid (Nat.le_refl _),Lib.hid ⟨HR11.out.1,OwnS.nil _ _ _ _ _,NVs.nil _ _,HR11.out.2⟩⟩
   case round=>
    clear y2'
    obtain⟨k,A,m,c,ys,hk,rfl,HM,HI⟩:=hrel
    by_cases hlt:k < cn
    ·have d0:decide ((k:Int) < (cn:Int))=true:=by simp;omega
     have d0':decide (k < cn)=true:=by simp;omega
     have e10:=(HI.out.2.2.2.cell (p:=⟨g,10,none⟩) hglt).trans (HK9.out.cells.2.2.2.2.2.2.2.2.2.2)
     have hl:=hLk.out k wr (HI.out.2.2.2.block w2.heap.size hmlt) (by omega)
     have hm2:=HM2.out k
     have Hlt:=Lib.hid hlt
     cases hinv:invAt s8.inv k with
     | none=>
      rw [hinv] at hm2
      simp only [] at hm2
      rw [hm2] at hl
      simp only [Option.getD_none,Option.isSome_none] at hl
      have hk1:=balloc (Below.refl wr.heap.size wr) (.cells #[.int .i64 0,.int .i64 0,.slice none 0 0] 50)
      have HN:Hid (rowV (wr.alloc (.cells #[.int .i64 0,.int .i64 0,.slice none 0 0] 50)) w9.heap.size 39 #[.int .i64 xs,.int .i64 xe,.int .i64 hh,.slice A m c]∧OwnS encNV 3 (wr.alloc (.cells #[.int .i64 0,.int .i64 0,.slice none 0 0] 50)) w9.heap.size 50 A m c ys∧NVs w2.heap.size w9 ys (sortK s8.inv (k+1))∧Below w9.heap.size w9 (wr.alloc (.cells #[.int .i64 0,.int .i64 0,.slice none 0 0] 50))):=
       ⟨HI.out.1.below hk1 HI.out.1.lt,HI.out.2.1.below hk1,by rw [sortK_none hinv];exact HI.out.2.2.1,balloc HI.out.2.2.2 _⟩
      clear hk1 hm2 hinv
      go_wp2_with fail
      go_roundw
      case rel=>exact⟨k+1,A,m,c,ys,by omega,by go_num,Lib.hid (by have:=HM.out;omega),HN⟩
      case measure=>(simp [intOf]) <;> omega
     | some x=>
      rw [hinv] at hm2
      simp only [] at hm2
      obtain⟨vx,hvx,A',c',hvv,hiv⟩:=hm2
      rw [hvx,hvv] at hl
      simp only [Option.getD_some,Option.isSome_some] at hl
      have hns:=HI.out.2.2.1.snoc hiv
      rw [←sortK_some hinv] at hns
      obtain⟨⟨xa,xm,xl⟩,hx⟩:∃ y,y=x:=⟨_,rfl⟩
      rw [←hx] at hl hns
      simp only [] at hl hns
      obtain⟨nl,hnl⟩:∃ y,y=xl.length:=⟨_,rfl⟩
      rw [←hnl] at hl hns
      clear hx hnl hvx hvv hiv hinv
      obtain⟨w12,hw12⟩:∃ y,y=wr.alloc (.cells #[.int .i64 xa,.int .i64 xm,.slice A' nl c'] 50):=⟨_,rfl⟩
      have hk1:Below wr.heap.size wr w12:=by rw [hw12];exact balloc (Below.refl _ _) _
      have r12:rowV w12 wr.heap.size 50 #[.int .i64 xa,.int .i64 xm,.slice A' nl c']:=by rw [hw12];exact rowV.new wr _ _
      have HI2:Hid (rowV w12 w9.heap.size 39 #[.int .i64 xs,.int .i64 xe,.int .i64 hh,.slice A m c]∧OwnS encNV 3 w12 w9.heap.size 50 A m c ys∧NVs w2.heap.size w9 (ys++[⟨xa,xm,A',nl,c'⟩]) (sortK s8.inv (k+1))∧Below w9.heap.size w9 w12):=
       ⟨HI.out.1.below hk1 HI.out.1.lt,HI.out.2.1.below hk1,hns,HI.out.2.2.2.trans (hk1.mono HI.out.2.2.2.size)⟩
      obtain⟨q0,q1,q2⟩:=three_cellsV r12
      have q3:=(four_cellsV HI2.out.1).2.2.2
      have Hw12:=Lib.hid hw12
      have hml:Hid (m+1≤maxLen∧(m+1) * 40≤140737488355328):=by have h1:=HM.out;show _∧_;unfold maxLen;omega
      clear hk1 r12 hns hw12 HI
      go_upto_region 13 with fail
      rw [←Hw12.out]
      have hB12:=HI2.out.2.2.2.size
      clear hl e10
      go_wp2_with (at_builtin;refine wpList_pushT (enc:=encNV) rfl (.tmp 73) (.tmp 75) rfl uNvs infoNV encNV_one rfl (fun _=>rfl) (by decide) rfl HI2.out.2.1 hB12 (⟨xa,xm,A',nl,c'⟩:NV) _ rfl rfl hml.out.1 hml.out.2 ?_;intro A9 c9 w13 ho9 hb9 hg9 hf9;have rX:=HI2.out.1.grown hg9 (fun e=>(HI2.out.2.1.ne_row HI2.out.1 (by decide)) _ e.symm rfl);have q39:=(four_cellsV rX).2.2.2;have f39:=frozen_rowV' rX 3)
      have g14:w13.grownBy (w13.setCell ⟨w9.heap.size,3,none⟩ (.slice A9 (m+1) c9)) (some w9.heap.size):=grownBy.setCell' (World.grownBy.refl _ _) _
      have HN:Hid (rowV (w13.setCell ⟨w9.heap.size,3,none⟩ (.slice A9 (m+1) c9)) w9.heap.size 39 #[.int .i64 xs,.int .i64 xe,.int .i64 hh,.slice A9 (m+1) c9]∧OwnS encNV 3 (w13.setCell ⟨w9.heap.size,3,none⟩ (.slice A9 (m+1) c9)) w9.heap.size 50 A9 (m+1) c9 (ys++[⟨xa,xm,A',nl,c'⟩])∧NVs w2.heap.size w9 (ys++[⟨xa,xm,A',nl,c'⟩]) (sortK s8.inv (k+1))∧Below w9.heap.size w9 (w13.setCell ⟨w9.heap.size,3,none⟩ (.slice A9 (m+1) c9))):=
       ⟨rX.set 3 _,ho9.grown g14 (ho9.ne_row rX (by decide)),HI2.out.2.2.1,(HI2.out.2.2.2.trans hb9).grown g14 (HI2.out.2.2.2.trans hb9).size (fun k hk=>by injection hk with hk;rw [←hk];exact Nat.le_refl _)⟩
      clear g14 rX ho9 hb9 hg9 hf9
      go_roundw
      case rel=>exact⟨k+1,A9,m+1,c9,_,by have:=Hlt.out;omega,by go_num,Lib.hid (by have:=HM.out;omega),HN⟩
      case measure=>(have:=Hlt.out;simp [intOf]) <;> omega
    ·obtain rfl:k=cn:=by omega
     have d0:decide ((k:Int) < (k:Int))=false:=by simp
     have rr:=HR9.out.2.1.below HI.out.2.2.2 HR9.out.2.1.lt
     have rz:=HI.out.1
     obtain⟨p0,p1,p2,p3⟩:=four_cellsV rz
     obtain⟨t0,t1,t2,t3⟩:=four_cellsV rr
     have u0:=frozen_rowV' rr 0
     have u1:=frozen_rowV' rr 1
     have u2:=frozen_rowV' rr 2
     have u3:=frozen_rowV' rr 3
     have HRR:=Lib.hid rr
     clear rr rz
     go_wp2_with fail
     have r0:=HRR.out.set 0 (.int .i64 xs)
     have r1:=r0.set 1 (.int .i64 xe)
     have r2:=r1.set 2 (.int .i64 hh)
     have r3:=r2.set 3 (.slice A m c)
     have gR:wr.grownBy ((((wr.setCell ⟨w.heap.size+1+1,0,none⟩ (.int .i64 xs)).setCell ⟨w.heap.size+1+1,1,none⟩ (.int .i64 xe)).setCell ⟨w.heap.size+1+1,2,none⟩ (.int .i64 hh)).setCell ⟨w.heap.size+1+1,3,none⟩ (.slice A m c)) (some (w.heap.size+1+1)):=grownBy.setCell' (grownBy.setCell' (grownBy.setCell' (grownBy.setCell' (World.grownBy.refl _ _) _) _) _) _
     obtain⟨W,hW⟩:∃ W,W=(((wr.setCell ⟨w.heap.size+1+1,0,none⟩ (.int .i64 xs)).setCell ⟨w.heap.size+1+1,1,none⟩ (.int .i64 xe)).setCell ⟨w.heap.size+1+1,2,none⟩ (.int .i64 hh)).setCell ⟨w.heap.size+1+1,3,none⟩ (.slice A m c):=⟨_,rfl⟩
     rw [←hW] at r3 gR ⊢
     obtain⟨b0,b1,b2,b3⟩:=four_cellsV r3
     have hInv:(∀ b,¬ (default:ArgB).q b)→InvT W A m c (sortK s8.inv k):=fun hq=>(HI.out.2.2.1.typed HI.out.2.2.2 hq HI.out.2.1).grown gR HRR.out (by decide) (by decide)
     have hBW:Below w.heap.size w W:=(HB9.out.2.trans (HI.out.2.2.2.mono HB9.out.2.size)).grown gR (HB9.out.2.trans (HI.out.2.2.2.mono HB9.out.2.size)).size (fun k hk=>by injection hk with hk;omega)
     refine bodyPost_ret (v:=.agg #[.int .i64 xs,.int .i64 xe,.int .i64 hh,.slice A m c]) (by simp [results,Tryz.results39,go_sem,b0,b1,b2,b3]) rfl ?_
     rw [hw2.out]
     refine⟨⟨A,m,c,rfl,?_⟩,hBW⟩
     have e9:sortI p.code.length s8.inv=sortK s8.inv k:=by rw [HL.out.1];rfl
     show (∀ b,¬ (default:ArgB).q b)→InvT W A m c (sortI p.code.length s8.inv)
     rw [e9]
     exact hInv
  ·have hw2:Hid (whole p h t=.bad cn 14):=by show _=_;rw [hwh.out,if_pos (by simpa using hlv),HL.out.1]
   have HLv:=Lib.hid (levelW_bad w2.heap.size g w2.heap.size v d8 s8 w9 HK9.out cn 0 hlv)
   clear hlv
   go_wp2_with fail
   refine HLv.out.mono ?_
   rintro e w10 ⟨rfl,hw10⟩
   obtain rfl:=hw10.symm
   refine⟨rfl,?_⟩
   rw [hw2.out]
   exact⟨rfl,HB9.out.2⟩
end Go.Proofs.YtpaplehcafeeaaaGreatDoor
namespace Go.Proofs.YtpaplehcafeeaaaGreatDoor
open Go.RowKit Go.Proofs
def SrcS{α:Type}(enc:α→List Value)(w:World)(A:Option Addr)(m:Nat)(ys:List α):Prop:=ys.length=m∧(0 < m→∃ b off,A=some ⟨b,off,none⟩∧b < w.heap.size∧∀ j u,(ys.flatMap enc)[j]?=some u→w.cell? ⟨b,off+j,none⟩=some u)
theorem SrcS.below{α:Type}{enc:α→List Value}{w w':World}{A:Option Addr}{m:Nat}{ys:List α}(h:SrcS enc w A m ys)(hb:Below w.heap.size w w'):SrcS enc w' A m ys:=⟨h.1,fun hm=>by
 obtain⟨b,off,rfl,h1,h2⟩:=h.2 hm
 exact⟨b,off,rfl,Nat.lt_of_lt_of_le h1 hb.size,fun j u hu=>(hb.cell (p:=⟨b,off+j,none⟩) h1).trans (h2 j u hu)⟩⟩
section
variable {α : Type} {enc : α → List Value} {sz : Nat} {P : Program} {w : World} {B : Nat} {e t : TypeId} {A : Option Addr} {n c : Nat} {xs : List α} {z : Value} {bytes : Nat}
 {ops:Array Oper} {rest:List Oper} {o:Oper} {a:Act} {K:Act→World→Prop} {Q:Exit→Act→World→Prop} {E:Prop}
theorem OwnS.lit(ys:List α)(cs:Array Value)(hcs:(ys.flatMap enc).toArray=cs)(hl:∀ x,(enc x).length=sz)(hB:B≤w.heap.size)(hm:ys.length≤maxLen):OwnS enc sz (w.alloc (.cells cs e)) B e (some ⟨w.heap.size,0,none⟩) ys.length ys.length ys:=by
 subst hcs
 refine⟨flat_length hl ys,.inr ⟨w.heap.size,ys.length,_,rfl,hB,heap_alloc_new w _,Nat.le_refl _,hm,?_,?_⟩⟩
 ·rw [List.size_toArray];exact flat_length hl ys
 ·rw [←flat_length hl ys];exact List.take_of_length_le (Nat.le_refl _)
theorem run_appS(ty:TypeId)(ht:P.underlying t=some (.slice e))(hi:(P.info? e).map (fun i=>(i.zero,i.size,i.bytes))=some (some z,sz,bytes))
  (h1:∀ x,∀ u∈enc x,u.oneCell'=true) (hz:z.cells.size=sz) (hl:∀ x,(enc x).length=sz) (hs:0 < sz)
  (hown:OwnS enc sz w B e A n c xs) (hB:B≤w.heap.size) (A':Option Addr) (m c':Nat) (ys:List α) (hsrc:SrcS enc w A' m ys) (hml:n+m≤maxLen) (hby:(n+m) * bytes≤140737488355328) :
  ∃ A2 c2 w',(Builtin.append_ #[t,t] ty #[.slice A n c,.slice A' m c']).run P w=.ok (.slice A2 (n+m) c2) w'∧OwnS enc sz w' B e A2 (n+m) c2 (xs++ys)∧Below B w w'∧w.grownBy w' (Value.slice A n c).ownBlock ∧
   (∀ b,(Value.slice A2 (n+m) c2).ownBlock=some b→(Value.slice A n c).ownBlock=some b∨w.heap.size≤b):=by
 obtain⟨i,hi0,hz0,hs1,hb⟩:=info_parts hi
 have key:∃ v' w',(Builtin.append_ #[t,t] ty #[.slice A n c,.slice A' m c']).run P w=.ok v' w'∧w'.ownsRow B e sz v' (n+m) (xs.flatMap enc++ys.flatMap enc)∧w.grownBy w' (Value.slice A n c).ownBlock∧(v'.ownBlock=(Value.slice A n c).ownBlock∨v'.ownBlock=some w.heap.size):=by
  cases A' with
  | none=>
   have hm0:m=0:=by
    rcases Nat.eq_zero_or_pos m with h | h
    ·exact h
    ·obtain⟨b,off,h',_⟩:=hsrc.2 h;cases h'
   subst hm0
   have hys:ys=[]:=List.eq_nil_of_length_eq_zero hsrc.1
   subst hys
   refine⟨.slice A n c,w,?_,by rw [List.flatMap_nil,List.append_nil];exact hown,World.grownBy.refl w _,.inl rfl⟩
   rcases hown.2 with ⟨hv,hn⟩ | ⟨g,cap,cur,hv,_,_,hnc,_⟩
   ·injection hv with a b c;subst a b c
    simp [Builtin.append_,run_underlying ht,sizeOf,typeInfo,hi0,Builtin.lenOf,Builtin.firstCells]
   ·injection hv with a b c;subst a;subst c
    simp [Builtin.append_,run_underlying ht,sizeOf,typeInfo,hi0,Builtin.lenOf,Builtin.firstCells,hnc,storeCells]
  | some ad=>
   obtain⟨v',w',hrun,h2,h3,_,h5⟩:=run_append_own_at (P:=P) w B t ty e i z sz bytes ht hi0 hz0 hs1 hb hz hs _ n _ hown ad m c' (ys.flatMap enc) (by rw [flat_length hl,hsrc.1]) (fun j u hu=>by
    have hj:=(List.getElem?_eq_some_iff.1 hu).1
    rw [flat_length hl,hsrc.1] at hj
    have hm0:0 < m:=by
     rcases Nat.eq_zero_or_pos m with h | h
     ·rw [h,Nat.zero_mul] at hj;omega
     ·exact h
    obtain⟨b,off,h',_,hc⟩:=hsrc.2 hm0
    injection h' with h'
    subst h'
    rw [addr_add]
    exact hc j u hu) (fun u hu=>by obtain⟨y,_,hy⟩:=List.mem_flatMap.1 hu;exact h1 y u hy) hml hby hB
   exact⟨v',w',hrun,h2,h3,h5⟩
 obtain⟨v',w',hrun,h2,h3,h5⟩:=key
 have hform:∃ A2 c2,v'=.slice A2 (n+m) c2:=by
  rcases h2.2 with ⟨rfl,h0⟩ | ⟨g,cap,cur,rfl,_⟩
  ·exact⟨none,0,by rw [h0]⟩
  ·exact⟨_,_,rfl⟩
 obtain⟨A2,c2,rfl⟩:=hform
 refine⟨A2,c2,w',hrun,by unfold OwnS;rw [List.flatMap_append];exact h2,(Below.refl B w).grown h3 hB (fun k hk=>(World.ownsRow.lt hown k hk).1),h3,fun b hb=>?_⟩
 rcases h5 with h5 | h5
 ·exact .inl (h5.symm.trans hb)
 ·rw [h5] at hb
  injection hb with hb
  exact .inr (by omega)
theorem wpList_appS(hgd:o.guard=none)(s x:Operand)(ho:o.op=.call { callee:=.builtin .append,args:=#[s,x],argTypes:=#[t,t] })
  (ht:P.underlying t=some (.slice e)) (hi:(P.info? e).map (fun i=>(i.zero,i.size,i.bytes))=some (some z,sz,bytes))
  (h1:∀ x,∀ u∈enc x,u.oneCell'=true) (hz:z.cells.size=sz) (hl:∀ x,(enc x).length=sz) (hsz:0 < sz)
  (hs:a.eval s=.slice A n c) (hown:OwnS enc sz w B e A n c xs) (hB:B≤w.heap.size) (A':Option Addr) (m c':Nat) (ys:List α) (hsrc:SrcS enc w A' m ys)
  (hx:a.eval x=.slice A' m c') (hml:n+m≤maxLen) (hby:(n+m) * bytes≤140737488355328)
  (h:∀ A2 c2 w',OwnS enc sz w' B e A2 (n+m) c2 (xs++ys)→Below B w w'→w.grownBy w' (Value.slice A n c).ownBlock→(∀ b,(Value.slice A2 (n+m) c2).ownBlock=some b→(Value.slice A n c).ownBlock=some b∨w.heap.size≤b)→wpList P ops Q rest (a.put o.dst (.slice A2 (n+m) c2)) w'):wpList P ops Q (o :: rest) a w:=by
 refine wpList_plain hgd fun K hK=>?_
 obtain⟨A2,c2,w',hrun,h2,h3,h4,h5⟩:=run_appS (P:=P) o.type ht hi h1 hz hl hsz hown hB A' m c' ys hsrc hml hby
 unfold Oper.wp execOp
 simp only [ho,resolve,invoke,builtin,Sem.run_bind,Sem.run_pure,Result.andThen_ok,List.map_toArray,List.map_cons,List.map_nil,hs,hx,hrun]
 exact hK _ _ (h A2 c2 w' h2 h3 h4 h5)
end
theorem Ivs.src{w:World}{A:Option Addr}{n c:Nat}{l:List Iv}(h:Ivs w A n c l):SrcS encIv w A n l:=⟨h.1,fun hm=>by
 obtain⟨b,off,rfl,h1,h2⟩:=h.2.2 hm
 refine⟨b,off,rfl,h1,fun j u hu=>?_⟩
 obtain⟨i,hi,hc⟩:=flat_iv l j u hu
 rw [h.1] at hi
 rcases hc with ⟨rfl,rfl⟩ | ⟨rfl,rfl⟩
 ·exact (h2 i hi).1
 ·exact (h2 i hi).2⟩
def NVm(w:World)(xs:List NV)(l:List Inv):Prop:=xs.length=l.length∧∀ i,i < l.length→(nv xs i).at_=(gN l i).at_∧(nv xs i).most=(gN l i).most∧(nv xs i).n=(gN l i).locs.length∧Ivs w (nv xs i).A (nv xs i).n (nv xs i).c (gN l i).locs
theorem Invs.of_own{w:World}{B:Nat}{A:Option Addr}{n c:Nat}{xs:List NV}{l:List Inv}(ho:OwnS encNV 3 w B 50 A n c xs)(hv:NVm w xs l):Invs w A n c l:=by
 have hn:=ho.length (fun _=>rfl) (by decide)
 refine⟨by rw [←hv.1];exact hn,ho.cap,fun hp=>?_⟩
 obtain⟨g,rfl,h1,h2,h3⟩:=ho.get (fun _=>rfl) (by decide) ⟨0,0,none,0,0⟩ hp
 refine⟨g,0,rfl,h2,fun i hi=>?_⟩
 obtain⟨k1,k2,k3,k4⟩:=hv.2 i (by rw [←hv.1,hn];exact hi)
 refine⟨?_,?_,(nv xs i).A,(nv xs i).c,?_,?_⟩
 ·rw [Nat.zero_add,←k1];exact h3 i 0 _ hi rfl
 ·rw [Nat.zero_add,←k2];exact h3 i 1 _ hi rfl
 ·rw [Nat.zero_add,←k3];exact h3 i 2 _ hi rfl
 ·rw [←k3];exact k4
theorem NVm.below{w w':World}{xs:List NV}{l:List Inv}(h:NVm w xs l)(hb:Below w.heap.size w w'):NVm w' xs l:=⟨h.1,fun i hi=>by
 obtain⟨k1,k2,k3,k4⟩:=h.2 i hi
 exact⟨k1,k2,k3,k4.below hb⟩⟩
theorem NVm.tail{w:World}{xs:List NV}{x:Inv}{l:List Inv}(h:NVm w xs (x :: l)):NVm w xs.tail l:=by
 cases xs with
 | nil=>exact absurd h.1 (by simp)
 | cons y ys=>
  refine⟨by have:=h.1;simpa using this,fun i hi=>?_⟩
  have:=h.2 (i+1) (by simp;exact hi)
  exact this
theorem NVm.cons{w:World}{xs:List NV}{x:Inv}{l:List Inv}{A:Option Addr}{n c:Nat}(h:NVm w xs l)(hn:n=x.locs.length)(hi:Ivs w A n c x.locs):NVm w (⟨x.at_,x.most,A,n,c⟩ :: xs) (x :: l):=by
 refine⟨by simp [h.1],fun i hl=>?_⟩
 cases i with
 | zero=>exact⟨rfl,rfl,hn,hi⟩
 | succ i=>exact h.2 i (by simpa using hl)
theorem SrcS.tail{α:Type}{enc:α→List Value}{sz:Nat}{w:World}{b off m:Nat}{y:α}{ys:List α}(hl:∀ x,(enc x).length=sz)(h:SrcS enc w (some ⟨b,off,none⟩) m (y :: ys)):SrcS enc w (some ⟨b,off+sz,none⟩) (m-1) ys:=by
 have h0:=h.1
 simp only [List.length_cons] at h0
 refine⟨by omega,fun hm=>?_⟩
 obtain⟨b',off',e,h1,h2⟩:=h.2 (by omega)
 injection e with e
 injection e with e1 e2
 subst e1 e2
 refine⟨b,off+sz,rfl,h1,fun j u hu=>?_⟩
 have:=h2 (sz+j) u (by rw [List.flatMap_cons,List.getElem?_append_right (by rw [hl];omega),hl,Nat.add_sub_cancel_left];exact hu)
 rw [←Nat.add_assoc] at this
 exact this
theorem SrcS.empty{α:Type}{enc:α→List Value}{w:World}{A:Option Addr}:SrcS enc w A 0 []:=⟨rfl,fun h=>absurd h (by omega)⟩
end Go.Proofs.YtpaplehcafeeaaaGreatDoor
namespace Go.Proofs.YtpaplehcafeeaaaGreatDoor
open Go.RowKit Go.Proofs
variable [Inhabited ArgB]
theorem guarded1_idle(r0 r1:Nat)(w:World) :
  CallsD Tryz.prog 73 #[.pointer (some ⟨r0,0,none⟩),.pointer (some ⟨r1,0,none⟩)] .returning w fun e u' w'=>e=.returned (.tuple #[])∧u'=.returning∧w'=w:=by
 refine callsD_of_wpS Tryz.func73 rfl fun c₀ cs hu=>?_
 apply wpS_seq
 apply wpS_region
 simp [wpOpsS,go_sem,recoverD,hu,Tryz.ntmps73,Exit.thenS]
 refine wpS_of_wp ?_
 go_hide hQ
 have HQ:=Lib.hid hQ
 have HU:=Lib.hid hu
 clear hQ hu
 simp only [List.size_toArray,List.length_cons,List.length_nil,Nat.reduceAdd,Nat.reduceSub,Array.replicate_succ,Array.replicate_zero,List.push_toArray,List.append_toArray,List.nil_append,List.cons_append,List.setIfInBounds_toArray,List.set_cons_zero,List.set_cons_succ]
 go_wp2_with fail
 have hQ:=HQ.out
 have hu:=HU.out
 rw [←hQ]
 clear HQ HU hQ
 cases c₀
 simp_all [bodyPostS,results,Tryz.results73]
theorem guarded1_bad(B r0 r1:Nat)(y z a er:Int)(w:World)(h0:rowV w r0 3 #[.int .i64 y])(h1:rowV w r1 31 #[.int .i64 z])(hB0:B≤r0)(hB1:B≤r1)(h01:r0≠r1) :
  CallsD Tryz.prog 73 #[.pointer (some ⟨r0,0,none⟩),.pointer (some ⟨r1,0,none⟩)] (.panicking [{ v:=failW a er,recovered:=false }]) w fun e u' w'=>
   e=.returned (.tuple #[])∧u'=.panicking [{ v:=failW a er,recovered:=true }]∧w'.cell? ⟨r0,0,none⟩=some (.int .i64 a)∧w'.cell? ⟨r1,0,none⟩=some (.int .i64 er)∧Below B w w':=by
 refine callsD_of_wpS Tryz.func73 rfl fun c₀ cs hu=>?_
 apply wpS_seq
 apply wpS_region
 simp [wpOpsS,go_sem,recoverD,hu,Tryz.ntmps73,Exit.thenS,failW]
 refine wpS_of_wp ?_
 go_hide hQ
 have HQ:=Lib.hid hQ
 have HU:=Lib.hid hu
 clear hQ hu
 simp only [List.size_toArray,List.length_cons,List.length_nil,Nat.reduceAdd,Nat.reduceSub,Array.replicate_succ,Array.replicate_zero,List.push_toArray,List.append_toArray,List.nil_append,List.cons_append,List.setIfInBounds_toArray,List.set_cons_zero,List.set_cons_succ]
 have hta:∀ W:World,(Instr.typeAssert (Value.iface 138 (.agg #[.int .i64 a,.int .i64 er])) 20 138 true).run Tryz.prog W=.ok (.tuple #[.agg #[.int .i64 a,.int .i64 er],.bool true]) W:=fun W=>by
  simp [Instr.typeAssert,go_sem,Tryz.underlying138]
 have l0:=h0.lt
 have l1:=h1.lt
 obtain⟨wa,hwa⟩:∃ wa,wa=w.alloc (.cells #[.int .i64 a,.int .i64 er] 138):=⟨_,rfl⟩
 have ka:Below w.heap.size w wa:=by rw [hwa];exact balloc (Below.refl _ _) _
 have ra:rowV wa w.heap.size 138 #[.int .i64 a,.int .i64 er]:=by rw [hwa];exact rowV.new w _ _
 have q0:=h0.below ka l0
 have q1:=h1.below ka l1
 obtain⟨v0,v1⟩:=two_cellsV ra
 have z0:=frozen_rowV' q0 0
 have z1:=frozen_rowV' q1 0
 have y0:=cell_rowV q0 (j:=0) rfl
 have y1:=cell_rowV q1 (j:=0) rfl
 have HH:=Lib.hid (And.intro q0 (And.intro q1 ka))
 have Hwa:=Lib.hid hwa
 clear h0 h1 q0 q1 ka ra hwa
 go_upto_region 7 with fail
 rw [←Hwa.out]
 go_region
 all_goals
  go_wp2_with fail
 all_goals
  obtain⟨q0,q1,ka⟩:=HH.out
  have hs0:w.heap.size≤wa.heap.size:=ka.size
  have p0:rowV ((wa.setCell ⟨r0,0,none⟩ (.int .i64 a)).setCell ⟨r1,0,none⟩ (.int .i64 er)) r0 3 #[.int .i64 a]:=(q0.set 0 _).setFar (p:=⟨r1,0,none⟩) h01 _
  have p1:rowV ((wa.setCell ⟨r0,0,none⟩ (.int .i64 a)).setCell ⟨r1,0,none⟩ (.int .i64 er)) r1 31 #[.int .i64 er]:=(q1.setFar (p:=⟨r0,0,none⟩) h01.symm _).set 0 _
  have e0:(((wa.setCell ⟨r0,0,none⟩ (.int .i64 a)).setCell ⟨r1,0,none⟩ (.int .i64 er)).drew).cell? ⟨r0,0,none⟩=some (.int .i64 a):=cell_rowV p0 (j:=0) rfl
  have e1:(((wa.setCell ⟨r0,0,none⟩ (.int .i64 a)).setCell ⟨r1,0,none⟩ (.int .i64 er)).drew).cell? ⟨r1,0,none⟩=some (.int .i64 er):=cell_rowV p1 (j:=0) rfl
  have bb:Below B w (((wa.setCell ⟨r0,0,none⟩ (.int .i64 a)).setCell ⟨r1,0,none⟩ (.int .i64 er)).drew):=bdrew ((ka.mono (by omega)).trans ((Below.setG hB0 _).trans (Below.setG hB1 _))) 1
  obtain⟨W,hW⟩:∃ W,W=((wa.setCell ⟨r0,0,none⟩ (.int .i64 a)).setCell ⟨r1,0,none⟩ (.int .i64 er)).drew:=⟨_,rfl⟩
  rw [←hW] at e0 e1 bb ⊢
  have hQ:=HQ.out
  have hu:=HU.out
  rw [←hQ]
  clear hW p0 p1 q0 q1 ka HQ HU HH z0 z1 y0 y1 v0 v1 hta hQ Hwa
  cases c₀
  simp_all [bodyPostS,results,Tryz.results73]
def ActR(B0:Nat)(w1:World)(bx:Nat)(RO:World→Prop)(o:Option (Int × Int))(e:Ending)(w':World):Prop:=(match o with
 | none=>e=.returned (.tuple #[])∧RO w'
 | some ax=>e=.panicked [{ v:=failW ax.1 ax.2,recovered:=false }])∧Below B0 w1 w'∧rowV w' bx 3 #[.int .i64 0]∧rowV w' (bx+1) 31 #[.int .i64 0]
def GuaR(B0:Nat)(w:World)(RO:World→Prop)(o:Option (Int × Int))(e:Ending)(w':World):Prop:=(match o with
 | none=>e=.returned (.tuple #[.int .i64 0,.int .i64 0])∧RO w'
 | some ax=>e=.returned (.tuple #[.int .i64 ax.1,.int .i64 ax.2]))∧Below B0 w w'
theorem guarded_any(B0 F x y:Nat)(o:Option (Int × Int))(RO:World→Prop)(w:World)(hB0:B0≤w.heap.size)(hEn:Enters Tryz.prog F)
  (hc:∀ w1,Below w.heap.size w w1→w1.heap.size=w.heap.size+1+1→rowV w1 w.heap.size 3 #[.int .i64 0]→rowV w1 (w.heap.size+1) 31 #[.int .i64 0]→Calls Tryz.prog F #[.pointer (some ⟨x,0,none⟩),.pointer (some ⟨y,0,none⟩)] w1 (ActR B0 w1 w.heap.size RO o)) :
  Calls Tryz.prog 37 #[.func (.func F) #[] #[.pointer (some ⟨x,0,none⟩),.pointer (some ⟨y,0,none⟩)]] w (GuaR B0 w RO o):=by
 obtain⟨w2,hw2,g2,r1,r2,s2⟩:=pboxes w
 have HC:=Lib.hid (hc w2 g2 s2 r1 r2)
 have Hw2:=Lib.hid hw2
 have HG:=Lib.hid g2
 have hmf:∀ (fn:Fn) (first cap:Array Value) (w:World),(Instr.makeFunc fn first cap).run Tryz.prog w=.ok (.func fn first cap) w:=fun _ _ _ _=>rfl
 have heg:=hEn
 unfold Enters at heg
 clear hc hw2 r1 r2 s2 g2
 go_enter_defers Tryz.func37,Tryz.ntmps37
 go_wp2_with fail
 rw [←Hw2.out]
 refine HC.out.mono ?_
 intro e w3 hr
 obtain⟨ho,hb3,u0,u1⟩:=hr
 have HB3:=Lib.hid ((HG.out.mono hB0).trans hb3)
 cases o with
 | none=>
  obtain⟨rfl,hRO⟩:=ho
  have y0:=cell_rowV u0 (j:=0) rfl
  have y1:=cell_rowV u1 (j:=0) rfl
  have z0:=frozen_rowV' u0 0
  have z1:=frozen_rowV' u1 0
  have hsame:(w3.setCell ⟨w.heap.size,0,none⟩ (.int .i64 0)).setCell ⟨w.heap.size+1,0,none⟩ (.int .i64 0)=w3:=by rw [setCell_same u0,setCell_same u1]
  have HSM:=Lib.hid hsame
  have HRO:=Lib.hid hRO
  clear hsame u0 u1 hRO hb3 HC
  go_wp2_with fail
  rw [HSM.out]
  refine leaves_cons (f:=73) (args:=#[.pointer (some ⟨w.heap.size,0,none⟩),.pointer (some ⟨w.heap.size+1,0,none⟩)]) (by simp) (by simp [go_sem]) ?_
  refine (guarded1_idle _ _ _).mono ?_
  rintro e u' w'' ⟨rfl,rfl,rfl⟩
  simp [Leaves,settle,results,Tryz.results37,go_sem,y0,y1]
  exact⟨⟨rfl,HRO.out⟩,HB3.out⟩
 | some ax=>
  obtain⟨a,er⟩:=ax
  simp only [] at ho
  subst ho
  have hl:B0≤w.heap.size+1:=by omega
  clear hb3 HC
  go_wp2_with fail
  refine leaves_cons (f:=73) (args:=#[.pointer (some ⟨w.heap.size,0,none⟩),.pointer (some ⟨w.heap.size+1,0,none⟩)]) (by simp) (by simp [go_sem]) ?_
  refine (guarded1_bad B0 w.heap.size (w.heap.size+1) _ _ a er w3 u0 u1 hB0 hl (by omega)).mono ?_
  rintro e u' w5 ⟨rfl,rfl,k0,k1,hb5⟩
  simp [Leaves,settle,results,Tryz.results37,go_sem,k0,k1]
  exact⟨rfl,HB3.out.trans hb5⟩
end Go.Proofs.YtpaplehcafeeaaaGreatDoor
namespace Go.Proofs.YtpaplehcafeeaaaGreatDoor
open Go.RowKit Go.Proofs
variable [Inhabited ArgB]
end Go.Proofs.YtpaplehcafeeaaaGreatDoor
