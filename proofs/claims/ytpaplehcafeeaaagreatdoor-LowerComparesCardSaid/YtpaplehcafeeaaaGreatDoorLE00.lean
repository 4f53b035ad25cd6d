/- Kit. -/
import Derived.WalkKit
import Derived.Deep.QuietTactic
import Derived.BigQuiet
import Derived.Outline
import Derived.Below
import Derived.Lib.Hide
import Derived.Laws.OwnMore
import Derived.Laws.BytesArg
import Derived.Deep.Draws
import Derived.Maps.AppendAt
import Derived.Deep.AppendLies
set_option maxRecDepth 100000
set_option maxHeartbeats 40000000
set_option linter.unusedVariables false
set_option linter.unusedSimpArgs false
namespace Go.Proofs.YtpaplehcafeeaaaGreatDoor
open Go.RowKit Go.Proofs
def gi(zs:List Int)(k:Nat):Int:=zs.getD k 0
def gb(bs:List UInt8)(k:Nat):Int:=((bs.getD k 0).toNat:Int)
theorem ret_bool{a b:Bool}(h:a=b):Ending.returned (.bool a)=.returned (.bool b):=by rw [h]
theorem ret_int{k:IntKind}{a b:Int}(h:a=b):Ending.returned (.int k a)=.returned (.int k b):=by rw [h]
def Drawn(w w':World):Prop:=∃ q,w'=w.drewN q
theorem Drawn.refl(w:World):Drawn w w:=⟨0,rfl⟩
theorem Drawn.drewN(w:World)(n:Nat):Drawn w (w.drewN n):=⟨n,rfl⟩
theorem Drawn.below{w w':World}(h:Drawn w w')(B:Nat):Below B w w':=by
 obtain⟨q,rfl⟩:=h
 exact⟨rfl,rfl,rfl,Nat.le_refl _,fun _ _=>rfl⟩
def Cells(w:World)(A:Option Addr)(n:Nat)(f:Nat→Value):Prop:=
 0 < n→∃ b off,A=some ⟨b,off,none⟩∧b < w.heap.size∧∀ i,i < n→w.cell? ⟨b,off+i,none⟩=some (f i)
def Ints(w:World)(A:Option Addr)(n c:Nat)(zs:List Int):Prop:=zs.length=n∧n≤c∧Cells w A n (fun i=>.int .i64 (gi zs i))
def Bytes(w:World)(A:Option Addr)(n c:Nat)(bs:List UInt8):Prop:=bs.length=n∧n≤c∧Cells w A n (fun i=>.int .u8 (gb bs i))
section
variable {w w' : World} {A : Option Addr} {n c k : Nat} {f : Nat → Value} {zs : List Int} {bs : List UInt8}
theorem Cells.get(h:Cells w A n f)(hk:k < n):∃ b off,A=some ⟨b,off,none⟩∧b < w.heap.size∧∀ i,i < n→w.cell? ⟨b,off+i,none⟩=some (f i):=h (by omega)
theorem Ints.get(h:Ints w A n c zs)(hk:k < n):∃ b off,A=some ⟨b,off,none⟩∧b < w.heap.size∧∀ i,i < n→w.cell? ⟨b,off+i,none⟩=some (.int .i64 (gi zs i)):=h.2.2 (by omega)
theorem Bytes.get(h:Bytes w A n c bs)(hk:k < n):∃ b off,A=some ⟨b,off,none⟩∧b < w.heap.size∧∀ i,i < n→w.cell? ⟨b,off+i,none⟩=some (.int .u8 (gb bs i)):=h.2.2 (by omega)
theorem Cells.keep(h:Cells w A n f)(hs:w.heap.size≤w'.heap.size)(hk:∀ p:Addr,p.block < w.heap.size→w'.cell? p=w.cell? p):Cells w' A n f:=fun hn=>by
 obtain⟨b,off,rfl,hb,hc⟩:=h hn
 exact⟨b,off,rfl,by omega,fun i hi=>(hk _ hb).trans (hc i hi)⟩
theorem Cells.below(h:Cells w A n f)(hb:Below w.heap.size w w'):Cells w' A n f:=h.keep hb.size fun _ hp=>hb.cell hp
theorem Ints.below(h:Ints w A n c zs)(hb:Below w.heap.size w w'):Ints w' A n c zs:=⟨h.1,h.2.1,h.2.2.below hb⟩
theorem Bytes.below(h:Bytes w A n c bs)(hb:Below w.heap.size w w'):Bytes w' A n c bs:=⟨h.1,h.2.1,h.2.2.below hb⟩
theorem Ints.drewN(h:Ints w A n c zs)(q:Nat):Ints (w.drewN q) A n c zs:=h
theorem Bytes.drewN(h:Bytes w A n c bs)(q:Nat):Bytes (w.drewN q) A n c bs:=h
end
theorem addr_add(b off k:Nat):(⟨b,off,none⟩:Addr).add k=⟨b,off+k,none⟩:=by unfold Addr.add;split <;> simp_all
section
variable {P : Program} {w : World} {A : Option Addr} {n c : Nat}
theorem Cells.cut{f:Nat→Value}(h:Cells w A n f)(l:Nat)(m:Nat)(hlm:l+m≤n)(A':Option Addr)(hA:0 < m→A'=A.map (·.add l)):Cells w A' m (fun i=>f (l+i)):=fun hm=>by
 obtain⟨b,off,rfl,hb,hc⟩:=h (by omega)
 refine⟨b,off+l,by rw [hA hm];simp [addr_add],hb,fun i hi=>?_⟩
 rw [Nat.add_assoc]
 exact hc _ (by omega)
theorem gb_take(bs:List UInt8)(m i:Nat)(hi:i < m):gb (bs.take m) i=gb bs i:=by simp [gb,List.getD,hi]
theorem gi_take(zs:List Int)(m i:Nat)(hi:i < m):gi (zs.take m) i=gi zs i:=by simp [gi,List.getD,hi]
theorem add_zero_map(A:Option Addr):A.map (·.add 0)=A:=by cases A <;> simp [Addr.add]
section
variable {t e : TypeId} (ht : P.underlying t = some (.slice (P.elem t))) (he : P.elem t = e) (hs : ∀ W : World, (sizeOf e).run P W = .ok 1 W)
include ht he hs
theorem run_cut_l(l:Int)(h0:0≤l)(hl:l≤n)(W:World) :
  (Instr.slice t (.slice A n c) (some (.int .i64 l)) none none).run P W=.ok (.slice (if c=l.toNat then A else A.map (·.add l.toNat)) (n-l.toNat) (c-l.toNat)) W:=by
 subst he
 rw [run_slice_l W t A n c ht .i64 l h0 hl,hs W]
 simp only [Result.andThen,sliced,Nat.mul_one]
theorem run_cut_h(h:Int)(h0:0≤h)(hc:h≤c)(W:World) :
  (Instr.slice t (.slice A n c) none (some (.int .i64 h)) none).run P W=.ok (.slice A h.toNat c) W:=by
 subst he
 rw [run_slice_h W t A n c ht .i64 h h0 hc,hs W]
 simp only [Result.andThen,sliced,Nat.zero_mul,add_zero_map,ite_self,Nat.sub_zero]
theorem Bytes.cut_h{bs:List UInt8}(hb:Bytes w A n c bs)(h:Int)(h0:0≤h)(hc:h≤n) :
  (∀ W:World,(Instr.slice t (.slice A n c) none (some (.int .i64 h)) none).run P W=.ok (.slice A h.toNat c) W)∧Bytes w A h.toNat c (bs.take h.toNat):=by
 have hn:=hb.2.1
 have hl:=hb.1
 refine⟨run_cut_h ht he hs h h0 (by omega),by simp;omega,by omega,fun hm=>?_⟩
 obtain⟨b,off,hA,hbk,hcell⟩:=hb.2.2 (by omega)
 exact⟨b,off,hA,hbk,fun i hi=>by rw [hcell i (by omega)];show some (Value.int .u8 _)=some (Value.int .u8 _);rw [gb_take _ _ _ hi]⟩
theorem Ints.cut_h{zs:List Int}(hb:Ints w A n c zs)(h:Int)(h0:0≤h)(hc:h≤n) :
  (∀ W:World,(Instr.slice t (.slice A n c) none (some (.int .i64 h)) none).run P W=.ok (.slice A h.toNat c) W)∧Ints w A h.toNat c (zs.take h.toNat):=by
 have hn:=hb.2.1
 have hl:=hb.1
 refine⟨run_cut_h ht he hs h h0 (by omega),by simp;omega,by omega,fun hm=>?_⟩
 obtain⟨b,off,hA,hbk,hcell⟩:=hb.2.2 (by omega)
 exact⟨b,off,hA,hbk,fun i hi=>by rw [hcell i (by omega)];show some (Value.int .i64 _)=some (Value.int .i64 _);rw [gi_take _ _ _ hi]⟩
end
def strB(bs:List UInt8):ByteArray:=⟨bs.toArray⟩
theorem toList_loop(a:ByteArray):∀ (k i:Nat) (r:List UInt8),a.size-i=k→ByteArray.toList.loop a i r=r.reverse++a.data.toList.drop i
 | 0,i,r,h=>by
  have hl:a.data.toList.length≤i:=by have:a.size=a.data.toList.length:=rfl;omega
  unfold ByteArray.toList.loop
  rw [if_neg (by omega),List.drop_of_length_le hl,List.append_nil]
 | k+1,i,r,h=>by
  have hl:i < a.data.toList.length:=by have:a.size=a.data.toList.length:=rfl;omega
  unfold ByteArray.toList.loop
  rw [if_pos (by omega),toList_loop a k (i+1) _ (by omega),List.drop_eq_getElem_cons hl,List.reverse_cons,List.append_assoc]
  have hi:i < a.data.size:=by simpa using hl
  simp [ByteArray.get!]
  rw [getElem!_pos a.data i hi]
theorem strB_toList(bs:List UInt8):(strB bs).toList=bs:=by
 unfold ByteArray.toList
 rw [toList_loop _ _ _ _ rfl]
 simp [strB]
theorem strB_inj{x y:List UInt8}(h:strB x=strB y):x=y:=by rw [←strB_toList x,h,strB_toList]
theorem strB_beq(x y:List UInt8):((strB x).toList==(strB y).toList)=decide (x=y):=by
 rw [strB_toList,strB_toList]
 by_cases h:x=y
 ·subst h;simp
 ·rw [decide_eq_false h];exact beq_eq_false_iff_ne.2 h
end
def Row{α:Type}(enc:α→Value)(w:World)(g:Nat)(t:TypeId)(xs:List α):Prop:=w.heap[g]?=some (.cells (xs.map enc).toArray t (0,0))
def rowObj{α:Type}(enc:α→Value)(t:TypeId)(xs:List α):Obj:=.cells (xs.map enc).toArray t (0,0)
section
variable {α : Type} {enc : α → Value} {w w' : World} {g : Nat} {t : TypeId} {xs : List α}
theorem Row.lt(h:Row enc w g t xs):g < w.heap.size:=by
 rcases Nat.lt_or_ge g w.heap.size with hlt | hge
 ·exact hlt
 ·unfold Row at h;rw [Array.getElem?_eq_none hge] at h;cases h
theorem Row.cell(h:Row enc w g t xs){j:Nat}(d:α)(hj:j < xs.length):w.cell? ⟨g,j,none⟩=some (enc (xs.getD j d)):=by
 unfold Row at h
 simp [World.cell?,h,List.getD,hj]
theorem Row.frozen(h:Row enc w g t xs)(j:Nat):w.frozen? ⟨g,j,none⟩=false:=by
 unfold Row at h
 simp [World.frozen?,h]
theorem Row.new(w:World)(t:TypeId)(xs:List α):Row enc (w.alloc (rowObj enc t xs)) w.heap.size t xs:=by
 unfold Row rowObj World.alloc
 simp
theorem Row.drewN(h:Row enc w g t xs)(n:Nat):Row enc (w.drewN n) g t xs:=h
theorem Row.drew(h:Row enc w g t xs):Row enc w.drew g t xs:=h
theorem Row.alloc(h:Row enc w g t xs)(o:Obj):Row enc (w.alloc o) g t xs:=(Below.heap_alloc w o g h.lt).trans h
theorem Row.set(h:Row enc w g t xs)(j:Nat)(u:α):Row enc (w.setCell ⟨g,j,none⟩ (enc u)) g t (xs.set j u):=by
 unfold Row at h ⊢
 simp [World.setCell,Array.getElem?_modify,h]
theorem Row.far(h:Row enc w g t xs){p:Addr}(hp:g≠p.block)(u:Value):Row enc (w.setCell p u) g t xs:=(Below.heap_setCell w p u g hp).trans h
theorem Row.below{B:Nat}(h:Row enc w g t xs)(hb:Below B w w')(hg:g < B):Row enc w' g t xs:=(hb.block g hg).trans h
theorem Row.cells(h:Row enc w g t xs)(d:α):Cells w (some ⟨g,0,none⟩) xs.length (fun i=>enc (xs.getD i d)):=fun _=>⟨g,0,rfl,h.lt,fun i hi=>by rw [Nat.zero_add];exact h.cell d hi⟩
theorem Row.ints{zs:List Int}(h:Row (Value.int .i64) w g t zs){n c:Nat}(hn:zs.length=n)(hc:n≤c):Ints w (some ⟨g,0,none⟩) n c zs:=⟨hn,hc,hn ▸ h.cells 0⟩
end
theorem madeCells_rep(z:Value)(n:Nat)(h1:z.cells=#[z]):madeCells z.cells (n * 1)=((List.replicate n z)).toArray:=by
 rw [h1,Nat.mul_one]
 apply Array.toList_inj.1
 rw [toList_madeCells_one]
theorem run_make_row{α:Type}{enc:α→Value}{P:Program}{t e:TypeId}{zero:α}{bytes:Nat}(ht:P.underlying t=some (.slice e))(hi:(P.info? e).map (fun i=>(i.zero,i.size,i.bytes))=some (some (enc zero),1,bytes))
  (h1:(enc zero).cells=#[enc zero]) (l:Int) (h0:0≤l) (hb:(bytes:Int) * l≤281474976710656) (hm:l≤9223372036854775807) (W:World) :
  (Instr.makeSlice t (.int .i64 l) (.int .i64 l)).run P W=.ok (.slice (some ⟨W.heap.size,0,none⟩) l.toNat l.toNat) (W.alloc (rowObj enc e (List.replicate l.toNat zero))):=by
 obtain⟨i,hi0,hz,hs,hby⟩:=info_parts hi
 rw [run_make W t e i (enc zero) ht hi0 hz .i64 .i64 l l h0 (Int.le_refl _) (by rw [hby];exact hb) hm,hs,madeCells_rep _ _ h1]
 simp [rowObj]
def Own{α:Type}(enc:α→Value)(w:World)(B:Nat)(e:TypeId)(A:Option Addr)(n c:Nat)(xs:List α):Prop:=w.ownsRow B e 1 (.slice A n c) n (xs.map enc)
section
variable {α : Type} {enc : α → Value} {w w' : World} {B : Nat} {e : TypeId} {A : Option Addr} {n c : Nat} {xs : List α}
theorem Own.nil(enc:α→Value)(w:World)(B:Nat)(e:TypeId):Own enc w B e none 0 0 []:=World.ownsRow_nil w B e 1
theorem Own.length(h:Own enc w B e A n c xs):xs.length=n:=by have:=h.1;simpa using this
theorem Own.cap(h:Own enc w B e A n c xs):n≤c:=by
 rcases h.2 with ⟨h1,h2⟩ | ⟨g,cap,cur,h1,_,_,h2,_⟩
 ·omega
 ·injection h1;omega
theorem Own.cells(h:Own enc w B e A n c xs)(d:α):Cells w A n (fun i=>enc (xs.getD i d)):=fun hn=>by
 obtain⟨g,cap,hv,_,hlt⟩:=World.ownsRow.form h hn
 injection hv with hv
 subst hv
 refine⟨g,0,rfl,hlt,fun i hi=>?_⟩
 have hl:=h.length
 have:=World.ownsRow.cells h (g:=g) rfl i (enc (xs.getD i d)) (by simp [List.getD,hl,hi])
 rwa [addr_add] at this
theorem Own.ints{zs:List Int}(h:Own (Value.int .i64) w B e A n c zs):Ints w A n c zs:=⟨h.length,h.cap,h.cells 0⟩
theorem Own.bytes{bs:List UInt8}(h:Own (fun b:UInt8=>Value.int .u8 b.toNat) w B e A n c bs):Bytes w A n c bs:=⟨h.length,h.cap,h.cells 0⟩
theorem Own.below(h:Own enc w B e A n c xs)(hb:Below w.heap.size w w'):Own enc w' B e A n c xs:=by
 refine⟨h.1,?_⟩
 rcases h.2 with h1 | ⟨g,cap,cur,h1,h2,h3,h4⟩
 ·exact .inl h1
 ·refine .inr ⟨g,cap,cur,h1,h2,?_,h4⟩
  rw [hb.block g]
  ·exact h3
  ·rcases Nat.lt_or_ge g w.heap.size with hlt | hge
   ·exact hlt
   ·rw [Array.getElem?_eq_none hge] at h3;cases h3
theorem Own.mono{B':Nat}(h:Own enc w B e A n c xs)(hB:B'≤B):Own enc w B' e A n c xs:=by
 refine⟨h.1,?_⟩
 rcases h.2 with h1 | ⟨g,cap,cur,h1,h2,h3⟩
 ·exact .inl h1
 ·exact .inr ⟨g,cap,cur,h1,by omega,h3⟩
theorem run_append_own_any{P:Program}{t e:TypeId}(ty:TypeId){zero:α}{bytes:Nat}(ht:P.underlying t=some (.slice e))(hi:(P.info? e).map (fun i=>(i.zero,i.size,i.bytes))=some (some (enc zero),1,bytes))
  (h1:∀ x,(enc x).oneCell'=true) (hz:(enc zero).cells.size=1)
  (hown:Own enc w B e A n c xs) (hB:B≤w.heap.size) (A':Option Addr) (m c':Nat) (ys:List α) (d:α) (hm:ys.length=m) (hsrc:Cells w A' m (fun i=>enc (ys.getD i d)))
  (hl:n+m≤maxLen) (hby:(n+m) * bytes≤140737488355328) :
  ∃ A2 c2 w',(Builtin.append_ #[t,t] ty #[.slice A n c,.slice A' m c']).run P w=.ok (.slice A2 (n+m) c2) w'∧Own enc w' B e A2 (n+m) c2 (xs++ys)∧Below B w w'∧w.grownBy w' (Value.slice A n c).ownBlock:=by
 obtain⟨i,hi0,hz0,hs,hb⟩:=info_parts hi
 have key:∃ v' w',(Builtin.append_ #[t,t] ty #[.slice A n c,.slice A' m c']).run P w=.ok v' w'∧w'.ownsRow B e 1 v' (n+m) (xs.map enc++ys.map enc)∧w.grownBy w' (Value.slice A n c).ownBlock:=by
  cases A' with
  | none=>
   have hm0:m=0:=by
    rcases Nat.eq_zero_or_pos m with h | h
    ·exact h
    ·obtain⟨b,off,h',_⟩:=hsrc h;cases h'
   subst hm0
   have hys:ys=[]:=List.eq_nil_of_length_eq_zero hm
   subst hys
   refine⟨.slice A n c,w,?_,by rw [List.map_nil,List.append_nil];exact hown,World.grownBy.refl w _⟩
   rcases hown.2 with ⟨hv,hn⟩ | ⟨g,cap,cur,hv,_,_,hnc,_⟩
   ·injection hv with a b c;subst a b c
    simp [Builtin.append_,run_underlying ht,sizeOf,typeInfo,hi0,Builtin.lenOf,Builtin.firstCells]
   ·injection hv with a b c;subst a;subst c
    simp [Builtin.append_,run_underlying ht,sizeOf,typeInfo,hi0,Builtin.lenOf,Builtin.firstCells,hnc,storeCells]
  | some ad=>
   obtain⟨v',w',hrun,h2,h3,_⟩:=run_append_own_at (P:=P) w B t ty e i (enc zero) 1 bytes ht hi0 hz0 hs hb hz (by omega) _ n _ hown ad m c' (ys.map enc) (by simp [hm]) (fun j u hu=>by
    rw [List.getElem?_map] at hu
    obtain⟨y,hy,rfl⟩:=Option.map_eq_some_iff.1 hu
    have hj:j < ys.length:=(List.getElem?_eq_some_iff.1 hy).1
    obtain⟨b,off,h',_,hc⟩:=hsrc (by omega)
    injection h' with h'
    subst h'
    rw [addr_add,hc j (by omega)]
    simp [List.getD,hy]) (fun u hu=>by obtain⟨y,_,rfl⟩:=List.mem_map.1 hu;exact h1 y) hl hby hB
   exact⟨v',w',hrun,h2,h3⟩
 obtain⟨v',w',hrun,h2,h3⟩:=key
 have hform:∃ A2 c2,v'=.slice A2 (n+m) c2:=by
  rcases h2.2 with ⟨rfl,h0⟩ | ⟨g,cap,cur,rfl,_⟩
  ·exact⟨none,0,by rw [h0]⟩
  ·exact⟨_,_,rfl⟩
 obtain⟨A2,c2,rfl⟩:=hform
 refine⟨A2,c2,w',hrun,by unfold Own;rw [List.map_append];exact h2,(Below.refl B w).grown h3 hB (fun k hk=>(World.ownsRow.lt hown k hk).1),h3⟩
theorem run_append_own_one{P:Program}{t e:TypeId}(ty:TypeId){zero:α}{bytes:Nat}(ht:P.underlying t=some (.slice e))(hi:(P.info? e).map (fun i=>(i.zero,i.size,i.bytes))=some (some (enc zero),1,bytes))
  (h1:∀ x,(enc x).oneCell'=true) (hz:(enc zero).cells.size=1)
  (hown:Own enc w B e A n c xs) (hB:B≤w.heap.size) (y:α) (hl:n+1≤maxLen) (hby:(n+1) * bytes≤140737488355328) :
  ∃ A2 c2 w',(Builtin.append_ #[t,t] ty #[.slice A n c,.slice (some ⟨w.heap.size,0,none⟩) 1 1]).run P (w.alloc (.cells #[enc y] e))=.ok (.slice A2 (n+1) c2) w'∧Own enc w' B e A2 (n+1) c2 (xs++[y])∧Below B w w'∧(w.alloc (.cells #[enc y] e)).grownBy w' (Value.slice A n c).ownBlock:=by
 have hsz:(w.alloc (.cells #[enc y] e)).heap.size=w.heap.size+1:=by simp
 have hb0:Below w.heap.size w (w.alloc (.cells #[enc y] e)):=(Below.refl _ _).alloc (Nat.le_refl _) _
 obtain⟨A2,c2,w',h2,h3,h4,h5⟩:=run_append_own_any (P:=P) (w:=w.alloc (.cells #[enc y] e)) ty ht hi h1 hz (hown.below hb0) (by omega) (some ⟨w.heap.size,0,none⟩) 1 1 [y] y rfl (fun _=>⟨w.heap.size,0,rfl,by omega,fun i hi=>by
  obtain rfl:i=0:=by omega
  simp⟩) hl hby
 exact⟨A2,c2,w',h2,h3,(hb0.mono hB).trans h4,h5⟩
end
def RetInts(w:World)(zs:List Int)(x:Int)(e:Ending)(w':World):Prop:=∃ A n c,e=.returned (.tuple #[.slice A n c,.int .i64 x])∧Ints w' A n c zs∧Below w.heap.size w w'
theorem Ints.nil(w:World)(c:Nat):Ints w none 0 c []:=⟨rfl,Nat.zero_le _,fun h=>absurd h (by omega)⟩
theorem RetInts.mk{w w':World}{zs:List Int}{x x':Int}{A:Option Addr}{n c:Nat}(hx:x=x')(h:Ints w' A n c zs)(hb:Below w.heap.size w w'):RetInts w zs x' (.returned (.tuple #[.slice A n c,.int .i64 x])) w':=by
 subst hx
 exact⟨A,n,c,rfl,h,hb⟩
theorem bdrew{B:Nat}{w w1:World}(h:Below B w w1)(q:Nat):Below B w (w1.drewN q):=h.trans ((Drawn.drewN _ _).below _)
section
variable {α : Type} {enc : α → Value} {P : Program} {w : World} {B : Nat} {e t : TypeId} {A : Option Addr} {n c : Nat} {xs : List α} {zero : α} {bytes : Nat}
 {ops:Array Oper} {rest:List Oper} {o:Oper} {a:Act} {K:Act→World→Prop} {Q:Exit→Act→World→Prop} {E:Prop}
theorem wp_app(s x:Operand)(ho:o.op=.call { callee:=.builtin .append,args:=#[s,x],argTypes:=#[t,t] })
  (ht:P.underlying t=some (.slice e)) (hi:(P.info? e).map (fun i=>(i.zero,i.size,i.bytes))=some (some (enc zero),1,bytes)) (h1:∀ x,(enc x).oneCell'=true) (hz:(enc zero).cells.size=1)
  (hs:a.eval s=.slice A n c) (hown:Own enc w B e A n c xs) (hB:B≤w.heap.size) (A':Option Addr) (m c':Nat) (ys:List α) (d:α) (hm:ys.length=m) (hsrc:Cells w A' m (fun i=>enc (ys.getD i d)))
  (hx:a.eval x=.slice A' m c') (hl:n+m≤maxLen) (hby:(n+m) * bytes≤140737488355328)
  (h:∀ A2 c2 w',Own enc w' B e A2 (n+m) c2 (xs++ys)→Below B w w'→w.grownBy w' (Value.slice A n c).ownBlock→K (a.put o.dst (.slice A2 (n+m) c2)) w'):o.wp P a w K Q:=by
 obtain⟨A2,c2,w',hrun,h2,h3,h4⟩:=run_append_own_any (P:=P) o.type ht hi h1 hz hown hB A' m c' ys d hm hsrc hl hby
 unfold Oper.wp execOp
 simp only [ho,resolve,invoke,builtin,Sem.run_bind,Sem.run_pure,Result.andThen_ok,List.map_toArray,List.map_cons,List.map_nil,hs,hx,hrun]
 exact h A2 c2 w' h2 h3 h4
theorem wpList_app(hgd:o.guard=none)(s x:Operand)(ho:o.op=.call { callee:=.builtin .append,args:=#[s,x],argTypes:=#[t,t] })
  (ht:P.underlying t=some (.slice e)) (hi:(P.info? e).map (fun i=>(i.zero,i.size,i.bytes))=some (some (enc zero),1,bytes)) (h1:∀ x,(enc x).oneCell'=true) (hz:(enc zero).cells.size=1)
  (hs:a.eval s=.slice A n c) (hown:Own enc w B e A n c xs) (hB:B≤w.heap.size) (A':Option Addr) (m c':Nat) (ys:List α) (d:α) (hm:ys.length=m) (hsrc:Cells w A' m (fun i=>enc (ys.getD i d)))
  (hx:a.eval x=.slice A' m c') (hl:n+m≤maxLen) (hby:(n+m) * bytes≤140737488355328)
  (h:∀ A2 c2 w',Own enc w' B e A2 (n+m) c2 (xs++ys)→Below B w w'→w.grownBy w' (Value.slice A n c).ownBlock→wpList P ops Q rest (a.put o.dst (.slice A2 (n+m) c2)) w'):wpList P ops Q (o :: rest) a w:=
 wpList_plain hgd fun _ hK=>wp_app s x ho ht hi h1 hz hs hown hB A' m c' ys d hm hsrc hx hl hby fun A2 c2 w' h2 h3 h4=>hK _ _ (h A2 c2 w' h2 h3 h4)
theorem wp_push(s x:Operand)(ho:o.op=.call { callee:=.builtin .append,args:=#[s,x],argTypes:=#[t,t] })
  (ht:P.underlying t=some (.slice e)) (hi:(P.info? e).map (fun i=>(i.zero,i.size,i.bytes))=some (some (enc zero),1,bytes)) (h1:∀ x,(enc x).oneCell'=true) (hz:(enc zero).cells.size=1)
  (hs:a.eval s=.slice A n c) (hown:Own enc w B e A n c xs) (hB:B≤w.heap.size) (y:α)
  (hx:a.eval x=.slice (some ⟨w.heap.size,0,none⟩) 1 1) (hl:n+1≤maxLen) (hby:(n+1) * bytes≤140737488355328)
  (h:∀ A2 c2 w',Own enc w' B e A2 (n+1) c2 (xs++[y])→Below B w w'→K (a.put o.dst (.slice A2 (n+1) c2)) w'):o.wp P a (w.alloc (.cells #[enc y] e)) K Q:=by
 obtain⟨A2,c2,w',hrun,h2,h3,h4⟩:=run_append_own_one (P:=P) o.type ht hi h1 hz hown hB y hl hby
 unfold Oper.wp execOp
 simp only [ho,resolve,invoke,builtin,Sem.run_bind,Sem.run_pure,Result.andThen_ok,List.map_toArray,List.map_cons,List.map_nil,hs,hx,hrun]
 exact h A2 c2 w' h2 h3
theorem wpList_push(hgd:o.guard=none)(s x:Operand)(ho:o.op=.call { callee:=.builtin .append,args:=#[s,x],argTypes:=#[t,t] })
  (ht:P.underlying t=some (.slice e)) (hi:(P.info? e).map (fun i=>(i.zero,i.size,i.bytes))=some (some (enc zero),1,bytes)) (h1:∀ x,(enc x).oneCell'=true) (hz:(enc zero).cells.size=1)
  (hs:a.eval s=.slice A n c) (hown:Own enc w B e A n c xs) (hB:B≤w.heap.size) (y:α)
  (hx:a.eval x=.slice (some ⟨w.heap.size,0,none⟩) 1 1) (hl:n+1≤maxLen) (hby:(n+1) * bytes≤140737488355328)
  (h:∀ A2 c2 w',Own enc w' B e A2 (n+1) c2 (xs++[y])→Below B w w'→wpList P ops Q rest (a.put o.dst (.slice A2 (n+1) c2)) w'):wpList P ops Q (o :: rest) a (w.alloc (.cells #[enc y] e)):=
 wpList_plain hgd fun _ hK=>wp_push s x ho ht hi h1 hz hs hown hB y hx hl hby fun A2 c2 w' h2 h3=>hK _ _ (h A2 c2 w' h2 h3)
end
theorem Drawn.step{w w':World}(h:Drawn w w')(q:Nat):Drawn w (w'.drewN q):=by obtain⟨r,rfl⟩:=h;exact⟨r+q,World.drewN_drewN ..⟩
theorem Drawn.trans{w w' w'':World}(h:Drawn w w')(h':Drawn w' w''):Drawn w w'':=by obtain⟨r,rfl⟩:=h';exact h.step r
theorem Ints.cell{w:World}{b off n c k:Nat}{zs:List Int}(h:Ints w (some ⟨b,off,none⟩) n c zs)(hk:k < n):w.cell? ⟨b,off+k,none⟩=some (.int .i64 (gi zs k)):=by
 obtain⟨b',off',e,_,hc⟩:=h.get hk
 injection e with e
 injection e with e1 e2
 subst e1 e2
 exact hc k hk
theorem Bytes.cell{w:World}{b off n c k:Nat}{bs:List UInt8}(h:Bytes w (some ⟨b,off,none⟩) n c bs)(hk:k < n):w.cell? ⟨b,off+k,none⟩=some (.int .u8 (gb bs k)):=by
 obtain⟨b',off',e,_,hc⟩:=h.get hk
 injection e with e
 injection e with e1 e2
 subst e1 e2
 exact hc k hk
theorem Row.ne{α β:Type}{enc:α→Value}{enc':β→Value}{w:World}{g g':Nat}{t t':TypeId}{xs:List α}{ys:List β}(h:Row enc w g t xs)(h':Row enc' w g' t' ys)(ht:t≠t'):g≠g':=by
 rintro rfl
 unfold Row at h h'
 rw [h] at h'
 injection h' with h'
 injection h' with _ e
 exact ht e
theorem Row.grown{α:Type}{enc:α→Value}{w w':World}{g:Nat}{t:TypeId}{xs:List α}{row:Option Nat}(h:Row enc w g t xs)(hg:w.grownBy w' row)(hne:some g≠row):Row enc w' g t xs:=(hg.block g h.lt hne).trans h
theorem Row.one{w:World}{g:Nat}{t:TypeId}{v:Value}(h:Row id w g t [v]):w.cell? ⟨g,0,none⟩=some v:=h.cell v (j:=0) (by simp)
theorem grownBy.trans'{w w1 w2:World}{row:Option Nat}(h:w.grownBy w1 row)(h':w1.grownBy w2 row):w.grownBy w2 row:=
 ⟨h'.os.trans h.os,h'.tape.trans h.tape,h'.output.trans h.output,Nat.le_trans h.size h'.size,fun k hk hne=>(h'.block k (Nat.lt_of_lt_of_le hk h.size) hne).trans (h.block k hk hne)⟩
theorem grownBy.setCell'{w w1:World}{g j:Nat}(h:w.grownBy w1 (some g))(v:Value):w.grownBy (w1.setCell ⟨g,j,none⟩ v) (some g):=
 ⟨h.os,h.tape,h.output,by simpa [World.setCell] using h.size,fun k hk hne=>(Below.heap_setCell w1 ⟨g,j,none⟩ v k (fun e=>hne (by rw [e]))).trans (h.block k hk hne)⟩
theorem grownBy.drewN'{w w1:World}{row:Option Nat}(h:w.grownBy w1 row)(q:Nat):w.grownBy (w1.drewN q) row:=⟨h.os,h.tape,h.output,h.size,h.block⟩
theorem grownBy.alloc'{w w1:World}{row:Option Nat}(h:w.grownBy w1 row)(o:Obj):w.grownBy (w1.alloc o) row:=grownBy.trans' h (World.grownBy_alloc w1 o row)
end Go.Proofs.YtpaplehcafeeaaaGreatDoor
