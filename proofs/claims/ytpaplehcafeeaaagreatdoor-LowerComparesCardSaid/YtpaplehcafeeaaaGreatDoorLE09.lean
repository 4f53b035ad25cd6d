/- Ks. -/
import Derived.Test.YtpaplehcafeeaaaGreatDoorLE00
import Derived.Test.YtpaplehcafeeaaaGreatDoorLE01
set_option maxRecDepth 100000
set_option maxHeartbeats 40000000
set_option linter.unusedVariables false
set_option linter.unusedSimpArgs false
namespace Go.Proofs.YtpaplehcafeeaaaGreatDoor
open Go.RowKit Go.Proofs
def OwnS{α:Type}(enc:α→List Value)(sz:Nat)(w:World)(B:Nat)(e:TypeId)(A:Option Addr)(n c:Nat)(xs:List α):Prop:=w.ownsRow B e sz (.slice A n c) n (xs.flatMap enc)
section
variable {α : Type} {enc : α → List Value} {sz : Nat} {w w' : World} {B : Nat} {e : TypeId} {A : Option Addr} {n c : Nat} {xs : List α}
theorem OwnS.nil(enc:α→List Value)(sz:Nat)(w:World)(B:Nat)(e:TypeId):OwnS enc sz w B e none 0 0 []:=World.ownsRow_nil w B e sz
theorem flat_length(hl:∀ x,(enc x).length=sz):∀ xs:List α,(xs.flatMap enc).length=xs.length * sz
 | []=>by simp
 | x :: xs=>by rw [List.flatMap_cons,List.length_append,hl,flat_length hl xs,List.length_cons,Nat.add_mul];omega
theorem OwnS.length(h:OwnS enc sz w B e A n c xs)(hl:∀ x,(enc x).length=sz)(hs:0 < sz):xs.length=n:=by
 have:=h.1
 rw [flat_length hl] at this
 exact Nat.eq_of_mul_eq_mul_right hs this
theorem OwnS.cap(h:OwnS enc sz w B e A n c xs):n≤c:=by
 rcases h.2 with ⟨h1,h2⟩ | ⟨g,cap,cur,h1,_,_,h2,_⟩
 ·omega
 ·injection h1;omega
theorem OwnS.below(h:OwnS enc sz w B e A n c xs)(hb:Below w.heap.size w w'):OwnS enc sz w' B e A n c xs:=by
 refine⟨h.1,?_⟩
 rcases h.2 with h1 | ⟨g,cap,cur,h1,h2,h3,h4⟩
 ·exact .inl h1
 ·refine .inr ⟨g,cap,cur,h1,h2,?_,h4⟩
  rw [hb.block g]
  ·exact h3
  ·exact (Array.getElem?_eq_some_iff.1 h3).1
theorem OwnS.mono{B':Nat}(h:OwnS enc sz w B e A n c xs)(hB:B'≤B):OwnS enc sz w B' e A n c xs:=by
 refine⟨h.1,?_⟩
 rcases h.2 with h1 | ⟨g,cap,cur,h1,h2,h3⟩
 ·exact .inl h1
 ·exact .inr ⟨g,cap,cur,h1,by omega,h3⟩
theorem flat_get(hl:∀ x,(enc x).length=sz)(d:α):∀ (xs:List α) (i j:Nat),i < xs.length→j < sz→(xs.flatMap enc)[i * sz+j]?=(enc (xs.getD i d))[j]?
 | [],i,j,hi,_=>by simp at hi
 | x :: xs,0,j,_,hj=>by
  rw [List.flatMap_cons,Nat.zero_mul,Nat.zero_add,List.getElem?_append_left (by rw [hl];exact hj)]
  rfl
 | x :: xs,i+1,j,hi,hj=>by
  rw [List.flatMap_cons,List.getElem?_append_right (by rw [hl,Nat.add_mul];omega),hl,show (i+1) * sz+j-sz=i * sz+j by rw [Nat.add_mul];omega]
  exact flat_get hl d xs i j (by simpa using hi) hj
theorem OwnS.get(h:OwnS enc sz w B e A n c xs)(hl:∀ x,(enc x).length=sz)(hs:0 < sz)(d:α)(hn:0 < n) :
  ∃ g,A=some ⟨g,0,none⟩∧B≤g∧g < w.heap.size∧∀ i j u,i < n→(enc (xs.getD i d))[j]?=some u→w.cell? ⟨g,i * sz+j,none⟩=some u:=by
 obtain⟨g,cap,hv,hBg,hlt⟩:=World.ownsRow.form h hn
 injection hv with hv
 subst hv
 refine⟨g,rfl,hBg,hlt,fun i j u hi hu=>?_⟩
 have hj:j < sz:=by
  have:=(List.getElem?_eq_some_iff.1 hu).1
  rwa [hl] at this
 have:=World.ownsRow.cells h (g:=g) rfl (i * sz+j) u (by rw [flat_get hl d xs i j (by rw [h.length hl hs];exact hi) hj];exact hu)
 rwa [addr_add,Nat.zero_add] at this
theorem OwnS.keep{X Y:World}(h:OwnS enc sz X B e A n c xs)(hb:∀ g o,B≤g→X.heap[g]?=some o→o.isCells=true→Y.heap[g]?=some o):OwnS enc sz Y B e A n c xs:=by
 refine⟨h.1,?_⟩
 rcases h.2 with h1 | ⟨g,cap,cur,h1,h2,h3,h4⟩
 ·exact .inl h1
 ·exact .inr ⟨g,cap,cur,h1,h2,hb g _ h2 h3 rfl,h4⟩
theorem run_append_ownS{P:Program}{t:TypeId}(ty:TypeId){z:Value}{bytes:Nat}(ht:P.underlying t=some (.slice e))(hi:(P.info? e).map (fun i=>(i.zero,i.size,i.bytes))=some (some z,sz,bytes))
  (h1:∀ x,∀ u∈enc x,u.oneCell'=true) (hz:z.cells.size=sz) (hl:∀ x,(enc x).length=sz) (hs:0 < sz)
  (hown:OwnS enc sz w B e A n c xs) (hB:B≤w.heap.size) (y:α) (hml:n+1≤maxLen) (hby:(n+1) * bytes≤140737488355328) :
  ∃ A2 c2 w',(Builtin.append_ #[t,t] ty #[.slice A n c,.slice (some ⟨w.heap.size,0,none⟩) 1 1]).run P (w.alloc (.cells (enc y).toArray e))=.ok (.slice A2 (n+1) c2) w'∧OwnS enc sz w' B e A2 (n+1) c2 (xs++[y])∧Below B w w'∧w.grownBy w' (Value.slice A n c).ownBlock:=by
 obtain⟨i,hi0,hz0,hs1,hb⟩:=info_parts hi
 have hb0:Below w.heap.size w (w.alloc (.cells (enc y).toArray e)):=(Below.refl _ _).alloc (Nat.le_refl _) _
 obtain⟨v',w',hrun,h2,h3,h4,_⟩:=run_append_own_at (P:=P) (w.alloc (.cells (enc y).toArray e)) B t ty e i z sz bytes ht hi0 hz0 hs1 hb hz hs _ n _ (hown.below hb0) ⟨w.heap.size,0,none⟩ 1 1 (enc y) (by rw [hl,Nat.one_mul]) (fun j u hu=>by
  rw [addr_add,Nat.zero_add,World.cell?_alloc_mark]
  simpa using hu) (h1 y) hml hby (by simp;omega)
 have hform:∃ A2 c2,v'=.slice A2 (n+1) c2:=by
  rcases h2.2 with ⟨rfl,h0⟩ | ⟨g,cap,cur,rfl,_⟩
  ·exact⟨none,0,by rw [h0]⟩
  ·exact⟨_,_,rfl⟩
 obtain⟨A2,c2,rfl⟩:=hform
 have hg:=grownBy.trans' (World.grownBy_alloc w (.cells (enc y).toArray e) (Value.slice A n c).ownBlock) h3
 refine⟨A2,c2,w',hrun,?_,(Below.refl B w).grown hg hB (fun k hk=>(World.ownsRow.lt hown k hk).1),hg⟩
 unfold OwnS
 rw [List.flatMap_append,List.flatMap_cons,List.flatMap_nil,List.append_nil]
 exact h2
end
section
variable {α : Type} {enc : α → List Value} {sz : Nat} {P : Program} {w : World} {B : Nat} {e t : TypeId} {A : Option Addr} {n c : Nat} {xs : List α} {z : Value} {bytes : Nat}
 {ops:Array Oper} {rest:List Oper} {o:Oper} {a:Act} {Q:Exit→Act→World→Prop}
theorem wpList_pushS(hgd:o.guard=none)(s x:Operand)(ho:o.op=.call { callee:=.builtin .append,args:=#[s,x],argTypes:=#[t,t] })
  (ht:P.underlying t=some (.slice e)) (hi:(P.info? e).map (fun i=>(i.zero,i.size,i.bytes))=some (some z,sz,bytes))
  (h1:∀ x,∀ u∈enc x,u.oneCell'=true) (hz:z.cells.size=sz) (hl:∀ x,(enc x).length=sz) (hsz:0 < sz)
  (hs:a.eval s=.slice A n c) (hown:OwnS enc sz w B e A n c xs) (hB:B≤w.heap.size) (y:α) (cs:Array Value) (hcs:(enc y).toArray=cs)
  (hx:a.eval x=.slice (some ⟨w.heap.size,0,none⟩) 1 1) (hml:n+1≤maxLen) (hby:(n+1) * bytes≤140737488355328)
  (h:∀ A2 c2 w',OwnS enc sz w' B e A2 (n+1) c2 (xs++[y])→Below B w w'→w.grownBy w' (Value.slice A n c).ownBlock→wpList P ops Q rest (a.put o.dst (.slice A2 (n+1) c2)) w'):wpList P ops Q (o :: rest) a (w.alloc (.cells cs e)):=by
 subst hcs
 refine wpList_plain hgd fun K hK=>?_
 obtain⟨A2,c2,w',hrun,h2,h3,h4⟩:=run_append_ownS (P:=P) o.type ht hi h1 hz hl hsz hown hB y hml hby
 unfold Oper.wp execOp
 simp only [ho,resolve,invoke,builtin,Sem.run_bind,Sem.run_pure,Result.andThen_ok,List.map_toArray,List.map_cons,List.map_nil,hs,hx,hrun]
 exact hK _ _ (h A2 c2 w' h2 h3 h4)
end
end Go.Proofs.YtpaplehcafeeaaaGreatDoor
