/- Mz. -/
import Derived.Test.YtpaplehcafeeaaaGreatDoorLE00
import Derived.Test.YtpaplehcafeeaaaGreatDoorLE01
import Derived.Maps.OwnIn
import Derived.Maps.OwnSet
import Derived.Maps.OwnOps
set_option maxRecDepth 100000
set_option maxHeartbeats 40000000
set_option linter.unusedVariables false
set_option linter.unusedSimpArgs false
namespace Go.Proofs.YtpaplehcafeeaaaGreatDoor
open Go.RowKit Go.Proofs
def heldR(v:Value):Option (DataW Value × List MemPlace):=some (.held v,[])
def MapZ(P:Program)(k:TypeId)(q:IntKind)(w:World)(b n:Nat)(f:Int→Option Value):Prop:=
 ∃ D:DataW Value,w.ownsMap P k heldR b n D∧∀ s,Maps.has D (.int q s)=(f s).isSome∧∀ z,D.atKey (.int q s) (.held z)=.held ((f s).getD z)
def zput(f:Int→Option Value)(s:Int)(v:Value):Int→Option Value:=fun t=>if t=s then some v else f t
section
variable {P : Program} {k e : TypeId} {q : IntKind} {w w' : World} {b n : Nat} {f : Int → Option Value}
theorem MapZ.lt(h:MapZ P k q w b n f):b < w.heap.size:=by obtain⟨D,h,_⟩:=h;exact h.lt
theorem MapZ.same(h:MapZ P k q w b n f)(hb:w'.heap[b]?=w.heap[b]?):MapZ P k q w' b n f:=by
 obtain⟨D,⟨es,clock,h1,h2⟩,h3⟩:=h
 exact⟨D,⟨es,clock,hb.trans h1,h2⟩,h3⟩
theorem MapZ.isMap(h:MapZ P k q w b n f):∃ o,w.heap[b]?=some o∧o.isCells=false:=by
 obtain⟨D,⟨es,clock,h1,h2⟩,h3⟩:=h
 exact⟨_,h1,rfl⟩
theorem MapZ.mono(h:MapZ P k q w b n f){m:Nat}(hm:n≤m):MapZ P k q w b m f:=by
 obtain⟨D,⟨es,clock,h1,h2,h4,h5⟩,h3⟩:=h
 exact⟨D,⟨es,clock,h1,h2,by omega,h5⟩,h3⟩
theorem MapZ.made(w:World):MapZ P k q (w.alloc (.map #[] 0)) w.heap.size 0 (fun _=>none):=
 ⟨.map [],World.ownsMap_made _ _ _ _,fun s=>⟨rfl,fun z=>rfl⟩⟩
theorem isMapZ_of{D:DataW Value}(h:w.ownsMap P k heldR b n D):Maps.IsMap D:=by
 obtain⟨es,clock,_,_,_,rfl⟩:=h
 exact⟨_,rfl⟩
theorem MapZ.put{D:DataW Value}(hm:Maps.IsMap D)(h:∀ s,Maps.has D (.int q s)=(f s).isSome∧∀ z,D.atKey (.int q s) (.held z)=.held ((f s).getD z))(s:Int)(v:Value) :
  ∀ t,Maps.has (D.put (.int q s) (.held v)) (.int q t)=(zput f s v t).isSome∧∀ z,(D.put (.int q s) (.held v)).atKey (.int q t) (.held z)=.held ((zput f s v t).getD z):=fun t=>by
 unfold zput
 by_cases ht:t=s
 ·subst ht
  rw [if_pos rfl]
  exact⟨Maps.has_put_same hm (show WideAt.IsKeyLit (.int q t) from trivial) _,fun z=>Maps.atKey_put_same hm (show WideAt.IsKeyLit (.int q t) from trivial) _ _⟩
 ·rw [if_neg ht]
  have hne:(Lit.int q t)≠.int q s:=fun e=>ht (by injection e)
  rw [Maps.has_put_other hne]
  exact⟨(h t).1,fun z=>by rw [Maps.atKey_put_other hne];exact (h t).2 z⟩
variable {ops : Array Oper} {rest : List Oper} {o : Oper} {a : Act} {Q : Exit → Act → World → Prop} {F : Fence} {nF : Nat}
theorem MapZ.step{t:TypeId}(hk:P.underlying k=some (.int q))(ht:P.underlying t=some (.map k e))(h:MapZ P k q w b n f)(hn:n < maxLen)(s:Int)(hs:(Lit.int q s).wf=true)(c:Value) :
  ∃ w',(Instr.mapUpdate t (.map (some b)) (.int q s) c).run P w=.ok () w'∧MapZ P k q w' b (n+1) (zput f s c)∧w.grownBy w' (some b):=by
 obtain⟨D,h1,h2⟩:=h
 obtain⟨w',hrun,r1,r2⟩:=h1.update (Maps.int_keyed hk) ht hn (Maps.keyOf_int_mk hk hs) (val:=c) (d:=.held c) (ps:=[]) rfl
 exact⟨w',hrun,⟨_,r1,MapZ.put (isMapZ_of h1) h2 s c⟩,r2⟩
theorem MapZ.look{t:TypeId}(hk:P.underlying k=some (.int q))(ht:P.underlying t=some (.map k e)){z:Value}(hz:(zeroValue e).run P w=.ok z w)(h:MapZ P k q w b n f)(s:Int)(hs:(Lit.int q s).wf=true) :
  (Instr.lookup t (.map (some b)) (.int q s) true).run P w=.ok (.tuple #[(f s).getD z,.bool (f s).isSome]) w:=by
 obtain⟨D,h1,h2⟩:=h
 obtain⟨v,ps,hrun,hv⟩:=h1.look_ok (Maps.int_keyed hk) ht hz (zd:=.held z) (zp:=[]) rfl (Maps.keyOf_int_mk hk hs)
 unfold heldR at hv
 rw [(h2 s).2 z] at hv
 simp only [Option.some.injEq,Prod.mk.injEq,DataW.held.injEq] at hv
 rw [hrun,hv.1,(h2 s).1]
end
end Go.Proofs.YtpaplehcafeeaaaGreatDoor
