/- Mp. -/
import Derived.Test.YtpaplehcafeeaaaGreatDoorLE09
import Derived.Test.YtpaplehcafeeaaaGreatDoorLE01
import Derived.Maps.OwnIn
import Derived.Maps.OwnSet
import Derived.Maps.OwnOps
set_option maxRecDepth 100000
set_option maxHeartbeats 40000000
set_option linter.unusedVariables false
set_option linter.unusedSimpArgs false
namespace Go.Proofs.YtpaplehcafeeaaaGreatDoor
open Go.RowKit Go.Proofs
def MapIs(P:Program)(k e:TypeId)(q:IntKind)(w:World)(b n:Nat)(f:List UInt8→Option Int):Prop:=
 ∃ D:DataW Unit,w.ownsMap P k (plainElem P e) b n D∧∀ s,Maps.has D (.string s)=(f s).isSome∧D.atKey (.string s) (.lit (.int q 0))=.lit (.int q ((f s).getD 0))
def fput(f:List UInt8→Option Int)(s:List UInt8)(v:Int):List UInt8→Option Int:=fun t=>if t=s then some v else f t
section
variable {P : Program} {k e : TypeId} {q : IntKind} {w w' : World} {b n : Nat} {f : List UInt8 → Option Int}
theorem MapIs.lt(h:MapIs P k e q w b n f):b < w.heap.size:=by obtain⟨D,h,_⟩:=h;exact h.lt
theorem MapIs.same(h:MapIs P k e q w b n f)(hb:w'.heap[b]?=w.heap[b]?):MapIs P k e q w' b n f:=by
 obtain⟨D,⟨es,clock,h1,h2⟩,h3⟩:=h
 exact⟨D,⟨es,clock,hb.trans h1,h2⟩,h3⟩
theorem MapIs.below(h:MapIs P k e q w b n f)(hb:Below w.heap.size w w'):MapIs P k e q w' b n f:=h.same (hb.block b h.lt)
theorem MapIs.isMap(h:MapIs P k e q w b n f):∃ o,w.heap[b]?=some o∧o.isCells=false:=by
 obtain⟨D,⟨es,clock,h1,h2⟩,h3⟩:=h
 exact⟨_,h1,rfl⟩
theorem MapIs.mono(h:MapIs P k e q w b n f){m:Nat}(hm:n≤m):MapIs P k e q w b m f:=by
 obtain⟨D,⟨es,clock,h1,h2,h4,h5⟩,h3⟩:=h
 exact⟨D,⟨es,clock,h1,h2,by omega,h5⟩,h3⟩
theorem MapIs.made(w:World):MapIs P k e q (w.alloc (.map #[] 0)) w.heap.size 0 (fun _=>none):=
 ⟨.map [],World.ownsMap_made _ _ _ _,fun s=>⟨rfl,rfl⟩⟩
variable {ops : Array Oper} {rest : List Oper} {o : Oper} {a : Act} {Q : Exit → Act → World → Prop} {F : Fence} {nF : Nat}
theorem strB_key(hk:P.underlying k=some .string)(s:List UInt8)(hs:s.length≤maxLen):keyOf P k (.string (strB s))=some (.string s):=
 Go.WideMaps.keyOf_string_mk hk (s:=strB s) (by show s.length≤_;exact hs)
theorem MapIs.put{D:DataW Unit}(hm:Maps.IsMap D)(h:∀ s,Maps.has D (.string s)=(f s).isSome∧D.atKey (.string s) (.lit (.int q 0))=.lit (.int q ((f s).getD 0)))(s:List UInt8)(v:Int) :
  ∀ t,Maps.has (D.put (.string s) (.lit (.int q v))) (.string t)=(fput f s v t).isSome∧(D.put (.string s) (.lit (.int q v))).atKey (.string t) (.lit (.int q 0))=.lit (.int q ((fput f s v t).getD 0)):=fun t=>by
 unfold fput
 by_cases ht:t=s
 ·subst ht
  rw [if_pos rfl]
  exact⟨Maps.has_put_same hm (show WideAt.IsKeyLit (.string t) from trivial) _,Maps.atKey_put_same hm (show WideAt.IsKeyLit (.string t) from trivial) _ _⟩
 ·rw [if_neg ht]
  have hne:(Lit.string t)≠.string s:=fun e=>ht (by injection e)
  rw [Maps.has_put_other hne,Maps.atKey_put_other hne]
  exact h t
theorem MapIs.run_getok(h:MapIs P k e q w b n f)(t:TypeId)(hk:P.underlying k=some .string)(ht:P.underlying t=some (.map k e))(he:P.underlying e=some (.int q))(hz:∀ W:World,(zeroValue e).run P W=.ok (.int q 0) W)(s:List UInt8)(hs:s.length≤maxLen)(p:Nat) :
  (Instr.lookup t (.map (some b)) (.string (strB s)) true).run P (w.drewN p)=.ok (.tuple #[.int q ((f s).getD 0),.bool (f s).isSome]) (w.drewN p):=by
 obtain⟨D,h1,h2⟩:=h
 have h1':(w.drewN p).ownsMap P k (plainElem P e) b n D:=h1
 obtain⟨v,ps,hrun,hv⟩:=h1'.look_ok (Maps.string_keyed hk) ht (hz _) (plainElem_int (P:=P) (a:=0) he (by cases q <;> decide)) (strB_key hk s hs)
 obtain⟨c,rfl,hc,hwc⟩:=plainElem_int_inv he hv
 have hat:=congrArg Prod.fst hc
 dsimp only at hat
 rw [(h2 s).2] at hat
 injection hat with hat
 injection hat with _ hat
 rw [hrun,←hat,(h2 s).1]
theorem run_mapset_new{mty kt et:TypeId}{r clock:Nat}{es:Array MapEntry}{s:ByteArray}{val:Value}(hm:P.underlying mty=some (.map kt et))(hk:P.underlying kt=some .string)(hb:w.heap[r]?=some (.map es clock))(hf:Instr.findNow .string (.string s) es.toList 0=some none) :
  (Instr.mapUpdate mty (.map (some r)) (.string s) val).run P w=.ok () { w with heap:=w.heap.setIfInBounds r (.map (es.push { key:=.string s,val:=val,born:=clock }) (clock+1)) }:=by
 have hc:(Instr.checkKey false 10000 kt (.string s)).run P w=.ok () w:=MapKept.run_checkKey (k:=.string s) hk (by simp [MapKept.IsKey]) false 9999
 simp [Instr.mapUpdate,run_underlying hm,MapKept.run_getObj_map hb,hc,MapKept.run_findKey hk hf,MapKept.run_setObj_map _ hb,Result.andThen]
theorem run_mapget_hit{mty kt et:TypeId}{r clock i:Nat}{es:Array MapEntry}{s:ByteArray}{v:Value}(hm:P.underlying mty=some (.map kt et))(hk:P.underlying kt=some .string)(hb:w.heap[r]?=some (.map es clock))(hf:Instr.findNow .string (.string s) es.toList 0=some (some (i,v)))(W:World)(hW:∃ q,W=w.drewN q) :
  (Instr.lookup mty (.map (some r)) (.string s) true).run P W=.ok (.tuple #[v,.bool true]) W:=by
 obtain⟨q,rfl⟩:=hW
 have hb':(w.drewN q).heap[r]?=some (.map es clock):=hb
 have hc:(Instr.checkKey es.isEmpty 10000 kt (.string s)).run P (w.drewN q)=.ok () (w.drewN q):=MapKept.run_checkKey (k:=.string s) hk (by simp [MapKept.IsKey]) es.isEmpty 9999
 simp [Instr.lookup,run_underlying hm,MapKept.run_getObj_map hb',hc,MapKept.run_findKey hk hf,Result.andThen]
theorem run_mapget_miss{mty kt et:TypeId}{r clock:Nat}{es:Array MapEntry}{s:ByteArray}{z:Value}(hm:P.underlying mty=some (.map kt et))(hk:P.underlying kt=some .string)(hz:∀ W:World,(zeroValue et).run P W=.ok z W)(hb:w.heap[r]?=some (.map es clock))(hf:Instr.findNow .string (.string s) es.toList 0=some none)(W:World)(hW:∃ q,W=w.drewN q) :
  (Instr.lookup mty (.map (some r)) (.string s) true).run P W=.ok (.tuple #[z,.bool false]) W:=by
 obtain⟨q,rfl⟩:=hW
 have hb':(w.drewN q).heap[r]?=some (.map es clock):=hb
 have hc:(Instr.checkKey es.isEmpty 10000 kt (.string s)).run P (w.drewN q)=.ok () (w.drewN q):=MapKept.run_checkKey (k:=.string s) hk (by simp [MapKept.IsKey]) es.isEmpty 9999
 simp [Instr.lookup,run_underlying hm,MapKept.run_getObj_map hb',hc,MapKept.run_findKey hk hf,hz,Result.andThen]
end
end Go.Proofs.YtpaplehcafeeaaaGreatDoor
