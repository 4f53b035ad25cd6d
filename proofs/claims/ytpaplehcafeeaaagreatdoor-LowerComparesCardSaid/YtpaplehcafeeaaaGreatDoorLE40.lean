/- Ml. -/
import Derived.Test.YtpaplehcafeeaaaGreatDoorRows
import Derived.Test.YtpaplehcafeeaaaGreatDoorLE38
import Derived.Stop.LaidErr
import Derived.Lib.LaidIn
import Derived.LaidSub
import Derived.PinnedBridge
import Derived.OpenShut
import Derived.Lib.SmallJoins
import Derived.Deep.SlicePairs
import Derived.ChangeArms
set_option maxRecDepth 100000
set_option maxHeartbeats 40000000
set_option linter.unusedVariables false
set_option linter.unusedSimpArgs false
namespace Go.Proofs.YtpaplehcafeeaaaGreatDoor
open Go.RowKit Go.Proofs Go.Lib Go.Joins Go.ChangeShapes Go.WideShapes Go.Deep
def vB:Value→Bool | .bool b=>b | _=>false
def vI:Value→Int | .int _ z=>z | _=>0
theorem cell_blk{w:World}{a:Addr}{v:Value}(h:w.cell? a=some v):a.block < w.heap.size:=by
 rcases Nat.lt_or_ge a.block w.heap.size with hlt | hge
 ·exact hlt
 ·exfalso
  have e:w.heap[a.block]?=none:=Array.getElem?_eq_none hge
  simp [World.cell?,e] at h
section
variable {H : Type} {enc : TypeId × Value → H} {W : World}
theorem arrs_of_trod{fuel:Nat}{v:Value}{x:DataW H × List MemPlace}(h:DataW.trod enc Tryz.prog W 0 (fun _=>true) true fuel 22 [v]=some x):∃ A n c l,v=.slice A n c∧Arrs W A n c l:=by
 rcases open_slice_pairs (Tryz.underlying22) (Tryz.underlying65) (by kernel_rfl) rfl rfl (by kernel_rfl) (by kernel_rfl) h with ⟨hcs,-⟩ | ⟨a,len,cap,m,k,V0,V1,D0,D1,P0,P1,hcs,-,hl,-,hm,-,hx⟩
 ·simp only [List.cons.injEq,and_true] at hcs
  exact⟨none,0,0,[],hcs,rfl,Nat.le_refl _,by simp,fun h=>absurd h (by omega)⟩
 ·simp only [List.cons.injEq,and_true] at hcs
  rw [if_pos rfl] at hm
  subst hm
  have hV:∀ i,i < m→∃ b z,V0 i=.bool b∧V1 i=.int .i64 z∧(Lit.int .i64 z).wf=true:=fun i hi=>by
   obtain⟨-,-,h0,h1⟩:=hx i hi
   obtain⟨b,hb,-⟩:=DataW.trod_bool (Tryz.underlying4) h0
   obtain⟨z,hz,-,hw⟩:=DataW.trod_int (Tryz.underlying3) h1
   exact⟨b,z,by simpa using hb,by simpa using hz,hw⟩
  have hg:∀ i,i < len→gA ((List.range len).map fun i=>(⟨vB (V0 i),vI (V1 i)⟩:Arr)) i=⟨vB (V0 i),vI (V1 i)⟩:=fun i hi=>by simp [gA,List.getD,hi]
  refine⟨some a,len,m,(List.range len).map fun i=>⟨vB (V0 i),vI (V1 i)⟩,hcs,by simp,hl,fun y hy=>?_,fun hn=>?_⟩
  ·obtain⟨i,hi,rfl⟩:=List.mem_map.1 hy
   obtain⟨b,z,-,h2,h3⟩:=hV i (by have:=List.mem_range.1 hi;omega)
   dsimp only
   rw [h2];exact h3
  ·obtain⟨h0,h1,-,-⟩:=hx 0 (by omega)
   obtain⟨b,off,sp⟩:=a
   have hsp:sp=none:=by
    have:=World.cell?_spot h0
    simpa [Addr.add] using this
   subst hsp
   refine⟨b,off,rfl,?_,fun i hi=>?_⟩
   ·have:=cell_blk h0
    rwa [addr_add] at this
   ·obtain⟨h0,h1,-,-⟩:=hx i (by omega)
    obtain⟨b',z,e0,e1,-⟩:=hV i (by omega)
    rw [addr_add] at h0 h1
    dsimp only
    rw [hg i hi]
    refine⟨?_,?_⟩
    ·rw [h0,e0];rfl
    ·rw [←Nat.add_assoc] at h1;rw [h1,e1];rfl
theorem codes_of_trod{fuel:Nat}{v:Value}{x:DataW H × List MemPlace}(h:DataW.trod enc Tryz.prog W 0 (fun _=>true) true fuel 23 [v]=some x):∃ A n c l,v=.slice A n c∧Codes W A n c l:=by
 rcases open_slice_pairs (Tryz.underlying23) (Tryz.underlying44) (by kernel_rfl) rfl rfl (by kernel_rfl) (by kernel_rfl) h with ⟨hcs,-⟩ | ⟨a,len,cap,m,k,V0,V1,D0,D1,P0,P1,hcs,-,hl,-,hm,-,hx⟩
 ·simp only [List.cons.injEq,and_true] at hcs
  exact⟨none,0,0,[],hcs,rfl,Nat.le_refl _,by simp,fun h=>absurd h (by omega)⟩
 ·simp only [List.cons.injEq,and_true] at hcs
  rw [if_pos rfl] at hm
  subst hm
  have hV:∀ i,i < m→∃ o z,V0 i=.int .i64 o∧V1 i=.int .u32 z∧(Lit.int .i64 o).wf=true∧(Lit.int .u32 z).wf=true:=fun i hi=>by
   obtain⟨-,-,h0,h1⟩:=hx i hi
   obtain⟨o,ho,-,hwo⟩:=DataW.trod_int (Tryz.underlying3) h0
   obtain⟨z,hz,-,hw⟩:=DataW.trod_int (Tryz.underlying42) h1
   exact⟨o,z,by simpa using ho,by simpa using hz,hwo,hw⟩
  have hg:∀ i,i < len→gI ((List.range len).map fun i=>(⟨vI (V0 i),vI (V1 i)⟩:Ins)) i=⟨vI (V0 i),vI (V1 i)⟩:=fun i hi=>by simp [gI,List.getD,hi]
  refine⟨some a,len,m,(List.range len).map fun i=>⟨vI (V0 i),vI (V1 i)⟩,hcs,by simp,hl,fun y hy=>?_,fun hn=>?_⟩
  ·obtain⟨i,hi,rfl⟩:=List.mem_map.1 hy
   obtain⟨o,z,h1,h2,h3,h4⟩:=hV i (by have:=List.mem_range.1 hi;omega)
   dsimp only
   rw [h1,h2]
   have:0≤z∧z < 4294967296:=by
    simp [Lit.wf,IntKind.min,IntKind.max,IntKind.bits,IntKind.signed] at h4
    omega
   exact⟨this.1,this.2,h3⟩
  ·obtain⟨h0,h1,-,-⟩:=hx 0 (by omega)
   obtain⟨b,off,sp⟩:=a
   have hsp:sp=none:=by
    have:=World.cell?_spot h0
    simpa [Addr.add] using this
   subst hsp
   refine⟨b,off,rfl,?_,fun i hi=>?_⟩
   ·have:=cell_blk h0
    rwa [addr_add] at this
   ·obtain⟨h0,h1,-,-⟩:=hx i (by omega)
    obtain⟨b',z,e0,e1,-,-⟩:=hV i (by omega)
    rw [addr_add] at h0 h1
    dsimp only
    rw [hg i hi]
    refine⟨?_,?_⟩
    ·rw [h0,e0];rfl
    ·rw [←Nat.add_assoc] at h1;rw [h1,e1];rfl
theorem progs_of_trod{r:Reach}{b0:Nat}{v:Value}{d:DataW H}{ps:List MemPlace}(hval:Value.okWide Tryz.prog W r b0 25 v)(h:DataW.Trod enc Tryz.prog W 0 (fun _=>true) true 25 v d ps) :
  ∃ A n c L A' n' c' p,v=.agg #[.slice A n c,.int .i64 L,.slice A' n' c']∧Progs W A n c L A' n' c' p:=by
 have hs:=Tryz.underlying25
 obtain⟨v0,v1,v2,y0,y1,y2,k,rfl,-,-,h0,h1,h2⟩:=open_agg3 hs (by kernel_rfl) (by kernel_rfl) hval h
 obtain⟨A,n,c,l,rfl,hA⟩:=arrs_of_trod h0
 obtain⟨A',n',c',l',rfl,hC⟩:=codes_of_trod h2
 obtain⟨L,hL,-,hw⟩:=DataW.trod_int (Tryz.underlying3) h1
 obtain rfl:v1=.int .i64 L:=by simpa using hL
 exact⟨A,n,c,L,A',n',c',⟨l,L,l'⟩,rfl,hA,rfl,hC,hw⟩
end
theorem starE : "*" ++ "errors.errorString" = "*errors.errorString" :=by decide
theorem rowE(u:TypeId)(h:Tryz.prog.typeName? 3 u=some "*errors.errorString"):u=330:=
 typeName_ptr_named (nm:= "errors.errorString") (by rw [starE];kernel_rfl) (by kernel_rfl) (by decide) u (by rw [starE];exact h)
def laidE:List (String × DataW Unit):=[("math/bits.deBruijn32tab", Rows.laid_math_bits_deBruijn32tab),("math/bits.deBruijn64tab", Rows.laid_math_bits_deBruijn64tab),("internal/strconv.uint64pow10", Rows.laid_internal_strconv_uint64pow10),("strconv.ErrRange", Rows.laid_strconv_ErrRange),("strconv.ErrSyntax", Rows.laid_strconv_ErrSyntax)]
theorem errR_of{W:World}(h:laidMet Tryz.prog laidE W):ErrR W:=by
 have h1:=h.filter (fun x=>x.1 == "strconv.ErrRange")
 have e:laidE.filter (fun x=>x.1 == "strconv.ErrRange")=[("strconv.ErrRange", Rows.laid_strconv_ErrRange)]:=by kernel_rfl
 rw [e] at h1
 have gE:Tryz.prog.globalNamed "strconv.ErrRange" = some 2:=by kernel_rfl
 obtain⟨a0,s0,hv0,-,-,-⟩:=laid_sentinel (tp:=330) (te:=332) (ts:=9) h1 gE (by kernel_rfl) Tryz.underlying311 rowE Tryz.underlying330 Tryz.underlying332 rfl rfl Tryz.underlying9 (by kernel_rfl) (by kernel_rfl)
 exact⟨_,by have h0:=World.var?_cell gE hv0 0;simpa using h0,Or.inr ⟨_,_,rfl⟩⟩
def litV:DataW Unit→Value
 | .lit (.int k z)=>.int k z
 | _=>.bool false
def cellsD:DataW Unit→List Value
 | .agg l=>l.map litV
 | _=>[]
abbrev rangeS:ByteArray:={ data:=#[118,97,108,117,101,32,111,117,116,32,111,102,32,114,97,110,103,101] }
abbrev syntaxS:ByteArray:={ data:=#[105,110,118,97,108,105,100,32,115,121,110,116,97,120] }
noncomputable def lowE:Nat:=(World.holding Tryz.prog default ⟨#[],#[],[]⟩).heap.size
noncomputable def laidWorldE (os:Os):World:=
 let w0:=World.holding Tryz.prog os ⟨#[.cells #[.string rangeS] 332,.cells #[.string syntaxS] 332],#[],[]⟩
 let put (h:Array Obj) (g:Nat) (cs:Array Value):Array Obj:=h.modify g fun
  | .cells _ t frozen=>.cells cs t frozen
  | o=>o
 let h1:=put w0.heap 4 (cellsD Rows.laid_math_bits_deBruijn32tab).toArray
 let h2:=put h1 5 (cellsD Rows.laid_math_bits_deBruijn64tab).toArray
 let h3:=put h2 3 (cellsD Rows.laid_internal_strconv_uint64pow10).toArray
 let h4:=put h3 2 #[.iface 330 (.pointer (some ⟨lowE,0,none⟩))]
 let h5:=put h4 1 #[.iface 330 (.pointer (some ⟨lowE+1,0,none⟩))]
 { w0 with heap:=h5 }
theorem laid_metE(os:Os)(args:Array Value):laidMet Tryz.prog laidE ((laidWorldE os).forCall (fun _ _=>0) ⟨#[],args,[]⟩).memory:=
 (LaidIn.of_run (l:=laidE) [4,5,3,2,1,lowE,lowE+1] 8 (by kernel_rfl) (by kernel_rfl) (by kernel_rfl) (by kernel_rfl)).met
def TabE(w:World):Prop:=ErrR w
theorem tabE_of{W:World}(h:laidMet Tryz.prog laidE W):TabE W:=errR_of h
end Go.Proofs.YtpaplehcafeeaaaGreatDoor
