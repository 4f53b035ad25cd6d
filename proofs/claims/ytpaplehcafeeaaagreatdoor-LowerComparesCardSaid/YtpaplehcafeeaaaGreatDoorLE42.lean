/- Kq. -/
import Derived.Test.YtpaplehcafeeaaaGreatDoorLE40
import Derived.Test.YtpaplehcafeeaaaGreatDoorLE37
set_option maxRecDepth 100000
set_option maxHeartbeats 40000000
set_option linter.unusedVariables false
set_option linter.unusedSimpArgs false
namespace Go.Proofs.YtpaplehcafeeaaaGreatDoor
open Go.RowKit Go.Proofs Go.Lib Go.Joins Go.ChangeShapes Go.WideShapes Go.Deep
instance : Inhabited RI := ⟨⟨0, 0, 0, 0, 0⟩⟩
section
variable {H : Type} {enc : TypeId × Value → H} {W : World}
theorem list5{α:Type}{l:List α}(h:l.length=5):∃ c0 c1 c2 c3 c4,l=[c0,c1,c2,c3,c4]:=by
 match l,h with
 | [c0,c1,c2,c3,c4],_=>exact⟨c0,c1,c2,c3,c4,rfl⟩
theorem cells5_of{fuel:Nat}{cs:List Value}{x:DataW H × List MemPlace}(h:DataW.trod enc Tryz.prog W 0 (fun _=>true) true fuel 47 cs=some x):∃ i:RI,cs=[.int .i64 i.op,.int .i64 i.dst,.int .i64 i.a,.int .i64 i.b,.int .u32 i.arg]:=by
 obtain⟨xs,n,_,rfl,hl,hlen,hf⟩:=DataW.trod_struct Tryz.underlying47 h
 have hl':cs.length=5:=hl.trans (by kernel_rfl)
 obtain⟨c0,c1,c2,c3,c4,rfl⟩:=list5 hl'
 obtain⟨y0,y1,y2,y3,y4,rfl⟩:=list5 (l:=xs) (by simpa using hlen)
 have k0:Tryz.prog.cellsOf 3=1:=by kernel_rfl
 have k1:Tryz.prog.cellsOf 42=1:=by kernel_rfl
 have h0:=hf 0 _ rfl
 have h1:=hf 1 _ rfl
 have h2:=hf 2 _ rfl
 have h3:=hf 3 _ rfl
 have h4:=hf 4 _ rfl
 simp [k0,k1] at h0 h1 h2 h3 h4
 obtain⟨z0,e0,-,-⟩:=DataW.trod_int (Tryz.underlying3) h0
 obtain⟨z1,e1,-,-⟩:=DataW.trod_int (Tryz.underlying3) h1
 obtain⟨z2,e2,-,-⟩:=DataW.trod_int (Tryz.underlying3) h2
 obtain⟨z3,e3,-,-⟩:=DataW.trod_int (Tryz.underlying3) h3
 obtain⟨z4,e4,-,-⟩:=DataW.trod_int (Tryz.underlying42) h4
 simp only [List.cons.injEq,and_true] at e0 e1 e2 e3 e4
 exact⟨⟨z0,z1,z2,z3,z4⟩,by rw [e0,e1,e2,e3,e4]⟩
theorem ris_of_trod{fuel:Nat}{v:Value}{x:DataW H × List MemPlace}(h:DataW.trod enc Tryz.prog W 0 (fun _=>true) true fuel 28 [v]=some x):∃ A n c l,v=.slice A n c∧RIs W A n c l:=by
 have c5:Tryz.prog.cellsOf 47=5:=by kernel_rfl
 rcases open_slice (Tryz.underlying28) h with ⟨hcs,-⟩ | ⟨a,len,cap,m,k,D,Pl,hcs,-,hl,-,hm,-,hx⟩
 ·simp only [List.cons.injEq,and_true] at hcs
  exact⟨none,0,0,[],hcs,rfl,Nat.le_refl _,fun h=>absurd h (by omega)⟩
 ·simp only [List.cons.injEq,and_true] at hcs
  rw [if_pos rfl] at hm
  subst hm
  have hq:∀ i,i < m→∃ q:RI,∀ j,j < 5→W.cell? ((a.add (i * 5)).add j)=([.int .i64 q.op,.int .i64 q.dst,.int .i64 q.a,.int .i64 q.b,.int .u32 q.arg]:List Value)[j]?:=fun i hi=>by
   obtain⟨cs,h1,h2⟩:=hx i hi
   rw [c5] at h1
   obtain⟨_,hlen,hcell⟩:=World.cells?_some h1
   obtain⟨q,rfl⟩:=cells5_of h2
   exact⟨q,fun j hj=>hcell j (by omega)⟩
  obtain⟨q,hq⟩:=choose_lt hq
  have hg:∀ i,i < len→gR ((List.range len).map q) i=q i:=fun i hi=>by simp [gR,List.getD,hi]
  refine⟨some a,len,m,(List.range len).map q,hcs,by simp,hl,fun hn=>?_⟩
  have h00:=hq 0 (by omega) 0 (by omega)
  obtain⟨b,off,sp⟩:=a
  have hsp:sp=none:=by
   have:=World.cell?_spot h00
   simpa [Addr.add] using this
  subst hsp
  refine⟨b,off,rfl,?_,fun i hi=>?_⟩
  ·have:=cell_blk h00
   rwa [addr_add,addr_add] at this
  ·have hc:=hq i (by omega)
   have g0:=hc 0 (by omega)
   have g1:=hc 1 (by omega)
   have g2:=hc 2 (by omega)
   have g3:=hc 3 (by omega)
   have g4:=hc 4 (by omega)
   rw [addr_add,addr_add] at g0 g1 g2 g3 g4
   rw [hg i hi]
   exact⟨g0,g1,g2,g3,g4⟩
theorem code_of_trod{r:Reach}{b0:Nat}{v:Value}{d:DataW H}{ps:List MemPlace}(hval:Value.okWide Tryz.prog W r b0 30 v)(h:DataW.Trod enc Tryz.prog W 0 (fun _=>true) true 30 v d ps) :
  ∃ A n c A' n' c' x,v=ccV A n c x.regs x.spl A' n' c'∧CodeM W A n c A' n' c' x:=by
 have hs:=Tryz.underlying30
 obtain⟨v0,v1,v2,v3,y0,y1,y2,y3,k,rfl,-,-,h0,h1,h2,h3⟩:=open_agg4 hs (by kernel_rfl) (by kernel_rfl) hval h
 obtain⟨A,n,c,l,rfl,hA⟩:=arrs_of_trod h0
 obtain⟨A',n',c',l',rfl,hC⟩:=ris_of_trod h3
 obtain⟨R,hR,-,hw⟩:=DataW.trod_int (Tryz.underlying3) h1
 obtain⟨S,hS,-,hw⟩:=DataW.trod_int (Tryz.underlying3) h2
 obtain rfl:v1=.int .i64 R:=by simpa using hR
 obtain rfl:v2=.int .i64 S:=by simpa using hS
 exact⟨A,n,c,A',n',c',⟨l,R,S,l'⟩,rfl,hA,hC⟩
theorem ri_of_trod{r:Reach}{b0:Nat}{v:Value}{d:DataW H}{ps:List MemPlace}(hval:Value.okWide Tryz.prog W r b0 47 v)(h:DataW.Trod enc Tryz.prog W 0 (fun _=>true) true 47 v d ps):∃ i:RI,v=riV i:=by
 obtain⟨cs,rfl,hsz⟩:=okWide_struct Tryz.underlying47 hval
 obtain⟨fuel,hf⟩:=h
 obtain⟨i,hi⟩:=cells5_of (cs:=cs.toList) hf
 exact⟨i,by obtain⟨l⟩:=cs;simp only at hi;rw [hi]⟩
end
end Go.Proofs.YtpaplehcafeeaaaGreatDoor
