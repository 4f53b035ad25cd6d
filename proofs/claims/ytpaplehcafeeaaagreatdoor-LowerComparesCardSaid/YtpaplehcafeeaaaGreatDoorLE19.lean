/- Gg Gh Gj Ve Vf Vg. -/
import Derived.Test.YtpaplehcafeeaaaGreatDoorLE18
import Derived.Defers
import Derived.Recover
import Derived.Laws.Pointers
import Derived.WalkMore
import Derived.Test.YtpaplehcafeeaaaGreatDoorLE12
import Derived.Test.YtpaplehcafeeaaaGreatDoorLE16
import Derived.Test.YtpaplehcafeeaaaGreatDoorLE02
set_option maxRecDepth 100000
set_option maxHeartbeats 40000000
set_option linter.unusedVariables false
set_option linter.unusedSimpArgs false
namespace Go.Proofs.YtpaplehcafeeaaaGreatDoor
open Go.RowKit Go.Proofs
theorem catch_idle(r0 r1 r2:Nat)(w:World) :
  CallsD Tryz.prog 116 #[.pointer (some ⟨r0,0,none⟩),.pointer (some ⟨r1,0,none⟩),.pointer (some ⟨r2,0,none⟩)] .returning w fun e u' w'=>e=.returned (.tuple #[])∧u'=.returning∧w'=w:=by
 refine callsD_of_wpS Tryz.func116 rfl fun c₀ cs hu=>?_
 apply wpS_seq
 apply wpS_region
 simp [wpOpsS,go_sem,recoverD,hu,Tryz.ntmps116,Exit.thenS]
 apply wpS_seq
 apply wpS_region
 simp [wpOpsS,go_sem,Exit.thenS]
 refine wpS_cond (t:=false) (by simp [Act.eval,Array.replicate]) ?_
 simp only [Bool.false_eq_true,if_false]
 refine wpS_of_wp (wp_skip ?_)
 cases c₀
 simp_all [bodyPostS,results,Tryz.results116]
end Go.Proofs.YtpaplehcafeeaaaGreatDoor
namespace Go.Proofs.YtpaplehcafeeaaaGreatDoor
open Go.RowKit Go.Proofs
theorem setCell_same{w:World}{k:Nat}{t:TypeId}{x:Value}(h:rowV w k t #[x]):w.setCell ⟨k,0,none⟩ x=w:=by
 unfold rowV at h
 have hh:(w.setCell ⟨k,0,none⟩ x).heap=w.heap:=by
  apply Array.ext
  ·simp [World.setCell]
  ·intro i h1 h2
   have e:(w.setCell ⟨k,0,none⟩ x).heap[i]?=w.heap[i]?:=by
    by_cases hi:i=k
    ·subst hi
     simp [World.setCell,Array.getElem?_modify,h]
    ·exact Below.heap_setCell w ⟨k,0,none⟩ x i hi
   rw [Array.getElem?_eq_getElem h1,Array.getElem?_eq_getElem h2] at e
   injection e
 show { w with heap:=(w.setCell ⟨k,0,none⟩ x).heap }=w
 rw [hh]
theorem DoesL.mono{B g n:Nat}{w w0:World}{r:AR}{e:Ending}{w':World}(h:DoesL B g n w r e w')(hb:Below B w0 w):DoesL B g n w0 r e w':=by
 unfold DoesL at h ⊢
 cases r with
 | bad a er=>exact⟨h.1,hb.trans h.2⟩
 | ok s ws=>exact⟨h.1,hb.trans h.2.1,h.2.2⟩
theorem decl_hit1{w:World}{m c g:Nat}(h:DeclM w m c g):(Instr.lookup 211 (.map (some m)) (.string (strB [98,121,116,101,115])) true).run Tryz.prog w=.ok (.tuple #[.func (.func 153) #[] #[.pointer (some ⟨c,0,none⟩)],.bool true]) w:=run_mapget_hit uM uS h.1 (decl_find _ c g) _ ⟨0,rfl⟩
theorem decl_hit2{w:World}{m c g:Nat}(h:DeclM w m c g):(Instr.lookup 211 (.map (some m)) (.string (strB [119,111,114,100,115])) true).run Tryz.prog w=.ok (.tuple #[.func (.func 155) #[] #[.pointer (some ⟨c,0,none⟩)],.bool true]) w:=run_mapget_hit uM uS h.1 (decl_find _ c g) _ ⟨0,rfl⟩
theorem decl_hit3{w:World}{m c g:Nat}(h:DeclM w m c g):(Instr.lookup 211 (.map (some m)) (.string (strB [108,111,99,97,108])) true).run Tryz.prog w=.ok (.tuple #[.func (.func 156) #[.pointer (some ⟨g,0,none⟩)] #[],.bool true]) w:=run_mapget_hit uM uS h.1 (decl_find _ c g) _ ⟨0,rfl⟩
theorem decl_no{w:World}{m c g:Nat}(h:DeclM w m c g){x:List UInt8}(h1:x≠[98,121,116,101,115])(h2:x≠[119,111,114,100,115])(h3:x≠[108,111,99,97,108])(h4:x≠[99,111,110,115,116]):(Instr.lookup 211 (.map (some m)) (.string (strB x)) true).run Tryz.prog w=.ok (.tuple #[.nilFunc,.bool false]) w:=
 run_mapget_miss uM uS zM h.1 (by rw [decl_find,if_neg h1,if_neg h2,if_neg h3,if_neg h4]) _ ⟨0,rfl⟩
def ReadP(src:List UInt8)(w:World)(e:Ending)(w':World):Prop:=match readL src with
 | .bad a er=>e=.returned (.tuple #[.pointer none,.int .i64 (a:Int),.int .i64 er])∧Below w.heap.size w w'
 | .ok s r=>∃ g B v,e=.returned (.tuple #[.pointer (some ⟨g,0,none⟩),.int .i64 0,.int .i64 0])∧w.heap.size≤B∧RD B g src.length w' s r v∧Below w.heap.size w w'
end Go.Proofs.YtpaplehcafeeaaaGreatDoor
namespace Go.Proofs.YtpaplehcafeeaaaGreatDoor
open Go.RowKit Go.Proofs
theorem wordsA_bnd{src:List UInt8}:∀ i,i≤src.length→(wordsA src i).length≤src.length-i∧∀ x∈wordsA src i,x.1.length≤src.length∧x.2≤src.length:=by
 refine wordsA_cases _ (fun i hi=>?_) (fun i hi ih=>?_)
 ·rw [wordsA_end (by omega)];simp
 ·rcases wordsA_next hi with ⟨h1,h2,h3,h4⟩ | ⟨h1,h2,h4⟩ | ⟨h1,h2,h3,h4⟩
  ·rw [h4];have:=ih _ h2 h3;exact⟨by omega,this.2⟩
  ·rw [h4];have:=ih (i+1) (by omega) (by omega);exact⟨by omega,this.2⟩
  ·rw [h4]
   have:=ih _ h2 h3
   refine⟨by simp only [List.length_cons];omega,fun x hx=>?_⟩
   rcases List.mem_cons.1 hx with rfl | hx
   ·exact⟨by dsimp only;rw [List.length_take];omega,by dsimp only;omega⟩
   ·exact this.2 x hx
theorem words_mem{w:World}{B0 B:Nat}{A:Option Addr}{k c:Nat}{l:List Wd}(h:OwnS encW 2 w B0 214 A k c l)(hB:w.heap.size≤B)(hl:∀ x∈l,x.1.length≤9000∧x.2≤9000):WordsM B w A k c l:=by
 refine⟨h.length (fun _=>rfl) (by decide),h.cap,hl,fun hn=>?_⟩
 obtain⟨b,hA,_,hlt,hc⟩:=h.get (fun _=>rfl) (by decide) (([],0):Wd) hn
 refine⟨b,0,hA,by omega,fun i hi=>⟨?_,?_⟩⟩
 ·have:=hc i 0 (.string (strB (gW l i).1)) hi rfl
  simpa using this
 ·have:=hc i 1 (.int .i64 ((gW l i).2:Int)) hi rfl
  simpa using this
def ReadQ(r:AR)(n:Nat)(w:World)(e:Ending)(w':World):Prop:=match r with
 | .bad a er=>e=.returned (.tuple #[.pointer none,.int .i64 (a:Int),.int .i64 er])∧Below w.heap.size w w'
 | .ok s r=>∃ g B v,e=.returned (.tuple #[.pointer (some ⟨g,0,none⟩),.int .i64 0,.int .i64 0])∧w.heap.size≤B∧RD B g n w' s r v∧Below w.heap.size w w'
end Go.Proofs.YtpaplehcafeeaaaGreatDoor
namespace Go.Proofs.YtpaplehcafeeaaaGreatDoor
open Go.RowKit Go.Proofs
theorem OwnS.toCodes{w:World}{B:Nat}{A:Option Addr}{n c:Nat}{l:List Ins}(h:OwnS encIn 2 w B 44 A n c l)(hwf:∀ x∈l,0≤x.arg∧x.arg < 4294967296∧(Lit.int .i64 x.op).wf=true):Codes w A n c l:=by
 refine⟨h.length (fun _=>rfl) (by decide),h.cap,hwf,fun hn=>?_⟩
 obtain⟨b,hA,_,hlt,hc⟩:=h.get (fun _=>rfl) (by decide) (⟨0,0⟩:Ins) hn
 refine⟨b,0,hA,hlt,fun i hi=>⟨?_,?_⟩⟩
 ·have:=hc i 0 (.int .i64 (gI l i).op) hi rfl
  simpa using this
 ·have:=hc i 1 (.int .u32 (gI l i).arg) hi rfl
  simpa using this
def AsmP(r:AR)(w:World)(e:Ending)(w':World):Prop:=match r with
 | .bad a er=>e=.returned (.tuple #[.agg #[.slice none 0 0,.int .i64 0,.slice none 0 0],.int .i64 (a:Int),.int .i64 er])∧Below w.heap.size w w'
 | .ok s r=>∃ A n c A' n' c',e=.returned (.tuple #[.agg #[.slice A n c,.int .i64 (s.ln.length:Int),.slice A' n' c'],.int .i64 0,.int .i64 0])∧Progs w' A n c (s.ln.length:Int) A' n' c' (prgOf s)∧Below w.heap.size w w'
theorem three_cellsV{w:World}{g:Nat}{t:TypeId}{a b c:Value}(h:rowV w g t #[a,b,c]):w.cell? ⟨g,0,none⟩=some a∧w.cell? ⟨g,1,none⟩=some b∧w.cell? ⟨g,2,none⟩=some c:=⟨cell_rowV h rfl,cell_rowV h rfl,cell_rowV h rfl⟩
end Go.Proofs.YtpaplehcafeeaaaGreatDoor
namespace Go.Proofs.YtpaplehcafeeaaaGreatDoor
open Go.RowKit Go.Proofs
theorem stIn:Tryz.prog.stoodInHeld 44=false:=by kernel_rfl
theorem utIn:Tryz.prog.underlying 44=some (.struct (Tryz.prog.fieldsOf 44)):=by kernel_rfl
theorem stAr:Tryz.prog.stoodInHeld 65=false:=by kernel_rfl
theorem utAr:Tryz.prog.underlying 65=some (.struct (Tryz.prog.fieldsOf 65)):=by kernel_rfl
theorem gdAr:Tryz.prog.eqGuardType Tryz.prog.depth 65=false:=by kernel_rfl
theorem neqAr(a b:Arr)(W:World):(binOp .neq 65 (.agg #[.bool a.word,.int .i64 a.size]) (.agg #[.bool b.word,.int .i64 b.size])).run Tryz.prog W=.ok (.bool (!decide (a=b))) W:=by
 obtain⟨o1,x1⟩:=a
 obtain⟨o2,x2⟩:=b
 rw [run_neq_struct,run_equalIn_agg W 9999 _ _ _ utAr stAr]
 by_cases h1:o1=o2
 ·by_cases h2:x1=x2
  ·subst h1 h2;simp [go_sem,part]
  ·subst h1;simp [go_sem,part,h2]
 ·simp [go_sem,part,h1]
theorem ext_gA{l m:List Arr}(hl:l.length=m.length)(h:∀ k,k < l.length→gA l k=gA m k):l=m:=by
 apply List.ext_getElem hl
 intro i h1 h2
 have:=h i h1
 rwa [gA_get h1,gA_get h2] at this
theorem sameArr_any(A D:Option Addr)(n c m d:Nat)(l q:List Arr)(w:World)(hx:Arrs w A n c l)(hy:Arrs w D m d q)(h1:n≤100000) :
  Calls Tryz.prog 24 #[.slice A n c,.slice D m d] w fun e w'=>e=.returned (.bool (decide (l=q)))∧Drawn w w':=by
 have Hn:=Lib.hid hx.1
 have Hm:=Lib.hid hy.1
 obtain⟨bb,hbb⟩:∃ bb,bb=decide (l=q):=⟨_,rfl⟩
 rw [←hbb]
 have HBB:=Lib.hid hbb
 clear hbb
 by_cases hl:n=m
 ·subst hl
  go_enter Tryz.func24,Tryz.ntmps24
  go_wp2_with fail
  go_loopw [5] (fun i wr=>∃ k:Nat,k≤n∧i=.int .i64 (k:Int)∧Hid (∀ j,j < k→gA l j=gA q j)∧Drawn w wr) (fun i _=>n-(intOf i).toNat)
  case atStart=>exact⟨0,Nat.zero_le _,rfl,fun j hj=>absurd hj (by omega),Drawn.refl _⟩
  case round=>
   obtain⟨k,hk,rfl,HK,u,rfl⟩:=hrel
   by_cases hlt:k < n
   ·have e1:decide ((k:Int) < (n:Int))=true:=by simp;omega
    have e1':decide (k < n)=true:=by simp;omega
    obtain⟨b,off,rfl,hbl,hcell⟩:=hx.get hlt
    obtain⟨b2,off2,rfl,hbl2,hcell2⟩:=hy.get hlt
    obtain⟨q1,q2⟩:=hcell k hlt
    obtain⟨q3,q4⟩:=hcell2 k hlt
    have HS:Hid (gA l k≠gA q k→bb=false):=fun h=>by rw [HBB.out];exact decide_eq_false (fun e=>h (by rw [e]))
    have HG:Hid (gA l k=gA q k→∀ j,j < k+1→gA l j=gA q j):=fun h j hj=>by
     rcases Nat.lt_or_ge j k with h1 | h1
     ·exact HK.out j h1
     ·obtain rfl:j=k:=by omega
      exact h
    obtain⟨x,hxe⟩:∃ x,x=gA l k:=⟨_,rfl⟩
    obtain⟨y,hye⟩:∃ y,y=gA q k:=⟨_,rfl⟩
    rw [←hxe] at q1 q2 HS HG
    rw [←hye] at q3 q4 HS HG
    clear hxe hye hcell hcell2 HK
    obtain⟨o1,x1⟩:=x
    obtain⟨o2,x2⟩:=y
    dsimp only at q1 q2 q3 q4
    have u1:=stAr
    have u2:=utAr
    have u3:=gdAr
    have hq:=neqAr ⟨o1,x1⟩ ⟨o2,x2⟩
    dsimp only at hq
    by_cases he:(⟨o1,x1⟩:Arr)=⟨o2,x2⟩
    ·rw [decide_eq_true he] at hq
     have HG':=Lib.hid (HG.out he)
     clear HS HG
     go_wp2_with fail
     go_quiet (fail)
     go_wp2_with fail
     go_roundw
     case rel=>exact⟨k+1,by omega,by go_num,HG'.out,⟨_,rfl⟩⟩
     case measure=>simp [intOf];omega
    ·rw [decide_eq_false he] at hq
     have Z:=Lib.hid (HS.out he)
     clear HS HG
     go_wp2_with fail
     go_quiet (fail)
     go_wp2_with fail
     go_ret
     exact⟨ret_bool Z.out.symm,(Drawn.drewN w u).step _⟩
   ·have e1:decide ((k:Int) < (n:Int))=false:=by simp;omega
    have e1':decide (k < n)=false:=by simp;omega
    have Z:Hid (bb=true):=by
     show _=_
     rw [HBB.out]
     exact decide_eq_true (ext_gA (by rw [Hn.out,Hm.out]) (fun j hj=>HK.out j (by rw [Hn.out] at hj;omega)))
    go_wp2_with fail
    go_ret
    exact⟨ret_bool Z.out.symm,⟨_,rfl⟩⟩
 ·have hd:((n:Int) != (m:Int))=true:=by simp;omega
  have Z:Hid (bb=false):=by
   show _=_
   rw [HBB.out]
   exact decide_eq_false (fun e=>hl (by rw [←Hn.out,←Hm.out,e]))
  go_enter Tryz.func24,Tryz.ntmps24
  go_wp2_with fail
  go_ret
  exact⟨ret_bool Z.out.symm,Drawn.refl _⟩
def StrsM(w:World)(A:Option Addr)(n c:Nat)(l:List (List UInt8)):Prop:=l.length=n∧n≤c∧Cells w A n (fun i=>.string (strB (l.getD i [])))
theorem StrsM.below{w w':World}{A:Option Addr}{n c:Nat}{l:List (List UInt8)}(h:StrsM w A n c l)(hb:Below w.heap.size w w'):StrsM w' A n c l:=⟨h.1,h.2.1,h.2.2.below hb⟩
end Go.Proofs.YtpaplehcafeeaaaGreatDoor
namespace Go.Proofs.YtpaplehcafeeaaaGreatDoor
open Go.RowKit Go.Proofs
theorem full_any(w:World):Calls Tryz.prog 85 #[] w fun e w'=>e=.returned (.agg #[.int .i64 0,.int .i64 4294967295])∧Below w.heap.size w w':=by
 go_enter Tryz.func85,Tryz.ntmps85
 go_wp2_with fail
 refine bodyPost_ret (v:=.agg #[.int .i64 0,.int .i64 4294967295]) (by simp [results,Tryz.results85,go_sem]) rfl ⟨rfl,balloc (Below.refl _ _) _⟩
theorem exact_any(n:Nat)(hn:n < 4294967296)(w:World):Calls Tryz.prog 76 #[.int .u32 n] w fun e w'=>e=.returned (.agg #[.int .i64 n,.int .i64 n])∧Below w.heap.size w w':=by
 have hw:IntKind.i64.wrap (n:Int)=n:=by simp [IntKind.wrap,IntKind.bits,IntKind.signed];omega
 go_enter Tryz.func76,Tryz.ntmps76
 go_wp2_with fail
 refine bodyPost_ret (v:=.agg #[.int .i64 n,.int .i64 n]) (by simp [results,Tryz.results76,go_sem]) rfl ⟨rfl,balloc (Below.refl _ _) _⟩
theorem checkI_any(x:Iv)(w:World):Calls Tryz.prog 150 #[.agg #[.int .i64 x.lo,.int .i64 x.hi]] w fun e w'=>e=.returned (.int .i64 (ivE x))∧Below w.heap.size w w':=by
 obtain⟨lo,hi⟩:=x
 have hE:Hid (ivE ⟨lo,hi⟩=if lo < 0∨4294967295 < lo∨hi < 0∨4294967295 < hi then 2 else if hi < lo then 29 else 0):=rfl
 dsimp only
 by_cases h1:lo < 0
 ·have d1:decide (lo < 0)=true:=decide_eq_true h1
  rw [if_pos (.inl h1)] at hE
  rw [hE.out]
  go_enter Tryz.func150,Tryz.ntmps150
  go_wp2_with fail
  go_ret
  exact⟨rfl,balloc (Below.refl _ _) _⟩
 have d1:decide (lo < 0)=false:=decide_eq_false h1
 by_cases h2:4294967295 < lo
 ·have d2:decide (4294967295 < lo)=true:=decide_eq_true h2
  rw [if_pos (.inr (.inl h2))] at hE
  rw [hE.out]
  go_enter Tryz.func150,Tryz.ntmps150
  go_wp2_with fail
  go_ret
  exact⟨rfl,balloc (Below.refl _ _) _⟩
 have d2:decide (4294967295 < lo)=false:=decide_eq_false h2
 by_cases h3:hi < 0
 ·have d3:decide (hi < 0)=true:=decide_eq_true h3
  rw [if_pos (.inr (.inr (.inl h3)))] at hE
  rw [hE.out]
  go_enter Tryz.func150,Tryz.ntmps150
  go_wp2_with fail
  go_ret
  exact⟨rfl,balloc (Below.refl _ _) _⟩
 have d3:decide (hi < 0)=false:=decide_eq_false h3
 by_cases h4:4294967295 < hi
 ·have d4:decide (4294967295 < hi)=true:=decide_eq_true h4
  rw [if_pos (.inr (.inr (.inr h4)))] at hE
  rw [hE.out]
  go_enter Tryz.func150,Tryz.ntmps150
  go_wp2_with fail
  go_ret
  exact⟨rfl,balloc (Below.refl _ _) _⟩
 have d4:decide (4294967295 < hi)=false:=decide_eq_false h4
 rw [if_neg (by omega)] at hE
 by_cases h5:hi < lo
 ·have d5:decide (hi < lo)=true:=decide_eq_true h5
  rw [if_pos h5] at hE
  rw [hE.out]
  go_enter Tryz.func150,Tryz.ntmps150
  go_wp2_with fail
  go_ret
  exact⟨rfl,balloc (Below.refl _ _) _⟩
 have d5:decide (hi < lo)=false:=decide_eq_false h5
 rw [if_neg h5] at hE
 rw [hE.out]
 go_enter Tryz.func150,Tryz.ntmps150
 go_wp2_with fail
 go_ret
 exact⟨rfl,balloc (Below.refl _ _) _⟩
theorem eq0_false{e:Int}(h:e≠0):(e==0)=false:=by simpa using h
theorem ordered_any(x y:Iv)(w:World):Calls Tryz.prog 115 #[.agg #[.int .i64 x.lo,.int .i64 x.hi],.agg #[.int .i64 y.lo,.int .i64 y.hi]] w fun e w'=>e=.returned (.bool (ivOk x && ivOk y))∧Below w.heap.size w w':=by
 have hX:ivOk x=decide (ivE x=0):=by rw [Bool.eq_iff_iff,decide_eq_true_eq];exact ivE_iff.symm
 have hY:ivOk y=decide (ivE y=0):=by rw [Bool.eq_iff_iff,decide_eq_true_eq];exact ivE_iff.symm
 have H1:=Lib.hid (checkI_any x);have H2:=Lib.hid (checkI_any y)
 obtain⟨a,b⟩:=x
 obtain⟨c,d⟩:=y
 rw [hX,hY]
 clear hX hY
 dsimp only at H1 H2 ⊢
 obtain⟨e1,he1⟩:∃ e1,e1=ivE ⟨a,b⟩:=⟨_,rfl⟩
 obtain⟨e2,he2⟩:∃ e2,e2=ivE ⟨c,d⟩:=⟨_,rfl⟩
 rw [←he1] at H1 ⊢
 rw [←he2] at H2 ⊢
 clear he1 he2
 have g0:Below w.heap.size w ((w.alloc (.cells #[.int .i64 a,.int .i64 b] 148)).alloc (.cells #[.int .i64 c,.int .i64 d] 148)):=balloc (balloc (Below.refl _ _) _) _
 obtain⟨w0,hw0⟩:∃ w0,w0=(w.alloc (.cells #[.int .i64 a,.int .i64 b] 148)).alloc (.cells #[.int .i64 c,.int .i64 d] 148):=⟨_,rfl⟩
 have r2:rowV w0 (w.heap.size+1) 148 #[.int .i64 c,.int .i64 d]:=by rw [hw0];have:=rowV.new (w.alloc (.cells #[.int .i64 a,.int .i64 b] 148)) 148 #[.int .i64 c,.int .i64 d];simpa using this
 rw [←hw0] at g0
 by_cases h1:e1=0
 ·subst h1
  by_cases h2:e2=0
  ·subst h2
   go_enter Tryz.func115,Tryz.ntmps115
   go_wp2_with fail
   rw [←hw0]
   clear hw0
   refine (H1.out _).mono ?_
   rintro e w1 ⟨rfl,hb1⟩
   have r2:=r2.below hb1 r2.lt
   obtain⟨c1,c2⟩:=two_cellsV r2
   have b1:=g0.trans (hb1.mono g0.size)
   go_wp2_with fail
   refine (H2.out _).mono ?_
   rintro e w2 ⟨rfl,hb2⟩
   go_wp2_with fail
   go_ret
   exact⟨rfl,b1.trans (hb2.mono b1.size)⟩
  ·have q:=eq0_false h2
   rw [decide_eq_false h2]
   go_enter Tryz.func115,Tryz.ntmps115
   go_wp2_with fail
   rw [←hw0]
   clear hw0
   refine (H1.out _).mono ?_
   rintro e w1 ⟨rfl,hb1⟩
   have r2:=r2.below hb1 r2.lt
   obtain⟨c1,c2⟩:=two_cellsV r2
   have b1:=g0.trans (hb1.mono g0.size)
   go_wp2_with fail
   refine (H2.out _).mono ?_
   rintro e w2 ⟨rfl,hb2⟩
   go_wp2_with fail
   go_ret
   exact⟨rfl,b1.trans (hb2.mono b1.size)⟩
 ·have q:=eq0_false h1
  rw [decide_eq_false h1]
  go_enter Tryz.func115,Tryz.ntmps115
  go_wp2_with fail
  rw [←hw0]
  clear hw0
  refine (H1.out _).mono ?_
  rintro e w1 ⟨rfl,hb1⟩
  have b1:=g0.trans (hb1.mono g0.size)
  go_wp2_with fail
  go_ret
  exact⟨by simp,b1⟩
theorem belowRow{N:Nat}{w w1:World}{g:Nat}(h:Below N w w1)(hg:N≤g)(cs:Array Value):Below N w (w1.setRow g cs):=⟨h.1,h.2,h.3,by rw [size_setRow];exact h.4,fun i hi=>(setRow_other w1 _ i _ (by omega)).trans (h.5 i hi)⟩
theorem hI2(a b:Int):(Tryz.prog.info? 148).map (·.size)=some (#[Value.int .i64 a,.int .i64 b]:Array Value).size:=by kernel_rfl
theorem hA2(a b:Int):(#[Value.int .i64 a,.int .i64 b]:Array Value).all (·.oneCell')=true:=by simp [Value.oneCell']
theorem boxes3(w:World)(a b c d e f:Int):∃ w0,w0=((w.alloc (.cells #[.int .i64 a,.int .i64 b] 148)).alloc (.cells #[.int .i64 c,.int .i64 d] 148)).alloc (.cells #[.int .i64 e,.int .i64 f] 148)∧Below w.heap.size w w0∧rowV w0 w.heap.size 148 #[.int .i64 a,.int .i64 b]∧rowV w0 (w.heap.size+1) 148 #[.int .i64 c,.int .i64 d]∧rowV w0 (w.heap.size+1+1) 148 #[.int .i64 e,.int .i64 f]:=by
 have r1:=rowV.new w 148 #[.int .i64 a,.int .i64 b]
 have r2:=rowV.new (w.alloc (.cells #[.int .i64 a,.int .i64 b] 148)) 148 #[.int .i64 c,.int .i64 d]
 have r3:=rowV.new ((w.alloc (.cells #[.int .i64 a,.int .i64 b] 148)).alloc (.cells #[.int .i64 c,.int .i64 d] 148)) 148 #[.int .i64 e,.int .i64 f]
 have h1:=Below.refl w.heap.size w
 have h2:=balloc h1 (.cells #[.int .i64 a,.int .i64 b] 148)
 have h3:=balloc h2 (.cells #[.int .i64 c,.int .i64 d] 148)
 have k1:=balloc (Below.refl _ (w.alloc (.cells #[.int .i64 a,.int .i64 b] 148))) (.cells #[.int .i64 c,.int .i64 d] 148)
 have k2:=balloc (Below.refl _ ((w.alloc (.cells #[.int .i64 a,.int .i64 b] 148)).alloc (.cells #[.int .i64 c,.int .i64 d] 148))) (.cells #[.int .i64 e,.int .i64 f] 148)
 have e1:(w.alloc (.cells #[.int .i64 a,.int .i64 b] 148)).heap.size=w.heap.size+1:=by simp
 have e2:((w.alloc (.cells #[.int .i64 a,.int .i64 b] 148)).alloc (.cells #[.int .i64 c,.int .i64 d] 148)).heap.size=w.heap.size+1+1:=by simp
 have q1:=r1.below k1 r1.lt
 rw [e1] at r2
 rw [e2] at r3
 exact⟨_,rfl,balloc h3 _,q1.below k2 q1.lt,r2.below k2 r2.lt,r3⟩
theorem boxes2(w:World)(a b c d:Int):∃ w0,w0=(w.alloc (.cells #[.int .i64 a,.int .i64 b] 148)).alloc (.cells #[.int .i64 c,.int .i64 d] 148)∧Below w.heap.size w w0∧rowV w0 w.heap.size 148 #[.int .i64 a,.int .i64 b]∧rowV w0 (w.heap.size+1) 148 #[.int .i64 c,.int .i64 d]:=by
 have r1:=rowV.new w 148 #[.int .i64 a,.int .i64 b]
 have r2:=rowV.new (w.alloc (.cells #[.int .i64 a,.int .i64 b] 148)) 148 #[.int .i64 c,.int .i64 d]
 have k1:=balloc (Below.refl _ (w.alloc (.cells #[.int .i64 a,.int .i64 b] 148))) (.cells #[.int .i64 c,.int .i64 d] 148)
 have e1:(w.alloc (.cells #[.int .i64 a,.int .i64 b] 148)).heap.size=w.heap.size+1:=by simp
 rw [e1] at r2
 exact⟨_,rfl,balloc (balloc (Below.refl _ _) _) _,r1.below k1 r1.lt,r2⟩
theorem within_any(x y:Iv)(w:World):Calls Tryz.prog 181 #[.agg #[.int .i64 x.lo,.int .i64 x.hi],.agg #[.int .i64 y.lo,.int .i64 y.hi]] w fun e w'=>e=.returned (.bool (ivIn x y))∧Below w.heap.size w w':=by
 have hE:Hid (ivIn x y=((ivOk x && ivOk y) && decide (y.lo≤x.lo) && decide (x.hi≤y.hi))):=rfl
 obtain⟨w0,hw0,g0,r1,r2⟩:=boxes2 w x.lo x.hi y.lo y.hi
 have H:=Lib.hid (ordered_any x y w0)
 obtain⟨a,b⟩:=x
 obtain⟨c,d⟩:=y
 dsimp only at H hE hw0 r1 r2 ⊢
 have hw:=Lib.hid hw0;clear hw0
 obtain⟨o,ho⟩:∃ o,o=(ivOk ⟨a,b⟩ && ivOk ⟨c,d⟩):=⟨_,rfl⟩
 rw [←ho] at H hE
 clear ho
 cases o with
 | false=>
  go_enter Tryz.func181,Tryz.ntmps181
  go_wp2_with fail
  rw [←hw.out]
  refine H.out.mono ?_
  rintro e w1 ⟨rfl,hb1⟩
  go_wp2_with fail
  rw [hE.out]
  go_ret
  exact⟨rfl,g0.trans (hb1.mono g0.size)⟩
 | true=>
  obtain⟨p,hp⟩:∃ p,decide (c≤a)=p:=⟨_,rfl⟩
  obtain⟨q,hq⟩:∃ q,decide (b≤d)=q:=⟨_,rfl⟩
  rw [hp,hq] at hE
  cases p with
  | false=>
   go_enter Tryz.func181,Tryz.ntmps181
   go_wp2_with fail
   rw [←hw.out]
   refine H.out.mono ?_
   rintro e w1 ⟨rfl,hb1⟩
   obtain⟨c1,c2⟩:=two_cellsV (r1.below hb1 r1.lt)
   obtain⟨c3,c4⟩:=two_cellsV (r2.below hb1 r2.lt)
   go_wp2_with fail
   rw [hE.out]
   go_ret
   exact⟨rfl,g0.trans (hb1.mono g0.size)⟩
  | true=>
   go_enter Tryz.func181,Tryz.ntmps181
   go_wp2_with fail
   rw [←hw.out]
   refine H.out.mono ?_
   rintro e w1 ⟨rfl,hb1⟩
   obtain⟨c1,c2⟩:=two_cellsV (r1.below hb1 r1.lt)
   obtain⟨c3,c4⟩:=two_cellsV (r2.below hb1 r2.lt)
   go_wp2_with fail
   rw [hE.out]
   go_ret
   exact⟨by simp,g0.trans (hb1.mono g0.size)⟩
theorem join_any(x y:Iv)(w:World):Calls Tryz.prog 84 #[.agg #[.int .i64 x.lo,.int .i64 x.hi],.agg #[.int .i64 y.lo,.int .i64 y.hi]] w fun e w'=>e=.returned (.agg #[.int .i64 (ivJoin x y).lo,.int .i64 (ivJoin x y).hi])∧Below w.heap.size w w':=by
 have hE:Hid (ivJoin x y=if ivOk x && ivOk y then ⟨min x.lo y.lo,max x.hi y.hi⟩ else ⟨0,0⟩):=rfl
 obtain⟨w0,hw0,g0,r1,r2,r3⟩:=boxes3 w x.lo x.hi y.lo y.hi 0 0
 have H:=Lib.hid (ordered_any x y w0)
 obtain⟨a,b⟩:=x
 obtain⟨c,d⟩:=y
 dsimp only at H hE hw0 r1 r2 ⊢
 have hw:=Lib.hid hw0;clear hw0
 obtain⟨o,ho⟩:∃ o,o=(ivOk ⟨a,b⟩ && ivOk ⟨c,d⟩):=⟨_,rfl⟩
 rw [←ho] at H hE
 clear ho
 cases o with
 | false=>
  rw [if_neg (by decide)] at hE
  rw [hE.out]
  go_enter Tryz.func84,Tryz.ntmps84
  go_wp2_with fail
  rw [←hw.out]
  refine H.out.mono ?_
  rintro e w1 ⟨rfl,hb1⟩
  have Hr:=Lib.hid (r3.below hb1 r3.lt)
  go_wp2_with (refine wpList_store_row rfl 148 (.tmp 4) (.tmp 9) rfl _ #[.int .i64 0,.int .i64 0] rfl rfl _ _ Hr.out (hI2 _ _) rfl (hA2 _ _) ?_)
  obtain⟨c1,c2⟩:=two_cellsV (setRow_heap w1 (w.heap.size+1+1) _ #[.int .i64 0,.int .i64 0] _ _ Hr.out)
  refine bodyPost_ret (v:=.agg #[.int .i64 0,.int .i64 0]) (by simp [results,Tryz.results84,go_sem,c1,c2]) rfl ⟨rfl,belowRow (g0.trans (hb1.mono g0.size)) (by omega) _⟩
 | true=>
  rw [if_pos rfl] at hE
  rw [hE.out]
  go_enter Tryz.func84,Tryz.ntmps84
  go_wp2_with fail
  rw [←hw.out]
  refine H.out.mono ?_
  rintro e w1 ⟨rfl,hb1⟩
  obtain⟨c1,c2⟩:=two_cellsV (r1.below hb1 r1.lt)
  obtain⟨c3,c4⟩:=two_cellsV (r2.below hb1 r2.lt)
  have Hr:=Lib.hid (r3.below hb1 r3.lt)
  go_wp2_with (refine wpList_store_row rfl 148 (.tmp 4) (.tmp 20) rfl _ #[.int .i64 (min a c),.int .i64 (max b d)] rfl rfl _ _ Hr.out (hI2 _ _) rfl (hA2 _ _) ?_)
  obtain⟨c5,c6⟩:=two_cellsV (setRow_heap w1 (w.heap.size+1+1) _ #[.int .i64 (min a c),.int .i64 (max b d)] _ _ Hr.out)
  refine bodyPost_ret (v:=.agg #[.int .i64 (min a c),.int .i64 (max b d)]) (by simp [results,Tryz.results84,go_sem,c5,c6]) rfl ⟨rfl,belowRow (g0.trans (hb1.mono g0.size)) (by omega) _⟩
theorem row2_set0{w:World}{g:Nat}{t:TypeId}{a b:Value}(h:rowV w g t #[a,b])(v:Value):rowV (w.setCell ⟨g,0,none⟩ v) g t #[v,b]:=by have:=h.set 0 v;simpa using this
theorem row2_set1{w:World}{g:Nat}{t:TypeId}{a b:Value}(h:rowV w g t #[a,b])(v:Value):rowV (w.setCell ⟨g,1,none⟩ v) g t #[a,v]:=by have:=h.set 1 v;simpa using this
theorem belowCell{N:Nat}{w w1:World}{g j:Nat}(h:Below N w w1)(hg:N≤g)(v:Value):Below N w (w1.setCell ⟨g,j,none⟩ v):=⟨h.1,h.2,h.3,by simpa [World.setCell] using h.4,fun i hi=>(Below.heap_setCell w1 ⟨g,j,none⟩ v i (by show i≠g;omega)).trans (h.5 i hi)⟩
theorem ix3(W:World):(Instr.index 206 (.agg #[.int .i64 255,.int .i64 65535,.int .i64 4294967295]) (.int .i64 0)).run Tryz.prog W=.ok (.int .i64 255) W∧(Instr.index 206 (.agg #[.int .i64 255,.int .i64 65535,.int .i64 4294967295]) (.int .i64 1)).run Tryz.prog W=.ok (.int .i64 65535) W∧(Instr.index 206 (.agg #[.int .i64 255,.int .i64 65535,.int .i64 4294967295]) (.int .i64 2)).run Tryz.prog W=.ok (.int .i64 4294967295) W:=⟨by kernel_rfl,by kernel_rfl,by kernel_rfl⟩
theorem widen_any(x y:Iv)(w:World):Calls Tryz.prog 83 #[.agg #[.int .i64 x.lo,.int .i64 x.hi],.agg #[.int .i64 y.lo,.int .i64 y.hi]] w fun e w'=>e=.returned (.agg #[.int .i64 (ivWiden x y).lo,.int .i64 (ivWiden x y).hi])∧Below w.heap.size w w':=by
 have hE:Hid (ivWiden x y=if ivOk x && ivOk y then ⟨if y.lo < x.lo then 0 else x.lo,if x.hi < y.hi then (if y.hi≤255 then 255 else if y.hi≤65535 then 65535 else 4294967295) else x.hi⟩ else ⟨0,0⟩):=rfl
 obtain⟨w0,hw0,g0,r1,r2,r3⟩:=boxes3 w x.lo x.hi y.lo y.hi 0 0
 have H:=Lib.hid (ordered_any x y w0)
 obtain⟨a,b⟩:=x
 obtain⟨c,d⟩:=y
 dsimp only at H hE hw0 r1 r2 ⊢
 have hw:=Lib.hid hw0;clear hw0
 have hod:(ivOk ⟨a,b⟩ && ivOk ⟨c,d⟩)=true→d≤4294967295:=fun h=>by
  simp only [Bool.and_eq_true,ivOk_iff] at h;omega
 obtain⟨o,ho⟩:∃ o,o=(ivOk ⟨a,b⟩ && ivOk ⟨c,d⟩):=⟨_,rfl⟩
 rw [←ho] at H hE hod
 clear ho
 cases o with
 | false=>
  rw [if_neg (by decide)] at hE
  rw [hE.out]
  go_enter Tryz.func83,Tryz.ntmps83
  go_wp2_with fail
  rw [←hw.out]
  refine H.out.mono ?_
  rintro e w1 ⟨rfl,hb1⟩
  have Hr:=Lib.hid (r3.below hb1 r3.lt)
  go_wp2_with (refine wpList_store_row rfl 148 (.tmp 4) (.tmp 11) rfl _ #[.int .i64 0,.int .i64 0] rfl rfl _ _ Hr.out (hI2 _ _) rfl (hA2 _ _) ?_)
  obtain⟨c1,c2⟩:=two_cellsV (setRow_heap w1 (w.heap.size+1+1) _ #[.int .i64 0,.int .i64 0] _ _ Hr.out)
  refine bodyPost_ret (v:=.agg #[.int .i64 0,.int .i64 0]) (by simp [results,Tryz.results83,go_sem,c1,c2]) rfl ⟨rfl,belowRow (g0.trans (hb1.mono g0.size)) (by omega) _⟩
 | true=>
  rw [if_pos rfl] at hE
  have hd:=hod rfl
  clear hod
  by_cases hl:c < a
  ·skip
   have d1:decide (c < a)=true:=decide_eq_true hl
   rw [if_pos hl] at hE
   by_cases hh:b < d
   ·have d2:decide (b < d)=true:=decide_eq_true hh
    rw [if_pos hh] at hE
    by_cases h1:d≤255
    ·have d3:decide (d≤255)=true:=decide_eq_true h1
     rw [if_pos h1] at hE
     rw [hE.out]
     go_enter Tryz.func83,Tryz.ntmps83
     go_wp2_with fail
     rw [←hw.out]
     refine H.out.mono ?_
     rintro e w1 ⟨rfl,hb1⟩
     have b1:=g0.trans (hb1.mono g0.size)
     have r1:=r1.below hb1 r1.lt
     have r2:=r2.below hb1 r2.lt
     have r3:=r3.below hb1 r3.lt
     clear g0 hb1 hw H
     obtain⟨c1,c2⟩:=two_cellsV r1
     obtain⟨c3,c4⟩:=two_cellsV r2
     have f1:=frozen_rowV' r1 0
     have s1:=row2_set0 r1 (.int .i64 0)
     have s2:=r2.setFar (p:=⟨w.heap.size,0,none⟩) (by show w.heap.size+1≠w.heap.size;omega) (.int .i64 0)
     have s3:=r3.setFar (p:=⟨w.heap.size,0,none⟩) (by show w.heap.size+1+1≠w.heap.size;omega) (.int .i64 0)
     have b2:=belowCell (j:=0) b1 (Nat.le_refl _) (.int .i64 0)
     obtain⟨e1,e2⟩:=two_cellsV s1
     obtain⟨e3,e4⟩:=two_cellsV s2
     have f2:=frozen_rowV' s1 1
     have t1:=row2_set1 s1 (.int .i64 255)
     have t3:=s3.setFar (p:=⟨w.heap.size,1,none⟩) (by show w.heap.size+1+1≠w.heap.size;omega) (.int .i64 255)
     have b3:=belowCell (j:=1) b2 (Nat.le_refl _) (.int .i64 255)
     obtain⟨k1,k2⟩:=two_cellsV t1
     have Hr:=Lib.hid t3
     clear r1 r2 r3 s1 s2 s3 t3 t1
     have x0:=fun W=>(ix3 W).1;have x1:=fun W=>(ix3 W).2.1;have x2:=fun W=>(ix3 W).2.2
     go_wp2_with fail
     refine wp_loop_rounds 1 ?_
     rw [rounds_succ]
     go_wp2_with (refine wpList_store_row rfl 148 (.tmp 4) (.tmp 34) rfl _ #[.int .i64 0,.int .i64 255] rfl rfl _ _ Hr.out (hI2 _ _) rfl (hA2 _ _) ?_)
     obtain⟨z1,z2⟩:=two_cellsV (setRow_heap ((w1.setCell ⟨w.heap.size,0,none⟩ (.int .i64 0)).setCell ⟨w.heap.size,1,none⟩ (.int .i64 255)) (w.heap.size+1+1) _ #[.int .i64 0,.int .i64 255] _ _ Hr.out)
     refine bodyPost_ret (v:=.agg #[.int .i64 0,.int .i64 255]) (by simp [results,Tryz.results83,go_sem,z1,z2]) rfl ⟨rfl,belowRow b3 (by omega) _⟩
    ·have d3:decide (d≤255)=false:=decide_eq_false h1
     rw [if_neg h1] at hE
     by_cases h2:d≤65535
     ·have d4:decide (d≤65535)=true:=decide_eq_true h2
      rw [if_pos h2] at hE
      rw [hE.out]
      go_enter Tryz.func83,Tryz.ntmps83
      go_wp2_with fail
      rw [←hw.out]
      refine H.out.mono ?_
      rintro e w1 ⟨rfl,hb1⟩
      have b1:=g0.trans (hb1.mono g0.size)
      have r1:=r1.below hb1 r1.lt
      have r2:=r2.below hb1 r2.lt
      have r3:=r3.below hb1 r3.lt
      clear g0 hb1 hw H
      obtain⟨c1,c2⟩:=two_cellsV r1
      obtain⟨c3,c4⟩:=two_cellsV r2
      have f1:=frozen_rowV' r1 0
      have s1:=row2_set0 r1 (.int .i64 0)
      have s2:=r2.setFar (p:=⟨w.heap.size,0,none⟩) (by show w.heap.size+1≠w.heap.size;omega) (.int .i64 0)
      have s3:=r3.setFar (p:=⟨w.heap.size,0,none⟩) (by show w.heap.size+1+1≠w.heap.size;omega) (.int .i64 0)
      have b2:=belowCell (j:=0) b1 (Nat.le_refl _) (.int .i64 0)
      obtain⟨e1,e2⟩:=two_cellsV s1
      obtain⟨e3,e4⟩:=two_cellsV s2
      have f2:=frozen_rowV' s1 1
      have t1:=row2_set1 s1 (.int .i64 65535)
      have t3:=s3.setFar (p:=⟨w.heap.size,1,none⟩) (by show w.heap.size+1+1≠w.heap.size;omega) (.int .i64 65535)
      have b3:=belowCell (j:=1) b2 (Nat.le_refl _) (.int .i64 65535)
      obtain⟨k1,k2⟩:=two_cellsV t1
      have Hr:=Lib.hid t3
      clear r1 r2 r3 s1 s2 s3 t3 t1
      have x0:=fun W=>(ix3 W).1;have x1:=fun W=>(ix3 W).2.1;have x2:=fun W=>(ix3 W).2.2
      go_wp2_with fail
      refine wp_loop_rounds 2 ?_
      rw [rounds_succ]
      go_wp2_with fail
      rw [rounds_succ]
      go_wp2_with (refine wpList_store_row rfl 148 (.tmp 4) (.tmp 34) rfl _ #[.int .i64 0,.int .i64 65535] rfl rfl _ _ Hr.out (hI2 _ _) rfl (hA2 _ _) ?_)
      obtain⟨z1,z2⟩:=two_cellsV (setRow_heap ((w1.setCell ⟨w.heap.size,0,none⟩ (.int .i64 0)).setCell ⟨w.heap.size,1,none⟩ (.int .i64 65535)) (w.heap.size+1+1) _ #[.int .i64 0,.int .i64 65535] _ _ Hr.out)
      refine bodyPost_ret (v:=.agg #[.int .i64 0,.int .i64 65535]) (by simp [results,Tryz.results83,go_sem,z1,z2]) rfl ⟨rfl,belowRow b3 (by omega) _⟩
     ·have d4:decide (d≤65535)=false:=decide_eq_false h2
      have d5:decide (d≤4294967295)=true:=decide_eq_true hd
      rw [if_neg h2] at hE
      rw [hE.out]
      go_enter Tryz.func83,Tryz.ntmps83
      go_wp2_with fail
      rw [←hw.out]
      refine H.out.mono ?_
      rintro e w1 ⟨rfl,hb1⟩
      have b1:=g0.trans (hb1.mono g0.size)
      have r1:=r1.below hb1 r1.lt
      have r2:=r2.below hb1 r2.lt
      have r3:=r3.below hb1 r3.lt
      clear g0 hb1 hw H
      obtain⟨c1,c2⟩:=two_cellsV r1
      obtain⟨c3,c4⟩:=two_cellsV r2
      have f1:=frozen_rowV' r1 0
      have s1:=row2_set0 r1 (.int .i64 0)
      have s2:=r2.setFar (p:=⟨w.heap.size,0,none⟩) (by show w.heap.size+1≠w.heap.size;omega) (.int .i64 0)
      have s3:=r3.setFar (p:=⟨w.heap.size,0,none⟩) (by show w.heap.size+1+1≠w.heap.size;omega) (.int .i64 0)
      have b2:=belowCell (j:=0) b1 (Nat.le_refl _) (.int .i64 0)
      obtain⟨e1,e2⟩:=two_cellsV s1
      obtain⟨e3,e4⟩:=two_cellsV s2
      have f2:=frozen_rowV' s1 1
      have t1:=row2_set1 s1 (.int .i64 4294967295)
      have t3:=s3.setFar (p:=⟨w.heap.size,1,none⟩) (by show w.heap.size+1+1≠w.heap.size;omega) (.int .i64 4294967295)
      have b3:=belowCell (j:=1) b2 (Nat.le_refl _) (.int .i64 4294967295)
      obtain⟨k1,k2⟩:=two_cellsV t1
      have Hr:=Lib.hid t3
      clear r1 r2 r3 s1 s2 s3 t3 t1
      have x0:=fun W=>(ix3 W).1;have x1:=fun W=>(ix3 W).2.1;have x2:=fun W=>(ix3 W).2.2
      go_wp2_with fail
      refine wp_loop_rounds 3 ?_
      rw [rounds_succ]
      go_wp2_with fail
      rw [rounds_succ]
      go_wp2_with fail
      rw [rounds_succ]
      go_wp2_with (refine wpList_store_row rfl 148 (.tmp 4) (.tmp 34) rfl _ #[.int .i64 0,.int .i64 4294967295] rfl rfl _ _ Hr.out (hI2 _ _) rfl (hA2 _ _) ?_)
      obtain⟨z1,z2⟩:=two_cellsV (setRow_heap ((w1.setCell ⟨w.heap.size,0,none⟩ (.int .i64 0)).setCell ⟨w.heap.size,1,none⟩ (.int .i64 4294967295)) (w.heap.size+1+1) _ #[.int .i64 0,.int .i64 4294967295] _ _ Hr.out)
      refine bodyPost_ret (v:=.agg #[.int .i64 0,.int .i64 4294967295]) (by simp [results,Tryz.results83,go_sem,z1,z2]) rfl ⟨rfl,belowRow b3 (by omega) _⟩
   ·have d2:decide (b < d)=false:=decide_eq_false hh
    rw [if_neg hh] at hE
    rw [hE.out]
    go_enter Tryz.func83,Tryz.ntmps83
    go_wp2_with fail
    rw [←hw.out]
    refine H.out.mono ?_
    rintro e w1 ⟨rfl,hb1⟩
    have b1:=g0.trans (hb1.mono g0.size)
    have r1:=r1.below hb1 r1.lt
    have r2:=r2.below hb1 r2.lt
    have r3:=r3.below hb1 r3.lt
    clear g0 hb1 hw H
    obtain⟨c1,c2⟩:=two_cellsV r1
    obtain⟨c3,c4⟩:=two_cellsV r2
    have f1:=frozen_rowV' r1 0
    have s1:=row2_set0 r1 (.int .i64 0)
    have s2:=r2.setFar (p:=⟨w.heap.size,0,none⟩) (by show w.heap.size+1≠w.heap.size;omega) (.int .i64 0)
    have s3:=r3.setFar (p:=⟨w.heap.size,0,none⟩) (by show w.heap.size+1+1≠w.heap.size;omega) (.int .i64 0)
    have b2:=belowCell (j:=0) b1 (Nat.le_refl _) (.int .i64 0)
    obtain⟨e1,e2⟩:=two_cellsV s1
    obtain⟨e3,e4⟩:=two_cellsV s2
    have t3:=s3
    have b3:=b2
    have Hr:=Lib.hid t3
    clear r1 r2 r3 s1 s2 s3 t3
    go_wp2_with (refine wpList_store_row rfl 148 (.tmp 4) (.tmp 34) rfl _ #[.int .i64 0,.int .i64 b] rfl rfl _ _ Hr.out (hI2 _ _) rfl (hA2 _ _) ?_)
    obtain⟨z1,z2⟩:=two_cellsV (setRow_heap (w1.setCell ⟨w.heap.size,0,none⟩ (.int .i64 0)) (w.heap.size+1+1) _ #[.int .i64 0,.int .i64 b] _ _ Hr.out)
    refine bodyPost_ret (v:=.agg #[.int .i64 0,.int .i64 b]) (by simp [results,Tryz.results83,go_sem,z1,z2]) rfl ⟨rfl,belowRow b3 (by omega) _⟩
  ·skip
   have d1:decide (c < a)=false:=decide_eq_false hl
   rw [if_neg hl] at hE
   by_cases hh:b < d
   ·have d2:decide (b < d)=true:=decide_eq_true hh
    rw [if_pos hh] at hE
    by_cases h1:d≤255
    ·have d3:decide (d≤255)=true:=decide_eq_true h1
     rw [if_pos h1] at hE
     rw [hE.out]
     go_enter Tryz.func83,Tryz.ntmps83
     go_wp2_with fail
     rw [←hw.out]
     refine H.out.mono ?_
     rintro e w1 ⟨rfl,hb1⟩
     have b1:=g0.trans (hb1.mono g0.size)
     have r1:=r1.below hb1 r1.lt
     have r2:=r2.below hb1 r2.lt
     have r3:=r3.below hb1 r3.lt
     clear g0 hb1 hw H
     obtain⟨c1,c2⟩:=two_cellsV r1
     obtain⟨c3,c4⟩:=two_cellsV r2
     have s1:=r1
     have s2:=r2
     have s3:=r3
     have b2:=b1
     have f2:=frozen_rowV' s1 1
     have t1:=row2_set1 s1 (.int .i64 255)
     have t3:=s3.setFar (p:=⟨w.heap.size,1,none⟩) (by show w.heap.size+1+1≠w.heap.size;omega) (.int .i64 255)
     have b3:=belowCell (j:=1) b2 (Nat.le_refl _) (.int .i64 255)
     obtain⟨k1,k2⟩:=two_cellsV t1
     have Hr:=Lib.hid t3
     clear r1 r2 r3 s1 s2 s3 t3 t1
     have x0:=fun W=>(ix3 W).1;have x1:=fun W=>(ix3 W).2.1;have x2:=fun W=>(ix3 W).2.2
     go_wp2_with fail
     refine wp_loop_rounds 1 ?_
     rw [rounds_succ]
     go_wp2_with (refine wpList_store_row rfl 148 (.tmp 4) (.tmp 34) rfl _ #[.int .i64 a,.int .i64 255] rfl rfl _ _ Hr.out (hI2 _ _) rfl (hA2 _ _) ?_)
     obtain⟨z1,z2⟩:=two_cellsV (setRow_heap (w1.setCell ⟨w.heap.size,1,none⟩ (.int .i64 255)) (w.heap.size+1+1) _ #[.int .i64 a,.int .i64 255] _ _ Hr.out)
     refine bodyPost_ret (v:=.agg #[.int .i64 a,.int .i64 255]) (by simp [results,Tryz.results83,go_sem,z1,z2]) rfl ⟨rfl,belowRow b3 (by omega) _⟩
    ·have d3:decide (d≤255)=false:=decide_eq_false h1
     rw [if_neg h1] at hE
     by_cases h2:d≤65535
     ·have d4:decide (d≤65535)=true:=decide_eq_true h2
      rw [if_pos h2] at hE
      rw [hE.out]
      go_enter Tryz.func83,Tryz.ntmps83
      go_wp2_with fail
      rw [←hw.out]
      refine H.out.mono ?_
      rintro e w1 ⟨rfl,hb1⟩
      have b1:=g0.trans (hb1.mono g0.size)
      have r1:=r1.below hb1 r1.lt
      have r2:=r2.below hb1 r2.lt
      have r3:=r3.below hb1 r3.lt
      clear g0 hb1 hw H
      obtain⟨c1,c2⟩:=two_cellsV r1
      obtain⟨c3,c4⟩:=two_cellsV r2
      have s1:=r1
      have s2:=r2
      have s3:=r3
      have b2:=b1
      have f2:=frozen_rowV' s1 1
      have t1:=row2_set1 s1 (.int .i64 65535)
      have t3:=s3.setFar (p:=⟨w.heap.size,1,none⟩) (by show w.heap.size+1+1≠w.heap.size;omega) (.int .i64 65535)
      have b3:=belowCell (j:=1) b2 (Nat.le_refl _) (.int .i64 65535)
      obtain⟨k1,k2⟩:=two_cellsV t1
      have Hr:=Lib.hid t3
      clear r1 r2 r3 s1 s2 s3 t3 t1
      have x0:=fun W=>(ix3 W).1;have x1:=fun W=>(ix3 W).2.1;have x2:=fun W=>(ix3 W).2.2
      go_wp2_with fail
      refine wp_loop_rounds 2 ?_
      rw [rounds_succ]
      go_wp2_with fail
      rw [rounds_succ]
      go_wp2_with (refine wpList_store_row rfl 148 (.tmp 4) (.tmp 34) rfl _ #[.int .i64 a,.int .i64 65535] rfl rfl _ _ Hr.out (hI2 _ _) rfl (hA2 _ _) ?_)
      obtain⟨z1,z2⟩:=two_cellsV (setRow_heap (w1.setCell ⟨w.heap.size,1,none⟩ (.int .i64 65535)) (w.heap.size+1+1) _ #[.int .i64 a,.int .i64 65535] _ _ Hr.out)
      refine bodyPost_ret (v:=.agg #[.int .i64 a,.int .i64 65535]) (by simp [results,Tryz.results83,go_sem,z1,z2]) rfl ⟨rfl,belowRow b3 (by omega) _⟩
     ·have d4:decide (d≤65535)=false:=decide_eq_false h2
      have d5:decide (d≤4294967295)=true:=decide_eq_true hd
      rw [if_neg h2] at hE
      rw [hE.out]
      go_enter Tryz.func83,Tryz.ntmps83
      go_wp2_with fail
      rw [←hw.out]
      refine H.out.mono ?_
      rintro e w1 ⟨rfl,hb1⟩
      have b1:=g0.trans (hb1.mono g0.size)
      have r1:=r1.below hb1 r1.lt
      have r2:=r2.below hb1 r2.lt
      have r3:=r3.below hb1 r3.lt
      clear g0 hb1 hw H
      obtain⟨c1,c2⟩:=two_cellsV r1
      obtain⟨c3,c4⟩:=two_cellsV r2
      have s1:=r1
      have s2:=r2
      have s3:=r3
      have b2:=b1
      have f2:=frozen_rowV' s1 1
      have t1:=row2_set1 s1 (.int .i64 4294967295)
      have t3:=s3.setFar (p:=⟨w.heap.size,1,none⟩) (by show w.heap.size+1+1≠w.heap.size;omega) (.int .i64 4294967295)
      have b3:=belowCell (j:=1) b2 (Nat.le_refl _) (.int .i64 4294967295)
      obtain⟨k1,k2⟩:=two_cellsV t1
      have Hr:=Lib.hid t3
      clear r1 r2 r3 s1 s2 s3 t3 t1
      have x0:=fun W=>(ix3 W).1;have x1:=fun W=>(ix3 W).2.1;have x2:=fun W=>(ix3 W).2.2
      go_wp2_with fail
      refine wp_loop_rounds 3 ?_
      rw [rounds_succ]
      go_wp2_with fail
      rw [rounds_succ]
      go_wp2_with fail
      rw [rounds_succ]
      go_wp2_with (refine wpList_store_row rfl 148 (.tmp 4) (.tmp 34) rfl _ #[.int .i64 a,.int .i64 4294967295] rfl rfl _ _ Hr.out (hI2 _ _) rfl (hA2 _ _) ?_)
      obtain⟨z1,z2⟩:=two_cellsV (setRow_heap (w1.setCell ⟨w.heap.size,1,none⟩ (.int .i64 4294967295)) (w.heap.size+1+1) _ #[.int .i64 a,.int .i64 4294967295] _ _ Hr.out)
      refine bodyPost_ret (v:=.agg #[.int .i64 a,.int .i64 4294967295]) (by simp [results,Tryz.results83,go_sem,z1,z2]) rfl ⟨rfl,belowRow b3 (by omega) _⟩
   ·have d2:decide (b < d)=false:=decide_eq_false hh
    rw [if_neg hh] at hE
    rw [hE.out]
    go_enter Tryz.func83,Tryz.ntmps83
    go_wp2_with fail
    rw [←hw.out]
    refine H.out.mono ?_
    rintro e w1 ⟨rfl,hb1⟩
    have b1:=g0.trans (hb1.mono g0.size)
    have r1:=r1.below hb1 r1.lt
    have r2:=r2.below hb1 r2.lt
    have r3:=r3.below hb1 r3.lt
    clear g0 hb1 hw H
    obtain⟨c1,c2⟩:=two_cellsV r1
    obtain⟨c3,c4⟩:=two_cellsV r2
    have s1:=r1
    have s2:=r2
    have s3:=r3
    have b2:=b1
    have t3:=s3
    have b3:=b2
    have Hr:=Lib.hid t3
    clear r1 r2 r3 s1 s2 s3 t3
    go_wp2_with (refine wpList_store_row rfl 148 (.tmp 4) (.tmp 34) rfl _ #[.int .i64 a,.int .i64 b] rfl rfl _ _ Hr.out (hI2 _ _) rfl (hA2 _ _) ?_)
    obtain⟨z1,z2⟩:=two_cellsV (setRow_heap w1 (w.heap.size+1+1) _ #[.int .i64 a,.int .i64 b] _ _ Hr.out)
    refine bodyPost_ret (v:=.agg #[.int .i64 a,.int .i64 b]) (by simp [results,Tryz.results83,go_sem,z1,z2]) rfl ⟨rfl,belowRow b3 (by omega) _⟩
end Go.Proofs.YtpaplehcafeeaaaGreatDoor
