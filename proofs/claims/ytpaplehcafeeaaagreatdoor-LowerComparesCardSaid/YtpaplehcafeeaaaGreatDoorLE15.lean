/- Ap Aq Ar. -/
import Derived.Test.YtpaplehcafeeaaaGreatDoorLE13
import Derived.Test.YtpaplehcafeeaaaGreatDoorLE14
import Derived.WideMake
import Derived.Test.YtpaplehcafeeaaaGreatDoorLE08
set_option maxRecDepth 100000
set_option maxHeartbeats 40000000
set_option linter.unusedVariables false
set_option linter.unusedSimpArgs false
namespace Go.Proofs.YtpaplehcafeeaaaGreatDoor
open Go.RowKit Go.Proofs
def declEs(c g:Nat):Array MapEntry:=#[
 { key:=.string ⟨#[98,121,116,101,115]⟩,val:=.func (.func 153) #[] #[.pointer (some ⟨c,0,none⟩)],born:=0 },
 { key:=.string ⟨#[119,111,114,100,115]⟩,val:=.func (.func 155) #[] #[.pointer (some ⟨c,0,none⟩)],born:=1 },
 { key:=.string ⟨#[108,111,99,97,108]⟩,val:=.func (.func 156) #[.pointer (some ⟨g,0,none⟩)] #[],born:=2 },
 { key:=.string ⟨#[99,111,110,115,116]⟩,val:=.func (.func 157) #[.pointer (some ⟨g,0,none⟩)] #[],born:=3 }]
def DeclM(w:World)(m c g:Nat):Prop:=w.heap[m]?=some (.map (declEs c g) 4)∧rowV w c 167 #[.pointer (some ⟨g,0,none⟩)]
theorem mapset_step{P:Program}{W:World}{mty kt et:TypeId}{b clock:Nat}{es:Array MapEntry}{s:ByteArray}{v:Value}(hm:P.underlying mty=some (.map kt et))(hk:P.underlying kt=some .string)
  (hb:W.heap[b]?=some (.map es clock)) (hf:Instr.findNow .string (.string s) es.toList 0=some none) :
  ∃ W',(Instr.mapUpdate mty (.map (some b)) (.string s) v).run P W=.ok () W'∧W'.heap[b]?=some (.map (es.push { key:=.string s,val:=v,born:=clock }) (clock+1))∧(∀ k,k≠b→W'.heap[k]?=W.heap[k]?)∧(∀ B,B≤b→Below B W W'):=by
 refine⟨_,run_mapset_new hm hk hb hf,?_,fun k hk=>?_,fun B hB=>⟨rfl,rfl,rfl,by simp,fun k hk=>?_⟩⟩
 ·have hlt:b < W.heap.size:=(Array.getElem?_eq_some_iff.1 hb).1
  simp [Array.getElem?_setIfInBounds,hlt]
 ·simp [Array.getElem?_setIfInBounds,Ne.symm hk]
 ·have:b≠k:=by omega
  simp [Array.getElem?_setIfInBounds,this]
theorem uM:Tryz.prog.underlying 211=some (.map 9 1):=by kernel_rfl
theorem declarations_at(g:Nat)(w:World):Calls Tryz.prog 118 #[.pointer (some ⟨g,0,none⟩)] w fun e w'=>e=.returned (.map (some (w.heap.size+1)))∧DeclM w' (w.heap.size+1) w.heap.size g∧Below w.heap.size w w':=by
 have hmk:∀ W:World,(Instr.makeMap 211 none).run Tryz.prog W=.ok (.map (some W.heap.size)) (W.alloc (.map #[] 0)):=fun W=>run_makeMap_plain W _
 obtain⟨W0,hW0⟩:∃ W0,W0=(w.alloc (.cells #[.pointer (some ⟨g,0,none⟩)] 167)).alloc (.map #[] 0):=⟨_,rfl⟩
 have h0:W0.heap[w.heap.size+1]?=some (.map #[] 0):=by
  have:=heap_alloc_new (w.alloc (.cells #[.pointer (some ⟨g,0,none⟩)] 167)) (.map #[] 0)
  rw [←hW0] at this
  simpa using this
 have r0:rowV W0 w.heap.size 167 #[.pointer (some ⟨g,0,none⟩)]:=by
  rw [hW0]
  exact (rowV.new w 167 #[.pointer (some ⟨g,0,none⟩)]).below (balloc (Below.refl _ _) _) (rowV.new w _ _).lt
 have b0:Below w.heap.size w W0:=by rw [hW0];exact balloc (balloc (Below.refl _ _) _) _
 obtain⟨W1,e1,h1,k1,b1⟩:=mapset_step (P:=Tryz.prog) (mty:=211) (s:=⟨#[98,121,116,101,115]⟩) (v:=.func (.func 153) #[] #[.pointer (some ⟨w.heap.size,0,none⟩)]) uM uS h0 rfl
 obtain⟨W2,e2,h2,k2,b2⟩:=mapset_step (P:=Tryz.prog) (mty:=211) (s:=⟨#[119,111,114,100,115]⟩) (v:=.func (.func 155) #[] #[.pointer (some ⟨w.heap.size,0,none⟩)]) uM uS h1 (by rfl)
 obtain⟨W3,e3,h3,k3,b3⟩:=mapset_step (P:=Tryz.prog) (mty:=211) (s:=⟨#[108,111,99,97,108]⟩) (v:=.func (.func 156) #[.pointer (some ⟨g,0,none⟩)] #[]) uM uS h2 (by rfl)
 obtain⟨W4,e4,h4,k4,b4⟩:=mapset_step (P:=Tryz.prog) (mty:=211) (s:=⟨#[99,111,110,115,116]⟩) (v:=.func (.func 157) #[.pointer (some ⟨g,0,none⟩)] #[]) uM uS h3 (by rfl)
 have hc:∀ {X Y:World},(∀ k,k≠w.heap.size+1→Y.heap[k]?=X.heap[k]?)→rowV X w.heap.size 167 #[.pointer (some ⟨g,0,none⟩)]→rowV Y w.heap.size 167 #[.pointer (some ⟨g,0,none⟩)]:=fun h r=>(h _ (by omega)).trans r
 have q1:=hc k1 r0
 have q2:=hc k2 q1
 have q3:=hc k3 q2
 have q4:=hc k4 q3
 have cell:∀ {X:World},rowV X w.heap.size 167 #[.pointer (some ⟨g,0,none⟩)]→X.cell? ⟨w.heap.size,0,none⟩=some (.pointer (some ⟨g,0,none⟩)):=fun h=>by
  unfold rowV at h
  simp [World.cell?,h]
 have c2:=cell q2
 have c3:=cell q3
 have bb:Below w.heap.size w W4:=b0.trans ((b1 _ (by omega)).trans ((b2 _ (by omega)).trans ((b3 _ (by omega)).trans (b4 _ (by omega)))))
 have HD:Hid (DeclM W4 (w.heap.size+1) w.heap.size g∧Below w.heap.size w W4):=⟨⟨h4,q4⟩,bb⟩
 rw [hW0] at e1
 clear hW0 h0 r0 b0 h1 k1 b1 h2 k2 b2 h3 k3 b3 h4 k4 b4 q1 q2 q3 q4 bb hc cell
 go_enter Tryz.func118,Tryz.ntmps118
 go_wp2_with fail
 go_ret
 exact⟨rfl,HD.out.1,HD.out.2⟩
theorem declarations_any(g:Nat)(w:World):Calls Tryz.prog 118 #[.pointer (some ⟨g,0,none⟩)] w fun e w'=>∃ m c,e=.returned (.map (some m))∧DeclM w' m c g∧Below w.heap.size w w':=by
 refine (declarations_at g w).mono ?_
 rintro e w' ⟨rfl,h1,h2⟩
 exact⟨_,_,rfl,h1,h2⟩
def declB(x:List UInt8):Bool:=declL4.contains x
theorem sameS(x y:List UInt8):Instr.sameNow .string (.string (strB x)) (.string (strB y))=some (decide (x=y)):=by
 show some (strB x==strB y)=_
 congr 1
 have e:(strB x==strB y)=(x.toArray==y.toArray):=rfl
 rw [e]
 by_cases h:x=y
 ·rw [decide_eq_true h,h];exact beq_self_eq_true _
 ·rw [decide_eq_false h]
  exact beq_eq_false_iff_ne.2 (fun e=>h (by simpa using e))
theorem findNow_cons(x y:List UInt8)(v:Value)(b:Nat)(es:List MapEntry)(i:Nat):Instr.findNow .string (.string (strB x)) ({ key:=.string (strB y),val:=v,born:=b } :: es) i=if x=y then some (some (i,v)) else Instr.findNow .string (.string (strB x)) es (i+1):=by
 rw [Instr.findNow,sameS]
 by_cases h:x=y
 ·rw [decide_eq_true h,if_pos h]
 ·rw [decide_eq_false h,if_neg h]
theorem decl_find(x:List UInt8)(c g:Nat):Instr.findNow .string (.string (strB x)) (declEs c g).toList 0 =
  if x=[98,121,116,101,115] then some (some (0,.func (.func 153) #[] #[.pointer (some ⟨c,0,none⟩)]))
  else if x=[119,111,114,100,115] then some (some (1,.func (.func 155) #[] #[.pointer (some ⟨c,0,none⟩)]))
  else if x=[108,111,99,97,108] then some (some (2,.func (.func 156) #[.pointer (some ⟨g,0,none⟩)] #[]))
  else if x=[99,111,110,115,116] then some (some (3,.func (.func 157) #[.pointer (some ⟨g,0,none⟩)] #[]))
  else some none:=by
 show Instr.findNow .string (.string (strB x)) [{ key:=.string (strB [98,121,116,101,115]),val:=_,born:=0 },{ key:=.string (strB [119,111,114,100,115]),val:=_,born:=1 },{ key:=.string (strB [108,111,99,97,108]),val:=_,born:=2 },{ key:=.string (strB [99,111,110,115,116]),val:=_,born:=3 }] 0=_
 rw [findNow_cons,findNow_cons,findNow_cons,findNow_cons]
 rfl
theorem zM(W:World):(zeroValue 1).run Tryz.prog W=.ok .nilFunc W:=by kernel_rfl
end Go.Proofs.YtpaplehcafeeaaaGreatDoor
namespace Go.Proofs.YtpaplehcafeeaaaGreatDoor
open Go.RowKit Go.Proofs
theorem cell_rowV{w:World}{g:Nat}{t:TypeId}{cs:Array Value}(h:rowV w g t cs){j:Nat}{v:Value}(hj:cs[j]?=some v):w.cell? ⟨g,j,none⟩=some v:=by
 unfold rowV at h
 simp [World.cell?,h,hj]
def wdV(x:Wd):Value:=.agg #[.string (strB x.1),.int .i64 (x.2:Int)]
def NxW(B g n:Nat)(v2 v3 v4 v5 v6 v7:Value)(ws:List Wd)(w w':World):Prop:=∃ A k c,k≤9000∧rowV w' g 174 (rdC A k c n v2 v3 v4 v5 v6 v7)∧WordsM B w' A k c ws∧w.grownBy w' (some g)
def FailsB(B:Nat)(w:World)(at_ e:Int)(en:Ending)(w':World):Prop:=en=.panicked [{ v:=failV at_ e,recovered:=false }]∧Below B w w'
theorem grownBy.setNew{w X:World}{row:Option Nat}(h:w.grownBy X row){p:Addr}(hp:w.heap.size≤p.block)(v:Value):w.grownBy (X.setCell p v) row:=
 ⟨h.os,h.tape,h.output,by simpa [World.setCell] using h.size,fun k hk hr=>(Below.heap_setCell X p v k (by omega)).trans (h.block k hk hr)⟩
theorem grownBy.below'{w X Y:World}{row:Option Nat}(h:w.grownBy X row)(hb:Below X.heap.size X Y):w.grownBy Y row:=
 ⟨hb.os.trans h.os,hb.tape.trans h.tape,hb.output.trans h.output,Nat.le_trans h.size hb.size,fun k hk hr=>(hb.block k (Nat.lt_of_lt_of_le hk h.size)).trans (h.block k hk hr)⟩
theorem Below.ofGrown{B g:Nat}{w X:World}(h:w.grownBy X (some g))(hB:B≤g)(hs:B≤w.heap.size):Below B w X:=
 ⟨h.os,h.tape,h.output,h.size,fun k hk=>h.block k (by omega) (fun e=>by injection e with e;omega)⟩
theorem rowV.setFar{w:World}{g:Nat}{t:TypeId}{cs:Array Value}(h:rowV w g t cs){p:Addr}(hp:g≠p.block)(v:Value):rowV (w.setCell p v) g t cs:=(Below.heap_setCell w p v g hp).trans h
theorem WordsM.setFar{B:Nat}{w:World}{A:Option Addr}{n c:Nat}{l:List Wd}(h:WordsM B w A n c l){p:Addr}(hp:B≤p.block)(v:Value):WordsM B (w.setCell p v) A n c l:=
 h.below ⟨rfl,rfl,rfl,by simp [World.setCell],fun k hk=>Below.heap_setCell w p v k (by omega)⟩
def lettS:List UInt8:=[97,98,99,100,101,102,103,104,105,106,107,108,109,110,111,112,113,114,115,116,117,118,119,120,121,122]
def nameS:List UInt8:=[97,98,99,100,101,102,103,104,105,106,107,108,109,110,111,112,113,114,115,116,117,118,119,120,121,122,48,49,50,51,52,53,54,55,56,57,95]
theorem lettS_iff(b:UInt8):lettS.contains b=(97≤b && b≤122):=by
 have:∀ c:Fin 256,lettS.contains (UInt8.ofNat c.val)=(97≤(UInt8.ofNat c.val) && (UInt8.ofNat c.val)≤122:Bool):=by decide +kernel
 have:=this ⟨b.toNat,b.toNat_lt⟩
 simpa using this
theorem nameS_iff(b:UInt8):nameS.contains b=nameChar b:=by
 have:∀ c:Fin 256,nameS.contains (UInt8.ofNat c.val)=nameChar (UInt8.ofNat c.val):=by decide +kernel
 have:=this ⟨b.toNat,b.toNat_lt⟩
 simpa using this
theorem nameL_eq{x:List UInt8}(h0:0 < x.length):nameL x=(decide (x.length≤32) && onlyL (x.take 1) lettS && onlyL x nameS && !(declB x) && !(findL x).isSome):=by
 unfold nameL declB onlyL
 rw [show x.all nameChar=x.all (fun b=>nameS.contains b) from by congr 1;funext b;exact (nameS_iff b).symm]
 cases x with
 | nil=>simp at h0
 | cons b t=>
  simp only [List.head?_cons,List.take_succ_cons,List.take_zero,List.all_cons,List.all_nil,Bool.and_true]
  rw [lettS_iff b]
  have:decide (1≤(b :: t).length∧(b :: t).length≤32)=decide ((b :: t).length≤32):=by
   apply decide_eq_decide.2;simp
  rw [this]
  cases findL (b :: t) <;> simp
theorem nameL_nil:nameL []=false:=rfl
theorem decl_look{w:World}{m c g:Nat}(h:DeclM w m c g)(x:List UInt8):∃ v,∀ q,(Instr.lookup 211 (.map (some m)) (.string (strB x)) true).run Tryz.prog (w.drewN q)=.ok (.tuple #[v,.bool (declB x)]) (w.drewN q):=by
 have hf:=decl_find x c g
 have hd:declB x=decide (x=[98,121,116,101,115]∨x=[119,111,114,100,115]∨x=[108,111,99,97,108]∨x=[99,111,110,115,116]):=by
  unfold declB declL4
  simp [Bool.decide_or]
 rw [hd]
 by_cases h1:x=[98,121,116,101,115]
 ·rw [if_pos h1] at hf
  exact⟨_,fun q=>by rw [decide_eq_true (.inl h1)];exact run_mapget_hit uM uS h.1 hf _ ⟨q,rfl⟩⟩
 rw [if_neg h1] at hf
 by_cases h2:x=[119,111,114,100,115]
 ·rw [if_pos h2] at hf
  exact⟨_,fun q=>by rw [decide_eq_true (.inr (.inl h2))];exact run_mapget_hit uM uS h.1 hf _ ⟨q,rfl⟩⟩
 rw [if_neg h2] at hf
 by_cases h3:x=[108,111,99,97,108]
 ·rw [if_pos h3] at hf
  exact⟨_,fun q=>by rw [decide_eq_true (.inr (.inr (.inl h3)))];exact run_mapget_hit uM uS h.1 hf _ ⟨q,rfl⟩⟩
 rw [if_neg h3] at hf
 by_cases h4:x=[99,111,110,115,116]
 ·rw [if_pos h4] at hf
  exact⟨_,fun q=>by rw [decide_eq_true (.inr (.inr (.inr h4)))];exact run_mapget_hit uM uS h.1 hf _ ⟨q,rfl⟩⟩
 rw [if_neg h4] at hf
 exact⟨_,fun q=>by rw [decide_eq_false (by simp [h1,h2,h3,h4])];exact run_mapget_miss uM uS zM h.1 hf _ ⟨q,rfl⟩⟩
theorem decl_look'{w:World}{m c g:Nat}(h:DeclM w m c g)(x:List UInt8):∃ v,(Instr.lookup 211 (.map (some m)) (.string (strB x)) true).run Tryz.prog w=.ok (.tuple #[v,.bool (declB x)]) w:=by
 obtain⟨v,hv⟩:=decl_look h x
 exact⟨v,hv 0⟩
end Go.Proofs.YtpaplehcafeeaaaGreatDoor
namespace Go.Proofs.YtpaplehcafeeaaaGreatDoor
open Go.RowKit Go.Proofs
theorem next_len{B:Nat}{w:World}{A:Option Addr}{k c n:Nat}{ws:List Wd}(h:WordsM B w A k c ws):(nextW n ws).1.length≤9000:=by
 cases ws with
 | nil=>exact Nat.zero_le _
 | cons x t=>exact (h.2.2.1 x (by simp)).1
theorem name_good(B g:Nat)(A:Option Addr)(k c n:Nat)(v2 v3 v4 v5 v6 v7:Value)(ws:List Wd)(w:World)(hr:rowV w g 174 (rdC A k c n v2 v3 v4 v5 v6 v7))(hw:WordsM B w A k c ws)(hk:k≤9000)(hB:B≤g)
  (x:List UInt8) (z:Nat) (hx:nextW n ws=(x,z)) (hlen:x.length≤9000) (h0:0 < x.length) (h32:x.length≤32) (ho1:onlyL (x.take 1) lettS=true) (ho2:onlyL x nameS=true) (hd:declB x=false) (hf:(findL x).isSome=false) :
  Calls Tryz.prog 192 #[.pointer (some ⟨g,0,none⟩)] w fun e w'=>e=.returned (wdV (x,z))∧NxW B g n v2 v3 v4 v5 v6 v7 ws.tail w w':=by
 have hgl:=hr.lt
 have rz0:=rowV.new w 214 #[.string ⟨#[]⟩,.int .i64 0]
 have hzg:w.heap.size≠g:=by omega
 have hr0:=hr.below (balloc (Below.refl w.heap.size w) (.cells #[.string ⟨#[]⟩,.int .i64 0] 214)) hgl
 have hw0:=hw.below ((balloc (Below.refl w.heap.size w) (.cells #[.string ⟨#[]⟩,.int .i64 0] 214)).mono (by omega))
 have H1:=Lib.hid (next_any B g A k c n v2 v3 v4 v5 v6 v7 ws _ hr0 hw0 hk hB)
 rw [hx] at H1
 have hxs:=strB_size' x
 have hem:(strB x).toList.isEmpty=false:=by rw [strB_isEmpty];exact decide_eq_false (by omega)
 have d32:decide ((x.length:Int)≤32)=true:=by simp;omega
 have d32':decide (x.length≤32)=true:=by simp;omega
 have hc1:∀ W:World,(Instr.slice 9 (.string (strB x)) none (some (.int .i64 1)) none).run Tryz.prog W=.ok (.string (strB (x.take 1))) W:=fun W=>by
  rw [run_slice_string_h W 9 (strB x) uS .i64 1 (by omega) (by rw [strB_size'];omega),strB_extract]
  rfl
 have HO1:∀ W,Calls Tryz.prog 222 #[.string (strB (x.take 1)),.string ⟨#[97,98,99,100,101,102,103,104,105,106,107,108,109,110,111,112,113,114,115,116,117,118,119,120,121,122]⟩] W fun e w'=>e=.returned (.bool true)∧w'=W:=fun W=>by
  have:=only_any (x.take 1) lettS W (by rw [List.length_take];omega)
  rw [ho1] at this;exact this
 have HO1':=Lib.hid HO1
 clear HO1 ho1
 have HO2:∀ W,Calls Tryz.prog 222 #[.string (strB x),.string ⟨#[97,98,99,100,101,102,103,104,105,106,107,108,109,110,111,112,113,114,115,116,117,118,119,120,121,122,48,49,50,51,52,53,54,55,56,57,95]⟩] W fun e w'=>e=.returned (.bool true)∧w'=W:=fun W=>by
  have:=only_any x nameS W (by omega)
  rw [ho2] at this;exact this
 have HO2':=Lib.hid HO2
 clear HO2 ho2
 have HD:Hid (declB x=false):=hd
 have HF:Hid (∀ W,Calls Tryz.prog 158 #[.string (strB x)] W fun e w'=>e=.returned (.tuple #[.int .i64 (findN x),.bool false])∧Below W.heap.size W w'):=fun W=>by
  have:=find_any x W
  rw [hf] at this;exact this
 clear hr hw hr0 hw0 hx hd hf
 go_enter Tryz.func192,Tryz.ntmps192
 go_wp2_with fail
 refine H1.out.mono ?_
 rintro e w1 ⟨A',k',c',rfl,hke,hr1,hw1,hg1⟩
 have hk1:Hid (k'≤9000):=by show _≤_;omega
 have rz1:=rz0.grown hg1 (fun e=>hzg (by injection e))
 clear H1 hke rz0
 have r2:=rowV.new w1 214 #[.string (strB x),.int .i64 (z:Int)]
 obtain⟨a0,a1⟩:=two_cellsV r2
 have hl2:=r2.lt
 have b12:Below w1.heap.size w1 (w1.alloc (.cells #[.string (strB x),.int .i64 (z:Int)] 214)):=balloc (Below.refl _ _) _
 obtain⟨w2,hw2⟩:∃ w2,w2=w1.alloc (.cells #[.string (strB x),.int .i64 (z:Int)] 214):=⟨_,rfl⟩
 rw [←hw2] at r2 a0 a1 hl2 b12
 go_wp2_with fail
 rw [←hw2]
 clear hw2
 go_region_held3 (fun W=>W.cell? ⟨w1.heap.size,0,none⟩=some (.string (strB x)))
  (first | go_keep | exact c30)
  (first | (go_at_call 118;refine (declarations_any g _).mono ?_;rintro e w3 ⟨m,cc,rfl,hm,hb3'⟩;have hb3:Below w2.heap.size w2 w3:=((Drawn.drewN w2 1).below _).trans hb3';have r3:=r2.below hb3 hl2;have c30:=(two_cellsV r3).1;obtain⟨vd,hlk⟩:=decl_look' hm x;rw [HD.out] at hlk))
 go_wp2_with fail
 refine (HF.out _).mono ?_
 rintro e w4 ⟨rfl,hb4⟩
 have rz4:=((rz1.below b12 rz1.lt).below hb3 (rz1.below b12 rz1.lt).lt).below hb4 ((rz1.below b12 rz1.lt).below hb3 (rz1.below b12 rz1.lt).lt).lt
 have b14:Below w1.heap.size w1 w4:=b12.trans ((hb3.mono b12.size).trans (hb4.mono (Nat.le_trans b12.size hb3.size)))
 have r4:=r3.below hb4 r3.lt
 obtain⟨e0,e1⟩:=two_cellsV r4
 clear hlk hm hb4 hb3 hb3' r3 r2 c30 a0 a1
 go_wp2_with fail
 refine (HO1'.out _).mono ?_
 rintro e w5 ⟨rfl,hw5⟩
 obtain rfl:w4=w5:=hw5.symm
 go_wp2_with fail
 refine (HO2'.out _).mono ?_
 rintro e w5 ⟨rfl,hw5⟩
 obtain rfl:w4=w5:=hw5.symm
 go_wp2_with fail
 refine (demand_ok x z 4 _).mono ?_
 rintro e w6 ⟨rfl,hb6⟩
 have r6:=r4.below hb6 r4.lt
 have rz6:=rz4.below hb6 rz4.lt
 obtain⟨y0,y1⟩:=two_cellsV rz6
 have z0:=frozen_rowV' rz6 0
 have z1:=frozen_rowV' rz6 1
 obtain⟨f0,f1⟩:=two_cellsV r6
 have b16:=b14.trans (hb6.mono b14.size)
 have G6:w.grownBy w6 (some g):=grownBy.below' (grownBy.trans' (World.grownBy_alloc w (.cells #[.string ⟨#[]⟩,.int .i64 0] 214) (some g)) hg1) b16
 have hr6:=hr1.below b16 hr1.lt
 have hw6:=hw1.below (b16.mono (Nat.le_trans hB (Nat.le_of_lt hr1.lt)))
 have rz7:rowV ((w6.setCell ⟨w.heap.size,0,none⟩ (.string (strB x))).setCell ⟨w.heap.size,1,none⟩ (.int .i64 (z:Int))) w.heap.size 214 #[.string (strB x),.int .i64 (z:Int)]:=(rz6.set 0 _).set 1 _
 have hE:Hid (NxW B g n v2 v3 v4 v5 v6 v7 ws.tail w ((w6.setCell ⟨w.heap.size,0,none⟩ (.string (strB x))).setCell ⟨w.heap.size,1,none⟩ (.int .i64 (z:Int)))):=
  ⟨A',k',c',hk1.out,(hr6.setFar (p:=⟨w.heap.size,0,none⟩) (Ne.symm hzg) _).setFar (p:=⟨w.heap.size,1,none⟩) (Ne.symm hzg) _,(hw6.setFar (p:=⟨w.heap.size,0,none⟩) (by show B≤w.heap.size;omega) _).setFar (p:=⟨w.heap.size,1,none⟩) (by show B≤w.heap.size;omega) _,grownBy.setNew (grownBy.setNew G6 (p:=⟨w.heap.size,0,none⟩) (Nat.le_refl _) _) (p:=⟨w.heap.size,1,none⟩) (Nat.le_refl _) _⟩
 have HZ:=Lib.hid (two_cellsV rz7)
 clear e0 e1 rz7 hr6 hw6 G6
 go_wp2_with fail
 obtain⟨z7,z8⟩:=HZ.out
 refine bodyPost_ret (v:=wdV (x,z)) ?_ rfl ⟨rfl,hE.out⟩
 simp [results,wdV,Tryz.results192,go_sem,z7,z8]
theorem name_bad0(B g:Nat)(A:Option Addr)(k c n:Nat)(v2 v3 v4 v5 v6 v7:Value)(ws:List Wd)(w:World)(hr:rowV w g 174 (rdC A k c n v2 v3 v4 v5 v6 v7))(hw:WordsM B w A k c ws)(hk:k≤9000)(hB:B≤g)
  (x:List UInt8) (z:Nat) (hx:nextW n ws=(x,z)) (hlen:x.length≤9000) (h0:x.length=0) :
  Calls Tryz.prog 192 #[.pointer (some ⟨g,0,none⟩)] w fun e w'=>FailsB B w z 4 e w':=by
 have hgl:=hr.lt
 have rz0:=rowV.new w 214 #[.string ⟨#[]⟩,.int .i64 0]
 have hzg:w.heap.size≠g:=by omega
 have hr0:=hr.below (balloc (Below.refl w.heap.size w) (.cells #[.string ⟨#[]⟩,.int .i64 0] 214)) hgl
 have hw0:=hw.below ((balloc (Below.refl w.heap.size w) (.cells #[.string ⟨#[]⟩,.int .i64 0] 214)).mono (by omega))
 have H1:=Lib.hid (next_any B g A k c n v2 v3 v4 v5 v6 v7 ws _ hr0 hw0 hk hB)
 rw [hx] at H1
 have hxs:=strB_size' x
 have hem:(strB x).toList.isEmpty=true:=by rw [strB_isEmpty];exact decide_eq_true h0
 have HD:Hid (declB x=declB x):=rfl
 have HF:Hid (∀ W,Calls Tryz.prog 158 #[.string (strB x)] W fun e w'=>e=.returned (.tuple #[.int .i64 (findN x),.bool (findL x).isSome])∧Below W.heap.size W w'):=fun W=>by
  have:=find_any x W
  exact this
 clear hr hw hr0 hw0 hx
 go_enter Tryz.func192,Tryz.ntmps192
 go_wp2_with fail
 refine H1.out.mono ?_
 rintro e w1 ⟨A',k',c',rfl,hke,hr1,hw1,hg1⟩
 have hk1:Hid (k'≤9000):=by show _≤_;omega
 have rz1:=rz0.grown hg1 (fun e=>hzg (by injection e))
 clear H1 hke rz0
 have r2:=rowV.new w1 214 #[.string (strB x),.int .i64 (z:Int)]
 obtain⟨a0,a1⟩:=two_cellsV r2
 have hl2:=r2.lt
 have b12:Below w1.heap.size w1 (w1.alloc (.cells #[.string (strB x),.int .i64 (z:Int)] 214)):=balloc (Below.refl _ _) _
 obtain⟨w2,hw2⟩:∃ w2,w2=w1.alloc (.cells #[.string (strB x),.int .i64 (z:Int)] 214):=⟨_,rfl⟩
 rw [←hw2] at r2 a0 a1 hl2 b12
 go_wp2_with fail
 rw [←hw2]
 clear hw2
 go_region_held3 (fun W=>W.cell? ⟨w1.heap.size,0,none⟩=some (.string (strB x)))
  (first | go_keep | exact c30)
  (first | (go_at_call 118;refine (declarations_any g _).mono ?_;rintro e w3 ⟨m,cc,rfl,hm,hb3'⟩;have hb3:Below w2.heap.size w2 w3:=((Drawn.drewN w2 1).below _).trans hb3';have r3:=r2.below hb3 hl2;have c30:=(two_cellsV r3).1;obtain⟨vd,hlk⟩:=decl_look' hm x))
 go_wp2_with fail
 refine (HF.out _).mono ?_
 rintro e w4 ⟨rfl,hb4⟩
 have rz4:=((rz1.below b12 rz1.lt).below hb3 (rz1.below b12 rz1.lt).lt).below hb4 ((rz1.below b12 rz1.lt).below hb3 (rz1.below b12 rz1.lt).lt).lt
 have b14:Below w1.heap.size w1 w4:=b12.trans ((hb3.mono b12.size).trans (hb4.mono (Nat.le_trans b12.size hb3.size)))
 have r4:=r3.below hb4 r3.lt
 obtain⟨e0,e1⟩:=two_cellsV r4
 clear hlk hm hb4 hb3 hb3' r3 r2 c30 a0 a1
 go_wp2_with fail
 refine (demand_bad x z 4 _).mono ?_
 rintro e w6 ⟨rfl,hb6⟩
 have b16:=b14.trans (hb6.mono b14.size)
 have G6:w.grownBy w6 (some g):=grownBy.below' (grownBy.trans' (World.grownBy_alloc w (.cells #[.string ⟨#[]⟩,.int .i64 0] 214) (some g)) hg1) b16
 have hE:=Lib.hid (Below.ofGrown G6 hB (Nat.le_trans hB (Nat.le_of_lt hgl)))
 go_wp2_with fail
 exact⟨rfl,rfl,hE.out⟩
theorem name_bad32(B g:Nat)(A:Option Addr)(k c n:Nat)(v2 v3 v4 v5 v6 v7:Value)(ws:List Wd)(w:World)(hr:rowV w g 174 (rdC A k c n v2 v3 v4 v5 v6 v7))(hw:WordsM B w A k c ws)(hk:k≤9000)(hB:B≤g)
  (x:List UInt8) (z:Nat) (hx:nextW n ws=(x,z)) (hlen:x.length≤9000) (h0:32 < x.length) :
  Calls Tryz.prog 192 #[.pointer (some ⟨g,0,none⟩)] w fun e w'=>FailsB B w z 4 e w':=by
 have hgl:=hr.lt
 have rz0:=rowV.new w 214 #[.string ⟨#[]⟩,.int .i64 0]
 have hzg:w.heap.size≠g:=by omega
 have hr0:=hr.below (balloc (Below.refl w.heap.size w) (.cells #[.string ⟨#[]⟩,.int .i64 0] 214)) hgl
 have hw0:=hw.below ((balloc (Below.refl w.heap.size w) (.cells #[.string ⟨#[]⟩,.int .i64 0] 214)).mono (by omega))
 have H1:=Lib.hid (next_any B g A k c n v2 v3 v4 v5 v6 v7 ws _ hr0 hw0 hk hB)
 rw [hx] at H1
 have hxs:=strB_size' x
 have hem:(strB x).toList.isEmpty=false:=by rw [strB_isEmpty];exact decide_eq_false (by omega)
 have d32:decide ((x.length:Int)≤32)=false:=by simp;omega
 have d32':decide (x.length≤32)=false:=by simp;omega
 have HD:Hid (declB x=declB x):=rfl
 have HF:Hid (∀ W,Calls Tryz.prog 158 #[.string (strB x)] W fun e w'=>e=.returned (.tuple #[.int .i64 (findN x),.bool (findL x).isSome])∧Below W.heap.size W w'):=fun W=>by
  have:=find_any x W
  exact this
 clear hr hw hr0 hw0 hx
 go_enter Tryz.func192,Tryz.ntmps192
 go_wp2_with fail
 refine H1.out.mono ?_
 rintro e w1 ⟨A',k',c',rfl,hke,hr1,hw1,hg1⟩
 have hk1:Hid (k'≤9000):=by show _≤_;omega
 have rz1:=rz0.grown hg1 (fun e=>hzg (by injection e))
 clear H1 hke rz0
 have r2:=rowV.new w1 214 #[.string (strB x),.int .i64 (z:Int)]
 obtain⟨a0,a1⟩:=two_cellsV r2
 have hl2:=r2.lt
 have b12:Below w1.heap.size w1 (w1.alloc (.cells #[.string (strB x),.int .i64 (z:Int)] 214)):=balloc (Below.refl _ _) _
 obtain⟨w2,hw2⟩:∃ w2,w2=w1.alloc (.cells #[.string (strB x),.int .i64 (z:Int)] 214):=⟨_,rfl⟩
 rw [←hw2] at r2 a0 a1 hl2 b12
 go_wp2_with fail
 rw [←hw2]
 clear hw2
 go_region_held3 (fun W=>W.cell? ⟨w1.heap.size,0,none⟩=some (.string (strB x)))
  (first | go_keep | exact c30)
  (first | (go_at_call 118;refine (declarations_any g _).mono ?_;rintro e w3 ⟨m,cc,rfl,hm,hb3'⟩;have hb3:Below w2.heap.size w2 w3:=((Drawn.drewN w2 1).below _).trans hb3';have r3:=r2.below hb3 hl2;have c30:=(two_cellsV r3).1;obtain⟨vd,hlk⟩:=decl_look' hm x))
 go_wp2_with fail
 refine (HF.out _).mono ?_
 rintro e w4 ⟨rfl,hb4⟩
 have rz4:=((rz1.below b12 rz1.lt).below hb3 (rz1.below b12 rz1.lt).lt).below hb4 ((rz1.below b12 rz1.lt).below hb3 (rz1.below b12 rz1.lt).lt).lt
 have b14:Below w1.heap.size w1 w4:=b12.trans ((hb3.mono b12.size).trans (hb4.mono (Nat.le_trans b12.size hb3.size)))
 have r4:=r3.below hb4 r3.lt
 obtain⟨e0,e1⟩:=two_cellsV r4
 clear hlk hm hb4 hb3 hb3' r3 r2 c30 a0 a1
 go_wp2_with fail
 refine (demand_bad x z 4 _).mono ?_
 rintro e w6 ⟨rfl,hb6⟩
 have b16:=b14.trans (hb6.mono b14.size)
 have G6:w.grownBy w6 (some g):=grownBy.below' (grownBy.trans' (World.grownBy_alloc w (.cells #[.string ⟨#[]⟩,.int .i64 0] 214) (some g)) hg1) b16
 have hE:=Lib.hid (Below.ofGrown G6 hB (Nat.le_trans hB (Nat.le_of_lt hgl)))
 go_wp2_with fail
 exact⟨rfl,rfl,hE.out⟩
theorem name_bad1(B g:Nat)(A:Option Addr)(k c n:Nat)(v2 v3 v4 v5 v6 v7:Value)(ws:List Wd)(w:World)(hr:rowV w g 174 (rdC A k c n v2 v3 v4 v5 v6 v7))(hw:WordsM B w A k c ws)(hk:k≤9000)(hB:B≤g)
  (x:List UInt8) (z:Nat) (hx:nextW n ws=(x,z)) (hlen:x.length≤9000) (h0:0 < x.length) (h32:x.length≤32) (ho1:onlyL (x.take 1) lettS=false) :
  Calls Tryz.prog 192 #[.pointer (some ⟨g,0,none⟩)] w fun e w'=>FailsB B w z 4 e w':=by
 have hgl:=hr.lt
 have rz0:=rowV.new w 214 #[.string ⟨#[]⟩,.int .i64 0]
 have hzg:w.heap.size≠g:=by omega
 have hr0:=hr.below (balloc (Below.refl w.heap.size w) (.cells #[.string ⟨#[]⟩,.int .i64 0] 214)) hgl
 have hw0:=hw.below ((balloc (Below.refl w.heap.size w) (.cells #[.string ⟨#[]⟩,.int .i64 0] 214)).mono (by omega))
 have H1:=Lib.hid (next_any B g A k c n v2 v3 v4 v5 v6 v7 ws _ hr0 hw0 hk hB)
 rw [hx] at H1
 have hxs:=strB_size' x
 have hem:(strB x).toList.isEmpty=false:=by rw [strB_isEmpty];exact decide_eq_false (by omega)
 have d32:decide ((x.length:Int)≤32)=true:=by simp;omega
 have d32':decide (x.length≤32)=true:=by simp;omega
 have hc1:∀ W:World,(Instr.slice 9 (.string (strB x)) none (some (.int .i64 1)) none).run Tryz.prog W=.ok (.string (strB (x.take 1))) W:=fun W=>by
  rw [run_slice_string_h W 9 (strB x) uS .i64 1 (by omega) (by rw [strB_size'];omega),strB_extract]
  rfl
 have HO1:∀ W,Calls Tryz.prog 222 #[.string (strB (x.take 1)),.string ⟨#[97,98,99,100,101,102,103,104,105,106,107,108,109,110,111,112,113,114,115,116,117,118,119,120,121,122]⟩] W fun e w'=>e=.returned (.bool false)∧w'=W:=fun W=>by
  have:=only_any (x.take 1) lettS W (by rw [List.length_take];omega)
  rw [ho1] at this;exact this
 have HO1':=Lib.hid HO1
 clear HO1 ho1
 have HD:Hid (declB x=declB x):=rfl
 have HF:Hid (∀ W,Calls Tryz.prog 158 #[.string (strB x)] W fun e w'=>e=.returned (.tuple #[.int .i64 (findN x),.bool (findL x).isSome])∧Below W.heap.size W w'):=fun W=>by
  have:=find_any x W
  exact this
 clear hr hw hr0 hw0 hx
 go_enter Tryz.func192,Tryz.ntmps192
 go_wp2_with fail
 refine H1.out.mono ?_
 rintro e w1 ⟨A',k',c',rfl,hke,hr1,hw1,hg1⟩
 have hk1:Hid (k'≤9000):=by show _≤_;omega
 have rz1:=rz0.grown hg1 (fun e=>hzg (by injection e))
 clear H1 hke rz0
 have r2:=rowV.new w1 214 #[.string (strB x),.int .i64 (z:Int)]
 obtain⟨a0,a1⟩:=two_cellsV r2
 have hl2:=r2.lt
 have b12:Below w1.heap.size w1 (w1.alloc (.cells #[.string (strB x),.int .i64 (z:Int)] 214)):=balloc (Below.refl _ _) _
 obtain⟨w2,hw2⟩:∃ w2,w2=w1.alloc (.cells #[.string (strB x),.int .i64 (z:Int)] 214):=⟨_,rfl⟩
 rw [←hw2] at r2 a0 a1 hl2 b12
 go_wp2_with fail
 rw [←hw2]
 clear hw2
 go_region_held3 (fun W=>W.cell? ⟨w1.heap.size,0,none⟩=some (.string (strB x)))
  (first | go_keep | exact c30)
  (first | (go_at_call 118;refine (declarations_any g _).mono ?_;rintro e w3 ⟨m,cc,rfl,hm,hb3'⟩;have hb3:Below w2.heap.size w2 w3:=((Drawn.drewN w2 1).below _).trans hb3';have r3:=r2.below hb3 hl2;have c30:=(two_cellsV r3).1;obtain⟨vd,hlk⟩:=decl_look' hm x))
 go_wp2_with fail
 refine (HF.out _).mono ?_
 rintro e w4 ⟨rfl,hb4⟩
 have rz4:=((rz1.below b12 rz1.lt).below hb3 (rz1.below b12 rz1.lt).lt).below hb4 ((rz1.below b12 rz1.lt).below hb3 (rz1.below b12 rz1.lt).lt).lt
 have b14:Below w1.heap.size w1 w4:=b12.trans ((hb3.mono b12.size).trans (hb4.mono (Nat.le_trans b12.size hb3.size)))
 have r4:=r3.below hb4 r3.lt
 obtain⟨e0,e1⟩:=two_cellsV r4
 clear hlk hm hb4 hb3 hb3' r3 r2 c30 a0 a1
 go_wp2_with fail
 refine (HO1'.out _).mono ?_
 rintro e w5 ⟨rfl,hw5⟩
 obtain rfl:w4=w5:=hw5.symm
 go_wp2_with fail
 refine (demand_bad x z 4 _).mono ?_
 rintro e w6 ⟨rfl,hb6⟩
 have b16:=b14.trans (hb6.mono b14.size)
 have G6:w.grownBy w6 (some g):=grownBy.below' (grownBy.trans' (World.grownBy_alloc w (.cells #[.string ⟨#[]⟩,.int .i64 0] 214) (some g)) hg1) b16
 have hE:=Lib.hid (Below.ofGrown G6 hB (Nat.le_trans hB (Nat.le_of_lt hgl)))
 go_wp2_with fail
 exact⟨rfl,rfl,hE.out⟩
theorem name_bad2(B g:Nat)(A:Option Addr)(k c n:Nat)(v2 v3 v4 v5 v6 v7:Value)(ws:List Wd)(w:World)(hr:rowV w g 174 (rdC A k c n v2 v3 v4 v5 v6 v7))(hw:WordsM B w A k c ws)(hk:k≤9000)(hB:B≤g)
  (x:List UInt8) (z:Nat) (hx:nextW n ws=(x,z)) (hlen:x.length≤9000) (h0:0 < x.length) (h32:x.length≤32) (ho1:onlyL (x.take 1) lettS=true) (ho2:onlyL x nameS=false) :
  Calls Tryz.prog 192 #[.pointer (some ⟨g,0,none⟩)] w fun e w'=>FailsB B w z 4 e w':=by
 have hgl:=hr.lt
 have rz0:=rowV.new w 214 #[.string ⟨#[]⟩,.int .i64 0]
 have hzg:w.heap.size≠g:=by omega
 have hr0:=hr.below (balloc (Below.refl w.heap.size w) (.cells #[.string ⟨#[]⟩,.int .i64 0] 214)) hgl
 have hw0:=hw.below ((balloc (Below.refl w.heap.size w) (.cells #[.string ⟨#[]⟩,.int .i64 0] 214)).mono (by omega))
 have H1:=Lib.hid (next_any B g A k c n v2 v3 v4 v5 v6 v7 ws _ hr0 hw0 hk hB)
 rw [hx] at H1
 have hxs:=strB_size' x
 have hem:(strB x).toList.isEmpty=false:=by rw [strB_isEmpty];exact decide_eq_false (by omega)
 have d32:decide ((x.length:Int)≤32)=true:=by simp;omega
 have d32':decide (x.length≤32)=true:=by simp;omega
 have hc1:∀ W:World,(Instr.slice 9 (.string (strB x)) none (some (.int .i64 1)) none).run Tryz.prog W=.ok (.string (strB (x.take 1))) W:=fun W=>by
  rw [run_slice_string_h W 9 (strB x) uS .i64 1 (by omega) (by rw [strB_size'];omega),strB_extract]
  rfl
 have HO1:∀ W,Calls Tryz.prog 222 #[.string (strB (x.take 1)),.string ⟨#[97,98,99,100,101,102,103,104,105,106,107,108,109,110,111,112,113,114,115,116,117,118,119,120,121,122]⟩] W fun e w'=>e=.returned (.bool true)∧w'=W:=fun W=>by
  have:=only_any (x.take 1) lettS W (by rw [List.length_take];omega)
  rw [ho1] at this;exact this
 have HO1':=Lib.hid HO1
 clear HO1 ho1
 have HO2:∀ W,Calls Tryz.prog 222 #[.string (strB x),.string ⟨#[97,98,99,100,101,102,103,104,105,106,107,108,109,110,111,112,113,114,115,116,117,118,119,120,121,122,48,49,50,51,52,53,54,55,56,57,95]⟩] W fun e w'=>e=.returned (.bool false)∧w'=W:=fun W=>by
  have:=only_any x nameS W (by omega)
  rw [ho2] at this;exact this
 have HO2':=Lib.hid HO2
 clear HO2 ho2
 have HD:Hid (declB x=declB x):=rfl
 have HF:Hid (∀ W,Calls Tryz.prog 158 #[.string (strB x)] W fun e w'=>e=.returned (.tuple #[.int .i64 (findN x),.bool (findL x).isSome])∧Below W.heap.size W w'):=fun W=>by
  have:=find_any x W
  exact this
 clear hr hw hr0 hw0 hx
 go_enter Tryz.func192,Tryz.ntmps192
 go_wp2_with fail
 refine H1.out.mono ?_
 rintro e w1 ⟨A',k',c',rfl,hke,hr1,hw1,hg1⟩
 have hk1:Hid (k'≤9000):=by show _≤_;omega
 have rz1:=rz0.grown hg1 (fun e=>hzg (by injection e))
 clear H1 hke rz0
 have r2:=rowV.new w1 214 #[.string (strB x),.int .i64 (z:Int)]
 obtain⟨a0,a1⟩:=two_cellsV r2
 have hl2:=r2.lt
 have b12:Below w1.heap.size w1 (w1.alloc (.cells #[.string (strB x),.int .i64 (z:Int)] 214)):=balloc (Below.refl _ _) _
 obtain⟨w2,hw2⟩:∃ w2,w2=w1.alloc (.cells #[.string (strB x),.int .i64 (z:Int)] 214):=⟨_,rfl⟩
 rw [←hw2] at r2 a0 a1 hl2 b12
 go_wp2_with fail
 rw [←hw2]
 clear hw2
 go_region_held3 (fun W=>W.cell? ⟨w1.heap.size,0,none⟩=some (.string (strB x)))
  (first | go_keep | exact c30)
  (first | (go_at_call 118;refine (declarations_any g _).mono ?_;rintro e w3 ⟨m,cc,rfl,hm,hb3'⟩;have hb3:Below w2.heap.size w2 w3:=((Drawn.drewN w2 1).below _).trans hb3';have r3:=r2.below hb3 hl2;have c30:=(two_cellsV r3).1;obtain⟨vd,hlk⟩:=decl_look' hm x))
 go_wp2_with fail
 refine (HF.out _).mono ?_
 rintro e w4 ⟨rfl,hb4⟩
 have rz4:=((rz1.below b12 rz1.lt).below hb3 (rz1.below b12 rz1.lt).lt).below hb4 ((rz1.below b12 rz1.lt).below hb3 (rz1.below b12 rz1.lt).lt).lt
 have b14:Below w1.heap.size w1 w4:=b12.trans ((hb3.mono b12.size).trans (hb4.mono (Nat.le_trans b12.size hb3.size)))
 have r4:=r3.below hb4 r3.lt
 obtain⟨e0,e1⟩:=two_cellsV r4
 clear hlk hm hb4 hb3 hb3' r3 r2 c30 a0 a1
 go_wp2_with fail
 refine (HO1'.out _).mono ?_
 rintro e w5 ⟨rfl,hw5⟩
 obtain rfl:w4=w5:=hw5.symm
 go_wp2_with fail
 refine (HO2'.out _).mono ?_
 rintro e w5 ⟨rfl,hw5⟩
 obtain rfl:w4=w5:=hw5.symm
 go_wp2_with fail
 refine (demand_bad x z 4 _).mono ?_
 rintro e w6 ⟨rfl,hb6⟩
 have b16:=b14.trans (hb6.mono b14.size)
 have G6:w.grownBy w6 (some g):=grownBy.below' (grownBy.trans' (World.grownBy_alloc w (.cells #[.string ⟨#[]⟩,.int .i64 0] 214) (some g)) hg1) b16
 have hE:=Lib.hid (Below.ofGrown G6 hB (Nat.le_trans hB (Nat.le_of_lt hgl)))
 go_wp2_with fail
 exact⟨rfl,rfl,hE.out⟩
theorem name_badD(B g:Nat)(A:Option Addr)(k c n:Nat)(v2 v3 v4 v5 v6 v7:Value)(ws:List Wd)(w:World)(hr:rowV w g 174 (rdC A k c n v2 v3 v4 v5 v6 v7))(hw:WordsM B w A k c ws)(hk:k≤9000)(hB:B≤g)
  (x:List UInt8) (z:Nat) (hx:nextW n ws=(x,z)) (hlen:x.length≤9000) (h0:0 < x.length) (h32:x.length≤32) (ho1:onlyL (x.take 1) lettS=true) (ho2:onlyL x nameS=true) (hd:declB x=true) :
  Calls Tryz.prog 192 #[.pointer (some ⟨g,0,none⟩)] w fun e w'=>FailsB B w z 4 e w':=by
 have hgl:=hr.lt
 have rz0:=rowV.new w 214 #[.string ⟨#[]⟩,.int .i64 0]
 have hzg:w.heap.size≠g:=by omega
 have hr0:=hr.below (balloc (Below.refl w.heap.size w) (.cells #[.string ⟨#[]⟩,.int .i64 0] 214)) hgl
 have hw0:=hw.below ((balloc (Below.refl w.heap.size w) (.cells #[.string ⟨#[]⟩,.int .i64 0] 214)).mono (by omega))
 have H1:=Lib.hid (next_any B g A k c n v2 v3 v4 v5 v6 v7 ws _ hr0 hw0 hk hB)
 rw [hx] at H1
 have hxs:=strB_size' x
 have hem:(strB x).toList.isEmpty=false:=by rw [strB_isEmpty];exact decide_eq_false (by omega)
 have d32:decide ((x.length:Int)≤32)=true:=by simp;omega
 have d32':decide (x.length≤32)=true:=by simp;omega
 have hc1:∀ W:World,(Instr.slice 9 (.string (strB x)) none (some (.int .i64 1)) none).run Tryz.prog W=.ok (.string (strB (x.take 1))) W:=fun W=>by
  rw [run_slice_string_h W 9 (strB x) uS .i64 1 (by omega) (by rw [strB_size'];omega),strB_extract]
  rfl
 have HO1:∀ W,Calls Tryz.prog 222 #[.string (strB (x.take 1)),.string ⟨#[97,98,99,100,101,102,103,104,105,106,107,108,109,110,111,112,113,114,115,116,117,118,119,120,121,122]⟩] W fun e w'=>e=.returned (.bool true)∧w'=W:=fun W=>by
  have:=only_any (x.take 1) lettS W (by rw [List.length_take];omega)
  rw [ho1] at this;exact this
 have HO1':=Lib.hid HO1
 clear HO1 ho1
 have HO2:∀ W,Calls Tryz.prog 222 #[.string (strB x),.string ⟨#[97,98,99,100,101,102,103,104,105,106,107,108,109,110,111,112,113,114,115,116,117,118,119,120,121,122,48,49,50,51,52,53,54,55,56,57,95]⟩] W fun e w'=>e=.returned (.bool true)∧w'=W:=fun W=>by
  have:=only_any x nameS W (by omega)
  rw [ho2] at this;exact this
 have HO2':=Lib.hid HO2
 clear HO2 ho2
 have HD:Hid (declB x=true):=hd
 have HF:Hid (∀ W,Calls Tryz.prog 158 #[.string (strB x)] W fun e w'=>e=.returned (.tuple #[.int .i64 (findN x),.bool (findL x).isSome])∧Below W.heap.size W w'):=fun W=>by
  have:=find_any x W
  exact this
 clear hr hw hr0 hw0 hx hd
 go_enter Tryz.func192,Tryz.ntmps192
 go_wp2_with fail
 refine H1.out.mono ?_
 rintro e w1 ⟨A',k',c',rfl,hke,hr1,hw1,hg1⟩
 have hk1:Hid (k'≤9000):=by show _≤_;omega
 have rz1:=rz0.grown hg1 (fun e=>hzg (by injection e))
 clear H1 hke rz0
 have r2:=rowV.new w1 214 #[.string (strB x),.int .i64 (z:Int)]
 obtain⟨a0,a1⟩:=two_cellsV r2
 have hl2:=r2.lt
 have b12:Below w1.heap.size w1 (w1.alloc (.cells #[.string (strB x),.int .i64 (z:Int)] 214)):=balloc (Below.refl _ _) _
 obtain⟨w2,hw2⟩:∃ w2,w2=w1.alloc (.cells #[.string (strB x),.int .i64 (z:Int)] 214):=⟨_,rfl⟩
 rw [←hw2] at r2 a0 a1 hl2 b12
 go_wp2_with fail
 rw [←hw2]
 clear hw2
 go_region_held3 (fun W=>W.cell? ⟨w1.heap.size,0,none⟩=some (.string (strB x)))
  (first | go_keep | exact c30)
  (first | (go_at_call 118;refine (declarations_any g _).mono ?_;rintro e w3 ⟨m,cc,rfl,hm,hb3'⟩;have hb3:Below w2.heap.size w2 w3:=((Drawn.drewN w2 1).below _).trans hb3';have r3:=r2.below hb3 hl2;have c30:=(two_cellsV r3).1;obtain⟨vd,hlk⟩:=decl_look' hm x;rw [HD.out] at hlk))
 go_wp2_with fail
 refine (HF.out _).mono ?_
 rintro e w4 ⟨rfl,hb4⟩
 have rz4:=((rz1.below b12 rz1.lt).below hb3 (rz1.below b12 rz1.lt).lt).below hb4 ((rz1.below b12 rz1.lt).below hb3 (rz1.below b12 rz1.lt).lt).lt
 have b14:Below w1.heap.size w1 w4:=b12.trans ((hb3.mono b12.size).trans (hb4.mono (Nat.le_trans b12.size hb3.size)))
 have r4:=r3.below hb4 r3.lt
 obtain⟨e0,e1⟩:=two_cellsV r4
 clear hlk hm hb4 hb3 hb3' r3 r2 c30 a0 a1
 go_wp2_with fail
 refine (HO1'.out _).mono ?_
 rintro e w5 ⟨rfl,hw5⟩
 obtain rfl:w4=w5:=hw5.symm
 go_wp2_with fail
 refine (HO2'.out _).mono ?_
 rintro e w5 ⟨rfl,hw5⟩
 obtain rfl:w4=w5:=hw5.symm
 go_wp2_with fail
 refine (demand_bad x z 4 _).mono ?_
 rintro e w6 ⟨rfl,hb6⟩
 have b16:=b14.trans (hb6.mono b14.size)
 have G6:w.grownBy w6 (some g):=grownBy.below' (grownBy.trans' (World.grownBy_alloc w (.cells #[.string ⟨#[]⟩,.int .i64 0] 214) (some g)) hg1) b16
 have hE:=Lib.hid (Below.ofGrown G6 hB (Nat.le_trans hB (Nat.le_of_lt hgl)))
 go_wp2_with fail
 exact⟨rfl,rfl,hE.out⟩
theorem name_badF(B g:Nat)(A:Option Addr)(k c n:Nat)(v2 v3 v4 v5 v6 v7:Value)(ws:List Wd)(w:World)(hr:rowV w g 174 (rdC A k c n v2 v3 v4 v5 v6 v7))(hw:WordsM B w A k c ws)(hk:k≤9000)(hB:B≤g)
  (x:List UInt8) (z:Nat) (hx:nextW n ws=(x,z)) (hlen:x.length≤9000) (h0:0 < x.length) (h32:x.length≤32) (ho1:onlyL (x.take 1) lettS=true) (ho2:onlyL x nameS=true) (hd:declB x=false) (hf:(findL x).isSome=true) :
  Calls Tryz.prog 192 #[.pointer (some ⟨g,0,none⟩)] w fun e w'=>FailsB B w z 4 e w':=by
 have hgl:=hr.lt
 have rz0:=rowV.new w 214 #[.string ⟨#[]⟩,.int .i64 0]
 have hzg:w.heap.size≠g:=by omega
 have hr0:=hr.below (balloc (Below.refl w.heap.size w) (.cells #[.string ⟨#[]⟩,.int .i64 0] 214)) hgl
 have hw0:=hw.below ((balloc (Below.refl w.heap.size w) (.cells #[.string ⟨#[]⟩,.int .i64 0] 214)).mono (by omega))
 have H1:=Lib.hid (next_any B g A k c n v2 v3 v4 v5 v6 v7 ws _ hr0 hw0 hk hB)
 rw [hx] at H1
 have hxs:=strB_size' x
 have hem:(strB x).toList.isEmpty=false:=by rw [strB_isEmpty];exact decide_eq_false (by omega)
 have d32:decide ((x.length:Int)≤32)=true:=by simp;omega
 have d32':decide (x.length≤32)=true:=by simp;omega
 have hc1:∀ W:World,(Instr.slice 9 (.string (strB x)) none (some (.int .i64 1)) none).run Tryz.prog W=.ok (.string (strB (x.take 1))) W:=fun W=>by
  rw [run_slice_string_h W 9 (strB x) uS .i64 1 (by omega) (by rw [strB_size'];omega),strB_extract]
  rfl
 have HO1:∀ W,Calls Tryz.prog 222 #[.string (strB (x.take 1)),.string ⟨#[97,98,99,100,101,102,103,104,105,106,107,108,109,110,111,112,113,114,115,116,117,118,119,120,121,122]⟩] W fun e w'=>e=.returned (.bool true)∧w'=W:=fun W=>by
  have:=only_any (x.take 1) lettS W (by rw [List.length_take];omega)
  rw [ho1] at this;exact this
 have HO1':=Lib.hid HO1
 clear HO1 ho1
 have HO2:∀ W,Calls Tryz.prog 222 #[.string (strB x),.string ⟨#[97,98,99,100,101,102,103,104,105,106,107,108,109,110,111,112,113,114,115,116,117,118,119,120,121,122,48,49,50,51,52,53,54,55,56,57,95]⟩] W fun e w'=>e=.returned (.bool true)∧w'=W:=fun W=>by
  have:=only_any x nameS W (by omega)
  rw [ho2] at this;exact this
 have HO2':=Lib.hid HO2
 clear HO2 ho2
 have HD:Hid (declB x=false):=hd
 have HF:Hid (∀ W,Calls Tryz.prog 158 #[.string (strB x)] W fun e w'=>e=.returned (.tuple #[.int .i64 (findN x),.bool true])∧Below W.heap.size W w'):=fun W=>by
  have:=find_any x W
  rw [hf] at this;exact this
 clear hr hw hr0 hw0 hx hd hf
 go_enter Tryz.func192,Tryz.ntmps192
 go_wp2_with fail
 refine H1.out.mono ?_
 rintro e w1 ⟨A',k',c',rfl,hke,hr1,hw1,hg1⟩
 have hk1:Hid (k'≤9000):=by show _≤_;omega
 have rz1:=rz0.grown hg1 (fun e=>hzg (by injection e))
 clear H1 hke rz0
 have r2:=rowV.new w1 214 #[.string (strB x),.int .i64 (z:Int)]
 obtain⟨a0,a1⟩:=two_cellsV r2
 have hl2:=r2.lt
 have b12:Below w1.heap.size w1 (w1.alloc (.cells #[.string (strB x),.int .i64 (z:Int)] 214)):=balloc (Below.refl _ _) _
 obtain⟨w2,hw2⟩:∃ w2,w2=w1.alloc (.cells #[.string (strB x),.int .i64 (z:Int)] 214):=⟨_,rfl⟩
 rw [←hw2] at r2 a0 a1 hl2 b12
 go_wp2_with fail
 rw [←hw2]
 clear hw2
 go_region_held3 (fun W=>W.cell? ⟨w1.heap.size,0,none⟩=some (.string (strB x)))
  (first | go_keep | exact c30)
  (first | (go_at_call 118;refine (declarations_any g _).mono ?_;rintro e w3 ⟨m,cc,rfl,hm,hb3'⟩;have hb3:Below w2.heap.size w2 w3:=((Drawn.drewN w2 1).below _).trans hb3';have r3:=r2.below hb3 hl2;have c30:=(two_cellsV r3).1;obtain⟨vd,hlk⟩:=decl_look' hm x;rw [HD.out] at hlk))
 go_wp2_with fail
 refine (HF.out _).mono ?_
 rintro e w4 ⟨rfl,hb4⟩
 have rz4:=((rz1.below b12 rz1.lt).below hb3 (rz1.below b12 rz1.lt).lt).below hb4 ((rz1.below b12 rz1.lt).below hb3 (rz1.below b12 rz1.lt).lt).lt
 have b14:Below w1.heap.size w1 w4:=b12.trans ((hb3.mono b12.size).trans (hb4.mono (Nat.le_trans b12.size hb3.size)))
 have r4:=r3.below hb4 r3.lt
 obtain⟨e0,e1⟩:=two_cellsV r4
 clear hlk hm hb4 hb3 hb3' r3 r2 c30 a0 a1
 go_wp2_with fail
 refine (HO1'.out _).mono ?_
 rintro e w5 ⟨rfl,hw5⟩
 obtain rfl:w4=w5:=hw5.symm
 go_wp2_with fail
 refine (HO2'.out _).mono ?_
 rintro e w5 ⟨rfl,hw5⟩
 obtain rfl:w4=w5:=hw5.symm
 go_wp2_with fail
 refine (demand_bad x z 4 _).mono ?_
 rintro e w6 ⟨rfl,hb6⟩
 have b16:=b14.trans (hb6.mono b14.size)
 have G6:w.grownBy w6 (some g):=grownBy.below' (grownBy.trans' (World.grownBy_alloc w (.cells #[.string ⟨#[]⟩,.int .i64 0] 214) (some g)) hg1) b16
 have hE:=Lib.hid (Below.ofGrown G6 hB (Nat.le_trans hB (Nat.le_of_lt hgl)))
 go_wp2_with fail
 exact⟨rfl,rfl,hE.out⟩
theorem asmName_ok(B g:Nat)(A:Option Addr)(k c n:Nat)(v2 v3 v4 v5 v6 v7:Value)(ws:List Wd)(w:World)(hr:rowV w g 174 (rdC A k c n v2 v3 v4 v5 v6 v7))(hw:WordsM B w A k c ws)(hk:k≤9000)(hB:B≤g)(hN:nameL (nextW n ws).1=true) :
  Calls Tryz.prog 192 #[.pointer (some ⟨g,0,none⟩)] w fun e w'=>e=.returned (wdV (nextW n ws))∧NxW B g n v2 v3 v4 v5 v6 v7 ws.tail w w':=by
 have hl:=next_len hw (n:=n)
 obtain⟨x,z,hx⟩:∃ x z,nextW n ws=(x,z):=⟨_,_,rfl⟩
 rw [hx] at hN hl ⊢
 dsimp only at hN hl
 have h0:0 < x.length:=by
  rcases x with _ | ⟨b,t⟩
  ·rw [nameL_nil] at hN;cases hN
  ·simp
 rw [nameL_eq h0] at hN
 simp only [Bool.and_eq_true,decide_eq_true_eq,Bool.not_eq_true'] at hN
 obtain⟨⟨⟨⟨q1,q2⟩,q3⟩,q4⟩,q5⟩:=hN
 exact name_good B g A k c n v2 v3 v4 v5 v6 v7 ws w hr hw hk hB x z hx hl h0 q1 q2 q3 q4 q5
theorem asmName_bad(B g:Nat)(A:Option Addr)(k c n:Nat)(v2 v3 v4 v5 v6 v7:Value)(ws:List Wd)(w:World)(hr:rowV w g 174 (rdC A k c n v2 v3 v4 v5 v6 v7))(hw:WordsM B w A k c ws)(hk:k≤9000)(hB:B≤g)(hN:nameL (nextW n ws).1=false) :
  Calls Tryz.prog 192 #[.pointer (some ⟨g,0,none⟩)] w fun e w'=>FailsB B w ((nextW n ws).2:Int) 4 e w':=by
 have hl:=next_len hw (n:=n)
 obtain⟨x,z,hx⟩:∃ x z,nextW n ws=(x,z):=⟨_,_,rfl⟩
 rw [hx] at hN hl ⊢
 dsimp only at hN hl ⊢
 by_cases h0:x.length=0
 ·exact name_bad0 B g A k c n v2 v3 v4 v5 v6 v7 ws w hr hw hk hB x z hx hl h0
 have h0:0 < x.length:=by omega
 rw [nameL_eq h0] at hN
 by_cases q1:x.length≤32
 ·cases q2:onlyL (x.take 1) lettS with
  | false=>exact name_bad1 B g A k c n v2 v3 v4 v5 v6 v7 ws w hr hw hk hB x z hx hl h0 q1 q2
  | true=>
   cases q3:onlyL x nameS with
   | false=>exact name_bad2 B g A k c n v2 v3 v4 v5 v6 v7 ws w hr hw hk hB x z hx hl h0 q1 q2 q3
   | true=>
    cases q4:declB x with
    | true=>exact name_badD B g A k c n v2 v3 v4 v5 v6 v7 ws w hr hw hk hB x z hx hl h0 q1 q2 q3 q4
    | false=>
     cases q5:(findL x).isSome with
     | true=>exact name_badF B g A k c n v2 v3 v4 v5 v6 v7 ws w hr hw hk hB x z hx hl h0 q1 q2 q3 q4 q5
     | false=>
      rw [decide_eq_true q1,q2,q3,q4,q5] at hN
      cases hN
 ·exact name_bad32 B g A k c n v2 v3 v4 v5 v6 v7 ws w hr hw hk hB x z hx hl (by omega)
def encAr(x:Arr):List Value:=[.bool x.word,.int .i64 x.size]
def encIn(x:Ins):List Value:=[.int .i64 x.op,.int .u32 x.arg]
def encSt(x:List UInt8):List Value:=[.string (strB x)]
theorem encAr_one(x:Arr):∀ u∈encAr x,u.oneCell'=true:=by
 intro u hu;simp [encAr] at hu;rcases hu with rfl | rfl <;> rfl
theorem encIn_one(x:Ins):∀ u∈encIn x,u.oneCell'=true:=by
 intro u hu;simp [encIn] at hu;rcases hu with rfl | rfl <;> rfl
theorem encSt_one(x:List UInt8):∀ u∈encSt x,u.oneCell'=true:=by
 intro u hu;simp [encSt] at hu;rw [hu];rfl
theorem infoAr:(Tryz.prog.info? 65).map (fun i=>(i.zero,i.size,i.bytes))=some (some (.agg #[.bool false,.int .i64 0]),2,16):=by kernel_rfl
theorem infoIn:(Tryz.prog.info? 44).map (fun i=>(i.zero,i.size,i.bytes))=some (some (.agg #[.int .i64 0,.int .u32 0]),2,16):=by kernel_rfl
theorem infoSt:(Tryz.prog.info? 9).map (fun i=>(i.zero,i.size,i.bytes))=some (some (.string ⟨#[]⟩),1,16):=by kernel_rfl
theorem uAr:Tryz.prog.underlying 22=some (.slice 65):=by kernel_rfl
theorem uIn:Tryz.prog.underlying 23=some (.slice 44):=by kernel_rfl
theorem uSt:Tryz.prog.underlying 171=some (.slice 9):=by kernel_rfl
theorem uMc:Tryz.prog.underlying 172=some (.map 9 3):=by kernel_rfl
theorem uInt:Tryz.prog.underlying 3=some (.int .i64):=by kernel_rfl
theorem zInt(W:World):(zeroValue 3).run Tryz.prog W=.ok (.int .i64 0) W:=by kernel_rfl
section
variable {α : Type} {enc : α → List Value} {sz : Nat} {w w' : World} {B : Nat} {e : TypeId} {A : Option Addr} {n c : Nat} {xs : List α}
theorem OwnS.blk(h:OwnS enc sz w B e A n c xs){b:Nat}(hb:(Value.slice A n c).ownBlock=some b):b < w.heap.size∧B≤b∧∃ cur,w.heap[b]?=some (.cells cur e (0,0)):=by
 rcases h.2 with ⟨h1,_⟩ | ⟨g,cap,cur,h1,h2,h3,_⟩
 ·rw [h1] at hb;cases hb
 ·rw [h1] at hb
  injection hb with hb
  have hg:g=b:=hb
  subst hg
  exact⟨(Array.getElem?_eq_some_iff.1 h3).1,h2,cur,h3⟩
theorem OwnS.grown(h:OwnS enc sz w B e A n c xs){row:Option Nat}(hg:w.grownBy w' row)(hne:∀ b,(Value.slice A n c).ownBlock=some b→some b≠row):OwnS enc sz w' B e A n c xs:=by
 refine⟨h.1,?_⟩
 rcases h.2 with h1 | ⟨g,cap,cur,h1,h2,h3,h4⟩
 ·exact .inl h1
 ·exact .inr ⟨g,cap,cur,h1,h2,(hg.block g (Array.getElem?_eq_some_iff.1 h3).1 (hne g (by rw [h1];rfl))).trans h3,h4⟩
theorem OwnS.ne_row(h:OwnS enc sz w B e A n c xs){g:Nat}{t:TypeId}{cs:Array Value}(hr:rowV w g t cs)(hne:e≠t):∀ b,(Value.slice A n c).ownBlock=some b→some b≠some g:=fun b hb he=>by
 injection he with he
 subst he
 obtain⟨_,_,cur,h3⟩:=h.blk hb
 unfold rowV at hr
 rw [hr] at h3
 injection h3 with h3
 injection h3 with _ h3
 exact hne h3.symm
theorem OwnS.ne_map(h:OwnS enc sz w B e A n c xs){m:Nat}{o:Obj}(hm:w.heap[m]?=some o)(ho:o.isCells=false):∀ b,(Value.slice A n c).ownBlock=some b→b≠m:=fun b hb he=>by
 subst he
 obtain⟨_,_,cur,h3⟩:=h.blk hb
 rw [hm] at h3
 injection h3 with h3
 rw [h3] at ho
 cases ho
theorem OwnS.ne_own{α':Type}{enc':α'→List Value}{sz':Nat}{e':TypeId}{A':Option Addr}{n' c':Nat}{ys:List α'}(h:OwnS enc sz w B e A n c xs)(h':OwnS enc' sz' w B e' A' n' c' ys)(hne:e≠e') :
  ∀ b,(Value.slice A n c).ownBlock=some b→some b≠(Value.slice A' n' c').ownBlock:=fun b hb he=>by
 obtain⟨_,_,cur,h3⟩:=h.blk hb
 obtain⟨_,_,cur',h3'⟩:=h'.blk he.symm
 rw [h3] at h3'
 injection h3' with h3'
 injection h3' with _ h3'
 exact hne h3'
end
theorem run_append_ownS'{P:Program}{α:Type}{enc:α→List Value}{sz:Nat}{w:World}{B:Nat}{e t:TypeId}{A:Option Addr}{n c:Nat}{xs:List α}(ty:TypeId){z:Value}{bytes:Nat}(ht:P.underlying t=some (.slice e))(hi:(P.info? e).map (fun i=>(i.zero,i.size,i.bytes))=some (some z,sz,bytes))
  (h1:∀ x,∀ u∈enc x,u.oneCell'=true) (hz:z.cells.size=sz) (hl:∀ x,(enc x).length=sz) (hs:0 < sz)
  (hown:OwnS enc sz w B e A n c xs) (hB:B≤w.heap.size) (y:α) (hml:n+1≤maxLen) (hby:(n+1) * bytes≤140737488355328) :
  ∃ A2 c2 w',(Builtin.append_ #[t,t] ty #[.slice A n c,.slice (some ⟨w.heap.size,0,none⟩) 1 1]).run P (w.alloc (.cells (enc y).toArray e))=.ok (.slice A2 (n+1) c2) w'∧OwnS enc sz w' B e A2 (n+1) c2 (xs++[y])∧Below B w w'∧w.grownBy w' (Value.slice A n c).ownBlock ∧
   (∀ b,(Value.slice A2 (n+1) c2).ownBlock=some b→(Value.slice A n c).ownBlock=some b∨w.heap.size≤b):=by
 obtain⟨i,hi0,hz0,hs1,hb⟩:=info_parts hi
 have hb0:Below w.heap.size w (w.alloc (.cells (enc y).toArray e)):=(Below.refl _ _).alloc (Nat.le_refl _) _
 obtain⟨v',w',hrun,h2,h3,_,h5⟩:=run_append_own_at (P:=P) (w.alloc (.cells (enc y).toArray e)) B t ty e i z sz bytes ht hi0 hz0 hs1 hb hz hs _ n _ (hown.below hb0) ⟨w.heap.size,0,none⟩ 1 1 (enc y) (by rw [hl,Nat.one_mul]) (fun j u hu=>by
  rw [addr_add,Nat.zero_add,World.cell?_alloc_mark]
  simpa using hu) (h1 y) hml hby (by simp;omega)
 have hform:∃ A2 c2,v'=.slice A2 (n+1) c2:=by
  rcases h2.2 with ⟨rfl,h0⟩ | ⟨g,cap,cur,rfl,_⟩
  ·exact⟨none,0,by rw [h0]⟩
  ·exact⟨_,_,rfl⟩
 obtain⟨A2,c2,rfl⟩:=hform
 have hg:=grownBy.trans' (World.grownBy_alloc w (.cells (enc y).toArray e) (Value.slice A n c).ownBlock) h3
 refine⟨A2,c2,w',hrun,?_,(Below.refl B w).grown hg hB (fun k hk=>(World.ownsRow.lt hown k hk).1),hg,fun b hb=>?_⟩
 ·unfold OwnS
  rw [List.flatMap_append,List.flatMap_cons,List.flatMap_nil,List.append_nil]
  exact h2
 ·rcases h5 with h5 | h5
  ·exact .inl (h5 ▸ hb)
  ·rw [h5] at hb
   injection hb with hb
   refine .inr ?_
   simp at hb
   omega
theorem wpList_pushT{P:Program}{α:Type}{enc:α→List Value}{sz:Nat}{w:World}{B:Nat}{e t:TypeId}{A:Option Addr}{n c:Nat}{xs:List α}{z:Value}{bytes:Nat}
 {ops:Array Oper} {rest:List Oper} {o:Oper} {a:Act} {Q:Exit→Act→World→Prop} (hgd:o.guard=none) (s x:Operand) (ho:o.op=.call { callee:=.builtin .append,args:=#[s,x],argTypes:=#[t,t] })
  (ht:P.underlying t=some (.slice e)) (hi:(P.info? e).map (fun i=>(i.zero,i.size,i.bytes))=some (some z,sz,bytes))
  (h1:∀ x,∀ u∈enc x,u.oneCell'=true) (hz:z.cells.size=sz) (hl:∀ x,(enc x).length=sz) (hsz:0 < sz)
  (hs:a.eval s=.slice A n c) (hown:OwnS enc sz w B e A n c xs) (hB:B≤w.heap.size) (y:α) (cs:Array Value) (hcs:(enc y).toArray=cs)
  (hx:a.eval x=.slice (some ⟨w.heap.size,0,none⟩) 1 1) (hml:n+1≤maxLen) (hby:(n+1) * bytes≤140737488355328)
  (h:∀ A2 c2 w',OwnS enc sz w' B e A2 (n+1) c2 (xs++[y])→Below B w w'→w.grownBy w' (Value.slice A n c).ownBlock→(∀ b,(Value.slice A2 (n+1) c2).ownBlock=some b→(Value.slice A n c).ownBlock=some b∨w.heap.size≤b)→wpList P ops Q rest (a.put o.dst (.slice A2 (n+1) c2)) w'):wpList P ops Q (o :: rest) a (w.alloc (.cells cs e)):=by
 subst hcs
 refine wpList_plain hgd fun K hK=>?_
 obtain⟨A2,c2,w',hrun,h2,h3,h4,h5⟩:=run_append_ownS' (P:=P) o.type ht hi h1 hz hl hsz hown hB y hml hby
 unfold Oper.wp execOp
 simp only [ho,resolve,invoke,builtin,Sem.run_bind,Sem.run_pure,Result.andThen_ok,List.map_toArray,List.map_cons,List.map_nil,hs,hx,hrun]
 exact hK _ _ (h A2 c2 w' h2 h3 h4 h5)
structure RVs where
 A:Option Addr
 k:Nat
 c:Nat
 Aa:Option Addr
 na:Nat
 ca:Nat
 Ac:Option Addr
 nc:Nat
 cc:Nat
 An:Option Addr
 nn:Nat
 cn:Nat
 Al:Option Addr
 nl:Nat
 cl:Nat
 m:Nat
def rdV(v:RVs)(n L:Nat):Array Value:=rdC v.A v.k v.c n (.slice v.Aa v.na v.ca) (.int .i64 (L:Int)) (.slice v.Ac v.nc v.cc) (.slice v.An v.nn v.cn) (.slice v.Al v.nl v.cl) (.map (some v.m))
def conF(s:AS)(x:List UInt8):Option Int:=(conOf s x).map fun k=>(k:Int)
structure RD (B g n:Nat) (w:World) (s:AS) (ws:List Wd) (v:RVs):Prop where
 row:rowV w g 174 (rdV v n s.ln.length)
 wm:WordsM B w v.A v.k v.c ws
 hk:v.k≤9000
 hB:B≤g
 hm:B≤v.m
 oa:OwnS encAr 2 w B 65 v.Aa v.na v.ca s.arrs
 oc:OwnS encIn 2 w B 44 v.Ac v.nc v.cc s.code
 on:OwnS encSt 1 w B 9 v.An v.nn v.cn s.an
 ol:OwnS encSt 1 w B 9 v.Al v.nl v.cl s.ln
 ne:∀ b,(Value.slice v.An v.nn v.cn).ownBlock=some b→some b≠(Value.slice v.Al v.nl v.cl).ownBlock
 mp:MapIs Tryz.prog 9 3 .i64 w v.m s.cn.length (conF s)
 few:s.cn.length+ws.length≤9000
 err:ErrR w
 hE:2 < B
 fm:Formed s
 dcl:DeclM w (g+2) (g+1) g
 hdm:g+2≠v.m
theorem DeclM.grown{w X:World}{m c g:Nat}{row:Option Nat}(h:DeclM w m c g)(hg:w.grownBy X row)(h1:some m≠row)(h2:some c≠row):DeclM X m c g:=
 ⟨(hg.block m (Array.getElem?_eq_some_iff.1 h.1).1 h1).trans h.1,h.2.grown hg h2⟩
theorem DeclM.below{w X:World}{m c g:Nat}(h:DeclM w m c g)(hb:Below w.heap.size w X):DeclM X m c g:=
 ⟨(hb.block m (Array.getElem?_eq_some_iff.1 h.1).1).trans h.1,h.2.below hb h.2.lt⟩
theorem DeclM.ne_cells{w:World}{m c g k:Nat}{cs:Array Value}{t:TypeId}(h:DeclM w m c g)(hr:w.heap[k]?=some (.cells cs t (0,0)))(ht:t≠167):m≠k∧c≠k:=by
 refine⟨fun e=>?_,fun e=>?_⟩
 ·have:=h.1
  rw [e,hr] at this
  injection this with this
  cases this
 ·have:=h.2
  unfold rowV at this
  rw [e,hr] at this
  injection this with this
  injection this with _ this
  exact ht this
theorem DeclM.ne_own{α:Type}{enc:α→List Value}{sz:Nat}{w:World}{B:Nat}{e:TypeId}{A:Option Addr}{n c:Nat}{xs:List α}{m d g:Nat}(h:DeclM w m d g)(ho:OwnS enc sz w B e A n c xs)(he:e≠167):some m≠(Value.slice A n c).ownBlock∧some d≠(Value.slice A n c).ownBlock:=by
 refine⟨fun e1=>?_,fun e1=>?_⟩
 ·obtain⟨_,_,cur,h3⟩:=ho.blk e1.symm
  exact (h.ne_cells h3 he).1 rfl
 ·obtain⟨_,_,cur,h3⟩:=ho.blk e1.symm
  exact (h.ne_cells h3 he).2 rfl
theorem DeclM.setRow{w:World}{m c g k j:Nat}{cs:Array Value}{t:TypeId}(h:DeclM w m c g)(hr:rowV w k t cs)(ht:t≠167)(u:Value):DeclM (w.setCell ⟨k,j,none⟩ u) m c g:=
 have hn:=h.ne_cells hr ht
 ⟨(Below.heap_setCell w ⟨k,j,none⟩ u m hn.1).trans h.1,h.2.setFar (p:=⟨k,j,none⟩) hn.2 u⟩
def RVs.at_(v:RVs)(A:Option Addr)(k c:Nat):RVs:={ v with A:=A,k:=k,c:=c }
theorem ErrR.grown{w w':World}{row:Option Nat}(h:ErrR w)(hg:w.grownBy w' row)(hne:∀ b,row=some b→2 < b):ErrR w':=by
 obtain⟨ev,h1,h2⟩:=h
 refine⟨ev,?_,h2⟩
 rw [World.cell?_of_block (w:=w) (w':=w')]
 ·exact h1
 ·exact hg.block _ (World.block_lt_of_cell? w _ h1) (fun e=>by have:=hne _ e.symm;exact absurd this (Nat.lt_irrefl _))
theorem RD.next'{B g n:Nat}{w w':World}{s:AS}{ws ws':List Wd}{v:RVs}(h:RD B g n w s ws v)(hw:ws'.length≤ws.length){A:Option Addr}{k c:Nat}(hk:k≤9000)
  (hr:rowV w' g 174 (rdC A k c n (.slice v.Aa v.na v.ca) (.int .i64 (s.ln.length:Int)) (.slice v.Ac v.nc v.cc) (.slice v.An v.nn v.cn) (.slice v.Al v.nl v.cl) (.map (some v.m)))) (hwm:WordsM B w' A k c ws') (hg:w.grownBy w' (some g)) :
  RD B g n w' s ws' (v.at_ A k c):=by
 have hdn:=h.dcl.ne_cells h.row (by decide)
 refine⟨hr,hwm,hk,h.hB,h.hm,h.oa.grown hg (h.oa.ne_row h.row (by decide)),h.oc.grown hg (h.oc.ne_row h.row (by decide)),h.on.grown hg (h.on.ne_row h.row (by decide)),h.ol.grown hg (h.ol.ne_row h.row (by decide)),h.ne,?_,by have:=h.few;omega,h.err.grown hg (fun b hb=>by injection hb with hb;have:=h.hE;have:=h.hB;omega),h.hE,h.fm,h.dcl.grown hg (fun e=>hdn.1 (by injection e)) (fun e=>hdn.2 (by injection e)),h.hdm⟩
 refine h.mp.same (hg.block _ h.mp.lt (fun e=>?_))
 injection e with e
 obtain⟨o,ho,hc⟩:=h.mp.isMap
 have:=h.row
 unfold rowV at this
 have e':v.m=g:=e
 rw [e'] at ho
 rw [this] at ho
 injection ho with ho
 rw [←ho] at hc
 cases hc
def NxV(B g n:Nat)(v:RVs)(s:AS)(ws:List Wd)(w w':World):Prop:=NxW B g n (.slice v.Aa v.na v.ca) (.int .i64 (s.ln.length:Int)) (.slice v.Ac v.nc v.cc) (.slice v.An v.nn v.cn) (.slice v.Al v.nl v.cl) (.map (some v.m)) ws w w'
theorem RD.next{B g n:Nat}{w w':World}{s:AS}{ws ws':List Wd}{v:RVs}(h:RD B g n w s ws v)(hw:ws'.length≤ws.length)(hx:NxV B g n v s ws' w w'):∃ A k c,RD B g n w' s ws' (v.at_ A k c)∧w.grownBy w' (some g):=by
 obtain⟨A,k,c,hk,hr,hwm,hg⟩:=hx
 exact⟨A,k,c,h.next' hw hk hr hwm hg,hg⟩
theorem RD.toBelow{B g n:Nat}{w w':World}{s:AS}{ws:List Wd}{v:RVs}(h:RD B g n w s ws v)(hg:w.grownBy w' (some g)):Below B w w':=Below.ofGrown hg h.hB (Nat.le_trans h.hB (Nat.le_of_lt h.row.lt))
theorem RD.le{B g n:Nat}{w:World}{s:AS}{ws:List Wd}{v:RVs}(h:RD B g n w s ws v):B≤w.heap.size:=Nat.le_trans h.hB (Nat.le_of_lt h.row.lt)
theorem RD.below{B g n:Nat}{w w':World}{s:AS}{ws:List Wd}{v:RVs}(h:RD B g n w s ws v)(hb:Below w.heap.size w w'):RD B g n w' s ws v:=
 ⟨h.row.below hb h.row.lt,h.wm.below (hb.mono h.le),h.hk,h.hB,h.hm,h.oa.below hb,h.oc.below hb,h.on.below hb,h.ol.below hb,h.ne,h.mp.below hb,h.few,h.err.below hb,h.hE,h.fm,h.dcl.below hb,h.hdm⟩
theorem contains_strs(xs:List (List UInt8))(x:List UInt8):Lib.containsS (xs.map strB) (strB x)=xs.contains x:=by
 have h1:=Lib.containsS_iff (xs.map strB) (strB x)
 have h2:strB x∈xs.map strB↔x∈xs:=by
  rw [List.mem_map]
  exact⟨fun ⟨y,hy,e⟩=>strB_inj e ▸ hy,fun h=>⟨x,h,rfl⟩⟩
 cases hc:xs.contains x with
 | true=>
  exact h1.2 (h2.2 (by simpa using hc))
 | false=>
  have:¬ x∈xs:=by simpa using hc
  cases hb:Lib.containsS (xs.map strB) (strB x) with
  | false=>rfl
  | true=>exact absurd (h2.1 (h1.1 hb)) this
theorem getD_strs(xs:List (List UInt8)){j:Nat}(hj:j < xs.length):(xs.map strB).getD j ByteArray.empty=strB (xs.getD j []):=by
 rw [List.getD_eq_getElem?_getD,List.getD_eq_getElem?_getD,List.getElem?_map,List.getElem?_eq_getElem hj]
 rfl
theorem OwnS.strs{w:World}{B n c:Nat}{A:Option Addr}{xs:List (List UInt8)}(h:OwnS encSt 1 w B 9 A n c xs)(hn:0 < n):∃ b,A=some ⟨b,0,none⟩∧n=xs.length∧∀ j,j < (xs.map strB).length→w.cell? ⟨b,0+j,none⟩=some (.string ((xs.map strB).getD j ByteArray.empty)):=by
 have hl:=h.length (fun _=>rfl) (by decide)
 obtain⟨b,hA,_,_,hc⟩:=h.get (fun _=>rfl) (by decide) ([]:List UInt8) hn
 refine⟨b,hA,hl.symm,fun j hj=>?_⟩
 have hj':j < xs.length:=by simpa using hj
 rw [getD_strs xs hj']
 have:=hc j 0 (.string (strB (xs.getD j []))) (by omega) rfl
 simpa using this
theorem contains_any(B:Nat)(A:Option Addr)(n c:Nat)(xs:List (List UInt8))(x:List UInt8)(w:World)(h:OwnS encSt 1 w B 9 A n c xs)(hn:n≤100000)(q:Nat) :
  Calls Tryz.prog 220 #[.slice A n c,.string (strB x)] (w.drewN q) fun e w'=>e=.returned (.bool (xs.contains x))∧w'=w.drewN q:=by
 have hl:=h.length (fun _=>rfl) (by decide)
 by_cases h0:n=0
 ·subst h0
  have:xs=[]:=List.length_eq_zero_iff.1 hl
  subst this
  exact Tryz.slices_Contains_string_empty A c (strB x) (w.drewN q)
 ·obtain⟨b,rfl,hnl,hc⟩:=h.strs (by omega)
  have H:=Tryz.slices_Contains_string b 0 n c (xs.map strB) (strB x) (w.drewN q) (by simp;omega) (by omega) hc
  rw [List.take_of_length_le (by simp;omega),contains_strs] at H
  exact H
theorem idxOf_strs(xs:List (List UInt8))(x:List UInt8):Lib.idxOfS (xs.map strB) (strB x)=if xs.contains x=true then (xs.idxOf x:Int) else -1:=by
 have key:∀ (ys:List (List UInt8)) (i:Nat),Lib.idxFromS (ys.map strB) (strB x) i=if ys.contains x=true then ((i+ys.idxOf x:Nat):Int) else -1:=fun ys=>by
  induction ys with
  | nil=>intro i;rfl
  | cons y ys ih=>
   intro i
   rw [List.map_cons,Lib.idxFromS,ih]
   by_cases h:y=x
   ·subst h
    simp
   ·have hne:strB y≠strB x:=fun e=>h (strB_inj e)
    have hc:(y :: ys).contains x=ys.contains x:=by simp [Ne.symm h]
    rw [hc,List.idxOf_cons,if_neg hne]
    by_cases h2:ys.contains x=true
    ·rw [if_pos h2,if_pos h2]
     have hb:(y==x)=false:=by simpa using h
     rw [hb]
     simp only [cond_false]
     omega
    ·rw [if_neg h2,if_neg h2]
 have:=key xs 0
 rw [Nat.zero_add] at this
 exact this
theorem index_any(B:Nat)(A:Option Addr)(n c:Nat)(xs:List (List UInt8))(x:List UInt8)(w:World)(h:OwnS encSt 1 w B 9 A n c xs)(hn:n≤100000) :
  Calls Tryz.prog 193 #[.slice A n c,.string (strB x)] w fun e w'=>e=.returned (.int .i64 (if xs.contains x=true then (xs.idxOf x:Int) else -1))∧w'=w:=by
 have hl:=h.length (fun _=>rfl) (by decide)
 rw [←idxOf_strs]
 by_cases h0:n=0
 ·subst h0
  have:xs=[]:=List.length_eq_zero_iff.1 hl
  subst this
  exact Tryz.slices_Index_string_empty A c (strB x) w
 ·obtain⟨b,rfl,hnl,hc⟩:=h.strs (by omega)
  have H:=Tryz.slices_Index_string b 0 n c (xs.map strB) (strB x) w (by simp;omega) (by omega) hc
  rw [List.take_of_length_le (by simp;omega)] at H
  exact H
end Go.Proofs.YtpaplehcafeeaaaGreatDoor
