/- Vp Kd Vq. -/
import Derived.Test.YtpaplehcafeeaaaGreatDoorLE21
import Derived.Test.YtpaplehcafeeaaaGreatDoorLE20
import Derived.Deep.CutBlock
set_option maxRecDepth 100000
set_option maxHeartbeats 40000000
set_option linter.unusedVariables false
set_option linter.unusedSimpArgs false
namespace Go.Proofs.YtpaplehcafeeaaaGreatDoor
open Go.RowKit Go.Proofs
structure BkV where
 op:Int
 fr:Int
 tt:Int
 bA:Option Addr
 bn:Nat
 bc:Nat
 oA:Option Addr
 on:Nat
 oc:Nat
def encBk(x:BkV):List Value:=[.int .i64 x.op,.int .i64 x.fr,.int .i64 x.tt,.slice x.bA x.bn x.bc,.slice x.oA x.on x.oc]
def encZ(x:Int):List Value:=[.int .i64 x]
theorem encBk_one(x:BkV):∀ u∈encBk x,u.oneCell'=true:=by
 intro u hu
 simp only [encBk,List.mem_cons,List.not_mem_nil,or_false] at hu
 rcases hu with h | h | h | h | h <;> rw [h] <;> rfl
theorem encZ_one(x:Int):∀ u∈encZ x,u.oneCell'=true:=by
 intro u hu
 simp only [encZ,List.mem_singleton] at hu
 rw [hu];rfl
theorem uBk:Tryz.prog.underlying 134=some (.slice 264):=by kernel_rfl
theorem uIs:Tryz.prog.underlying 52=some (.slice 3):=by kernel_rfl
theorem infoBk:(Tryz.prog.info? 264).map (fun i=>(i.zero,i.size,i.bytes))=some (some (.agg #[.int .i64 0,.int .i64 0,.int .i64 0,.slice none 0 0,.slice none 0 0]),5,72):=by kernel_rfl
theorem infoZ:(Tryz.prog.info? 3).map (fun i=>(i.zero,i.size,i.bytes))=some (some (.int .i64 0),1,8):=by kernel_rfl
abbrev OutB(w:World)(B:Nat)(A:Option Addr)(n c:Nat)(xs:List BkV):Prop:=OwnS encBk 5 w B 264 A n c xs
def gBk(xs:List BkV)(k:Nat):BkV:=xs.getD k ⟨0,0,0,none,0,0,none,0,0⟩
theorem flat_set5(v:Int):∀ (xs:List BkV) (i:Nat),i < xs.length→(xs.flatMap encBk).set (i * 5+2) (.int .i64 v)=(xs.set i { gBk xs i with tt:=v }).flatMap encBk:=by
 intro xs
 induction xs with
 | nil=>intro i h;cases h
 | cons x xs ih=>
  intro i h
  cases i with
  | zero=>rfl
  | succ i=>
   have h1:=ih i (by simpa using h)
   have h2:gBk (x :: xs) (i+1)=gBk xs i:=rfl
   rw [h2,List.set_cons_succ,List.flatMap_cons,List.flatMap_cons,←h1]
   show (encBk x++xs.flatMap encBk).set ((i+1) * 5+2) _=_
   rw [List.set_append_right _ _ (by simp [encBk];omega)]
   congr 2
   simp [encBk];omega
structure LV where
 lb:Nat
 A:Option Addr
 n:Nat
 c:Nat
 L:List Int
def lvPtr:Option LV→Value
 | none=>.pointer none
 | some v=>.pointer (some ⟨v.lb,0,none⟩)
structure LvAt (B pb:Nat) (w:World) (v:LV):Prop where
 le:B≤v.lb
 box:rowV w v.lb 52 #[.slice v.A v.n v.c]
 own:OwnS encZ 1 w B 3 v.A v.n v.c v.L
 ne:∀ b,(Value.slice v.A v.n v.c).ownBlock=some b→b≠pb
def LvOk(B pb:Nat)(w:World):Option LV→Prop
 | none=>True
 | some v=>LvAt B pb w v
def LvExt(c:List Ins)(p m:Nat):Option LV→Option LV→Prop
 | none,v=>v=none
 | some v,u=>∃ v' X,u=some v'∧v'.lb=v.lb∧v'.L=v.L++X∧(∀ x∈X,∃ k:Nat,x=(k:Int)∧p≤k∧k < m∧oI c k=30)∧v'.n+p≤v.n+m
def LvFew:Option LV→Nat→Prop
 | none,_=>True
 | some v,p=>v.n≤p
def LvBlk:Option LV→Nat→Prop
 | none,_=>False
 | some v,k=>k=v.lb∨(Value.slice v.A v.n v.c).ownBlock=some k
structure KX (B g pb:Nat) (lv lv':Option LV) (w w':World):Prop where
 below:Below B w w'
 keep:∀ k,k < w.heap.size→k≠g→k≠pb→¬ LvBlk lv k→w'.heap[k]?=w.heap[k]?
 fresh:∀ k,LvBlk lv' k→LvBlk lv k∨w.heap.size≤k
structure FR (w0:World) (g pb:Nat) (w:World) (A:Option Addr) (n cc:Nat) (at_:Nat) (P:List Int):Prop where
 row:rowV w g 194 #[.slice A n cc,.int .i64 at_,.slice (some ⟨pb,0,none⟩) n n]
 prt:Row (Value.int .i64) w pb 3 P
 len:P.length=n
 base:Below w0.heap.size w0 w
 hg:w0.heap.size≤g
 hp:w0.heap.size≤pb
def failF(at_ e:Int):Value:=.iface 232 (.agg #[.int .i64 at_,.int .i64 e])
def DoesF(w0:World)(g pb:Nat)(w:World)(A:Option Addr)(n cc:Nat)(c:List Ins)(p:Nat)(P:List Int)(lv:Option LV)(Res:Ending→World→Prop)(r:PR)(e:Ending)(w':World):Prop:=match r with
 | .bad q=>e=.panicked [{ v:=failF q 15,recovered:=false }]∧Below w0.heap.size w w'
 | .ok t m=>Res e w'∧∃ P' lv',FR w0 g pb w' A n cc m P'∧(∀ k,k < p∨m≤k→gi P' k=gi P k)∧PartOk P' p t∧LvOk w0.heap.size pb w' lv'∧LvExt c p m lv lv'∧KX w0.heap.size g pb lv lv' w w'
def ResL(w:World)(e:Ending)(w':World):Prop:=∃ A n c,e=.returned (.slice A n c)
def ResB(w:World)(e:Ending)(w':World):Prop:=∃ x:BkV,e=.returned (.agg #[.int .i64 x.op,.int .i64 x.fr,.int .i64 x.tt,.slice x.bA x.bn x.bc,.slice x.oA x.on x.oc])
theorem LvExt.refl(c:List Ins)(p:Nat)(lv:Option LV):LvExt c p p lv lv:=by
 cases lv with
 | none=>rfl
 | some v=>exact⟨v,[],rfl,rfl,by simp,fun x hx=>absurd hx List.not_mem_nil,Nat.le_refl _⟩
theorem LvFew.ext{c:List Ins}{p m:Nat}{a b:Option LV}(h:LvFew a p)(he:LvExt c p m a b):LvFew b m:=by
 cases a with
 | none=>have he:b=none:=he;subst he;trivial
 | some v=>
  obtain⟨v',X,rfl,-,-,-,h2⟩:=he
  have h:v.n≤p:=h
  show v'.n≤m
  omega
theorem LvExt.trans{c:List Ins}{p m q:Nat}{a b d:Option LV}(h:LvExt c p m a b)(h':LvExt c m q b d)(h1:p≤m)(h2:m≤q):LvExt c p q a d:=by
 cases a with
 | none=>
  have h:b=none:=h
  subst h
  exact h'
 | some v=>
  obtain⟨v',X,rfl,e1,e2,e3,e4⟩:=h
  obtain⟨v'',Y,rfl,f1,f2,f3,f4⟩:=h'
  refine⟨v'',X++Y,rfl,f1.trans e1,by rw [f2,e2,List.append_assoc],fun x hx=>?_,by omega⟩
  rcases List.mem_append.1 hx with hx | hx
  ·obtain⟨k,a,b,d,f⟩:=e3 x hx;exact⟨k,a,b,by omega,f⟩
  ·obtain⟨k,a,b,d,f⟩:=f3 x hx;exact⟨k,a,by omega,d,f⟩
theorem LvExt.some{c:List Ins}{p m:Nat}{a b:Option LV}(h:LvExt c p m a b):a.isSome=b.isSome:=by
 cases a with
 | none=>have h:b=none:=h;rw [h]
 | some v=>obtain⟨v',X,rfl,-⟩:=h;rfl
theorem LvExt.ptr{c:List Ins}{p m:Nat}{a b:Option LV}(h:LvExt c p m a b):lvPtr b=lvPtr a:=by
 cases a with
 | none=>have h:b=none:=h;rw [h]
 | some v=>obtain⟨v',X,rfl,e,-⟩:=h;simp [lvPtr,e]
theorem KX.refl(B g pb:Nat)(lv:Option LV)(w:World):KX B g pb lv lv w w:=⟨Below.refl _ _,fun _ _ _ _ _=>rfl,fun k h=>.inl h⟩
theorem KX.trans{B g pb:Nat}{a b d:Option LV}{w w1 w2:World}(h:KX B g pb a b w w1)(h':KX B g pb b d w1 w2):KX B g pb a d w w2:=
 ⟨h.below.trans h'.below,fun k hk h1 h2 h3=>(h'.keep k (Nat.lt_of_lt_of_le hk h.below.size) h1 h2 (fun hb=>by
  rcases h.fresh k hb with h4 | h4
  ·exact h3 h4
  ·omega)).trans (h.keep k hk h1 h2 h3),fun k hk=>by
  rcases h'.fresh k hk with h1 | h1
  ·exact h.fresh k h1
  ·have:=h.below.size;omega⟩
theorem FR.codes{w0 w:World}{g pb:Nat}{A:Option Addr}{n cc at_:Nat}{P:List Int}(h:FR w0 g pb w A n cc at_ P){c:List Ins}(hc:Codes w0 A n cc c):Codes w A n cc c:=hc.below h.base
theorem demandF_ok(a e:Int)(w:World):Calls Tryz.prog 137 #[.bool true,.int .i64 a,.int .i64 e] w fun en w'=>en=.returned (.tuple #[])∧w'=w:=by
 go_enter Tryz.func137,Tryz.ntmps137
 go_wp2_with fail
 exact⟨rfl,_,results_none rfl _ _ _,rfl,rfl⟩
theorem demandF_bad(a e:Int)(w:World):Calls Tryz.prog 137 #[.bool false,.int .i64 a,.int .i64 e] w fun en w'=>en=.panicked [{ v:=failF a e,recovered:=false }]∧w'=w:=by
 go_enter Tryz.func137,Tryz.ntmps137
 go_wp2_with fail
 exact⟨rfl,rfl,rfl⟩
theorem opens_any(op:Int)(w:World):Calls Tryz.prog 178 #[.int .i64 op] w fun e w'=>e=.returned (.bool (decide (op=27∨op=29)))∧w'=w:=by
 by_cases h1:op=27
 ·subst h1
  go_enter Tryz.func178,Tryz.ntmps178
  go_wp2_with fail
  go_ret
  exact⟨rfl,rfl⟩
 have q1:(op==27)=false:=by simpa using h1
 by_cases h2:op=29
 ·subst h2
  go_enter Tryz.func178,Tryz.ntmps178
  go_wp2_with fail
  go_ret
  exact⟨rfl,rfl⟩
 have q2:(op==29)=false:=by simpa using h2
 rw [decide_eq_false (by omega)]
 go_enter Tryz.func178,Tryz.ntmps178
 go_wp2_with fail
 go_ret
 exact⟨rfl,rfl⟩
def blkP(c:List Ins)(f d:Nat)(b:Bool)(p:Nat):PR:=
 if 8≤d then .bad p
 else (lst c f (d+1) (b || decide (oI c p=29)) (p+1)).bind fun a m=>
  if m < c.length∧oI c p=27∧oI c m=28 then
   (lst c f (d+1) b (m+1)).bind fun e q=>if q < c.length∧oI c q=31 then .ok (.ife a e .nil) (q+1) else .bad q
  else if m < c.length∧oI c m=31 then .ok (if oI c p=27 then .ift a .nil else .lp a .nil) (m+1) else .bad m
theorem lst_block{c:List Ins}{f d p:Nat}{b:Bool}(hp:p < c.length)(ho:oI c p=27∨oI c p=29):lst c (f+1) d b p=(blkP c f d b p).bind fun t m=>(lst c f d b m).pre t:=by
 conv=>lhs;unfold lst
 unfold blkP
 rw [if_pos hp,if_neg (by omega),if_pos ho]
 by_cases h8:8≤d
 ·rw [if_pos h8,if_pos h8];rfl
 rw [if_neg h8,if_neg h8]
 cases lst c f (d+1) (b || decide (oI c p=29)) (p+1) with
 | bad q=>rfl
 | ok a m=>
  simp only [PR.bind]
  by_cases h1:m < c.length∧oI c p=27∧oI c m=28
  ·rw [if_pos h1,if_pos h1]
   cases lst c f (d+1) b (m+1) with
   | bad q=>rfl
   | ok e q=>
    simp only []
    by_cases h2:q < c.length∧oI c q=31
    ·rw [if_pos h2,if_pos h2]
     show (lst c f d b (q+1)).map _=(lst c f d b (q+1)).pre _;cases lst c f d b (q+1) <;> rfl
    ·rw [if_neg h2,if_neg h2]
  ·rw [if_neg h1,if_neg h1]
   by_cases h2:m < c.length∧oI c m=31
   ·rw [if_pos h2,if_pos h2]
    by_cases h3:oI c p=27
    ·rw [if_pos h3,if_pos h3]
     show (lst c f d b (m+1)).map _=(lst c f d b (m+1)).pre _;cases lst c f d b (m+1) <;> rfl
    ·rw [if_neg h3,if_neg h3]
     show (lst c f d b (m+1)).map _=(lst c f d b (m+1)).pre _;cases lst c f d b (m+1) <;> rfl
   ·rw [if_neg h2,if_neg h2]
theorem blkP_ok{c:List Ins}{f d p:Nat}{b:Bool}{t:Tr}{m:Nat}(hp:p < c.length)(ho:oI c p=27∨oI c p=29)(h:blkP c f d b p=.ok t m):m=p+t.size∧m≤c.length∧Fit c b p t∧p < m:=by
 have hl:lst c (f+1) d b p=(blkP c f d b p).bind fun t m=>(lst c f d b m).pre t:=lst_block hp ho
 unfold blkP at h
 split at h
 ·cases h
 obtain⟨a,k,h1,h2⟩:=PR.bind_ok h
 obtain⟨fa,ka,la,-,-⟩:=lst_ok h1
 split at h2
 ·rename_i hk
  obtain⟨e,q,h3,h4⟩:=PR.bind_ok h2
  obtain⟨fe,ke,le,-,-⟩:=lst_ok h3
  split at h4
  ·rename_i hq
   cases h4
   subst ka ke
   have h29:decide (oI c p=29)=false:=by simp;omega
   rw [h29,Bool.or_false] at fa
   refine⟨by simp only [Tr.size];omega,by omega,⟨hk.2.1,fa,hk.2.2,?_,?_,trivial⟩,by omega⟩
   ·rw [show p+2+a.size=p+1+a.size+1 by omega];exact fe
   ·rw [show p+2+a.size+e.size=p+1+a.size+1+e.size by omega];exact hq.2
  ·cases h4
 ·split at h2
  ·rename_i hm
   cases h2
   subst ka
   by_cases h27:oI c p=27
   ·have h29:decide (oI c p=29)=false:=by simp;omega
    rw [h29,Bool.or_false] at fa
    rw [if_pos h27]
    exact⟨by simp only [Tr.size];omega,by omega,⟨h27,fa,hm.2,trivial⟩,by omega⟩
   ·have h29':decide (oI c p=29)=true:=by simp;omega
    rw [h29',Bool.or_true] at fa
    rw [if_neg h27]
    exact⟨by simp only [Tr.size];omega,by omega,⟨by omega,fa,hm.2,trivial⟩,by omega⟩
  ·cases h2
theorem PR.pre_nil(x:PR):x.pre .nil=x:=by cases x <;> rfl
theorem PR.pre_pre(x:PR)(s t:Tr):(x.pre t).pre s=x.pre (s.app t):=by
 cases x with
 | bad p=>rfl
 | ok u m=>simp only [PR.pre,Tr.app_assoc]
def readsX(op a b:Int):List Int:=(if (kindI op).getD 2 false then [a] else [])++(if (kindI op).getD 3 false then [b] else [])
def writeX(op t:Int):Int:=if (kindI op).getD 1 false then t else -1
theorem kindI_four(op:Int):∃ a b c d,kindI op=[a,b,c,d]:=by
 unfold kindI
 split
 ·exact kindP_four _
 ·exact⟨_,_,_,_,rfl⟩
theorem uses_any(op t a b arg:Int)(w:World):Calls Tryz.prog 17 #[.agg #[.int .i64 op,.int .i64 t,.int .i64 a,.int .i64 b,.int .u32 arg]] w fun e w'=>RetInts w (readsX op a b) (writeX op t) e w':=by
 have S:=shape_any op
 have hr:Hid (readsX op a b=readsX op a b):=rfl
 obtain⟨k0,pt,pa,pb,hk⟩:=kindI_four op
 have hR:readsX op a b=(if pa then [a] else [])++(if pb then [b] else []):=by unfold readsX;rw [hk];rfl
 have hW:writeX op t=if pt then t else -1:=by unfold writeX;rw [hk];rfl
 rw [hk] at S
 simp only [List.map_cons,List.map_nil] at S
 clear hk hr
 rw [hR,hW]
 have HS:=Lib.hid S
 clear S hR hW
 obtain⟨w0,hw0⟩:∃ z,z=w.alloc (.cells #[.int .i64 op,.int .i64 t,.int .i64 a,.int .i64 b,.int .u32 arg] 47):=⟨_,rfl⟩
 have b0:Below w.heap.size w w0:=by rw [hw0];exact balloc (Below.refl _ _) _
 have r0:rowV w0 w.heap.size 47 #[.int .i64 op,.int .i64 t,.int .i64 a,.int .i64 b,.int .u32 arg]:=by rw [hw0];exact rowV.new w _ _
 have c0:=cell_rowV r0 (j:=0) rfl
 have Hw0:=Lib.hid hw0
 clear hw0
 go_enter Tryz.func17,Tryz.ntmps17
 go_wp2_with fail
 rw [←Hw0.out]
 refine (HS.out _).mono ?_
 rintro e w1 ⟨rfl,hb1⟩
 obtain⟨w2,hw2⟩:∃ z,z=w1.alloc (.cells #[.bool k0,.bool pt,.bool pa,.bool pb] 97):=⟨_,rfl⟩
 have b2:Below w0.heap.size w0 w2:=by rw [hw2];exact balloc hb1 _
 have q2:rowV w2 w1.heap.size 97 #[.bool k0,.bool pt,.bool pa,.bool pb]:=by rw [hw2];exact rowV.new w1 _ _
 have r2:=r0.below b2 r0.lt
 have bw:=b0.trans (b2.mono b0.size)
 have Hw2:=Lib.hid hw2
 clear hw2 r0 c0 b0 hb1 b2
 have y1:=cell_rowV q2 (j:=1) rfl
 have y2:=cell_rowV q2 (j:=2) rfl
 have y3:=cell_rowV q2 (j:=3) rfl
 have x1:=cell_rowV r2 (j:=1) rfl
 have x2:=cell_rowV r2 (j:=2) rfl
 have x3:=cell_rowV r2 (j:=3) rfl
 have R2:=Lib.hid r2
 have Q2:=Lib.hid q2
 have BW:=Lib.hid bw
 clear r2 q2 bw
 go_upto_region 3 with fail
 rw [←Hw2.out]
 clear Hw2
 obtain⟨A,n,c,hv,ho,hn⟩:∃ (A:Option Addr) (n c:Nat),Value.slice none 0 0=Value.slice A n c∧Own (Value.int .i64) w2 w2.heap.size 3 A n c []∧n=0:=⟨none,0,0,rfl,Own.nil _ _ _ _,rfl⟩
 rw [hv]
 have m1:=Lib.hid (show n+1≤maxLen∧(n+1) * 8≤140737488355328 by rw [hn];decide)
 have m2:=Lib.hid (show n+1+1≤maxLen∧(n+1+1) * 8≤140737488355328 by rw [hn];decide)
 have HO:=Lib.hid ho
 have HN:=Lib.hid hn
 clear ho hv hn
 rcases pa with _ | _ <;> rcases pb with _ | _ <;> rcases pt with _ | _
 all_goals go_wp2_with (first
  | (at_builtin;refine wpList_push (enc:=Value.int .i64) rfl (.tmp 11) (.tmp 14) rfl uIs infoZ (fun _=>rfl) rfl rfl HO.out (Nat.le_refl _) a rfl m1.out.1 m1.out.2 ?_;intro A6 c6 W6 ho6 hb6;have u1:=(hb6.cell (p:=⟨w1.heap.size,1,none⟩) Q2.out.lt).trans y1;have u3:=(hb6.cell (p:=⟨w1.heap.size,3,none⟩) Q2.out.lt).trans y3;have z1:=(hb6.cell (p:=⟨w.heap.size,1,none⟩) R2.out.lt).trans x1;have z3:=(hb6.cell (p:=⟨w.heap.size,3,none⟩) R2.out.lt).trans x3;have HO6:=Lib.hid ho6;have HB6:=Lib.hid hb6;clear ho6 hb6)
  | (at_builtin;refine wpList_push (enc:=Value.int .i64) rfl (.tmp 18) (.tmp 21) rfl uIs infoZ (fun _=>rfl) rfl rfl HO6.out HB6.out.size b rfl m2.out.1 m2.out.2 ?_;intro A7 c7 W7 ho7 hb7;have v1:=(hb7.cell (p:=⟨w1.heap.size,1,none⟩) Q2.out.lt).trans u1;have w3:=(hb7.cell (p:=⟨w.heap.size,1,none⟩) R2.out.lt).trans z1;have HO7:=Lib.hid ho7;have HB7:=Lib.hid hb7;clear ho7 hb7)
  | (at_builtin;refine wpList_push (enc:=Value.int .i64) rfl (.tmp 18) (.tmp 21) rfl uIs infoZ (fun _=>rfl) rfl rfl HO.out (Nat.le_refl _) b rfl m1.out.1 m1.out.2 ?_;intro A7 c7 W7 ho7 hb7;have v1:=(hb7.cell (p:=⟨w1.heap.size,1,none⟩) Q2.out.lt).trans y1;have w3:=(hb7.cell (p:=⟨w.heap.size,1,none⟩) R2.out.lt).trans x1;have HO7:=Lib.hid ho7;have HB7:=Lib.hid hb7;clear ho7 hb7))
 ·go_ret2
  exact RetInts.mk rfl (Own.ints HO.out) BW.out
 ·go_quiet (fail)
  go_wp2_with fail
  go_ret2
  exact RetInts.mk rfl (Own.ints (Own.below HO.out (bdrew (Below.refl _ _) _))) (bdrew BW.out _)
 ·go_ret2
  exact RetInts.mk rfl (Own.ints HO7.out) (BW.out.trans (HB7.out.mono BW.out.size))
 ·go_quiet (fail)
  go_wp2_with fail
  go_ret2
  exact RetInts.mk rfl (Own.ints (Own.below HO7.out (bdrew (Below.refl _ _) _))) (bdrew (BW.out.trans (HB7.out.mono BW.out.size)) _)
 ·go_ret2
  exact RetInts.mk rfl (Own.ints HO6.out) (BW.out.trans (HB6.out.mono BW.out.size))
 ·go_quiet (fail)
  go_wp2_with fail
  go_ret2
  exact RetInts.mk rfl (Own.ints (Own.below HO6.out (bdrew (Below.refl _ _) _))) (bdrew (BW.out.trans (HB6.out.mono BW.out.size)) _)
 ·go_ret2
  exact RetInts.mk rfl (Own.ints HO7.out) ((BW.out.trans (HB6.out.mono BW.out.size)).trans (HB7.out.mono BW.out.size))
 ·go_quiet (fail)
  go_wp2_with fail
  go_ret2
  exact RetInts.mk rfl (Own.ints (Own.below HO7.out (bdrew (Below.refl _ _) _))) (bdrew ((BW.out.trans (HB6.out.mono BW.out.size)).trans (HB7.out.mono BW.out.size)) _)
def LstC(f:Nat):Prop:=∀ (w0:World) (A:Option Addr) (n cc:Nat) (c:List Ins) (hc0:Codes w0 A n cc c) (hn:n≤1024) (g pb:Nat) (w:World) (d:Nat) (lv:Option LV) (p:Nat) (P:List Int),FR w0 g pb w A n cc p P→LvOk w0.heap.size pb w lv→LvFew lv p→p≤n→d≤8→n-p < f →
 Calls Tryz.prog 139 #[.pointer (some ⟨g,0,none⟩),.int .i64 (d:Int),lvPtr lv] w (DoesF w0 g pb w A n cc c p P lv (ResL w) (lst c f d lv.isSome p))
def BlkC(f:Nat):Prop:=∀ (w0:World) (A:Option Addr) (n cc:Nat) (c:List Ins) (hc0:Codes w0 A n cc c) (hn:n≤1024) (g pb:Nat) (w:World) (d:Nat) (lv:Option LV) (p:Nat) (P:List Int),FR w0 g pb w A n cc p P→LvOk w0.heap.size pb w lv→LvFew lv p→p < n→d≤8→n-p≤f→(oI c p=27∨oI c p=29) →
 Calls Tryz.prog 179 #[.pointer (some ⟨g,0,none⟩),.int .i64 ((d:Int)+1),lvPtr lv] w (DoesF w0 g pb w A n cc c p P lv (ResB w) (blkP c f d lv.isSome p))
structure LR (w0:World) (g pb:Nat) (w:World) (A:Option Addr) (n cc:Nat) (c:List Ins) (f d:Nat) (b:Bool) (p:Nat) (P:List Int) (lv:Option LV) (wr:World) (p' f':Nat) (s:Tr) (P':List Int) (lv':Option LV) (A':Option Addr) (m' c':Nat) (xs:List BkV):Prop where
 fr:FR w0 g pb wr A n cc p' P'
 eq:lst c f d b p=(lst c f' d b p').pre s
 le:n-p' < f'∧f'≤f∧p≤p'∧p'≤n∧p'=p+s.size
 same:∀ k,k < p∨p'≤k→gi P' k=gi P k
 part:PartOk P' p s
 lvs:LvOk w0.heap.size pb wr lv'
 ext:LvExt c p p' lv lv'
 kx:KX w0.heap.size g pb lv lv' w wr
 out:OutB wr w.heap.size A' m' c' xs
 mle:m'≤p'-p
def measF(g n:Nat)(w:World):Nat:=match w.cell? ⟨g,1,none⟩ with
 | some (.int _ k)=>n-k.toNat
 | _=>0
theorem FR.cells{w0 w:World}{g pb:Nat}{A:Option Addr}{n cc at_:Nat}{P:List Int}(h:FR w0 g pb w A n cc at_ P):w.cell? ⟨g,0,none⟩=some (.slice A n cc)∧w.cell? ⟨g,1,none⟩=some (.int .i64 (at_:Int))∧w.cell? ⟨g,2,none⟩=some (.slice (some ⟨pb,0,none⟩) n n):=three_cellsV h.row
theorem FR.meas{w0 w:World}{g pb:Nat}{A:Option Addr}{n cc at_:Nat}{P:List Int}(h:FR w0 g pb w A n cc at_ P):measF g n w=n-at_:=by
 unfold measF
 rw [h.cells.2.1]
 simp
theorem FR.drewN{w0 w:World}{g pb:Nat}{A:Option Addr}{n cc at_:Nat}{P:List Int}(h:FR w0 g pb w A n cc at_ P)(q:Nat):FR w0 g pb (w.drewN q) A n cc at_ P:=⟨h.row,h.prt,h.len,bdrew h.base q,h.hg,h.hp⟩
theorem LvOk.drewN{B pb:Nat}{w:World}{lv:Option LV}(h:LvOk B pb w lv)(q:Nat):LvOk B pb (w.drewN q) lv:=by
 cases lv with
 | none=>trivial
 | some v=>exact⟨h.le,h.box,h.own,h.ne⟩
theorem KX.drewN{B g pb:Nat}{a b:Option LV}{w w':World}(h:KX B g pb a b w w')(q:Nat):KX B g pb a b w (w'.drewN q):=⟨bdrew h.below q,h.keep,h.fresh⟩
theorem PartOk.congr{P Q:List Int}:∀ {t:Tr} {lo:Nat},PartOk P lo t→(∀ k,lo≤k→k < lo+t.size→gi Q k=gi P k)→PartOk Q lo t:=by
 intro t
 induction t with
 | nil=>intro lo _ _;trivial
 | ins r ih=>intro lo h e;exact ih h (fun k h1 h2=>e k (by omega) (by simp only [Tr.size];omega))
 | ift a r iha ih=>
  intro lo h e
  exact⟨by rw [e lo (Nat.le_refl _) (by simp only [Tr.size];omega)];exact h.1,iha h.2.1 (fun k h1 h2=>e k (by omega) (by simp only [Tr.size];omega)),ih h.2.2 (fun k h1 h2=>e k (by omega) (by simp only [Tr.size];omega))⟩
 | ife a d r iha ihd ih=>
  intro lo h e
  exact⟨by rw [e lo (Nat.le_refl _) (by simp only [Tr.size];omega)];exact h.1,by rw [e (lo+1+a.size) (by omega) (by simp only [Tr.size];omega)];exact h.2.1,iha h.2.2.1 (fun k h1 h2=>e k (by omega) (by simp only [Tr.size];omega)),ihd h.2.2.2.1 (fun k h1 h2=>e k (by omega) (by simp only [Tr.size];omega)),ih h.2.2.2.2 (fun k h1 h2=>e k (by omega) (by simp only [Tr.size];omega))⟩
 | lp a r iha ih=>
  intro lo h e
  exact⟨by rw [e lo (Nat.le_refl _) (by simp only [Tr.size];omega)];exact h.1,iha h.2.1 (fun k h1 h2=>e k (by omega) (by simp only [Tr.size];omega)),ih h.2.2 (fun k h1 h2=>e k (by omega) (by simp only [Tr.size];omega))⟩
theorem FR.grown{w0 w w':World}{g pb:Nat}{A:Option Addr}{n cc at_:Nat}{P:List Int}(h:FR w0 g pb w A n cc at_ P){row:Option Nat}(hg:w.grownBy w' row)(h1:some g≠row)(h2:some pb≠row)(hB:∀ k,row=some k→w0.heap.size≤k):FR w0 g pb w' A n cc at_ P:=
 ⟨h.row.grown hg h1,(hg.block pb h.prt.lt h2).trans h.prt,h.len,h.base.grown hg h.base.size hB,h.hg,h.hp⟩
theorem LvAt.grown{B pb:Nat}{w w':World}{v:LV}(h:LvAt B pb w v){row:Option Nat}(hg:w.grownBy w' row)(h1:some v.lb≠row)(h2:∀ b,(Value.slice v.A v.n v.c).ownBlock=some b→some b≠row):LvAt B pb w' v:=⟨h.le,h.box.grown hg h1,h.own.grown hg h2,h.ne⟩
theorem LvOk.grown{B pb:Nat}{w w':World}{lv:Option LV}(h:LvOk B pb w lv){row:Option Nat}(hg:w.grownBy w' row)(h1:∀ k,LvBlk lv k→some k≠row):LvOk B pb w' lv:=by
 cases lv with
 | none=>trivial
 | some v=>exact LvAt.grown h hg (h1 _ (.inl rfl)) (fun b hb=>h1 b (.inr hb))
theorem KX.grown{B g pb:Nat}{a b:Option LV}{w w1 w2:World}(h:KX B g pb a b w w1){row:Option Nat}(hg:w1.grownBy w2 row)(hr:∀ k,row=some k→w.heap.size≤k∨k=g∨k=pb∨LvBlk a k)(hB:∀ k,row=some k→B≤k)(hw:B≤w.heap.size):KX B g pb a b w w2:=
 ⟨h.below.grown hg (Nat.le_trans hw h.below.size) hB,fun k hk h1 h2 h3=>(hg.block k (Nat.lt_of_lt_of_le hk h.below.size) (fun e=>by
  rcases hr k e.symm with h4 | h4 | h4 | h4
  ·omega
  ·exact h1 h4
  ·exact h2 h4
  ·exact h3 h4)).trans (h.keep k hk h1 h2 h3),h.fresh⟩
theorem FR.setAt{w0 w:World}{g pb:Nat}{A:Option Addr}{n cc at_:Nat}{P:List Int}(h:FR w0 g pb w A n cc at_ P)(x:Nat):FR w0 g pb (w.setCell ⟨g,1,none⟩ (.int .i64 (x:Int))) A n cc x P:=by
 have hne:pb≠g:=fun e=>by
  have h1:=h.row
  have h2:=h.prt
  unfold rowV at h1
  unfold Row at h2
  rw [e,h1] at h2
  injection h2 with h2
  injection h2 with _ h2
  revert h2
  decide
 exact⟨h.row.set 1 _,(Below.heap_setCell w ⟨g,1,none⟩ _ pb hne).trans h.prt,h.len,belowCell h.base h.hg _,h.hg,h.hp⟩
section
variable {w0 : World} {g pb : Nat} {w : World} {A : Option Addr} {n cc : Nat} {c : List Ins} {f d : Nat} {b : Bool} {p : Nat} {P : List Int} {lv : Option LV} {wr : World} {p' f' : Nat} {s : Tr} {P' : List Int} {lv' : Option LV} {A' : Option Addr} {m' c' : Nat} {xs : List BkV}
theorem LR.done(h:LR w0 g pb w A n cc c f d b p P lv wr p' f' s P' lv' A' m' c' xs)(hn:lst c f' d b p'=.ok .nil p')(q:Nat):DoesF w0 g pb w A n cc c p P lv (ResL w) (lst c f d b p) (.returned (.slice A' m' c')) (wr.drewN q):=by
 rw [h.eq,hn]
 show DoesF w0 g pb w A n cc c p P lv (ResL w) (.ok (s.app .nil) p') _ _
 rw [Tr.app_nil]
 exact⟨⟨_,_,_,rfl⟩,P',lv',h.fr.drewN q,h.same,h.part,h.lvs.drewN q,h.ext,h.kx.drewN q⟩
theorem LR.fail(h:LR w0 g pb w A n cc c f d b p P lv wr p' f' s P' lv' A' m' c' xs){q:Nat}(hn:lst c f' d b p'=.bad q){w':World}(hb:Below w0.heap.size wr w'):DoesF w0 g pb w A n cc c p P lv (ResL w) (lst c f d b p) (.panicked [{ v:=failF q 15,recovered:=false }]) w':=by
 rw [h.eq,hn]
 exact⟨rfl,h.kx.below.trans hb⟩
theorem lst_plain{k:Nat}(h0:p' < c.length)(h1:oI c p'≠27)(h2:oI c p'≠28)(h3:oI c p'≠29)(h4:oI c p'≠31)(h5:oI c p'=30→b=true):lst c (k+1) d b p'=(lst c k d b (p'+1)).pre (.ins .nil):=by
 conv=>lhs;unfold lst
 rw [if_pos h0,if_neg (by omega),if_neg (by omega),if_neg (by rintro⟨h6,h7⟩;rw [h5 h6] at h7;cases h7)]
 cases lst c k d b (p'+1) <;> rfl
theorem lst_end{k:Nat}(h0:p' < c.length)(h1:oI c p'=28∨oI c p'=31):lst c (k+1) d b p'=.ok .nil p':=by
 conv=>lhs;unfold lst
 rw [if_pos h0,if_pos h1]
theorem lst_eof{k:Nat}(h0:¬ p' < c.length):lst c (k+1) d b p'=.ok .nil p':=by
 conv=>lhs;unfold lst
 rw [if_neg h0]
theorem lst_leave{k:Nat}(h0:p' < c.length)(h1:oI c p'=30)(h2:b=false):lst c (k+1) d b p'=.bad p':=by
 conv=>lhs;unfold lst
 rw [if_pos h0,if_neg (by omega),if_neg (by omega),if_pos ⟨h1,h2⟩]
theorem LR.step(h:LR w0 g pb w A n cc c f d b p P lv wr p' f' s P' lv' A' m' c' xs){t:Tr}{m k:Nat}{w2:World}{P2:List Int}{lv2:Option LV}{A2:Option Addr}{m2 c2:Nat}{xs2:List BkV}
  (he:lst c f' d b p'=(lst c k d b m).pre t) (hm:m=p'+t.size) (hlt:p' < m) (hmn:m≤n) (hk:k+1=f')
  (fr:FR w0 g pb w2 A n cc m P2) (same:∀ k,k < p'∨m≤k→gi P2 k=gi P' k) (part:PartOk P2 p' t) (lvs:LvOk w0.heap.size pb w2 lv2) (ext:LvExt c p' m lv' lv2) (kx:KX w0.heap.size g pb lv lv2 w w2) (out:OutB w2 w.heap.size A2 m2 c2 xs2) (hm2:m2≤m'+1) :
  LR w0 g pb w A n cc c f d b p P lv w2 m k (s.app t) P2 lv2 A2 m2 c2 xs2:=by
 obtain⟨l1,l2,l3,l4,l5⟩:=h.le
 refine⟨fr,by rw [h.eq,he,PR.pre_pre],⟨by omega,by omega,by omega,hmn,by rw [Tr.size_app];omega⟩,fun j hj=>(same j (by omega)).trans (h.same j (by omega)),?_,lvs,h.ext.trans ext l3 (by omega),kx,out,by have:=h.mle;omega⟩
 rw [PartOk.app,←l5]
 exact⟨h.part.congr (fun j h1 h2=>same j (by omega)),part⟩
theorem OwnS.ne_lv{B pb B2:Nat}{w:World}{A:Option Addr}{n c:Nat}{xs:List BkV}{lv:Option LV}(h:OutB w B2 A n c xs)(hl:LvOk B pb w lv):∀ k,(Value.slice A n c).ownBlock=some k→¬ LvBlk lv k:=by
 intro k hk hb
 cases lv with
 | none=>exact hb
 | some v=>
  rcases hb with rfl | hb
  ·exact h.ne_row hl.box (by decide) _ hk rfl
  ·obtain⟨_,_,cur,h3⟩:=h.blk hk
   obtain⟨_,_,cur',h3'⟩:=(LvAt.own hl).blk hb
   rw [h3] at h3'
   injection h3' with h3'
   injection h3' with _ h3'
   revert h3'
   decide
theorem LR.out_kx(h:LR w0 g pb w A n cc c f d b p P lv wr p' f' s P' lv' A' m' c' xs){q B:Nat}{lv2:Option LV}{w2:World}(kx:KX B g pb lv' lv2 (wr.drewN q) w2):OutB w2 w.heap.size A' m' c' xs:=by
 have h1:=h.out
 have h2:=h1.ne_row h.fr.row (by decide)
 have h3:=h1.ne_row (show rowV wr pb 3 (P'.map (Value.int .i64)).toArray from h.fr.prt) (by decide)
 have h4:=h1.ne_lv h.lvs
 refine⟨h1.1,?_⟩
 rcases h1.2 with h5 | ⟨ob,cap,cur,e1,e2,e3,e4⟩
 ·exact .inl h5
 ·have ho:(Value.slice A' m' c').ownBlock=some ob:=by rw [e1];rfl
  exact .inr ⟨ob,cap,cur,e1,e2,(kx.keep ob (h1.blk ho).1 (fun e=>h2 ob ho (by rw [e])) (fun e=>h3 ob ho (by rw [e])) (h4 ob ho)).trans e3,e4⟩
theorem LR.drewN(h:LR w0 g pb w A n cc c f d b p P lv wr p' f' s P' lv' A' m' c' xs)(q:Nat):LR w0 g pb w A n cc c f d b p P lv (wr.drewN q) p' f' s P' lv' A' m' c' xs:=⟨h.fr.drewN q,h.eq,h.le,h.same,h.part,h.lvs.drewN q,h.ext,h.kx.drewN q,h.out,h.mle⟩
theorem LvExt.widen(c:List Ins)(p:Nat)(lv:Option LV):LvExt c p (p+1) lv lv:=by
 cases lv with
 | none=>rfl
 | some v=>exact⟨v,[],rfl,rfl,by simp,fun x hx=>absurd hx List.not_mem_nil,by omega⟩
theorem LvOk.ne_g{B pb g:Nat}{w:World}{cs:Array Value}{lv:Option LV}(h:LvOk B pb w lv)(hr:rowV w g 194 cs):∀ k,LvBlk lv k→k≠g:=by
 intro k hk e
 subst e
 cases lv with
 | none=>exact hk
 | some v=>
  rcases hk with rfl | hk
  ·have h1:=LvAt.box h
   unfold rowV at h1 hr
   rw [hr] at h1
   injection h1 with h1
   injection h1 with _ h1
   revert h1
   decide
  ·exact (LvAt.own h).ne_row hr (by decide) _ hk rfl
theorem LvAt.ne_pb{B pb:Nat}{w:World}{v:LV}{P:List Int}(h:LvAt B pb w v)(hp:Row (Value.int .i64) w pb 3 P):v.lb≠pb:=fun e=>by
 have h1:=h.box
 unfold rowV at h1
 unfold Row at hp
 rw [e,hp] at h1
 injection h1 with h1
 injection h1 with _ h1
 revert h1
 decide
theorem LR.leaf{v':LV}(h:LR w0 g pb w A n cc c f d b p P lv wr p' f' s P' (some v') A' m' c' xs){A7:Option Addr}{c7:Nat}{w7:World}(ho:OwnS encZ 1 w7 w0.heap.size 3 A7 (v'.n+1) c7 (v'.L++[(p':Int)]))(hb:Below w0.heap.size wr.drew w7)(hg:wr.drew.grownBy w7 (Value.slice v'.A v'.n v'.c).ownBlock)(hf:∀ b,(Value.slice A7 (v'.n+1) c7).ownBlock=some b→(Value.slice v'.A v'.n v'.c).ownBlock=some b∨wr.drew.heap.size≤b)(h30:oI c p'=30)(hw0:w0.heap.size≤w.heap.size) :
  FR w0 g pb (w7.setCell ⟨v'.lb,0,none⟩ (.slice A7 (v'.n+1) c7)) A n cc p' P'∧LvOk w0.heap.size pb (w7.setCell ⟨v'.lb,0,none⟩ (.slice A7 (v'.n+1) c7)) (some { v' with A:=A7,n:=v'.n+1,c:=c7,L:=v'.L++[(p':Int)] })∧LvExt c p' (p'+1) (some v') (some { v' with A:=A7,n:=v'.n+1,c:=c7,L:=v'.L++[(p':Int)] })∧KX w0.heap.size g pb lv (some { v' with A:=A7,n:=v'.n+1,c:=c7,L:=v'.L++[(p':Int)] }) w (w7.setCell ⟨v'.lb,0,none⟩ (.slice A7 (v'.n+1) c7))∧OutB (w7.setCell ⟨v'.lb,0,none⟩ (.slice A7 (v'.n+1) c7)) w.heap.size A' m' c' xs:=by
 have hl:LvAt w0.heap.size pb wr v':=h.lvs
 have hld:LvAt w0.heap.size pb wr.drew v':=LvOk.drewN (lv:=some v') h.lvs 1
 have hfr:=h.fr.drewN 1
 have g2:w7.grownBy (w7.setCell ⟨v'.lb,0,none⟩ (.slice A7 (v'.n+1) c7)) (some v'.lb):=grownBy.setCell' (World.grownBy.refl _ _) _
 have n1:=hld.own.ne_row hfr.row (by decide)
 have n2:=hld.own.ne_row hld.box (by decide)
 have hB:∀ k,(Value.slice v'.A v'.n v'.c).ownBlock=some k→w0.heap.size≤k:=fun k hk=>(hld.own.blk hk).2.1
 have fr7:=hfr.grown hg (fun e=>n1 _ e.symm rfl) (fun e=>hld.ne _ e.symm rfl) hB
 have hgl:v'.lb≠g:=LvOk.ne_g (lv:=some v') h.lvs h.fr.row _ (.inl rfl)
 have hpl:v'.lb≠pb:=LvAt.ne_pb hl h.fr.prt
 have fr8:=fr7.grown g2 (fun e=>hgl (by injection e with e;exact e.symm)) (fun e=>hpl (by injection e with e;exact e.symm)) (fun k hk=>by injection hk with hk;rw [←hk];exact hl.le)
 have bx7:=hld.box.grown hg (fun e=>n2 _ e.symm rfl)
 have kx7:=(h.kx.drewN 1).grown hg (fun k hk=>by
  rcases h.kx.fresh k (.inr hk) with h1 | h1
  ·exact .inr (.inr (.inr h1))
  ·exact .inl h1) hB hw0
 have kx8:=kx7.grown g2 (fun k hk=>by
  injection hk with hk
  subst hk
  rcases h.kx.fresh v'.lb (.inl rfl) with h1 | h1
  ·exact .inr (.inr (.inr h1))
  ·exact .inl h1) (fun k hk=>by injection hk with hk;rw [←hk];exact hl.le) hw0
 have o7:OutB w7 w.heap.size A' m' c' xs:=(show OutB wr.drew w.heap.size A' m' c' xs from h.out).grown hg (fun k hk e=>(show OutB wr.drew w.heap.size A' m' c' xs from h.out).ne_lv (lv:=some v') (LvOk.drewN (lv:=some v') h.lvs 1) k hk (.inr e.symm))
 have o8:=o7.grown g2 (fun k hk e=>(show OutB wr.drew w.heap.size A' m' c' xs from h.out).ne_lv (lv:=some v') (LvOk.drewN (lv:=some v') h.lvs 1) k hk (.inl (by injection e)))
 refine⟨fr8,⟨hl.le,bx7.set 0 _,ho.grown g2 (ho.ne_row bx7 (by decide)),fun k hk e=>?_⟩,⟨_,[(p':Int)],rfl,rfl,rfl,fun x hx=>⟨p',List.mem_singleton.1 hx,Nat.le_refl _,Nat.lt_succ_self _,h30⟩,by show v'.n+1+p'≤v'.n+(p'+1);omega⟩,⟨kx8.below,kx8.keep,fun k hk=>?_⟩,o8⟩
 ·subst e
  rcases hf k hk with h1 | h1
  ·exact hl.ne k h1 rfl
  ·exact absurd (h.fr.prt.lt) (by have:wr.drew.heap.size=wr.heap.size:=rfl;omega)
 ·rcases hk with hk | hk
  ·exact h.kx.fresh k (.inl hk)
  ·rcases hf k hk with h1 | h1
   ·exact h.kx.fresh k (.inr h1)
   ·have:=h.kx.below.size
    have:wr.drew.heap.size=wr.heap.size:=rfl
    right;omega
end
theorem list_of{f:Nat}(hB:∀ k,k < f→BlkC k):LstC f:=by
 intro w0 A n cc c hc0 hn g pb w d lv p P hF hL hFw hp hd hf
 have HFew:=Lib.hid hFw
 clear hFw
 obtain⟨b,hb⟩:∃ b,b=lv.isSome:=⟨_,rfl⟩
 rw [←hb]
 have HS:=Lib.hid (⟨hF,by rw [PR.pre_nil],⟨hf,Nat.le_refl _,Nat.le_refl _,hp,by simp [Tr.size]⟩,fun k _=>rfl,trivial,hL,LvExt.refl _ _ _,KX.refl _ _ _ _ _,OwnS.nil _ _ _ _ _,Nat.zero_le _⟩:LR w0 g pb w A n cc c f d b p P lv w p f .nil P lv none 0 0 [])
 have HbH:=Lib.hid hb
 have Hw0:=Lib.hid hF.base.size
 have HBk:=Lib.hid hB
 clear hF hL hf hb hB
 obtain⟨ptr,hptr⟩:∃ v,v=lvPtr lv:=⟨_,rfl⟩
 rw [←hptr]
 have HP:=Lib.hid hptr
 clear hptr
 go_enter Tryz.func139,Tryz.ntmps139
 go_wp2_with fail
 go_loopw [7,8,9] (fun o _ _ wr=>∃ (p' f':Nat) (s:Tr) (P':List Int) (lv':Option LV) (A':Option Addr) (m' c':Nat) (xs:List BkV),o=.slice A' m' c'∧Hid (LR w0 g pb w A n cc c f d b p P lv wr p' f' s P' lv' A' m' c' xs)) (fun _ _ _ wr=>measF g n wr)
 case atStart=>exact⟨p,f,.nil,P,lv,none,0,0,[],rfl,HS⟩
 case round=>
  clear HS
  obtain⟨p',f',s,P',lv',A',m',c',xs,rfl,HR⟩:=hrel
  obtain⟨e0,e1,e2⟩:=HR.out.fr.cells
  have hcodes:=HR.out.fr.codes hc0
  have hp':=HR.out.le.2.2.2.1
  obtain⟨k,hk⟩:∃ k,f'=k+1:=⟨f'-1,by have:=HR.out.le.1;omega⟩
  subst hk
  have Hlen:=Lib.hid hcodes.1
  have Hmeas:=Lib.hid HR.out.fr.meas
  by_cases hlt:p' < n
  ·have d0:decide ((p':Int) < (n:Int))=true:=by simp;omega
   have d0':decide (p' < n)=true:=by simp;omega
   obtain⟨cb,off,rfl,hcb,hcell⟩:=hcodes.get hlt
   have x0:=(hcell p' hlt).1
   have x0':wr.cell? ⟨cb,off+p' * 2,none⟩=some (.int .i64 (oI c p')):=x0
   clear x0 hcell hcodes
   obtain⟨op,hop⟩:∃ op,op=oI c p':=⟨_,rfl⟩
   rw [←hop] at x0'
   have Hop:=Lib.hid hop
   clear hop
   by_cases h28:op=28∨op=31
   ·have hend:=HR.out.done (lst_end (by have:=Hlen.out;omega) (by rw [←Hop.out];exact h28))
    have HE:=Lib.hid hend
    clear hend
    rcases h28 with rfl | rfl
    all_goals
     go_wp2_with fail
     go_quiet (fail)
     go_wp2_with fail
     go_quiet (fail)
     go_wp2_with fail
     refine bodyPost_ret (results_tmp rfl _ _ _) rfl ?_
     exact HE.out _
   have q28:(op==28)=false:=by simp;omega
   have q31:(op==31)=false:=by simp;omega
   by_cases h27:op=27∨op=29
   ·have hopn:=opens_any op
    rw [decide_eq_true h27] at hopn
    have HO:=Lib.hid hopn
    clear hopn
    have hpc:p' < c.length:=by have:=Hlen.out;omega
    have hblk:=HBk.out k (by have:=HR.out.le.2.1;omega) w0 (some ⟨cb,off,none⟩) n cc c hc0 hn g pb
    have hlb:lv'.isSome=b:=by rw [←HR.out.ext.some];exact HbH.out.symm
    have hst:=lst_block (c:=c) (f:=k) (d:=d) (p:=p') (b:=b) hpc (by rw [←Hop.out];exact h27)
    have HB2:=Lib.hid (fun q=>hblk (wr.drewN q) d lv' p' P' (HR.out.fr.drewN q) (HR.out.lvs.drewN q) (HFew.out.ext HR.out.ext) hlt hd (by have:=HR.out.le.1;omega) (by rw [←Hop.out];exact h27))
    rw [hlb,HR.out.ext.ptr,←HP.out] at HB2
    have HST:=Lib.hid hst
    clear hst hblk
    cases hbl:blkP c k d b p' with
    | bad q=>
     rw [hbl] at HB2 HST
     have HF:=Lib.hid (fun (W:World) (hb:Below w0.heap.size wr W)=>HR.out.fail HST.out hb)
     go_wp2_with fail
     go_quiet (fail)
     go_wp2_with fail
     go_quiet (fail)
     go_wp2_with fail
     refine (HO.out _).mono ?_
     rintro e w1 ⟨rfl,hw1⟩
     subst hw1
     go_wp2_with fail
     refine (HB2.out _).mono ?_
     rintro e w2 ⟨rfl,hb2⟩
     show bodyPost Tryz.prog Tryz.f139 (DoesF w0 g pb w (some ⟨cb,off,none⟩) n cc c p P lv (ResL w) (lst c f d b p)) (Exit.panic [{ v:=failF q 15,recovered:=false }]) _ _
     exact⟨rfl,HF.out w2 ((bdrew (Below.refl _ _) _).trans hb2)⟩
    | ok t m=>
     rw [hbl] at HB2 HST
     obtain⟨b1,b2,b3,b4⟩:=blkP_ok hpc (by rw [←Hop.out];exact h27) hbl
     have Hbk:=Lib.hid (And.intro b1 (And.intro b2 b4))
     clear b1 b2 b3 b4 hbl
     go_wp2_with fail
     go_quiet (fail)
     go_wp2_with fail
     go_quiet (fail)
     go_wp2_with fail
     refine (HO.out _).mono ?_
     rintro e w1 ⟨rfl,hw1⟩
     subst hw1
     go_wp2_with fail
     refine (HB2.out _).mono ?_
     rintro e w2 ⟨⟨x,rfl⟩,P2,lv2,fr2,same2,part2,lvs2,ext2,kx2⟩
     have HO2:=Lib.hid (HR.out.out_kx kx2)
     have HF2:=Lib.hid (And.intro fr2 (And.intro same2 (And.intro part2 (And.intro lvs2 ext2))))
     have HK2:=Lib.hid ((HR.out.kx.drewN _).trans kx2)
     have hB2:=Lib.hid (show w.heap.size≤w2.heap.size from HK2.out.below.size)
     have hml:=Lib.hid (show m'+1≤maxLen∧(m'+1) * 72≤140737488355328 by have:=HR.out.mle;unfold maxLen;omega)
     clear fr2 same2 part2 lvs2 ext2 kx2 HB2 x0'
     go_wp2_with (at_builtin;refine wpList_pushT (enc:=encBk) rfl (.tmp 42) (.tmp 48) rfl uBk infoBk encBk_one rfl (fun _=>rfl) (by decide) rfl HO2.out hB2.out x _ rfl rfl hml.out.1 hml.out.2 ?_;intro A8 c8 w8 ho8 hb8 hg8 hf8)
     have hn8:=HO2.out.ne_row HF2.out.1.row (by decide)
     have hp8:=HO2.out.ne_row (show rowV w2 pb 3 (P2.map (Value.int .i64)).toArray from HF2.out.1.prt) (by decide)
     have hv8:=HO2.out.ne_lv HF2.out.2.2.2.1
     have hB8:∀ k,(Value.slice A' m' c').ownBlock=some k→w0.heap.size≤k:=fun k hk=>Nat.le_trans Hw0.out (HO2.out.blk hk).2.1
     have fr8:=HF2.out.1.grown hg8 (fun e=>hn8 _ e.symm rfl) (fun e=>hp8 _ e.symm rfl) hB8
     have HNew:=Lib.hid (HR.out.step HST.out Hbk.out.1 Hbk.out.2.2 (by have:=Hlen.out;have:=Hbk.out.2.1;omega) rfl fr8 HF2.out.2.1 HF2.out.2.2.1 (HF2.out.2.2.2.1.grown hg8 (fun k hk e=>hv8 k e.symm hk)) HF2.out.2.2.2.2 (HK2.out.grown hg8 (fun k hk=>.inl ((HO2.out.blk hk).2.1)) hB8 Hw0.out) ho8 (Nat.le_refl _))
     go_roundw
     case rel=>exact⟨m,k,_,_,_,_,_,_,_,rfl,HNew⟩
     case measure=>
      rw [HNew.out.fr.meas,Hmeas.out]
      have:=Hbk.out.2.2
      omega
   ·have hopn:=opens_any op
    rw [decide_eq_false h27] at hopn
    have HO:=Lib.hid hopn
    clear hopn
    have hpc:p' < c.length:=by have:=Hlen.out;omega
    by_cases h30:op=30
    ·subst h30
     cases b with
     | false=>
      have hnone:lv=none:=by
       have:=HbH.out
       cases lv with
       | none=>rfl
       | some v=>cases this
      have hpn:ptr=.pointer none:=by rw [HP.out,hnone];rfl
      have HF:=Lib.hid (fun (W:World) (hb:Below w0.heap.size wr W)=>HR.out.fail (lst_leave hpc (by rw [←Hop.out]) rfl) hb)
      rw [hpn]
      clear hnone hpn HP
      go_wp2_with fail
      go_quiet (fail)
      go_wp2_with fail
      go_quiet (fail)
      go_wp2_with fail
      refine (HO.out _).mono ?_
      rintro e w1 ⟨rfl,hw1⟩
      subst hw1
      go_wp2_with fail
      refine (demandF_bad _ _ _).mono ?_
      rintro e w2 ⟨rfl,hw2⟩
      subst hw2
      show bodyPost Tryz.prog Tryz.f139 (DoesF w0 g pb w (some ⟨cb,off,none⟩) n cc c p P lv (ResL w) (lst c f d false p)) (Exit.panic [{ v:=failF p' 15,recovered:=false }]) _ _
      exact⟨rfl,HF.out _ (bdrew (Below.refl _ _) _)⟩
     | true=>
      obtain⟨v',hv'⟩:∃ v',lv'=some v':=by
       have h1:=HR.out.ext.some
       have h2:=HbH.out
       rw [←h2] at h1
       cases lv' with
       | none=>cases h1
       | some v'=>exact⟨v',rfl⟩
      subst hv'
      have hptr2:ptr=.pointer (some ⟨v'.lb,0,none⟩):=by rw [HP.out,←HR.out.ext.ptr];rfl
      rw [hptr2]
      clear hptr2
      have HST:=Lib.hid (lst_plain (c:=c) (d:=d) (b:=true) (k:=k) hpc (by rw [←Hop.out];omega) (by rw [←Hop.out];omega) (by rw [←Hop.out];omega) (by rw [←Hop.out];omega) (fun h=>rfl))
      go_wp2_with fail
      go_quiet (fail)
      go_wp2_with fail
      go_quiet (fail)
      go_wp2_with fail
      refine (HO.out _).mono ?_
      rintro e w4 ⟨rfl,hw4⟩
      have HR1:Hid (LR w0 g pb w (some ⟨cb,off,none⟩) n cc c f d true p P lv w4 p' (k+1) s P' (some v') A' m' c' xs):=by rw [hw4];exact HR.out.drewN _
      clear hw4 x0'
      obtain⟨e0,e1,e2⟩:=HR1.out.fr.cells
      have HL1:Hid (LvAt w0.heap.size pb w4 v'):=HR1.out.lvs
      go_wp2_with fail
      refine (demandF_ok _ _ _).mono ?_
      rintro e w9 ⟨rfl,hw9⟩
      obtain rfl:=hw9.symm
      have b0:w4.cell? ⟨v'.lb,0,none⟩=some (.slice v'.A v'.n v'.c):=cell_rowV HL1.out.box rfl
      have fb:=frozen_rowV' HL1.out.box 0
      have hlb:=HL1.out.box.lt
      have hglt:=HR1.out.fr.row.lt
      have HLd:Hid (OwnS encZ 1 w4.drew w0.heap.size 3 v'.A v'.n v'.c v'.L∧w0.heap.size≤w4.drew.heap.size∧rowV w4.drew v'.lb 52 #[.slice v'.A v'.n v'.c]):=⟨HL1.out.own,Nat.le_trans Hw0.out HR1.out.kx.below.size,HL1.out.box⟩
      have hml:=Lib.hid (show v'.n+1≤maxLen∧(v'.n+1) * 8≤140737488355328 by have h1:v'.n≤p':=HFew.out.ext HR.out.ext;unfold maxLen;omega)
      go_wp2_with fail
      go_region_law (first | (refine step_pushT (enc:=encZ) (w:=w4.drew) rfl (.tmp 63) (.tmp 68) rfl uIs infoZ encZ_one rfl (fun _=>rfl) (by decide) rfl HLd.out.1 HLd.out.2.1 (p':Int) _ rfl rfl hml.out.1 hml.out.2 ?_;intro A7 c7 w7 ho7 hb7 hg7 hf7;have r7:=HLd.out.2.2.grown hg7 (fun e=>(HLd.out.1.ne_row HLd.out.2.2 (by decide)) _ e.symm rfl);have b7:w7.cell? ⟨v'.lb,0,none⟩=some (.slice v'.A v'.n v'.c):=cell_rowV r7 rfl;have f7:=frozen_rowV' r7 0))
      all_goals
       clear e0 e1 e2 b0 fb b7 f7 hlb hglt
       have HM:=Lib.hid (HR1.out.leaf ho7 hb7 hg7 hf7 (by rw [←Hop.out]) Hw0.out)
       obtain⟨w5,hw5⟩:∃ w5,w5=w7.setCell ⟨v'.lb,0,none⟩ (.slice A7 (v'.n+1) c7):=⟨_,rfl⟩
       rw [←hw5] at HM ⊢
       clear hw5 ho7 hb7 hg7 hf7 r7 HLd HL1
       obtain⟨v2,hv2⟩:∃ v2,v2=({ v' with A:=A7,n:=v'.n+1,c:=c7,L:=v'.L++[(p':Int)] }:LV):=⟨_,rfl⟩
       rw [←hv2] at HM
       clear hv2
       obtain⟨e0,e1,e2⟩:=HM.out.1.cells
       clear HR1
       by_cases hm0:0 < m'
       ·have dm:decide ((0:Int) < (m':Int))=true:=by simp;omega
        have dm':decide (0 < m')=true:=by simp;omega
        obtain⟨ob,rfl,hob1,hob2,hobc⟩:=HM.out.2.2.2.2.get (fun _=>rfl) (by decide) ⟨0,0,0,none,0,0,none,0,0⟩ hm0
        obtain⟨j,rfl⟩:∃ j,m'=j+1:=⟨m'-1,by omega⟩
        have hj4:j≤1024:=by have:=HR.out.mle;have:=HR.out.le.2.2.2.1;omega
        have hxl:j < xs.length:=by rw [HM.out.2.2.2.2.length (fun _=>rfl) (by decide)];omega
        have y0:w5.cell? ⟨ob,j * 5,none⟩=some (.int .i64 (gBk xs j).op):=hobc j 0 _ (by omega) rfl
        have y2:w5.cell? ⟨ob,j * 5+2,none⟩=some (.int .i64 (gBk xs j).tt):=hobc j 2 _ (by omega) rfl
        have f2:=World.ownsRow.frozenAt HM.out.2.2.2.2 (j * 5+2)
        obtain⟨oz,hoz⟩:∃ oz,oz=(gBk xs j).op:=⟨_,rfl⟩
        obtain⟨tz,htz⟩:∃ tz,tz=(gBk xs j).tt:=⟨_,rfl⟩
        rw [←hoz] at y0
        rw [←htz] at y2
        clear hoz htz hobc
        have hj1:((j:Int)+1-1)=(j:Int):=by omega
        have dm2:decide ((0:Int) < (j:Int)+1)=true:=decide_eq_true (by omega)
        by_cases ho1:oz=-1
        ·subst ho1
         obtain⟨hst1,hst2⟩:=World.ownsRow.stored HM.out.2.2.2.2 (j * 5+2) (.int .i64 (wrap64 (tz+1)))
         have hn8:=HM.out.2.2.2.2.ne_row HM.out.1.row (by decide)
         have hp8:=HM.out.2.2.2.2.ne_row (show rowV w5 pb 3 (P'.map (Value.int .i64)).toArray from HM.out.1.prt) (by decide)
         have hv8:=HM.out.2.2.2.2.ne_lv HM.out.2.1
         have hB8:∀ k,some ob=some k→w0.heap.size≤k:=fun k hk=>by injection hk with hk;rw [←hk];exact Nat.le_trans Hw0.out hob1
         have fr8:=HM.out.1.grown hst2 (fun e=>hn8 _ rfl e.symm) (fun e=>hp8 _ rfl e.symm) hB8
         have ho8:OutB (w5.setCell ⟨ob,j * 5+2,none⟩ (.int .i64 (wrap64 (tz+1)))) w.heap.size (some ⟨ob,0,none⟩) (j+1) c' (xs.set j { gBk xs j with tt:=wrap64 (tz+1) }):=by
          rw [flat_set5 _ _ _ hxl] at hst1
          exact hst1
         have lv8:=HM.out.2.1.grown hst2 (fun k hk e=>hv8 k e.symm hk)
         have kx8:=HM.out.2.2.2.1.grown hst2 (fun k hk=>.inl (by injection hk with hk;omega)) hB8 Hw0.out
         have HN:=Lib.hid (And.intro fr8 (And.intro lv8 (And.intro kx8 ho8)))
         obtain⟨e0,e1,e2⟩:=fr8.cells
         have f1:=frozen_rowV' fr8.row 1
         clear hst1 hst2 hn8 hp8 hv8 fr8 ho8 lv8 kx8
         go_wp2_with fail
         have fr9:=HN.out.1.setAt (p'+1)
         have g9:(w5.setCell ⟨ob,j * 5+2,none⟩ (.int .i64 (wrap64 (tz+1)))).grownBy ((w5.setCell ⟨ob,j * 5+2,none⟩ (.int .i64 (wrap64 (tz+1)))).setCell ⟨g,1,none⟩ (.int .i64 ((p'+1:Nat):Int))) (some g):=grownBy.setCell' (World.grownBy.refl _ _) _
         have hgo:=HN.out.2.2.2.ne_row HN.out.1.row (by decide)
         have hgl:=HN.out.2.1.ne_g HN.out.1.row
         have HNew:=Lib.hid (HR.out.step HST.out rfl (by omega) (by omega) rfl fr9 (fun k _=>rfl) trivial (HN.out.2.1.grown g9 (fun k hk e=>hgl k hk (by injection e))) HM.out.2.2.1 (HN.out.2.2.1.grown g9 (fun k hk=>.inr (.inl (by injection hk with hk;exact hk.symm))) (fun k hk=>by injection hk with hk;rw [←hk];exact HN.out.1.hg) Hw0.out) (HN.out.2.2.2.grown g9 (fun b hb=>hgo b hb)) (Nat.le_succ _))
         go_roundw
         case rel=>exact⟨p'+1,k,_,_,_,_,_,_,_,rfl,HNew⟩
         case measure=>
          rw [Hmeas.out]
          exact Nat.lt_of_le_of_lt (Nat.le_of_eq HNew.out.fr.meas) (by omega)
        ·have q1:(oz==-1)=false:=by simpa using ho1
         clear f2 y2
         clear e0 e1 e2
         have HMd:Hid (FR w0 g pb w5.drew (some ⟨cb,off,none⟩) n cc p' P'∧LvOk w0.heap.size pb w5.drew (some v2)∧OutB w5.drew w.heap.size (some ⟨ob,0,none⟩) (j+1) c' xs∧KX w0.heap.size g pb lv (some v2) w w5.drew):=⟨HM.out.1.drewN 1,HM.out.2.1.drewN 1,HM.out.2.2.2.2,HM.out.2.2.2.1.drewN 1⟩
         obtain⟨e0,e1,e2⟩:=HM.out.1.cells
         have hB2:=Lib.hid (show w.heap.size≤w5.drew.heap.size from HMd.out.2.2.2.below.size)
         have hml:=Lib.hid (show (j+1)+1≤maxLen∧((j+1)+1) * 72≤140737488355328 by have:=HR.out.mle;have:=HR.out.le.2.2.2.1;unfold maxLen;omega)
         go_wp2_with fail
         go_region_law (first | (refine step_pushT (enc:=encBk) (w:=w5.drew) rfl (.tmp 93) (.tmp 104) rfl uBk infoBk encBk_one rfl (fun _=>rfl) (by decide) rfl HMd.out.2.2.1 hB2.out (⟨-1,(p':Int),IntKind.i64.wrap ((p':Int)+1),none,0,0,none,0,0⟩:BkV) _ rfl rfl hml.out.1 hml.out.2 ?_;intro A8 c8 w8 ho8 hb8 hg8 hf8))
         all_goals
          have hn8:=HMd.out.2.2.1.ne_row HMd.out.1.row (by decide)
          have hp8:=HMd.out.2.2.1.ne_row (show rowV w5.drew pb 3 (P'.map (Value.int .i64)).toArray from HMd.out.1.prt) (by decide)
          have hv8:=HMd.out.2.2.1.ne_lv HMd.out.2.1
          have hB8:∀ k,(Value.slice (some ⟨ob,0,none⟩) (j+1) c').ownBlock=some k→w0.heap.size≤k:=fun k hk=>Nat.le_trans Hw0.out (HMd.out.2.2.1.blk hk).2.1
          have fr8:=HMd.out.1.grown hg8 (fun e=>hn8 _ e.symm rfl) (fun e=>hp8 _ e.symm rfl) hB8
          have lv8:=HMd.out.2.1.grown hg8 (fun k hk e=>hv8 k e.symm hk)
          have kx8:=HMd.out.2.2.2.grown hg8 (fun k hk=>.inl ((HMd.out.2.2.1.blk hk).2.1)) hB8 Hw0.out
          have HN:=Lib.hid (And.intro fr8 (And.intro lv8 (And.intro kx8 ho8)))
          obtain⟨e0,e1,e2⟩:=fr8.cells
          have f1:=frozen_rowV' fr8.row 1
          clear hn8 hp8 hv8 fr8 lv8 kx8 ho8 hb8 hg8 hf8
          go_wp2_with fail
          have fr9:=HN.out.1.setAt (p'+1)
          have g9:w8.grownBy (w8.setCell ⟨g,1,none⟩ (.int .i64 ((p'+1:Nat):Int))) (some g):=grownBy.setCell' (World.grownBy.refl _ _) _
          have hgo:=HN.out.2.2.2.ne_row HN.out.1.row (by decide)
          have hgl:=HN.out.2.1.ne_g HN.out.1.row
          have HNew:=Lib.hid (HR.out.step HST.out rfl (by omega) (by omega) rfl fr9 (fun k _=>rfl) trivial (HN.out.2.1.grown g9 (fun k hk e=>hgl k hk (by injection e))) HM.out.2.2.1 (HN.out.2.2.1.grown g9 (fun k hk=>.inr (.inl (by injection hk with hk;exact hk.symm))) (fun k hk=>by injection hk with hk;rw [←hk];exact HN.out.1.hg) Hw0.out) (HN.out.2.2.2.grown g9 (fun b hb=>hgo b hb)) (Nat.le_refl _))
          go_roundw
          case rel=>exact⟨p'+1,k,_,_,_,_,_,_,_,rfl,HNew⟩
          case measure=>
           rw [Hmeas.out]
           exact Nat.lt_of_le_of_lt (Nat.le_of_eq HNew.out.fr.meas) (by omega)
       ·obtain rfl:m'=0:=by omega
        clear e0 e1 e2
        have HMd:Hid (FR w0 g pb w5.drew (some ⟨cb,off,none⟩) n cc p' P'∧LvOk w0.heap.size pb w5.drew (some v2)∧OutB w5.drew w.heap.size A' 0 c' xs∧KX w0.heap.size g pb lv (some v2) w w5.drew):=⟨HM.out.1.drewN 1,HM.out.2.1.drewN 1,HM.out.2.2.2.2,HM.out.2.2.2.1.drewN 1⟩
        obtain⟨e0,e1,e2⟩:=HM.out.1.cells
        have hB2:=Lib.hid (show w.heap.size≤w5.drew.heap.size from HMd.out.2.2.2.below.size)
        have hml:=Lib.hid (show 0+1≤maxLen∧(0+1) * 72≤140737488355328 by have:=HR.out.mle;have:=HR.out.le.2.2.2.1;unfold maxLen;omega)
        go_wp2_with fail
        go_region_law (first | (refine step_pushT (enc:=encBk) (w:=w5.drew) rfl (.tmp 93) (.tmp 104) rfl uBk infoBk encBk_one rfl (fun _=>rfl) (by decide) rfl HMd.out.2.2.1 hB2.out (⟨-1,(p':Int),IntKind.i64.wrap ((p':Int)+1),none,0,0,none,0,0⟩:BkV) _ rfl rfl hml.out.1 hml.out.2 ?_;intro A8 c8 w8 ho8 hb8 hg8 hf8))
        all_goals
         have hn8:=HMd.out.2.2.1.ne_row HMd.out.1.row (by decide)
         have hp8:=HMd.out.2.2.1.ne_row (show rowV w5.drew pb 3 (P'.map (Value.int .i64)).toArray from HMd.out.1.prt) (by decide)
         have hv8:=HMd.out.2.2.1.ne_lv HMd.out.2.1
         have hB8:∀ k,(Value.slice A' 0 c').ownBlock=some k→w0.heap.size≤k:=fun k hk=>Nat.le_trans Hw0.out (HMd.out.2.2.1.blk hk).2.1
         have fr8:=HMd.out.1.grown hg8 (fun e=>hn8 _ e.symm rfl) (fun e=>hp8 _ e.symm rfl) hB8
         have lv8:=HMd.out.2.1.grown hg8 (fun k hk e=>hv8 k e.symm hk)
         have kx8:=HMd.out.2.2.2.grown hg8 (fun k hk=>.inl ((HMd.out.2.2.1.blk hk).2.1)) hB8 Hw0.out
         have HN:=Lib.hid (And.intro fr8 (And.intro lv8 (And.intro kx8 ho8)))
         obtain⟨e0,e1,e2⟩:=fr8.cells
         have f1:=frozen_rowV' fr8.row 1
         clear hn8 hp8 hv8 fr8 lv8 kx8 ho8 hb8 hg8 hf8
         go_wp2_with fail
         have fr9:=HN.out.1.setAt (p'+1)
         have g9:w8.grownBy (w8.setCell ⟨g,1,none⟩ (.int .i64 ((p'+1:Nat):Int))) (some g):=grownBy.setCell' (World.grownBy.refl _ _) _
         have hgo:=HN.out.2.2.2.ne_row HN.out.1.row (by decide)
         have hgl:=HN.out.2.1.ne_g HN.out.1.row
         have HNew:=Lib.hid (HR.out.step HST.out rfl (by omega) (by omega) rfl fr9 (fun k _=>rfl) trivial (HN.out.2.1.grown g9 (fun k hk e=>hgl k hk (by injection e))) HM.out.2.2.1 (HN.out.2.2.1.grown g9 (fun k hk=>.inr (.inl (by injection hk with hk;exact hk.symm))) (fun k hk=>by injection hk with hk;rw [←hk];exact HN.out.1.hg) Hw0.out) (HN.out.2.2.2.grown g9 (fun b hb=>hgo b hb)) (Nat.le_refl _))
         go_roundw
         case rel=>exact⟨p'+1,k,_,_,_,_,_,_,_,rfl,HNew⟩
         case measure=>
          rw [Hmeas.out]
          exact Nat.lt_of_le_of_lt (Nat.le_of_eq HNew.out.fr.meas) (by omega)
    ·have q30:(op==30)=false:=by simpa using h30
     have HST:=Lib.hid (lst_plain (c:=c) (d:=d) (b:=b) (k:=k) hpc (by rw [←Hop.out];omega) (by rw [←Hop.out];omega) (by rw [←Hop.out];omega) (by rw [←Hop.out];omega) (fun h=>absurd (Hop.out.trans h) h30))
     go_wp2_with fail
     go_quiet (fail)
     go_wp2_with fail
     go_quiet (fail)
     go_wp2_with fail
     refine (HO.out _).mono ?_
     rintro e w5 ⟨rfl,hw5⟩
     have HR1:Hid (LR w0 g pb w (some ⟨cb,off,none⟩) n cc c f d b p P lv w5 p' (k+1) s P' lv' A' m' c' xs):=by rw [hw5];exact HR.out.drewN _
     clear hw5 x0'
     have HM:Hid (FR w0 g pb w5 (some ⟨cb,off,none⟩) n cc p' P'∧LvOk w0.heap.size pb w5 lv'∧LvExt c p' (p'+1) lv' lv'∧KX w0.heap.size g pb lv lv' w w5∧OutB w5 w.heap.size A' m' c' xs):=⟨HR1.out.fr,HR1.out.lvs,LvExt.widen _ _ _,HR1.out.kx,HR1.out.out⟩
     obtain⟨e0,e1,e2⟩:=HM.out.1.cells
     clear HR1
     by_cases hm0:0 < m'
     ·have dm:decide ((0:Int) < (m':Int))=true:=by simp;omega
      have dm':decide (0 < m')=true:=by simp;omega
      obtain⟨ob,rfl,hob1,hob2,hobc⟩:=HM.out.2.2.2.2.get (fun _=>rfl) (by decide) ⟨0,0,0,none,0,0,none,0,0⟩ hm0
      obtain⟨j,rfl⟩:∃ j,m'=j+1:=⟨m'-1,by omega⟩
      have hj4:j≤1024:=by have:=HR.out.mle;have:=HR.out.le.2.2.2.1;omega
      have hxl:j < xs.length:=by rw [HM.out.2.2.2.2.length (fun _=>rfl) (by decide)];omega
      have y0:w5.cell? ⟨ob,j * 5,none⟩=some (.int .i64 (gBk xs j).op):=hobc j 0 _ (by omega) rfl
      have y2:w5.cell? ⟨ob,j * 5+2,none⟩=some (.int .i64 (gBk xs j).tt):=hobc j 2 _ (by omega) rfl
      have f2:=World.ownsRow.frozenAt HM.out.2.2.2.2 (j * 5+2)
      obtain⟨oz,hoz⟩:∃ oz,oz=(gBk xs j).op:=⟨_,rfl⟩
      obtain⟨tz,htz⟩:∃ tz,tz=(gBk xs j).tt:=⟨_,rfl⟩
      rw [←hoz] at y0
      rw [←htz] at y2
      clear hoz htz hobc
      have hj1:((j:Int)+1-1)=(j:Int):=by omega
      have dm2:decide ((0:Int) < (j:Int)+1)=true:=decide_eq_true (by omega)
      by_cases ho1:oz=-1
      ·subst ho1
       obtain⟨hst1,hst2⟩:=World.ownsRow.stored HM.out.2.2.2.2 (j * 5+2) (.int .i64 (wrap64 (tz+1)))
       have hn8:=HM.out.2.2.2.2.ne_row HM.out.1.row (by decide)
       have hp8:=HM.out.2.2.2.2.ne_row (show rowV w5 pb 3 (P'.map (Value.int .i64)).toArray from HM.out.1.prt) (by decide)
       have hv8:=HM.out.2.2.2.2.ne_lv HM.out.2.1
       have hB8:∀ k,some ob=some k→w0.heap.size≤k:=fun k hk=>by injection hk with hk;rw [←hk];exact Nat.le_trans Hw0.out hob1
       have fr8:=HM.out.1.grown hst2 (fun e=>hn8 _ rfl e.symm) (fun e=>hp8 _ rfl e.symm) hB8
       have ho8:OutB (w5.setCell ⟨ob,j * 5+2,none⟩ (.int .i64 (wrap64 (tz+1)))) w.heap.size (some ⟨ob,0,none⟩) (j+1) c' (xs.set j { gBk xs j with tt:=wrap64 (tz+1) }):=by
        rw [flat_set5 _ _ _ hxl] at hst1
        exact hst1
       have lv8:=HM.out.2.1.grown hst2 (fun k hk e=>hv8 k e.symm hk)
       have kx8:=HM.out.2.2.2.1.grown hst2 (fun k hk=>.inl (by injection hk with hk;omega)) hB8 Hw0.out
       have HN:=Lib.hid (And.intro fr8 (And.intro lv8 (And.intro kx8 ho8)))
       obtain⟨e0,e1,e2⟩:=fr8.cells
       have f1:=frozen_rowV' fr8.row 1
       clear hst1 hst2 hn8 hp8 hv8 fr8 ho8 lv8 kx8
       go_wp2_with fail
       have fr9:=HN.out.1.setAt (p'+1)
       have g9:(w5.setCell ⟨ob,j * 5+2,none⟩ (.int .i64 (wrap64 (tz+1)))).grownBy ((w5.setCell ⟨ob,j * 5+2,none⟩ (.int .i64 (wrap64 (tz+1)))).setCell ⟨g,1,none⟩ (.int .i64 ((p'+1:Nat):Int))) (some g):=grownBy.setCell' (World.grownBy.refl _ _) _
       have hgo:=HN.out.2.2.2.ne_row HN.out.1.row (by decide)
       have hgl:=HN.out.2.1.ne_g HN.out.1.row
       have HNew:=Lib.hid (HR.out.step HST.out rfl (by omega) (by omega) rfl fr9 (fun k _=>rfl) trivial (HN.out.2.1.grown g9 (fun k hk e=>hgl k hk (by injection e))) HM.out.2.2.1 (HN.out.2.2.1.grown g9 (fun k hk=>.inr (.inl (by injection hk with hk;exact hk.symm))) (fun k hk=>by injection hk with hk;rw [←hk];exact HN.out.1.hg) Hw0.out) (HN.out.2.2.2.grown g9 (fun b hb=>hgo b hb)) (Nat.le_succ _))
       go_roundw
       case rel=>exact⟨p'+1,k,_,_,_,_,_,_,_,rfl,HNew⟩
       case measure=>
        rw [Hmeas.out]
        exact Nat.lt_of_le_of_lt (Nat.le_of_eq HNew.out.fr.meas) (by omega)
      ·have q1:(oz==-1)=false:=by simpa using ho1
       clear f2 y2
       clear e0 e1 e2
       have HMd:Hid (FR w0 g pb w5.drew (some ⟨cb,off,none⟩) n cc p' P'∧LvOk w0.heap.size pb w5.drew lv'∧OutB w5.drew w.heap.size (some ⟨ob,0,none⟩) (j+1) c' xs∧KX w0.heap.size g pb lv lv' w w5.drew):=⟨HM.out.1.drewN 1,HM.out.2.1.drewN 1,HM.out.2.2.2.2,HM.out.2.2.2.1.drewN 1⟩
       obtain⟨e0,e1,e2⟩:=HM.out.1.cells
       have hB2:=Lib.hid (show w.heap.size≤w5.drew.heap.size from HMd.out.2.2.2.below.size)
       have hml:=Lib.hid (show (j+1)+1≤maxLen∧((j+1)+1) * 72≤140737488355328 by have:=HR.out.mle;have:=HR.out.le.2.2.2.1;unfold maxLen;omega)
       go_wp2_with fail
       go_region_law (first | (refine step_pushT (enc:=encBk) (w:=w5.drew) rfl (.tmp 93) (.tmp 104) rfl uBk infoBk encBk_one rfl (fun _=>rfl) (by decide) rfl HMd.out.2.2.1 hB2.out (⟨-1,(p':Int),IntKind.i64.wrap ((p':Int)+1),none,0,0,none,0,0⟩:BkV) _ rfl rfl hml.out.1 hml.out.2 ?_;intro A8 c8 w8 ho8 hb8 hg8 hf8))
       all_goals
        have hn8:=HMd.out.2.2.1.ne_row HMd.out.1.row (by decide)
        have hp8:=HMd.out.2.2.1.ne_row (show rowV w5.drew pb 3 (P'.map (Value.int .i64)).toArray from HMd.out.1.prt) (by decide)
        have hv8:=HMd.out.2.2.1.ne_lv HMd.out.2.1
        have hB8:∀ k,(Value.slice (some ⟨ob,0,none⟩) (j+1) c').ownBlock=some k→w0.heap.size≤k:=fun k hk=>Nat.le_trans Hw0.out (HMd.out.2.2.1.blk hk).2.1
        have fr8:=HMd.out.1.grown hg8 (fun e=>hn8 _ e.symm rfl) (fun e=>hp8 _ e.symm rfl) hB8
        have lv8:=HMd.out.2.1.grown hg8 (fun k hk e=>hv8 k e.symm hk)
        have kx8:=HMd.out.2.2.2.grown hg8 (fun k hk=>.inl ((HMd.out.2.2.1.blk hk).2.1)) hB8 Hw0.out
        have HN:=Lib.hid (And.intro fr8 (And.intro lv8 (And.intro kx8 ho8)))
        obtain⟨e0,e1,e2⟩:=fr8.cells
        have f1:=frozen_rowV' fr8.row 1
        clear hn8 hp8 hv8 fr8 lv8 kx8 ho8 hb8 hg8 hf8
        go_wp2_with fail
        have fr9:=HN.out.1.setAt (p'+1)
        have g9:w8.grownBy (w8.setCell ⟨g,1,none⟩ (.int .i64 ((p'+1:Nat):Int))) (some g):=grownBy.setCell' (World.grownBy.refl _ _) _
        have hgo:=HN.out.2.2.2.ne_row HN.out.1.row (by decide)
        have hgl:=HN.out.2.1.ne_g HN.out.1.row
        have HNew:=Lib.hid (HR.out.step HST.out rfl (by omega) (by omega) rfl fr9 (fun k _=>rfl) trivial (HN.out.2.1.grown g9 (fun k hk e=>hgl k hk (by injection e))) HM.out.2.2.1 (HN.out.2.2.1.grown g9 (fun k hk=>.inr (.inl (by injection hk with hk;exact hk.symm))) (fun k hk=>by injection hk with hk;rw [←hk];exact HN.out.1.hg) Hw0.out) (HN.out.2.2.2.grown g9 (fun b hb=>hgo b hb)) (Nat.le_refl _))
        go_roundw
        case rel=>exact⟨p'+1,k,_,_,_,_,_,_,_,rfl,HNew⟩
        case measure=>
         rw [Hmeas.out]
         exact Nat.lt_of_le_of_lt (Nat.le_of_eq HNew.out.fr.meas) (by omega)
     ·obtain rfl:m'=0:=by omega
      clear e0 e1 e2
      have HMd:Hid (FR w0 g pb w5.drew (some ⟨cb,off,none⟩) n cc p' P'∧LvOk w0.heap.size pb w5.drew lv'∧OutB w5.drew w.heap.size A' 0 c' xs∧KX w0.heap.size g pb lv lv' w w5.drew):=⟨HM.out.1.drewN 1,HM.out.2.1.drewN 1,HM.out.2.2.2.2,HM.out.2.2.2.1.drewN 1⟩
      obtain⟨e0,e1,e2⟩:=HM.out.1.cells
      have hB2:=Lib.hid (show w.heap.size≤w5.drew.heap.size from HMd.out.2.2.2.below.size)
      have hml:=Lib.hid (show 0+1≤maxLen∧(0+1) * 72≤140737488355328 by have:=HR.out.mle;have:=HR.out.le.2.2.2.1;unfold maxLen;omega)
      go_wp2_with fail
      go_region_law (first | (refine step_pushT (enc:=encBk) (w:=w5.drew) rfl (.tmp 93) (.tmp 104) rfl uBk infoBk encBk_one rfl (fun _=>rfl) (by decide) rfl HMd.out.2.2.1 hB2.out (⟨-1,(p':Int),IntKind.i64.wrap ((p':Int)+1),none,0,0,none,0,0⟩:BkV) _ rfl rfl hml.out.1 hml.out.2 ?_;intro A8 c8 w8 ho8 hb8 hg8 hf8))
      all_goals
       have hn8:=HMd.out.2.2.1.ne_row HMd.out.1.row (by decide)
       have hp8:=HMd.out.2.2.1.ne_row (show rowV w5.drew pb 3 (P'.map (Value.int .i64)).toArray from HMd.out.1.prt) (by decide)
       have hv8:=HMd.out.2.2.1.ne_lv HMd.out.2.1
       have hB8:∀ k,(Value.slice A' 0 c').ownBlock=some k→w0.heap.size≤k:=fun k hk=>Nat.le_trans Hw0.out (HMd.out.2.2.1.blk hk).2.1
       have fr8:=HMd.out.1.grown hg8 (fun e=>hn8 _ e.symm rfl) (fun e=>hp8 _ e.symm rfl) hB8
       have lv8:=HMd.out.2.1.grown hg8 (fun k hk e=>hv8 k e.symm hk)
       have kx8:=HMd.out.2.2.2.grown hg8 (fun k hk=>.inl ((HMd.out.2.2.1.blk hk).2.1)) hB8 Hw0.out
       have HN:=Lib.hid (And.intro fr8 (And.intro lv8 (And.intro kx8 ho8)))
       obtain⟨e0,e1,e2⟩:=fr8.cells
       have f1:=frozen_rowV' fr8.row 1
       clear hn8 hp8 hv8 fr8 lv8 kx8 ho8 hb8 hg8 hf8
       go_wp2_with fail
       have fr9:=HN.out.1.setAt (p'+1)
       have g9:w8.grownBy (w8.setCell ⟨g,1,none⟩ (.int .i64 ((p'+1:Nat):Int))) (some g):=grownBy.setCell' (World.grownBy.refl _ _) _
       have hgo:=HN.out.2.2.2.ne_row HN.out.1.row (by decide)
       have hgl:=HN.out.2.1.ne_g HN.out.1.row
       have HNew:=Lib.hid (HR.out.step HST.out rfl (by omega) (by omega) rfl fr9 (fun k _=>rfl) trivial (HN.out.2.1.grown g9 (fun k hk e=>hgl k hk (by injection e))) HM.out.2.2.1 (HN.out.2.2.1.grown g9 (fun k hk=>.inr (.inl (by injection hk with hk;exact hk.symm))) (fun k hk=>by injection hk with hk;rw [←hk];exact HN.out.1.hg) Hw0.out) (HN.out.2.2.2.grown g9 (fun b hb=>hgo b hb)) (Nat.le_refl _))
       go_roundw
       case rel=>exact⟨p'+1,k,_,_,_,_,_,_,_,rfl,HNew⟩
       case measure=>
        rw [Hmeas.out]
        exact Nat.lt_of_le_of_lt (Nat.le_of_eq HNew.out.fr.meas) (by omega)
  ·have d0:decide ((p':Int) < (n:Int))=false:=by simp;omega
   have d0':decide (p' < n)=false:=by simp;omega
   have hend:=HR.out.done (lst_eof (by have:=Hlen.out;omega))
   have HE:=Lib.hid hend
   clear hend
   go_wp2_with fail
   go_quiet (fail)
   go_wp2_with fail
   refine bodyPost_ret (results_tmp rfl _ _ _) rfl ?_
   exact HE.out nq
end Go.Proofs.YtpaplehcafeeaaaGreatDoor
