/- Wu Mk. -/
import Derived.Test.YtepoclhdklgnhaaGreatDoorRC46
set_option maxRecDepth 100000
set_option maxHeartbeats 40000000
set_option linter.unusedVariables false
set_option linter.unusedSimpArgs false
namespace Go.Proofs.YtepoclhdklgnhaaGreatDoor
open Go.RowKit Go.Proofs
theorem codeE_all:∀ {l:List Ins},codeE l=0→∀ i∈l,chkE i=0:=by
 intro l
 induction l with
 | nil=>intro _ i hi;cases hi
 | cons x l ih=>
  intro h i hi
  rw [codeE_step] at h
  split at h
  ·rename_i hx;exact absurd h hx
  ·rename_i hx
   rcases List.mem_cons.1 hi with rfl | hi
   ·exact Decidable.not_not.1 hx
   ·exact ih h i hi
theorem arrGo_all:∀ {l:List Arr} {n:Int},n≤65536→arrGo n l=0→∀ x∈l,1≤x.size∧x.size≤65536:=by
 intro l
 induction l with
 | nil=>intro n _ _ x hx;cases hx
 | cons y l ih=>
  intro n hn h x hx
  unfold arrGo at h
  split at h
  ·cases h
  ·rename_i hy
   rcases List.mem_cons.1 hx with rfl | hx
   ·omega
   ·exact ih (by omega) h x hx
theorem argAt_all{p:Prg}(h:¬ argAt p < p.code.length):∀ k,k < p.code.length→badArg p (gI p.code k)=false:=by
 intro k hk
 cases hb:badArg p (gI p.code k) with
 | false=>rfl
 | true=>
  exfalso
  refine h ?_
  unfold argAt
  rw [List.findIdx_lt_length]
  exact⟨gI p.code k,by rw [gI_get hk];exact List.getElem_mem hk,hb⟩
theorem prgOk_of{p:Prg}(hwf:∀ x∈p.code,0≤x.arg∧x.arg < 4294967296)(h:(chkP p).2=0):PrgOk p∧formE p=0∧∃ t,parse p.code=.ok t p.code.length∧treeOf p=t:=by
 unfold chkP at h
 by_cases hf:formE p≠0
 ·rw [if_pos hf] at h;exact absurd h hf
 rw [if_neg hf] at h
 have hf:formE p=0:=Decidable.not_not.1 hf
 cases hp:parse p.code with
 | bad a=>rw [hp] at h;simp at h
 | ok t m=>
  rw [hp] at h
  simp only [] at h
  split at h
  ·simp at h
  rename_i harg
  have hm:=(parse_ok hp).2.1
  subst hm
  have hf0:=hf
  refine⟨?_,hf0,t,rfl,by unfold treeOf;rw [hp]⟩
  unfold formE at hf
  split at hf
  ·rename_i hx;exact absurd hf hx
  rename_i ha
  have ha:arrE p.arrs=0:=Decidable.not_not.1 ha
  split at hf
  ·cases hf
  rename_i hl
  split at hf
  ·cases hf
  rename_i hc
  unfold arrE at ha
  split at ha
  ·cases ha
  rename_i ha8
  refine⟨by omega,by omega,⟨by omega,arrGo_all (Int.le_refl _) ha⟩,fun k hk=>?_,fun k hk ho=>?_,fun k hk ho=>?_⟩
  ·have hmem:gI p.code k∈p.code:=by rw [gI_get hk];exact List.getElem_mem hk
   have h1:=codeE_all hf _ hmem
   have h2:=hwf _ hmem
   unfold chkE at h1
   split at h1
   ·cases h1
   ·rename_i ho
    have ho:okX (gI p.code k).op=true:=by simpa using ho
    have ho2:0≤(gI p.code k).op∧(gI p.code k).op < 36:=by simpa [okX] using ho
    exact⟨ho2.1,ho2.2,h2.1,h2.2⟩
  ·have h1:=argAt_all harg k hk
   have ho:(gI p.code k).op=1∨(gI p.code k).op=2:=ho
   unfold badArg at h1
   simp only [Bool.or_eq_false_iff,Bool.and_eq_false_iff,decide_eq_false_iff_not] at h1
   rcases h1.1 with h2 | h2
   ·exact absurd ho h2
   ·omega
  ·have h1:=argAt_all harg k hk
   have ho:(gI p.code k).op=3∨(gI p.code k).op=4:=ho
   unfold badArg at h1
   simp only [Bool.or_eq_false_iff,Bool.and_eq_false_iff,decide_eq_false_iff_not] at h1
   rcases h1.2 with h2 | h2
   ·exact absurd ho h2
   ·omega
theorem tree_fit{p:Prg}{t:Tr}{m:Nat}(h:parse p.code=.ok t m):Fit p.code false 0 t∧t.size=p.code.length:=⟨(parse_ok h).2.2.1,(parse_ok h).2.2.2.1⟩
theorem parse_bad_le{c:List Ins}{q:Nat}(h:parse c=.bad q):q≤c.length:=by
 have h1:=parse_run c
 rw [h] at h1
 rcases h1 with h1 | h1
 ·omega
 ·omega
def HdAll(c:List Ins):Hd→Prop
 | .widen=>True
 | .given r=>∀ k,k < c.length→oI c k=29→(invAt r k).isSome=true
theorem popA_err{stk:List Vl}{base:Nat}{ty:List UInt8}{x:Int}(h:popA stk base ty=.error x):x=14∨x=13:=by
 unfold popA at h
 split at h
 ·injection h with h;exact .inl h.symm
 ·split at h
  ·cases h
  ·injection h with h;exact .inr h.symm
theorem pushA_bad{lo a:Nat}{st:St}{l:List Vl}{e x:Int}(h:pushA lo st l e=.bad a x):a=lo∧x=14:=by
 unfold pushA at h
 split at h
 ·injection h with h1 h2;exact⟨h1.symm,h2.symm⟩
 ·cases h
theorem pushA_one{lo:Nat}{st st':St}{l:List Vl}{e s' e':Int}(h:pushA lo st l e=.ok st' s' e'):s'=1∧e'=e∧st'.locs=st.locs:=by
 unfold pushA at h
 split at h
 ·cases h
 ·cases h;exact⟨rfl,rfl,rfl⟩
def OneR(lo:Nat)(op:Int)(st:St):ER→Prop
 | .bad a x=>a=lo∧0 < x
 | .ok st' s _=>s=1∧(op≠2→st'.locs=st.locs)
 | .stuck=>True
theorem OneR.push{lo:Nat}{op:Int}{st st2:St}{l:List Vl}{e:Int}(h:st2.locs=st.locs):OneR lo op st (pushA lo st2 l e):=by
 cases hp:pushA lo st2 l e with
 | bad a x=>obtain⟨h1,h2⟩:=pushA_bad hp;exact⟨h1,by omega⟩
 | stuck=>trivial
 | ok st' s e'=>obtain⟨h1,h2,h3⟩:=pushA_one hp;exact⟨h1,fun _=>h3.trans h⟩
theorem plA_one(p:Prg)(lo base:Nat)(st:St):OneR lo (oI p.code lo) st (plA p lo base st):=by
 unfold plA
 cases hp:popA st.stk base (opX (oI p.code lo)).pops with
 | error x=>exact⟨rfl,by rcases popA_err hp with h | h <;> omega⟩
 | ok rl=>
  obtain⟨rest,l⟩:=rl
  simp only []
  generalize oI p.code lo=op
  by_cases ho0:op=0
  ·rw [if_pos ho0];exact OneR.push rfl
  rw [if_neg ho0]
  by_cases ho1:op=1
  ·rw [if_pos ho1];exact OneR.push rfl
  rw [if_neg ho1]
  by_cases ho2:op=2
  ·rw [if_pos ho2];exact⟨rfl,fun h=>absurd ho2 h⟩
  rw [if_neg ho2]
  by_cases ho3:op=3
  ·rw [if_pos ho3]
   split
   ·exact⟨rfl,by omega⟩
   ·exact OneR.push rfl
  rw [if_neg ho3]
  by_cases ho4:op=4
  ·rw [if_pos ho4]
   split
   ·exact⟨rfl,by omega⟩
   ·exact⟨rfl,fun _=>rfl⟩
  rw [if_neg ho4]
  by_cases ho5:op=5
  ·rw [if_pos ho5];exact OneR.push rfl
  rw [if_neg ho5]
  by_cases ho7:op=7
  ·rw [if_pos ho7];exact OneR.push rfl
  rw [if_neg ho7]
  by_cases ho6:op=6∨op=35
  ·rw [if_pos ho6];exact⟨rfl,fun _=>rfl⟩
  rw [if_neg ho6]
  by_cases ho34:op=34
  ·rw [if_pos ho34];exact⟨rfl,fun _=>rfl⟩
  rw [if_neg ho34]
  by_cases ho32:op=32
  ·rw [if_pos ho32];exact OneR.push rfl
  rw [if_neg ho32]
  by_cases ho26:op=26
  ·rw [if_pos ho26];exact OneR.push rfl
  rw [if_neg ho26]
  by_cases hot:(opX op).pushes=[116]
  ·rw [if_pos hot];exact OneR.push rfl
  rw [if_neg hot]
  cases ha:apI op (gV l 0).iv (gV l 1).iv with
  | none=>exact⟨rfl,by omega⟩
  | some x=>exact OneR.push rfl
theorem insA_one(p:Prg)(lo base loop:Nat)(st:St):OneR lo (oI p.code lo) st (insA p lo base loop st):=by
 unfold insA
 by_cases h30:oI p.code lo=30
 ·rw [if_pos h30]
  cases hp:popA st.stk base [116] with
  | error x=>exact⟨rfl,by rcases popA_err hp with h | h <;> omega⟩
  | ok rl=>
   obtain⟨rest,l⟩:=rl
   simp only []
   split
   ·exact⟨rfl,by omega⟩
   ·exact⟨rfl,fun _=>rfl⟩
 ·rw [if_neg h30];exact plA_one p lo base st
theorem insA_base{p:Prg}{lo base loop:Nat}{st st':St}{s e:Int}(h:insA p lo base loop st=.ok st' s e):base≤st'.stk.length∧st'.inv=st.inv:=by
 unfold insA at h
 by_cases h30:oI p.code lo=30
 ·rw [if_pos h30] at h
  cases hp:popA st.stk base [116] with
  | error x=>rw [hp] at h;cases h
  | ok rl=>
   obtain⟨rest,l⟩:=rl
   rw [hp] at h
   simp only [] at h
   split at h
   ·cases h
   ·injection h with h1 _ _
    subst h1
    exact⟨(popA_len hp).2.1,rfl⟩
 ·rw [if_neg h30] at h
  obtain⟨-,-,g,g2,-⟩:=plA_hgt h h30
  exact⟨g2,g⟩
theorem insA_sim{p:Prg}{lo base loop:Nat}{st st' st2:St}{s e:Int}(h:insA p lo base loop st=.ok st' s e)(hs:SimS st st2):∃ st2',insA p lo base loop st2=.ok st2' s e∧SimS st' st2':=by
 unfold insA at h ⊢
 by_cases h30:oI p.code lo=30
 ·rw [if_pos h30] at h ⊢
  obtain⟨e1,e2,e3⟩:=hs
  rw [e2]
  cases hp:popA st.stk base [116] with
  | error x=>rw [hp] at h;cases h
  | ok rl=>
   obtain⟨rest,l⟩:=rl
   rw [hp] at h
   simp only [] at h ⊢
   split at h
   ·cases h
   ·rename_i hg
    rw [if_neg hg]
    injection h with h1 h2 h3
    subst h1 h2 h3
    exact⟨_,rfl,e1,rfl,by simp only [];rw [e3,e1]⟩
 ·rw [if_neg h30] at h ⊢;exact plA_sim h hs
theorem ER.bind_bad{x:ER}{f:St→Int→Int→ER}{a:Nat}{v:Int}(h:x.bind f=.bad a v):x=.bad a v∨∃ st1 s1 e1,x=.ok st1 s1 e1∧f st1 s1 e1=.bad a v:=by
 cases x with
 | bad b e=>exact .inl h
 | stuck=>cases h
 | ok st1 s1 e1=>exact .inr ⟨st1,s1,e1,rfl,h⟩
theorem passA_bad{c:List Ins}{h:Hd}{lo hi height:Nat}{body:St→ER}{Q:Nat→Int→Prop}(hq:∀ x,x=14∨x=23→Q hi x)(hb:∀ s0 a x,body s0=.bad a x→Q a x) :
  ∀ k pass head st a x,passA c h lo hi height body k pass head st=.bad a x→Q a x:=by
 intro k
 induction k with
 | zero=>intro pass head st a x h;cases h
 | succ k ih=>
  intro pass head st a x hr
  unfold passA at hr
  rcases ER.bind_bad hr with h1 | ⟨s1,u,v,h1,h2⟩
  ·exact hb _ _ _ h1
  ·split at h2
   ·injection h2 with h3 h4;subst h3 h4;exact hq _ (.inl rfl)
   split at h2
   ·cases h2
   ·cases h with
    | given r=>injection h2 with h3 h4;subst h3 h4;exact hq _ (.inr rfl)
    | widen=>exact ih _ _ _ _ _ h2
theorem anaT_bad{p:Prg}{h:Hd}(hh:HdAll p.code h):∀ (t:Tr) (lo base loop:Nat) (st:St) (s e:Int) (b:Bool) (a:Nat) (x:Int),Fit p.code b lo t→lo+t.size≤p.code.length→anaT p h t lo base loop st s e=.bad a x→(lo≤a∧a≤lo+t.size)∧0 < x:=by
 intro t
 induction t with
 | nil=>intro lo base loop st s e b a x hf hl hr;cases hr
 | ins r ih=>
  intro lo base loop st s e b q x hf hl hr
  simp only [Tr.size] at hl ⊢
  rw [anaT_ins] at hr
  rcases ER.bind_bad hr with h1 | ⟨s1,u,v,h1,h2⟩
  ·have h3:=insA_one p lo base loop st
   rw [h1] at h3
   obtain⟨rfl,h4⟩:=h3
   exact⟨by omega,h4⟩
  ·have h3:=ih _ _ _ _ _ _ _ _ _ hf.2.2.2.2.2 (by omega) h2
   exact⟨by omega,h3.2⟩
 | ift a r iha ih=>
  intro lo base loop st s e b q x hf hl hr
  simp only [Tr.size] at hl ⊢
  unfold anaT at hr
  cases hp:popA st.stk base [116] with
  | error y=>
   rw [hp] at hr
   injection hr with h1 h2
   exact⟨by omega,by rcases popA_err hp with h | h <;> omega⟩
  | ok rl=>
   obtain⟨rest,l⟩:=rl
   rw [hp] at hr
   simp only [] at hr
   rcases ER.bind_bad hr with h1 | ⟨s1,u,v,h1,h2⟩
   ·have h3:=iha _ _ _ _ _ _ _ _ _ hf.2.1 (by omega) h1
    exact⟨by omega,h3.2⟩
   ·split at h2
    ·injection h2 with h3 h4;exact⟨by omega,by omega⟩
    ·have h3:=ih _ _ _ _ _ _ _ _ _ hf.2.2.2 (by omega) h2
     exact⟨by omega,h3.2⟩
 | ife a d r iha ihd ih=>
  intro lo base loop st s e b q x hf hl hr
  simp only [Tr.size] at hl ⊢
  unfold anaT at hr
  cases hp:popA st.stk base [116] with
  | error y=>
   rw [hp] at hr
   injection hr with h1 h2
   exact⟨by omega,by rcases popA_err hp with h | h <;> omega⟩
  | ok rl=>
   obtain⟨rest,l⟩:=rl
   rw [hp] at hr
   simp only [] at hr
   rcases ER.bind_bad hr with h1 | ⟨s1,u,v,h1,h2⟩
   ·have h3:=iha _ _ _ _ _ _ _ _ _ hf.2.1 (by omega) h1
    exact⟨by omega,h3.2⟩
   ·split at h2
    ·injection h2 with h3 h4;exact⟨by omega,by omega⟩
    ·rcases ER.bind_bad h2 with h3 | ⟨s2,u2,v2,h3,h4⟩
     ·have h5:=ihd _ _ _ _ _ _ _ _ _ hf.2.2.2.1 (by omega) h3
      exact⟨by omega,h5.2⟩
     ·split at h4
      ·injection h4 with h5 h6;exact⟨by omega,by omega⟩
      ·have h5:=ih _ _ _ _ _ _ _ _ _ hf.2.2.2.2.2 (by omega) h4
       exact⟨by omega,h5.2⟩
 | lp a r iha ih=>
  intro lo base loop st s e b q x hf hl hr
  simp only [Tr.size] at hl ⊢
  unfold anaT at hr
  cases hp:popA st.stk base [110] with
  | error y=>
   rw [hp] at hr
   injection hr with h1 h2
   exact⟨by omega,by rcases popA_err hp with h | h <;> omega⟩
  | ok rl=>
   obtain⟨rest,l⟩:=rl
   rw [hp] at hr
   simp only [] at hr
   split at hr
   ·injection hr with h1 h2;exact⟨by omega,by omega⟩
   split at hr
   ·rename_i y hen
    injection hr with h1 h2
    subst h1 h2
    refine⟨by omega,?_⟩
    unfold enterA at hen
    cases h with
    | widen=>cases hen
    | given R=>
     simp only [] at hen
     cases hx:invAt R lo with
     | none=>
      have:=hh lo (by omega) hf.1
      rw [hx] at this
      cases this
     | some z=>
      rw [hx] at hen
      simp only [] at hen
      split at hen
      ·injection hen with hen;omega
      ·split at hen
       ·cases hen
       ·injection hen with hen;omega
   ·rename_i head most hen
    rcases ER.bind_bad hr with h1 | ⟨s1,u,v,h1,h2⟩
    ·exact passA_bad (Q:=fun q x=>(lo≤q∧q≤lo+(a.size+r.size+2))∧0 < x) (fun x hx=>⟨by omega,by rcases hx with h | h <;> omega⟩)
      (fun s0 q x hb=>by have h3:=iha _ _ _ _ _ _ _ _ _ hf.2.1 (by omega) hb;exact⟨by omega,h3.2⟩) _ _ _ _ _ _ h1
    ·have h3:=ih _ _ _ _ _ _ _ _ _ hf.2.2.2 (by omega) h2
     exact⟨by omega,h3.2⟩
theorem st0_ok{p:Prg}{n:Nat}(hp:PrgOk p)(hn:p.locs=(n:Int)):StOk n (st0 p):=by
 refine⟨⟨by simp [st0,hn],fun x hx=>?_⟩,fun v hv=>absurd hv List.not_mem_nil,by simp [st0],by simp [st0],fun l hl=>absurd hl List.not_mem_nil,fun x hx=>absurd hx List.not_mem_nil⟩
 obtain⟨-,rfl⟩:=List.mem_replicate.1 hx
 decide
theorem whole_of{p:Prg}{h:Hd}{t:Tr}{r:Rp}(hr:whole p h t=.ok r):∃ st,anaT p h t 0 0 0 (st0 p) 0 0=.ok st r.steps r.emits∧st.stk.length=0∧r.hgt=(st.hgt:Int)∧r.inv=sortI p.code.length st.inv:=by
 unfold whole at hr
 split at hr
 ·cases hr
 ·cases hr
 ·rename_i st s e ha
  split at hr
  ·cases hr
  ·rename_i hl
   injection hr with hr
   subst hr
   exact⟨st,ha,by simpa using hl,rfl,rfl⟩
theorem sort_ats(l:List Inv):∀ (ks:List Nat),(ks.filterMap fun k=>invAt l k).map (fun x=>x.at_)=(ks.filter fun k=>(invAt l k).isSome).map (fun (k:Nat)=>(k:Int)):=by
 intro ks
 induction ks with
 | nil=>rfl
 | cons k ks ih=>
  cases hk:invAt l k with
  | none=>rw [List.filterMap_cons_none hk,List.filter_cons_of_neg (by rw [hk];decide),ih]
  | some x=>rw [List.filterMap_cons_some hk,List.filter_cons_of_pos (by rw [hk];rfl),List.map_cons,List.map_cons,ih,(invAt_some hk).2]
theorem ats_of{p:Prg}{h:Hd}{t:Tr}{st st':St}{s e:Int}{b:Bool}(hf:Fit p.code b 0 t)(hl:t.size=p.code.length)(hr:anaT p h t 0 0 0 st 0 0=.ok st' s e)(h0:st.inv=[]):(sortI p.code.length st'.inv).map (fun x=>x.at_)=(loopsOf p.code).map (fun (k:Nat)=>(k:Int)):=by
 have hn:=anaT_note _ _ _ _ _ _ _ _ _ _ _ hf hr (Nat.zero_le _)
 unfold sortI loopsOf
 rw [sort_ats]
 congr 1
 apply List.filter_congr
 intro k hk
 have hk:=List.mem_range.1 hk
 by_cases h29:oI p.code k=29
 ·rw [hn.all k (Nat.zero_le _) (by omega) h29,decide_eq_true h29]
 ·rw [decide_eq_false h29]
  cases hi:(invAt st'.inv k).isSome with
  | false=>rfl
  | true=>
   rcases hn.only k hi with h1 | h1
   ·rw [h0] at h1;cases h1
   ·exact absurd h1 h29
theorem plain_steps{p:Prg}{h:Hd}:∀ (t:Tr) (lo base loop:Nat) (st st':St) (s e s' e':Int) (b:Bool),Fit p.code b lo t→(∀ k,lo≤k→k < lo+t.size→oI p.code k≠27∧oI p.code k≠29)→anaT p h t lo base loop st s e=.ok st' s' e'→s+t.size≤1024→s'=s+t.size:=by
 intro t
 induction t with
 | nil=>intro lo base loop st st' s e s' e' b hf hk hr h0;cases hr;simp [Tr.size]
 | ins r ih=>
  intro lo base loop st st' s e s' e' b hf hk hr h0
  simp only [Tr.size] at hk h0 ⊢
  rw [anaT_ins] at hr
  obtain⟨s1,x,y,h1,h2⟩:=ER.bind_ok hr
  have h3:=insA_one p lo base loop st
  rw [h1] at h3
  obtain⟨rfl,-⟩:=h3
  have hc:capS s 1=s+1:=by unfold capS tooMany;omega
  rw [hc] at h2
  have h4:=ih _ _ _ _ _ _ _ _ _ _ hf.2.2.2.2.2 (fun k k1 k2=>hk k (by omega) (by omega)) h2 (by omega)
  omega
 | ift a r iha ih=>intro lo base loop st st' s e s' e' b hf hk hr h0;exact absurd hf.1 (hk lo (Nat.le_refl _) (by simp only [Tr.size];omega)).1
 | ife a d r iha ihd ih=>intro lo base loop st st' s e s' e' b hf hk hr h0;exact absurd hf.1 (hk lo (Nat.le_refl _) (by simp only [Tr.size];omega)).1
 | lp a r iha ih=>intro lo base loop st st' s e s' e' b hf hk hr h0;exact absurd hf.1 (hk lo (Nat.le_refl _) (by simp only [Tr.size];omega)).2
theorem verP_of{p:Prg}{r:Rp}(h:verP p=.ok r):(chkP p).2=0∧whole p .widen (treeOf p)=.ok r∧r.steps≤281474976710656:=by
 unfold verP at h
 split at h
 ·cases h
 ·rename_i hc
  have hc:(chkP p).2=0:=Decidable.not_not.1 hc
  cases hw:whole p .widen (treeOf p) with
  | bad a e=>rw [hw] at h;cases h
  | stuck=>rw [hw] at h;cases h
  | ok r2=>
   rw [hw] at h
   simp only [] at h
   split at h
   ·cases h
   ·cases h;exact⟨hc,rfl,by omega⟩
structure RepOk (p:Prg) (r:Rp):Prop where
 ats:r.inv.map (fun x=>x.at_)=(loopsOf p.code).map (fun (k:Nat)=>(k:Int))
 inv:∀ x∈r.inv,0≤x.most∧x.most≤65536∧(x.locs.length:Int)=p.locs∧∀ y∈x.locs,ivE y=0
 emits:0≤r.emits∧r.emits≤r.steps
 steps:r.steps≤281474976710656
 hgt:0≤r.hgt∧r.hgt≤32
 plain:(∀ k,k < p.code.length→oI p.code k≠27∧oI p.code k≠29)→r.steps=(p.code.length:Int)
theorem sort_mem{l:List Inv}{n:Nat}{x:Inv}(h:x∈sortI n l):x∈l:=by
 unfold sortI at h
 obtain⟨k,-,hk⟩:=List.mem_filterMap.1 h
 exact (invAt_some hk).1
theorem reports_of{p:Prg}{r:Rp}(hwf:∀ x∈p.code,0≤x.arg∧x.arg < 4294967296)(h:verP p=.ok r):RepOk p r:=by
 obtain⟨hc,hw,hs⟩:=verP_of h
 obtain⟨hp,-,t,ht,hto⟩:=prgOk_of hwf hc
 rw [hto] at hw
 obtain⟨hf,hsz⟩:=tree_fit ht
 obtain⟨st,ha,hst,hh,hi⟩:=whole_of hw
 obtain⟨n,hn⟩:∃ n:Nat,p.locs=(n:Int):=⟨p.locs.toNat,by have:=hp.locs;omega⟩
 have hg:=anaT_good (h:=.widen) hp hn trivial t 0 0 0 (st0 p) 0 0 false hf (by omega) (st0_ok hp hn) (by omega) (by omega) (by unfold tooMany;omega)
 rw [ha] at hg
 obtain⟨g1,g2,g3,g4,-⟩:=hg
 refine⟨by rw [hi];exact ats_of hf hsz ha rfl,fun x hx=>?_,⟨g2,g3⟩,hs,⟨by omega,by have:=g1.hgt;omega⟩,fun hpl=>?_⟩
 ·rw [hi] at hx
  obtain⟨k1,k2,k3⟩:=g1.inv x (sort_mem hx)
  exact⟨k2,k3,by rw [k1.1,hn],fun y hy=>ivE_iff.2 (k1.2 y hy)⟩
 ·have hlen:=hp.len
  have:=plain_steps t 0 0 0 _ _ _ _ _ _ _ hf (fun k k1 k2=>hpl k (by omega)) ha (by omega)
  omega
theorem verP_bad{p:Prg}{a:Nat}{e:Int}(hwf:∀ x∈p.code,0≤x.arg∧x.arg < 4294967296)(hfe:0≤formE p)(h:verP p=.bad a e):a≤p.code.length∧0 < e:=by
 unfold verP at h
 split at h
 ·rename_i hc
  injection h with h1 h2
  subst h1 h2
  unfold chkP at hc ⊢
  by_cases hf:formE p≠0
  ·rw [if_pos hf];exact⟨Nat.zero_le _,by simp only [];omega⟩
  rw [if_neg hf] at hc ⊢
  cases hp:parse p.code with
  | bad q=>exact⟨parse_bad_le hp,by simp only [];omega⟩
  | ok t m=>
   rw [hp] at hc
   simp only [] at hc ⊢
   by_cases ha:argAt p < p.code.length
   ·rw [if_pos ha];exact⟨Nat.le_of_lt ha,by simp only [];omega⟩
   ·rw [if_neg ha] at hc;exact absurd rfl hc
 ·rename_i hc
  have hc:(chkP p).2=0:=Decidable.not_not.1 hc
  obtain⟨hp,-,t,ht,hto⟩:=prgOk_of hwf hc
  obtain⟨hf,hsz⟩:=tree_fit ht
  rw [hto] at h
  cases hw:whole p .widen t with
  | stuck=>rw [hw] at h;cases h
  | ok r2=>
   rw [hw] at h
   simp only [] at h
   split at h
   ·injection h with h1 h2;exact⟨by omega,by omega⟩
   ·cases h
  | bad a2 e2=>
   rw [hw] at h
   injection h with h1 h2
   subst h1 h2
   unfold whole at hw
   split at hw
   ·rename_i a3 e3 ha
    injection hw with h1 h2
    subst h1 h2
    have:=anaT_bad (h:=.widen) trivial t 0 0 0 _ _ _ false _ _ hf (by omega) ha
    exact⟨by omega,this.2⟩
   ·cases hw
   ·split at hw
    ·injection hw with h1 h2;exact⟨by omega,by omega⟩
    ·cases hw
theorem formR_zero{p:Prg}:∀ {l:List Inv},(∀ x∈l,0≤x.most∧x.most≤65536∧(x.locs.length:Int)=p.locs∧∀ y∈x.locs,ivE y=0)→formR p l=(0,0):=by
 intro l
 induction l with
 | nil=>intro _;rfl
 | cons x l ih=>
  intro h
  obtain⟨h1,h2,h3,h4⟩:=h x (List.mem_cons_self ..)
  unfold formR
  have hany:x.locs.any (fun y=>decide (ivE y≠0))=false:=by
   rw [List.any_eq_false]
   intro y hy
   simp [h4 y hy]
  rw [if_neg (by rw [hany];simp;omega)]
  exact ih (fun y hy=>h y (List.mem_cons_of_mem _ hy))
theorem given_same{p:Prg}{r:Rp}(hwf:∀ x∈p.code,0≤x.arg∧x.arg < 4294967296)(h:verP p=.ok r):∃ r2,whole p (.given r.inv) (treeOf p)=.ok r2∧r2.steps=r.steps∧r2.emits=r.emits∧r2.hgt=r.hgt:=by
 obtain⟨hc,hw,hs⟩:=verP_of h
 obtain⟨hp,-,t,ht,hto⟩:=prgOk_of hwf hc
 rw [hto] at hw ⊢
 obtain⟨hf,hsz⟩:=tree_fit ht
 obtain⟨st,ha,hst,hh,hi⟩:=whole_of hw
 obtain⟨n,hn⟩:∃ n:Nat,p.locs=(n:Int):=⟨p.locs.toNat,by have:=hp.locs;omega⟩
 obtain⟨st2,hb,hsim⟩:=mirror hp hn (R:=r.inv) t 0 0 0 (st0 p) st (st0 p) 0 0 r.steps r.emits false hf (by omega) (st0_ok hp hn) (Nat.zero_le _) ha ⟨rfl,rfl,rfl⟩ (fun k k1 k2 _=>by rw [hi];exact invAt_sort (by omega))
 have g1:=(anaT_hgt _ _ _ _ _ _ _ _ _ _ ha (Nat.zero_le _)).1.2
 have g2:=(anaT_hgt _ _ _ _ _ _ _ _ _ _ hb (Nat.zero_le _)).1.2
 refine⟨⟨r.steps,r.emits,(st2.hgt:Int),sortI p.code.length st2.inv⟩,?_,rfl,rfl,by simp only [];rw [hh,g1,g2]⟩
 unfold whole
 rw [hb]
 simp only []
 rw [if_neg (by rw [hsim.2.1];omega)]
theorem confirms_of{p:Prg}{r:Rp}(hwf:∀ x∈p.code,0≤x.arg∧x.arg < 4294967296)(h:verP p=.ok r)(s e g:Int):conP p ⟨s,e,g,r.inv⟩=if r.steps≤s∧r.emits≤e∧r.hgt≤g∧s≤281474976710656 then (0,0) else (0,18):=by
 obtain⟨hc,-,-⟩:=verP_of h
 have hr:=reports_of hwf h
 obtain⟨r2,h1,h2,h3,h4⟩:=given_same hwf h
 unfold conP
 rw [if_neg (by simp [hc]),if_neg (by simp only [];rw [hr.ats];simp),if_neg (by simp only [];rw [formR_zero hr.inv];simp)]
 simp only []
 rw [h1]
 simp only []
 rw [h2,h3,h4]
theorem anaT_zero{p:Prg}{n:Nat}(hp:PrgOk p)(hn:p.locs=(n:Int)){t:Tr}{lo base loop:Nat}{st st':St}{s e s' e':Int}{b:Bool}(hf:Fit p.code b lo t)(hl:lo+t.size≤p.code.length)(hs:StOk n st)(hr:anaT p .widen t lo base loop st s e=.ok st' s' e')(h0:∀ k,lo≤k→k < lo+t.size→oI p.code k≠2):st'.locs=st.locs:=by
 obtain⟨a',b',h1⟩:=anaT_se t lo base loop st st' s e s' e' 0 0 hr
 have h2:=anaT_good (h:=.widen) hp hn trivial t lo base loop st 0 0 b hf hl hs (by omega) (by omega) (by unfold tooMany;omega)
 rw [h1] at h2
 obtain⟨g1,-,-,-,g2⟩:=h2
 apply List.ext_getElem (by rw [g1.locs.1,hs.locs.1])
 intro i i1 i2
 have h3:=(g2 i (by rw [←g1.locs.1];exact i1) (by
  cases hst:stored p.code lo (lo+t.size) i with
  | false=>rfl
  | true=>
   obtain⟨k,k1,k2,-,k3,-⟩:=stored_iff.1 hst
   exact absurd k3 (h0 k k1 k2))).1
 rw [gL_get i1,gL_get i2] at h3
 exact h3
theorem shrink_run{p:Prg}{n:Nat}(hp:PrgOk p)(hn:p.locs=(n:Int)){R:List Inv}{Z:List Iv}{A:Nat}{x y:Inv}(hA:oI p.code A=29)(hy:invAt R A=some y)(hm:y.most=x.most)(hz:withinL Z y.locs=false):∀ (t:Tr) (lo base loop:Nat) (st st' st2:St) (s e s' e':Int) (b:Bool),Fit p.code b lo t→lo+t.size≤p.code.length→StOk n st→base≤st.stk.length →
  anaT p .widen t lo base loop st s e=.ok st' s' e'→SimS st st2→st.locs=Z→(∀ k,lo≤k→k < A→oI p.code k≠2∧oI p.code k≠29)→lo≤A→A < lo+t.size→invAt st'.inv A=some x→anaT p (.given R) t lo base loop st2 s e=.bad A 23∧withinL Z x.locs=true:=by
 intro t
 induction t with
 | nil=>intro lo base loop st st' st2 s e s' e' b hf hl hs hb hr hsim hZ hk h1 h2 hx;simp only [Tr.size] at h2;omega
 | ins r ih=>
  intro lo base loop st st' st2 s e s' e' b hf hl hs hb hr hsim hZ hk h1 h2 hx
  simp only [Tr.size] at hl h2
  have hne:lo≠A:=fun h=>hf.2.2.1 (h ▸ hA)
  have hr0:=hr
  rw [anaT_ins] at hr ⊢
  obtain⟨s1,u,v,q1,q2⟩:=ER.bind_ok hr
  obtain⟨s2,q3,q4⟩:=insA_sim q1 hsim
  rw [q3]
  have q5:=insA_one p lo base loop st
  rw [q1] at q5
  have q6:StOk n s1:=by
   have h3:=anaT_st (t:=.ins .nil) (st':=s1) (s':=capS 0 u) (e':=capS 0 v) (loop:=loop) (base:=base) (s:=0) (e:=0) hp hn (h:=.widen) trivial (b:=b) (lo:=lo) ⟨hf.1,hf.2.1,hf.2.2.1,hf.2.2.2.1,hf.2.2.2.2.1,trivial⟩ (by simp only [Tr.size];omega) hs (by rw [anaT_ins,q1];rfl)
   exact h3
  exact ih _ _ _ _ _ _ _ _ _ _ b hf.2.2.2.2.2 (by omega) q6 (insA_base q1).1 q2 q4 ((q5.2 (hk lo (Nat.le_refl _) (by omega)).1).trans hZ) (fun k k1 k2=>hk k (by omega) k2) (by omega) (by omega) hx
 | ift a r iha ih=>
  intro lo base loop st st' st2 s e s' e' b hf hl hs hb hr hsim hZ hk h1 h2 hx
  simp only [Tr.size] at hl h2
  have hne:lo≠A:=fun h=>by have h3:=hf.1;rw [h,hA] at h3;cases h3
  have hne2:lo+1+a.size≠A:=fun h=>by have h3:=hf.2.2.1;rw [h,hA] at h3;cases h3
  unfold anaT at hr ⊢
  obtain⟨e1,e2,e3⟩:=hsim
  rw [e2]
  cases hpo:popA st.stk base [116] with
  | error z=>rw [hpo] at hr;cases hr
  | ok rl=>
   obtain⟨rest,l⟩:=rl
   rw [hpo] at hr
   simp only [] at hr ⊢
   obtain⟨g1,g2,g3⟩:=popA_len hpo
   obtain⟨q1,-,-,-⟩:=popA_rest hs hpo
   obtain⟨s1,u,v,h3,h4⟩:=ER.bind_ok hr
   split at h4
   ·cases h4
   rename_i hg
   have hst1:=anaT_st hp hn (h:=.widen) trivial hf.2.1 (by omega) q1 h3
   have hlen:s1.stk.length=rest.length:=by simpa using hg
   have hno:=anaT_note _ _ _ _ _ _ _ _ _ _ _ hf.2.2.2 h4 (by simp only [];omega)
   simp only [] at hno
   by_cases hAa:A < lo+1+a.size
   ·rw [hno.out A (.inl (by omega))] at hx
    obtain⟨w1,w2⟩:=iha _ _ _ _ _ _ _ _ _ b hf.2.1 (by omega) q1 (Nat.le_refl _) h3 (st2:={ st2 with stk:=rest }) ⟨e1,rfl,e3⟩ hZ (fun k k1 k2=>hk k (by omega) k2) (by omega) hAa hx
    rw [w1]
    exact⟨rfl,w2⟩
   ·obtain⟨t1,w1,w2,w3,w4⟩:=mirror hp hn (R:=R) _ _ _ _ _ _ _ _ _ _ b hf.2.1 (by omega) q1 (Nat.le_refl _) h3 (st2:={ st2 with stk:=rest }) ⟨e1,rfl,e3⟩ (fun k k1 k2 k3=>absurd k3 (hk k (by omega) (by omega)).2)
    rw [w1]
    simp only [ER.bind]
    rw [if_neg (by rw [w3];exact hg)]
    have hz1:s1.locs=st.locs:=anaT_zero (st:={ st with stk:=rest }) hp hn hf.2.1 (by omega) q1 h3 (fun k k1 k2=>(hk k (by omega) (by omega)).1)
    have hself:joinL s1.locs st.locs=Z:=by
     rw [hz1,←hZ]
     apply List.ext_getElem (by unfold joinL;rw [List.length_zipWith,Nat.min_self])
     intro i i1 i2
     have:=gL_join (l:=st.locs) (m:=st.locs) rfl rfl i2
     rw [gL_get i1,gL_get i2] at this
     rw [this]
     exact ivJoin_self (hs.locs.2 _ (List.getElem_mem i2))
    have hst2:StOk n { s1 with locs:=joinL s1.locs st.locs }:=⟨joinL_ok hst1.locs hs.locs,hst1.stk,hst1.len,hst1.hgt,hst1.lvs,hst1.inv⟩
    exact ih _ _ _ _ _ _ _ _ _ _ b hf.2.2.2 (by omega) hst2 (by simp only [];omega) h4 ⟨by simp only [];rw [w2,e1],w3,w4⟩ hself (fun k k1 k2=>hk k (by omega) k2) (by omega) (by omega) hx
 | ife a d r iha ihd ih=>
  intro lo base loop st st' st2 s e s' e' b hf hl hs hb hr hsim hZ hk h1 h2 hx
  simp only [Tr.size] at hl h2
  have hne:lo≠A:=fun h=>by have h3:=hf.1;rw [h,hA] at h3;cases h3
  have hne2:lo+1+a.size≠A:=fun h=>by have h3:=hf.2.2.1;rw [h,hA] at h3;cases h3
  have hne3:lo+2+a.size+d.size≠A:=fun h=>by have h3:=hf.2.2.2.2.1;rw [h,hA] at h3;cases h3
  unfold anaT at hr ⊢
  obtain⟨e1,e2,e3⟩:=hsim
  rw [e2]
  cases hpo:popA st.stk base [116] with
  | error z=>rw [hpo] at hr;cases hr
  | ok rl=>
   obtain⟨rest,l⟩:=rl
   rw [hpo] at hr
   simp only [] at hr ⊢
   obtain⟨g1,g2,g3⟩:=popA_len hpo
   obtain⟨q1,-,-,-⟩:=popA_rest hs hpo
   obtain⟨s1,u,v,h3,h4⟩:=ER.bind_ok hr
   split at h4
   ·cases h4
   rename_i hg
   obtain⟨s3,u3,v3,h5,h6⟩:=ER.bind_ok h4
   split at h6
   ·cases h6
   rename_i hg3
   have hst1:=anaT_st hp hn (h:=.widen) trivial hf.2.1 (by omega) q1 h3
   have hlen:s1.stk.length=rest.length:=by simpa using hg
   have hlen3:s3.stk.length=rest.length:=by simpa using hg3
   have hst1':StOk n { s1 with locs:=st.locs }:=⟨hs.locs,hst1.stk,hst1.len,hst1.hgt,hst1.lvs,hst1.inv⟩
   have hst3:=anaT_st hp hn (h:=.widen) trivial hf.2.2.2.1 (by omega) hst1' h5
   have hst4:StOk n { s3 with locs:=joinL s1.locs s3.locs }:=⟨joinL_ok hst1.locs hst3.locs,hst3.stk,hst3.len,hst3.hgt,hst3.lvs,hst3.inv⟩
   have hno:=anaT_note _ _ _ _ _ _ _ _ _ _ _ hf.2.2.2.2.2 h6 (by simp only [];omega)
   have hno3:=anaT_note _ _ _ _ _ _ _ _ _ _ _ hf.2.2.2.1 h5 (by simp only [];omega)
   simp only [] at hno hno3
   by_cases hAa:A < lo+1+a.size
   ·rw [hno.out A (.inl (by omega)),hno3.out A (.inl (by omega))] at hx
    obtain⟨w1,w2⟩:=iha _ _ _ _ _ _ _ _ _ b hf.2.1 (by omega) q1 (Nat.le_refl _) h3 (st2:={ st2 with stk:=rest }) ⟨e1,rfl,e3⟩ hZ (fun k k1 k2=>hk k (by omega) k2) (by omega) hAa hx
    rw [w1]
    exact⟨rfl,w2⟩
   ·obtain⟨t1,w1,w2,w3,w4⟩:=mirror hp hn (R:=R) _ _ _ _ _ _ _ _ _ _ b hf.2.1 (by omega) q1 (Nat.le_refl _) h3 (st2:={ st2 with stk:=rest }) ⟨e1,rfl,e3⟩ (fun k k1 k2 k3=>absurd k3 (hk k (by omega) (by omega)).2)
    rw [w1]
    simp only [ER.bind]
    rw [if_neg (by rw [w3];exact hg)]
    by_cases hAd:A < lo+2+a.size+d.size
    ·rw [hno.out A (.inl (by omega))] at hx
     obtain⟨v1,v2⟩:=ihd _ _ _ _ _ _ _ _ _ b hf.2.2.2.1 (by omega) hst1' (by simp only [];omega) h5 (st2:={ t1 with locs:=st2.locs }) ⟨e1,w3,w4⟩ hZ (fun k k1 k2=>hk k (by omega) k2) (by omega) (by omega) hx
     rw [v1]
     exact⟨rfl,v2⟩
    ·obtain⟨t3,v1,v2,v3,v4⟩:=mirror hp hn (R:=R) _ _ _ _ _ _ _ _ _ _ b hf.2.2.2.1 (by omega) hst1' (by simp only [];omega) h5 (st2:={ t1 with locs:=st2.locs }) ⟨e1,w3,w4⟩ (fun k k1 k2 k3=>absurd k3 (hk k (by omega) (by omega)).2)
     rw [v1]
     simp only []
     rw [if_neg (by rw [v3];exact hg3)]
     have hz1:s1.locs=st.locs:=anaT_zero (st:={ st with stk:=rest }) hp hn hf.2.1 (by omega) q1 h3 (fun k k1 k2=>(hk k (by omega) (by omega)).1)
     have hz3:s3.locs=st.locs:=anaT_zero (st:={ s1 with locs:=st.locs }) hp hn hf.2.2.2.1 (by omega) hst1' h5 (fun k k1 k2=>(hk k (by omega) (by omega)).1)
     have hself:joinL s1.locs s3.locs=Z:=by
      rw [hz1,hz3,←hZ]
      apply List.ext_getElem (by unfold joinL;rw [List.length_zipWith,Nat.min_self])
      intro i i1 i2
      have:=gL_join (l:=st.locs) (m:=st.locs) rfl rfl i2
      rw [gL_get i1,gL_get i2] at this
      rw [this]
      exact ivJoin_self (hs.locs.2 _ (List.getElem_mem i2))
     exact ih _ _ _ _ _ _ _ _ _ _ b hf.2.2.2.2.2 (by omega) hst4 (by simp only [];omega) h6 ⟨by simp only [];rw [w2,v2],v3,v4⟩ hself (fun k k1 k2=>hk k (by omega) k2) (by omega) (by omega) hx
 | lp a r iha ih=>
  intro lo base loop st st' st2 s e s' e' b hf hl hs hb hr hsim hZ hk h1 h2 hx
  simp only [Tr.size] at hl h2
  have heq:lo=A:=by
   by_cases h3:lo < A
   ·exact absurd hf.1 (hk lo (Nat.le_refl _) h3).2
   ·omega
  subst heq
  unfold anaT at hr ⊢
  obtain⟨e1,e2,e3⟩:=hsim
  rw [e2]
  cases hpo:popA st.stk base [110] with
  | error z=>rw [hpo] at hr;cases hr
  | ok rl=>
   obtain⟨rest,l⟩:=rl
   rw [hpo] at hr
   simp only [] at hr ⊢
   obtain⟨g1,g2,g3⟩:=popA_len hpo
   obtain⟨q1,-,-,-⟩:=popA_rest hs hpo
   split at hr
   ·cases hr
   rename_i hmo
   rw [if_neg hmo]
   have hen:enterA .widen lo (gV l 0).iv.hi st.locs=.ok (st.locs,(gV l 0).iv.hi):=rfl
   rw [hen] at hr
   simp only [] at hr
   obtain⟨s1,u,v,h3,h4⟩:=ER.bind_ok hr
   obtain⟨hf2,q2,i2,sl,k1,k2,k3,k4,k5,k6,k7⟩:=passA_last (n:=n) (rest:=rest) (body:=fun s0=>anaT p .widen a (lo+1) rest.length rest.length s0 0 0) rfl
    (fun s0 s1 s e hb hs=>by
     have q3:=(anaT_hgt _ _ _ _ _ _ _ _ _ _ hb (by rw [hs];exact Nat.le_refl _)).2.2
     rw [q3,hs,List.take_of_length_le (Nat.le_refl _)])
    (fun s0 s1 s e hb hs=>anaT_st hp hn (h:=.widen) trivial hf.2.1 (by omega) hs hb) _ _ _ _ _ _ _ h3 rfl q1 hs.locs
   subst k7
   have hno:=anaT_note _ _ _ _ _ _ _ _ _ _ _ hf.2.2.2 h4 (by simp only [];rw [k5];exact g2)
   simp only [] at hno
   rw [hno.out lo (.inl (by omega)),invAt_note,if_pos rfl] at hx
   injection hx with hx
   subst hx
   have hen2:enterA (.given R) lo (gV l 0).iv.hi st2.locs=.error 23:=by
    unfold enterA
    simp only []
    rw [hy]
    simp only [] at hm ⊢
    rw [if_neg (by omega),e1,hZ,hz]
    rfl
   rw [hen2]
   exact⟨rfl,by rw [←hZ];exact k2⟩
theorem loopsOf_mem{c:List Ins}{k:Nat}:k∈loopsOf c↔k < c.length∧oI c k=29:=by
 unfold loopsOf
 rw [List.mem_filter,List.mem_range,decide_eq_true_eq]
theorem loopsOf_first{c:List Ins}{A:Nat}{ks:List Nat}(h:loopsOf c=A :: ks):A < c.length∧oI c A=29∧∀ j,j < A→oI c j≠29:=by
 have hm:A∈loopsOf c:=by rw [h];exact List.mem_cons_self ..
 obtain⟨h1,h2⟩:=loopsOf_mem.1 hm
 refine⟨h1,h2,fun j hj h3=>?_⟩
 have hj2:j∈loopsOf c:=loopsOf_mem.2 ⟨by omega,h3⟩
 have hp:(loopsOf c).Pairwise (· < ·):=by
  unfold loopsOf
  exact List.Pairwise.filter _ List.pairwise_lt_range
 rw [h] at hj2 hp
 rcases List.mem_cons.1 hj2 with h4 | h4
 ·omega
 ·have:=(List.pairwise_cons.1 hp).1 j h4
  omega
theorem withinL_falseK{l m:List Iv}{k:Nat}(hk:k < l.length)(h:ivIn (gL l k) (gL m k)=false):withinL l m=false:=by
 cases hw:withinL l m with
 | false=>rfl
 | true=>rw [(withinL_iff.1 hw).2 k hk] at h;cases h
theorem gL_rep{n k:Nat}{x:Iv}(h:k < n):gL (List.replicate n x) k=x:=by
 rw [gL_get (by rw [List.length_replicate];exact h),List.getElem_replicate]
theorem shrinks_of{p:Prg}{r:Rp}{x:Inv}{R:List Inv}{k:Nat}{lo:Int}(hwf:∀ x∈p.code,0≤x.arg∧x.arg < 4294967296)(h:verP p=.ok r)(hi:r.inv=x :: R)(hst:∀ j:Nat,j < p.code.length→(j:Int) < x.at_→oI p.code j≠2)(hk:(k:Int) < p.locs)(hlo:1≤lo∧lo≤256) :
  0≤x.at_∧(gL x.locs k).lo=0∧conP p ⟨r.steps,r.emits,r.hgt,⟨x.at_,x.most,x.locs.set k ⟨lo,300⟩⟩ :: R⟩=(x.at_.toNat,23):=by
 obtain⟨hc,hw,hs⟩:=verP_of h
 obtain⟨hp,-,t,ht,hto⟩:=prgOk_of hwf hc
 have hr:=reports_of hwf h
 rw [hto] at hw
 obtain⟨hf,hsz⟩:=tree_fit ht
 obtain⟨st,ha,-,-,hinv⟩:=whole_of hw
 obtain⟨n,hn⟩:∃ n:Nat,p.locs=(n:Int):=⟨p.locs.toNat,by have:=hp.locs;omega⟩
 have hats:=hr.ats
 rw [hi,List.map_cons] at hats
 cases hls:loopsOf p.code with
 | nil=>rw [hls] at hats;cases hats
 | cons A ks=>
  obtain⟨hA1,hA2,hA3⟩:=loopsOf_first hls
  rw [hls,List.map_cons] at hats
  obtain⟨hA,-⟩:=List.cons.inj hats
  have hxi:=hr.inv x (by rw [hi];exact List.mem_cons_self ..)
  obtain⟨x1,x2,x3,x4⟩:=hxi
  have hkn:k < n:=by omega
  have hkx:k < x.locs.length:=by omega
  have hax:invAt st.inv A=some x:=by
   rw [←invAt_sort hA1,←hinv,hi]
   unfold invAt
   rw [List.find?_cons_of_pos (by simp [hA])]
  have hZ:(st0 p).locs=List.replicate n ⟨0,0⟩:=by unfold st0;rw [hn];rfl
  have hy:invAt (⟨x.at_,x.most,x.locs.set k ⟨lo,300⟩⟩ :: R) A=some ⟨x.at_,x.most,x.locs.set k ⟨lo,300⟩⟩:=by
   unfold invAt
   rw [List.find?_cons_of_pos (by simp [hA])]
  have hgk:gL (x.locs.set k ⟨lo,300⟩) k=⟨lo,300⟩:=by
   rw [gL_get (by rw [List.length_set];exact hkx),List.getElem_set_self]
  have hz:withinL (st0 p).locs (x.locs.set k ⟨lo,300⟩)=false:=by
   rw [hZ]
   refine withinL_falseK (k:=k) (by rw [List.length_replicate];exact hkn) ?_
   rw [gL_rep hkn,hgk]
   unfold ivIn
   have:decide (lo≤0)=false:=by simp;omega
   simp [this]
  obtain⟨w1,w2⟩:=shrink_run hp hn (x:=x) hA2 hy rfl hz t 0 0 0 (st0 p) st (st0 p) 0 0 r.steps r.emits false hf (by omega) (st0_ok hp hn) (Nat.zero_le _) ha ⟨rfl,rfl,rfl⟩ rfl (fun j _ hj=>⟨hst j (by omega) (by omega),hA3 j hj⟩) (Nat.zero_le _) (by omega) hax
  have w3:=(withinL_iff.1 w2).2 k (by rw [hZ,List.length_replicate];exact hkn)
  rw [hZ,gL_rep hkn] at w3
  refine⟨by omega,?_,?_⟩
  ·unfold ivIn ivOk at w3
   simp only [Bool.and_eq_true,decide_eq_true_eq] at w3
   omega
  ·unfold conP
   rw [if_neg (by simp [hc]),if_neg (by simp only [List.map_cons];have:=hr.ats;rw [hi,List.map_cons] at this;rw [this];simp),if_neg (by
    simp only []
    rw [formR_zero]
    ·simp
    ·intro z hz
     rcases List.mem_cons.1 hz with h1 | h1
     ·subst h1
      refine⟨x1,x2,by simp only [List.length_set];exact x3,fun y hy=>?_⟩
      rcases List.mem_or_eq_of_mem_set hy with h2 | h2
      ·exact x4 y h2
      ·subst h2
       unfold ivE
       rw [if_neg (by simp only [];omega),if_neg (by simp only [];omega)]
     ·exact hr.inv z (by rw [hi];exact List.mem_cons_of_mem _ h1))]
   unfold whole
   rw [hto,w1]
   simp only []
   rw [hA]
   rfl
end Go.Proofs.YtepoclhdklgnhaaGreatDoor
