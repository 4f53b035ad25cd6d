/- Wt Vw. -/
import Derived.Test.YtepoclhdklgnhaaGreatDoorRC45
import Derived.Test.YtepoclhdklgnhaaGreatDoorRC44
set_option maxRecDepth 100000
set_option maxHeartbeats 40000000
set_option linter.unusedVariables false
set_option linter.unusedSimpArgs false
namespace Go.Proofs.YtepoclhdklgnhaaGreatDoor
open Go.RowKit Go.Proofs
structure NoteR (c:List Ins) (lo hi:Nat) (a b:List Inv):Prop where
 out:∀ k,k < lo∨hi≤k→invAt b k=invAt a k
 keep:∀ k,(invAt a k).isSome=true→(invAt b k).isSome=true
 all:∀ k,lo≤k→k < hi→oI c k=29→(invAt b k).isSome=true
 only:∀ k,(invAt b k).isSome=true→(invAt a k).isSome=true∨oI c k=29
theorem NoteR.refl{c:List Ins}{lo hi:Nat}(a:List Inv)(h:∀ k,lo≤k→k < hi→oI c k≠29):NoteR c lo hi a a:=⟨fun _ _=>rfl,fun _ h=>h,fun k h1 h2 h3=>absurd h3 (h k h1 h2),fun _ h=>.inl h⟩
theorem NoteR.comp{c:List Ins}{lo hi l1 h1 l2 h2:Nat}{a b d:List Inv}(h:NoteR c l1 h1 a b)(h':NoteR c l2 h2 b d)(e1:lo≤l1∧h1≤hi)(e2:lo≤l2∧h2≤hi)(hk:∀ k,lo≤k→k < hi→oI c k=29→(l1≤k∧k < h1)∨(l2≤k∧k < h2)):NoteR c lo hi a d:=by
 refine⟨fun k hk=>?_,fun k hk=>h'.keep k (h.keep k hk),fun k k1 k2 k3=>?_,fun k hk=>?_⟩
 ·rw [h'.out k (by omega),h.out k (by omega)]
 ·rcases hk k k1 k2 k3 with h3 | h3
  ·exact h'.keep k (h.all k h3.1 h3.2 k3)
  ·exact h'.all k h3.1 h3.2 k3
 ·rcases h'.only k hk with h3 | h3
  ·exact h.only k h3
  ·exact .inr h3
theorem NoteR.trans{c:List Ins}{lo hi:Nat}{a b d:List Inv}(h:NoteR c lo hi a b)(h':NoteR c lo hi b d):NoteR c lo hi a d:=h.comp h' ⟨Nat.le_refl _,Nat.le_refl _⟩ ⟨Nat.le_refl _,Nat.le_refl _⟩ (fun k h1 h2 _=>.inl ⟨h1,h2⟩)
theorem NoteR.note{c:List Ins}{lo:Nat}{a:List Inv}{x:Inv}(hx:x.at_=(lo:Int))(hc:oI c lo=29):NoteR c lo (lo+1) a (noteI a x):=by
 refine⟨fun k hk=>?_,fun k hk=>?_,fun k h1 h2 _=>?_,fun k hk=>?_⟩
 ·rw [invAt_note,if_neg (by omega)]
 ·rw [invAt_note];split
  ·rfl
  ·exact hk
 ·rw [invAt_note,if_pos (by omega)];rfl
 ·rw [invAt_note] at hk
  split at hk
  ·rename_i h
   exact .inr (by rw [show k=lo by omega];exact hc)
  ·exact .inl hk
theorem anaT_note{p:Prg}{h:Hd}:∀ (t:Tr) (lo base loop:Nat) (st st':St) (s e s' e':Int) (b:Bool),Fit p.code b lo t→anaT p h t lo base loop st s e=.ok st' s' e'→base≤st.stk.length→NoteR p.code lo (lo+t.size) st.inv st'.inv:=by
 intro t
 induction t with
 | nil=>
  intro lo base loop st st' s e s' e' b hf hr hb
  cases hr
  exact NoteR.refl _ (fun k h1 h2=>by simp only [Tr.size] at h2;omega)
 | ins r ih=>
  intro lo base loop st st' s e s' e' b hf hr hb
  unfold anaT at hr
  obtain⟨s1,x,y,h1,h2⟩:=ER.bind_ok hr
  have hinv:s1.inv=st.inv∧base≤s1.stk.length:=by
   by_cases h30:oI p.code lo=30
   ·rw [if_pos h30] at h1
    cases hp:popA st.stk base [116] with
    | error x=>rw [hp] at h1;cases h1
    | ok rl=>
     obtain⟨rest,l⟩:=rl
     rw [hp] at h1
     simp only [] at h1
     split at h1
     ·cases h1
     ·injection h1 with h1 _ _
      subst h1
      exact⟨rfl,(popA_len hp).2.1⟩
   ·rw [if_neg h30] at h1
    obtain⟨-,-,g,g2,-⟩:=plA_hgt h1 h30
    exact⟨g,g2⟩
  have h3:=ih _ _ _ _ _ _ _ _ _ _ hf.2.2.2.2.2 h2 hinv.2
  rw [hinv.1] at h3
  refine (NoteR.refl (lo:=lo) (hi:=lo+1) st.inv (fun k k1 k2=>?_)).comp h3 ⟨Nat.le_refl _,by simp only [Tr.size];omega⟩ ⟨by omega,by simp only [Tr.size];omega⟩ (fun k k1 k2 _=>by simp only [Tr.size] at k2;omega)
  rw [show k=lo by omega]
  exact hf.2.2.1
 | ift a r iha ih=>
  intro lo base loop st st' s e s' e' b hf hr hb
  unfold anaT at hr
  cases hp:popA st.stk base [116] with
  | error x=>rw [hp] at hr;cases hr
  | ok rl=>
   obtain⟨rest,l⟩:=rl
   rw [hp] at hr
   simp only [] at hr
   obtain⟨g1,g2,g3⟩:=popA_len hp
   obtain⟨s1,x,y,h1,h2⟩:=ER.bind_ok hr
   have ha:=iha _ _ _ _ _ _ _ _ _ _ hf.2.1 h1 (Nat.le_refl _)
   split at h2
   ·cases h2
   rename_i hl
   have hl:s1.stk.length=rest.length:=by simpa using hl
   have hr2:=ih _ _ _ _ _ _ _ _ _ _ hf.2.2.2 h2 (by simp only [];omega)
   have f1:=hf.1
   have f3:=hf.2.2.1
   refine ha.comp hr2 ⟨by omega,by simp only [Tr.size];omega⟩ ⟨by omega,by simp only [Tr.size];omega⟩ (fun k k1 k2 k3=>?_)
   simp only [Tr.size] at k2
   by_cases e1:k=lo
   ·subst e1;omega
   by_cases e2:k=lo+1+a.size
   ·subst e2;omega
   omega
 | ife a d r iha ihd ih=>
  intro lo base loop st st' s e s' e' b hf hr hb
  unfold anaT at hr
  cases hp:popA st.stk base [116] with
  | error x=>rw [hp] at hr;cases hr
  | ok rl=>
   obtain⟨rest,l⟩:=rl
   rw [hp] at hr
   simp only [] at hr
   obtain⟨g1,g2,g3⟩:=popA_len hp
   obtain⟨s1,x,y,h1,h2⟩:=ER.bind_ok hr
   have ha:=iha _ _ _ _ _ _ _ _ _ _ hf.2.1 h1 (Nat.le_refl _)
   split at h2
   ·cases h2
   rename_i hl
   have hl:s1.stk.length=rest.length:=by simpa using hl
   obtain⟨s2,x2,y2,h3,h4⟩:=ER.bind_ok h2
   have hd:=ihd _ _ _ _ _ _ _ _ _ _ hf.2.2.2.1 h3 (by simp only [];omega)
   split at h4
   ·cases h4
   rename_i hl2
   have hl2:s2.stk.length=rest.length:=by simpa using hl2
   have hr2:=ih _ _ _ _ _ _ _ _ _ _ hf.2.2.2.2.2 h4 (by simp only [];omega)
   have f1:=hf.1
   have f3:=hf.2.2.1
   have f5:=hf.2.2.2.2.1
   have had:NoteR p.code (lo+1) (lo+2+a.size+d.size) st.inv s2.inv:=ha.comp hd ⟨by omega,by omega⟩ ⟨by omega,by omega⟩ (fun k k1 k2 k3=>by
    by_cases e2:k=lo+1+a.size
    ·subst e2;omega
    omega)
   refine had.comp hr2 ⟨by omega,by simp only [Tr.size];omega⟩ ⟨by omega,by simp only [Tr.size];omega⟩ (fun k k1 k2 k3=>?_)
   simp only [Tr.size] at k2
   by_cases e1:k=lo
   ·subst e1;omega
   by_cases e2:k=lo+2+a.size+d.size
   ·subst e2;omega
   omega
 | lp a r iha ih=>
  intro lo base loop st st' s e s' e' b hf hr hb
  unfold anaT at hr
  cases hp:popA st.stk base [110] with
  | error x=>rw [hp] at hr;cases hr
  | ok rl=>
   obtain⟨rest,l⟩:=rl
   rw [hp] at hr
   simp only [] at hr
   obtain⟨g1,g2,g3⟩:=popA_len hp
   split at hr
   ·cases hr
   split at hr
   ·cases hr
   rename_i head most hen
   obtain⟨s1,x,y,h1,h2⟩:=ER.bind_ok hr
   have hst:s1.stk=rest∧NoteR p.code (lo+1) (lo+1+a.size) st.inv s1.inv:=by
    have hq:∀ k pass head st st' s e,passA p.code h lo (lo+1+a.size) rest.length (fun s0=>anaT p h a (lo+1) rest.length rest.length s0 0 0) k pass head st=.ok st' s e→st.stk=rest→st'.stk=rest∧NoteR p.code (lo+1) (lo+1+a.size) st.inv st'.inv:=by
     intro k
     induction k with
     | zero=>intro pass head st st' s e h;cases h
     | succ k ihk=>
      intro pass head st st' s e hr hs
      unfold passA at hr
      obtain⟨s1,x,y,q1,q2⟩:=ER.bind_ok hr
      have q3:=(anaT_hgt _ _ _ _ _ _ _ _ _ _ q1 (by simp only [];rw [hs];exact Nat.le_refl _)).2.2
      have q4:=iha _ _ _ _ _ _ _ _ _ _ hf.2.1 q1 (by simp only [];rw [hs];exact Nat.le_refl _)
      simp only [] at q3 q4
      rw [hs,List.take_of_length_le (Nat.le_refl _)] at q3
      split at q2
      ·cases q2
      rename_i hh
      have q5:s1.stk=rest:=by rw [←q3,List.take_of_length_le (by omega)]
      split at q2
      ·cases q2;exact⟨q5,q4⟩
      ·cases h with
       | given r=>cases q2
       | widen=>
        obtain⟨w1,w2⟩:=ihk _ _ _ _ _ _ q2 q5
        exact⟨w1,q4.trans w2⟩
    exact hq _ _ _ { st with stk:=rest } _ _ _ h1 rfl
   have f1:=hf.1
   have f3:=hf.2.2.1
   have hr2:=ih _ _ _ _ _ _ _ _ _ _ hf.2.2.2 h2 (by simp only [];rw [hst.1];exact g2)
   have hn:NoteR p.code lo (lo+1+a.size) st.inv (noteI s1.inv ⟨(lo:Int),most,s1.locs⟩):=hst.2.comp (NoteR.note (lo:=lo) rfl f1) ⟨by omega,by omega⟩ ⟨by omega,by omega⟩ (fun k k1 k2 k3=>by omega)
   refine hn.comp hr2 ⟨by omega,by simp only [Tr.size];omega⟩ ⟨by omega,by simp only [Tr.size];omega⟩ (fun k k1 k2 k3=>?_)
   simp only [Tr.size] at k2
   by_cases e2:k=lo+1+a.size
   ·subst e2;omega
   omega
theorem anaT_se{p:Prg}{h:Hd}:∀ (t:Tr) (lo base loop:Nat) (st st':St) (s e s' e' a b:Int),anaT p h t lo base loop st s e=.ok st' s' e'→∃ a' b',anaT p h t lo base loop st a b=.ok st' a' b':=by
 intro t
 induction t with
 | nil=>intro lo base loop st st' s e s' e' a b hr;cases hr;exact⟨a,b,rfl⟩
 | ins r ih=>
  intro lo base loop st st' s e s' e' a b hr
  unfold anaT at hr ⊢
  obtain⟨s1,x,y,h1,h2⟩:=ER.bind_ok hr
  rw [h1]
  exact ih _ _ _ _ _ _ _ _ _ _ _ h2
 | ift a r iha ih=>
  intro lo base loop st st' s e s' e' a b hr
  unfold anaT at hr ⊢
  cases hp:popA st.stk base [116] with
  | error x=>rw [hp] at hr;cases hr
  | ok rl=>
   obtain⟨rest,l⟩:=rl
   rw [hp] at hr
   simp only [] at hr ⊢
   obtain⟨s1,x,y,h1,h2⟩:=ER.bind_ok hr
   rw [h1]
   simp only [ER.bind]
   split at h2
   ·cases h2
   rename_i hl
   rw [if_neg hl]
   exact ih _ _ _ _ _ _ _ _ _ _ _ h2
 | ife a d r iha ihd ih=>
  intro lo base loop st st' s e s' e' a b hr
  unfold anaT at hr ⊢
  cases hp:popA st.stk base [116] with
  | error x=>rw [hp] at hr;cases hr
  | ok rl=>
   obtain⟨rest,l⟩:=rl
   rw [hp] at hr
   simp only [] at hr ⊢
   obtain⟨s1,x,y,h1,h2⟩:=ER.bind_ok hr
   rw [h1]
   simp only [ER.bind]
   split at h2
   ·cases h2
   rename_i hl
   rw [if_neg hl]
   obtain⟨s2,x2,y2,h3,h4⟩:=ER.bind_ok h2
   rw [h3]
   simp only []
   split at h4
   ·cases h4
   rename_i hl2
   rw [if_neg hl2]
   exact ih _ _ _ _ _ _ _ _ _ _ _ h4
 | lp a r iha ih=>
  intro lo base loop st st' s e s' e' a b hr
  unfold anaT at hr ⊢
  cases hp:popA st.stk base [110] with
  | error x=>rw [hp] at hr;cases hr
  | ok rl=>
   obtain⟨rest,l⟩:=rl
   rw [hp] at hr
   simp only [] at hr ⊢
   split at hr
   ·cases hr
   rename_i hm
   rw [if_neg hm]
   split at hr
   ·cases hr
   rename_i head most hen
   obtain⟨s1,x,y,h1,h2⟩:=ER.bind_ok hr
   rw [h1]
   exact ih _ _ _ _ _ _ _ _ _ _ _ h2
theorem anaT_st{p:Prg}{h:Hd}{n:Nat}(hp:PrgOk p)(hn:p.locs=(n:Int))(hh:HdOk n h){t:Tr}{lo base loop:Nat}{st st':St}{s e s' e':Int}{b:Bool}(hf:Fit p.code b lo t)(hl:lo+t.size≤p.code.length)(hs:StOk n st)(hr:anaT p h t lo base loop st s e=.ok st' s' e'):StOk n st':=by
 obtain⟨a',b',h1⟩:=anaT_se t lo base loop st st' s e s' e' 0 0 hr
 have h2:=anaT_good hp hn hh t lo base loop st 0 0 b hf hl hs (by omega) (by omega) (by unfold tooMany;omega)
 rw [h1] at h2
 exact h2.1
def SimS(st st2:St):Prop:=st2.locs=st.locs∧st2.stk=st.stk∧st2.lvs=st.lvs
theorem pushA_sim{lo:Nat}{st st' st2:St}{l:List Vl}{e s' e':Int}(h:pushA lo st l e=.ok st' s' e')(hs:SimS st st2):∃ st2',pushA lo st2 l e=.ok st2' s' e'∧SimS st' st2':=by
 obtain⟨h1,h2,h3⟩:=hs
 unfold pushA at h ⊢
 rw [h2]
 split at h
 ·cases h
 ·rename_i hl
  rw [if_neg hl]
  cases h
  exact⟨_,rfl,h1,rfl,h3⟩
theorem plA_sim{p:Prg}{lo base:Nat}{st st' st2:St}{s e:Int}(h:plA p lo base st=.ok st' s e)(hs:SimS st st2):∃ st2',plA p lo base st2=.ok st2' s e∧SimS st' st2':=by
 obtain⟨a1,a2,a3,a4,a5⟩:=st2
 obtain⟨h1,h2,h3⟩:=hs
 simp only [] at h1 h2 h3
 subst h1 h2 h3
 unfold plA at h ⊢
 simp only []
 cases hp:popA st.stk base (opX (oI p.code lo)).pops with
 | error x=>rw [hp] at h;cases h
 | ok rl=>
  obtain⟨rest,l⟩:=rl
  rw [hp] at h
  simp only [] at h ⊢
  generalize oI p.code lo=op at h ⊢
  have hs0:SimS { st with stk:=rest } ⟨st.locs,rest,a3,st.lvs,a5⟩:=⟨rfl,rfl,rfl⟩
  by_cases ho0:op=0
  ·rw [if_pos ho0] at h ⊢;exact pushA_sim h hs0
  rw [if_neg ho0] at h ⊢
  by_cases ho1:op=1
  ·rw [if_pos ho1] at h ⊢;exact pushA_sim h hs0
  rw [if_neg ho1] at h ⊢
  by_cases ho2:op=2
  ·rw [if_pos ho2] at h ⊢
   injection h with h4 h5 h6
   subst h4 h5 h6
   exact⟨_,rfl,rfl,rfl,rfl⟩
  rw [if_neg ho2] at h ⊢
  by_cases ho3:op=3
  ·rw [if_pos ho3] at h ⊢
   split at h
   ·cases h
   ·rename_i hg;rw [if_neg hg];exact pushA_sim h hs0
  rw [if_neg ho3] at h ⊢
  by_cases ho4:op=4
  ·rw [if_pos ho4] at h ⊢
   split at h
   ·cases h
   ·rename_i hg
    rw [if_neg hg]
    injection h with h4 h5 h6
    subst h4 h5 h6
    exact⟨_,rfl,hs0⟩
  rw [if_neg ho4] at h ⊢
  by_cases ho5:op=5
  ·rw [if_pos ho5] at h ⊢;exact pushA_sim h hs0
  rw [if_neg ho5] at h ⊢
  by_cases ho7:op=7
  ·rw [if_pos ho7] at h ⊢;exact pushA_sim h hs0
  rw [if_neg ho7] at h ⊢
  by_cases ho6:op=6∨op=35
  ·rw [if_pos ho6] at h ⊢
   injection h with h4 h5 h6
   subst h4 h5 h6
   exact⟨_,rfl,hs0⟩
  rw [if_neg ho6] at h ⊢
  by_cases ho34:op=34
  ·rw [if_pos ho34] at h ⊢
   injection h with h4 h5 h6
   subst h4 h5 h6
   exact⟨_,rfl,hs0⟩
  rw [if_neg ho34] at h ⊢
  by_cases ho32:op=32
  ·rw [if_pos ho32] at h ⊢;exact pushA_sim h hs0
  rw [if_neg ho32] at h ⊢
  by_cases ho26:op=26
  ·rw [if_pos ho26] at h ⊢;exact pushA_sim h hs0
  rw [if_neg ho26] at h ⊢
  by_cases hot:(opX op).pushes=[116]
  ·rw [if_pos hot] at h ⊢;exact pushA_sim h hs0
  rw [if_neg hot] at h ⊢
  cases ha:apI op (gV l 0).iv (gV l 1).iv with
  | none=>rw [ha] at h;cases h
  | some x=>rw [ha] at h;exact pushA_sim h hs0
def insA(p:Prg)(lo base loop:Nat)(st:St):ER:=if oI p.code lo=30 then
   match popA st.stk base [116] with
   | .error x=>.bad lo x
   | .ok (rest,_)=>if rest.length≠loop then .bad lo 14 else .ok { st with stk:=rest,lvs:=st.lvs++[st.locs] } 1 0
  else plA p lo base st
theorem anaT_ins(p:Prg)(h:Hd)(r:Tr)(lo base loop:Nat)(st:St)(s e:Int):anaT p h (.ins r) lo base loop st s e=(insA p lo base loop st).bind fun st' s' e'=>anaT p h r (lo+1) base loop st' (capS s s') (capS e e'):=rfl
theorem mirror{p:Prg}{n:Nat}(hp:PrgOk p)(hn:p.locs=(n:Int)){R:List Inv}:∀ (t:Tr) (lo base loop:Nat) (st st' st2:St) (s e s' e':Int) (b:Bool),Fit p.code b lo t→lo+t.size≤p.code.length→StOk n st→base≤st.stk.length →
  anaT p .widen t lo base loop st s e=.ok st' s' e'→SimS st st2→(∀ k,lo≤k→k < lo+t.size→oI p.code k=29→invAt R k=invAt st'.inv k)→∃ st2',anaT p (.given R) t lo base loop st2 s e=.ok st2' s' e'∧SimS st' st2':=by
 intro t
 induction t with
 | nil=>intro lo base loop st st' st2 s e s' e' b hf hl hs hb hr hsim hR;cases hr;exact⟨st2,rfl,hsim⟩
 | ins r ih=>
  intro lo base loop st st' st2 s e s' e' b hf hl hs hb hr hsim hR
  simp only [Tr.size] at hl hR
  have hw:StOk n st':=anaT_st (t:=.ins r) hp hn (h:=.widen) trivial hf (by simp only [Tr.size];omega) hs hr
  rw [anaT_ins] at hr ⊢
  obtain⟨s1,x,y,h1,h2⟩:=ER.bind_ok hr
  have key:∃ s2,insA p lo base loop st2=ER.ok s2 x y∧SimS s1 s2∧StOk n s1∧base≤s1.stk.length:=by
   unfold insA at h1 ⊢
   by_cases h30:oI p.code lo=30
   ·rw [if_pos h30] at h1 ⊢
    obtain⟨e1,e2,e3⟩:=hsim
    rw [e2]
    cases hpo:popA st.stk base [116] with
    | error x=>rw [hpo] at h1;cases h1
    | ok rl=>
     obtain⟨rest,l⟩:=rl
     rw [hpo] at h1
     simp only [] at h1 ⊢
     split at h1
     ·cases h1
     ·rename_i hg
      rw [if_neg hg]
      injection h1 with h1 h5 h6
      subst h1 h5 h6
      obtain⟨q1,-,-,-⟩:=popA_rest hs hpo
      refine⟨_,rfl,⟨e1,rfl,by simp only [];rw [e3,e1]⟩,⟨q1.locs,q1.stk,q1.len,q1.hgt,fun l hl=>?_,q1.inv⟩,(popA_len hpo).2.1⟩
      rcases List.mem_append.1 hl with h | h
      ·exact hs.lvs l h
      ·rw [List.mem_singleton.1 h];exact hs.locs
   ·rw [if_neg h30] at h1 ⊢
    obtain⟨s2,q1,q2⟩:=plA_sim h1 hsim
    have q3:=plA_good (base:=base) hp hn (lo:=lo) (by omega) hs
    rw [h1] at q3
    exact⟨s2,q1,q2,q3.1,(plA_hgt h1 h30).2.2.2.1⟩
  obtain⟨s2,q1,q2,q3,q4⟩:=key
  rw [q1]
  exact ih _ _ _ _ _ _ _ _ _ _ b hf.2.2.2.2.2 (by omega) q3 q4 h2 q2 (fun k k1 k2 k3=>hR k (by omega) (by omega) k3)
 | ift a r iha ih=>
  intro lo base loop st st' st2 s e s' e' b hf hl hs hb hr hsim hR
  simp only [Tr.size] at hl hR
  unfold anaT at hr ⊢
  obtain⟨e1,e2,e3⟩:=hsim
  rw [e2]
  cases hpo:popA st.stk base [116] with
  | error x=>rw [hpo] at hr;cases hr
  | ok rl=>
   obtain⟨rest,l⟩:=rl
   rw [hpo] at hr
   simp only [] at hr ⊢
   obtain⟨g1,g2,g3⟩:=popA_len hpo
   obtain⟨q1,-,-,-⟩:=popA_rest hs hpo
   obtain⟨s1,x,y,h1,h2⟩:=ER.bind_ok hr
   split at h2
   ·cases h2
   rename_i hg
   have hst1:=anaT_st hp hn (h:=.widen) trivial hf.2.1 (by omega) q1 h1
   have hlen:s1.stk.length=rest.length:=by simpa using hg
   have hst2:StOk n { s1 with locs:=joinL s1.locs st.locs }:=⟨joinL_ok hst1.locs hs.locs,hst1.stk,hst1.len,hst1.hgt,hst1.lvs,hst1.inv⟩
   have hno:=anaT_note _ _ _ _ _ _ _ _ _ _ _ hf.2.2.2 h2 (by simp only [];omega)
   obtain⟨t1,w1,w2,w3,w4⟩:=iha _ _ _ _ _ _ _ _ _ b hf.2.1 (by omega) q1 (Nat.le_refl _) h1 (st2:={ st2 with stk:=rest }) ⟨e1,rfl,e3⟩ (fun k k1 k2 k3=>by rw [hR k (by omega) (by omega) k3];exact hno.out k (.inl (by omega)))
   rw [w1]
   simp only [ER.bind]
   rw [if_neg (by rw [w3];exact hg)]
   exact ih _ _ _ _ _ _ _ _ _ _ b hf.2.2.2 (by omega) hst2 (by simp only [];omega) h2 ⟨by simp only [];rw [w2,e1],w3,w4⟩ (fun k k1 k2 k3=>hR k (by omega) (by omega) k3)
 | ife a d r iha ihd ih=>
  intro lo base loop st st' st2 s e s' e' b hf hl hs hb hr hsim hR
  simp only [Tr.size] at hl hR
  unfold anaT at hr ⊢
  obtain⟨e1,e2,e3⟩:=hsim
  rw [e2]
  cases hpo:popA st.stk base [116] with
  | error x=>rw [hpo] at hr;cases hr
  | ok rl=>
   obtain⟨rest,l⟩:=rl
   rw [hpo] at hr
   simp only [] at hr ⊢
   obtain⟨g1,g2,g3⟩:=popA_len hpo
   obtain⟨q1,-,-,-⟩:=popA_rest hs hpo
   obtain⟨s1,x,y,h1,h2⟩:=ER.bind_ok hr
   split at h2
   ·cases h2
   rename_i hg
   obtain⟨s3,x3,y3,h3,h4⟩:=ER.bind_ok h2
   split at h4
   ·cases h4
   rename_i hg3
   have hst1:=anaT_st hp hn (h:=.widen) trivial hf.2.1 (by omega) q1 h1
   have hlen:s1.stk.length=rest.length:=by simpa using hg
   have hlen3:s3.stk.length=rest.length:=by simpa using hg3
   have hst1':StOk n { s1 with locs:=st.locs }:=⟨hs.locs,hst1.stk,hst1.len,hst1.hgt,hst1.lvs,hst1.inv⟩
   have hst3:=anaT_st hp hn (h:=.widen) trivial hf.2.2.2.1 (by omega) hst1' h3
   have hst4:StOk n { s3 with locs:=joinL s1.locs s3.locs }:=⟨joinL_ok hst1.locs hst3.locs,hst3.stk,hst3.len,hst3.hgt,hst3.lvs,hst3.inv⟩
   have hno:=anaT_note _ _ _ _ _ _ _ _ _ _ _ hf.2.2.2.2.2 h4 (by simp only [];omega)
   have hno3:=anaT_note _ _ _ _ _ _ _ _ _ _ _ hf.2.2.2.1 h3 (by simp only [];omega)
   obtain⟨t1,w1,w2,w3,w4⟩:=iha _ _ _ _ _ _ _ _ _ b hf.2.1 (by omega) q1 (Nat.le_refl _) h1 (st2:={ st2 with stk:=rest }) ⟨e1,rfl,e3⟩ (fun k k1 k2 k3=>by rw [hR k (by omega) (by omega) k3];exact (hno.out k (.inl (by omega))).trans (hno3.out k (.inl (by omega))))
   rw [w1]
   simp only [ER.bind]
   rw [if_neg (by rw [w3];exact hg)]
   obtain⟨t3,v1,v2,v3,v4⟩:=ihd _ _ _ _ _ _ _ _ _ b hf.2.2.2.1 (by omega) hst1' (by simp only [];omega) h3 (st2:={ t1 with locs:=st2.locs }) ⟨e1,w3,w4⟩ (fun k k1 k2 k3=>by rw [hR k (by omega) (by omega) k3];exact hno.out k (.inl (by omega)))
   rw [v1]
   simp only []
   rw [if_neg (by rw [v3];exact hg3)]
   exact ih _ _ _ _ _ _ _ _ _ _ b hf.2.2.2.2.2 (by omega) hst4 (by simp only [];omega) h4 ⟨by simp only [];rw [w2,v2],v3,v4⟩ (fun k k1 k2 k3=>hR k (by omega) (by omega) k3)
 | lp a r iha ih=>
  intro lo base loop st st' st2 s e s' e' b hf hl hs hb hr hsim hR
  simp only [Tr.size] at hl hR
  unfold anaT at hr ⊢
  obtain⟨e1,e2,e3⟩:=hsim
  rw [e2]
  cases hpo:popA st.stk base [110] with
  | error x=>rw [hpo] at hr;cases hr
  | ok rl=>
   obtain⟨rest,l⟩:=rl
   rw [hpo] at hr
   simp only [] at hr ⊢
   obtain⟨g1,g2,g3⟩:=popA_len hpo
   obtain⟨q1,-,-,-⟩:=popA_rest hs hpo
   split at hr
   ·cases hr
   rename_i hm
   rw [if_neg hm]
   have hen:enterA .widen lo (gV l 0).iv.hi st.locs=.ok (st.locs,(gV l 0).iv.hi):=rfl
   rw [hen] at hr
   simp only [] at hr
   obtain⟨s1,x,y,h1,h2⟩:=ER.bind_ok hr
   obtain⟨hf2,q2,i2,sl,k1,k2,k3,k4,k5,k6,k7⟩:=passA_last (n:=n) (rest:=rest) (body:=fun s0=>anaT p .widen a (lo+1) rest.length rest.length s0 0 0) rfl
    (fun s0 s1 s e hb hs=>by
     have q3:=(anaT_hgt _ _ _ _ _ _ _ _ _ _ hb (by rw [hs];exact Nat.le_refl _)).2.2
     rw [q3,hs,List.take_of_length_le (Nat.le_refl _)])
    (fun s0 s1 s e hb hs=>anaT_st hp hn (h:=.widen) trivial hf.2.1 (by omega) hs hb) _ _ _ _ _ _ _ h1 rfl q1 hs.locs
   have hsl:=anaT_st hp hn (h:=.widen) trivial hf.2.1 (by omega) k3 k4
   subst k7
   have hfo:=fold_ok sl.lvs hf2 k1 hsl.lvs
   have hno:=anaT_note _ _ _ _ _ _ _ _ _ _ _ hf.2.2.2 h2 (by simp only [];rw [k5];exact g2)
   simp only [] at hno h2
   have hRlo:invAt R lo=some ⟨(lo:Int),(gV l 0).iv.hi,hf2⟩:=by
    rw [hR lo (Nat.le_refl _) (by omega) hf.1,hno.out lo (.inl (by omega)),invAt_note,if_pos rfl]
   have hen2:enterA (.given R) lo (gV l 0).iv.hi st2.locs=.ok (hf2,(gV l 0).iv.hi):=by
    unfold enterA
    simp only []
    rw [hRlo]
    simp only []
    rw [if_neg (by omega),e1,if_pos k2]
   rw [hen2]
   simp only []
   obtain⟨t1,w1,w2,w3,w4⟩:=iha _ _ _ _ _ _ _ _ _ true hf.2.1 (by omega) k3 (Nat.le_refl _) k4 (st2:={ st2 with stk:=rest,locs:=hf2,lvs:=[] }) ⟨rfl,rfl,rfl⟩ (fun k j1 j2 j3=>by
    rw [hR k (by omega) (by omega) j3,hno.out k (.inl (by omega)),invAt_note,if_neg (by simp only [];omega)])
   have hpass:passA p.code (.given R) lo (lo+1+a.size) rest.length (fun s0=>anaT p (.given R) a (lo+1) rest.length rest.length s0 0 0) PASSES 1 hf2 { st2 with stk:=rest }=.ok { t1 with locs:=hf2 } x y:=by
    unfold PASSES passA
    simp only []
    rw [w1]
    simp only [ER.bind]
    rw [if_neg (by rw [w3,k5];simp),if_pos (by rw [w2];exact k6)]
   rw [hpass]
   simp only [ER.bind]
   have most0:=ivOk_iff.1 (gV_ok (popA_rest hs hpo).2.1 0)
   have hst5:StOk n { sl with locs:=sl.lvs.foldl joinL hf2,lvs:=st.lvs,inv:=noteI sl.inv ⟨(lo:Int),(gV l 0).iv.hi,hf2⟩ }:=⟨hfo,hsl.stk,hsl.len,hsl.hgt,hs.lvs,noteI_ok hsl.inv ⟨k1,by simp only [];omega,by simp only [];omega⟩⟩
   exact ih _ _ _ _ _ _ _ _ _ _ b hf.2.2.2 (by omega) hst5 (by simp only [];rw [k5];exact g2) h2 ⟨by simp only [];rw [w4],w3,e3⟩ (fun k k1 k2 k3=>hR k (by omega) (by omega) k3)
structure PS where
 op:List Nat
 ot:List Int
 P:List Int
def inLp(c:List Ins)(l:List Nat):Bool:=l.any fun k=>decide (oI c k=29)
def stepM(c:List Ins)(i:Nat)(s:PS):Option PS:=
 if oI c i=27∨oI c i=29 then (if s.op.length=8 then none else some ⟨i :: s.op,-1 :: s.ot,s.P.set i (-1)⟩)
 else if oI c i=28 then (match s.op,s.ot with
  | k :: _,x :: ot=>if oI c k=27∧x < 0 then some ⟨s.op,(i:Int) :: ot,(s.P.set i (-1)).set k (i:Int)⟩ else none
  | _,_=>none)
 else if oI c i=30 then (if inLp c s.op then some ⟨s.op,s.ot,s.P.set i (-1)⟩ else none)
 else if oI c i=31 then (match s.op,s.ot with
  | k :: op,x :: ot=>some ⟨op,ot,((s.P.set i (-1)).set i (k:Int)).set (if 0≤x then x.toNat else k) (i:Int)⟩
  | _,_=>none)
 else some ⟨s.op,s.ot,s.P.set i (-1)⟩
def runM(c:List Ins):Nat→Nat→PS→Except Nat PS
 | 0,_,s=>.ok s
 | k+1,i,s=>match stepM c i s with
   | none=>.error i
   | some s'=>runM c k (i+1) s'
theorem runM_succ(c:List Ins)(k i:Nat)(s:PS):runM c (k+1) i s=match stepM c i s with
  | none=>.error i
  | some s'=>runM c k (i+1) s':=rfl
theorem runM_add{c:List Ins}:∀ {a b i:Nat} {s s':PS},runM c a i s=.ok s'→runM c (a+b) i s=runM c b (i+a) s':=by
 intro a
 induction a with
 | zero=>intro b i s s' h;cases h;rw [Nat.zero_add];rfl
 | succ a ih=>
  intro b i s s' h
  rw [show a+1+b=(a+b)+1 by omega]
  rw [runM_succ] at h ⊢
  cases hs:stepM c i s with
  | none=>rw [hs] at h;cases h
  | some s1=>
   rw [hs] at h
   show runM c (a+b) (i+1) s1=_
   rw [ih h,show i+1+a=i+(a+1) by omega]
theorem runM_one{c:List Ins}{i:Nat}{s s':PS}(h:stepM c i s=some s'):runM c 1 i s=.ok s':=by
 unfold runM
 rw [h]
 rfl
def EndOk(P:List Int):Nat→Tr→Prop
 | _,.nil=>True
 | lo,.ins r=>EndOk P (lo+1) r
 | lo,.ift a r=>gi P (lo+1+a.size)=(lo:Int)∧EndOk P (lo+1) a∧EndOk P (lo+2+a.size) r
 | lo,.ife a d r=>gi P (lo+2+a.size+d.size)=(lo:Int)∧EndOk P (lo+1) a∧EndOk P (lo+2+a.size) d∧EndOk P (lo+3+a.size+d.size) r
 | lo,.lp a r=>gi P (lo+1+a.size)=(lo:Int)∧EndOk P (lo+1) a∧EndOk P (lo+2+a.size) r
theorem PartOk.ext{P Q:List Int}:∀ {t:Tr} {lo:Nat},PartOk P lo t→(∀ k,lo≤k→k < lo+t.size→gi Q k=gi P k)→PartOk Q lo t:=by
 intro t
 induction t with
 | nil=>intro lo _ _;trivial
 | ins r ih=>intro lo h e;exact ih h (fun k h1 h2=>e k (by omega) (by simp only [Tr.size];omega))
 | ift a r iha ih=>
  intro lo h e
  exact⟨by rw [e lo (Nat.le_refl _) (by simp only [Tr.size];omega)];exact h.1,iha h.2.1 (fun k h1 h2=>e k (by omega) (by simp only [Tr.size];omega)),ih h.2.2 (fun k h1 h2=>e k (by omega) (by simp only [Tr.size];omega))⟩
 | ife a d r iha ihd ih=>
  intro lo h e
  exact⟨by rw [e lo (Nat.le_refl _) (by simp only [Tr.size];omega)];exact h.1,by rw [e (lo+1+a.size) (by omega) (by simp only [Tr.size];omega)];exact h.2.1,iha h.2.2.1 (fun k h1 h2=>e k (by omega) (by simp only [Tr.size];omega)),ihd h.2.2.2.1 (fun k h1 h2=>e k (by omega) (by simp only [Tr.size];omega)),ih h.2.2.2.2 (fun k h1 h2=>e k (by omega) (by simp only [Tr.size];omega))⟩
 | lp a r iha ih=>
  intro lo h e
  exact⟨by rw [e lo (Nat.le_refl _) (by simp only [Tr.size];omega)];exact h.1,iha h.2.1 (fun k h1 h2=>e k (by omega) (by simp only [Tr.size];omega)),ih h.2.2 (fun k h1 h2=>e k (by omega) (by simp only [Tr.size];omega))⟩
theorem EndOk.ext{P Q:List Int}:∀ {t:Tr} {lo:Nat},EndOk P lo t→(∀ k,lo≤k→k < lo+t.size→gi Q k=gi P k)→EndOk Q lo t:=by
 intro t
 induction t with
 | nil=>intro lo _ _;trivial
 | ins r ih=>intro lo h e;exact ih h (fun k h1 h2=>e k (by omega) (by simp only [Tr.size];omega))
 | ift a r iha ih=>
  intro lo h e
  exact⟨by rw [e (lo+1+a.size) (by omega) (by simp only [Tr.size];omega)];exact h.1,iha h.2.1 (fun k h1 h2=>e k (by omega) (by simp only [Tr.size];omega)),ih h.2.2 (fun k h1 h2=>e k (by omega) (by simp only [Tr.size];omega))⟩
 | ife a d r iha ihd ih=>
  intro lo h e
  exact⟨by rw [e (lo+2+a.size+d.size) (by omega) (by simp only [Tr.size];omega)];exact h.1,iha h.2.1 (fun k h1 h2=>e k (by omega) (by simp only [Tr.size];omega)),ihd h.2.2.1 (fun k h1 h2=>e k (by omega) (by simp only [Tr.size];omega)),ih h.2.2.2 (fun k h1 h2=>e k (by omega) (by simp only [Tr.size];omega))⟩
 | lp a r iha ih=>
  intro lo h e
  exact⟨by rw [e (lo+1+a.size) (by omega) (by simp only [Tr.size];omega)];exact h.1,iha h.2.1 (fun k h1 h2=>e k (by omega) (by simp only [Tr.size];omega)),ih h.2.2 (fun k h1 h2=>e k (by omega) (by simp only [Tr.size];omega))⟩
theorem gi_setE{P:List Int}{i:Nat}(h:i < P.length)(x:Int):gi (P.set i x) i=x:=by simp [gi,List.getD,h]
theorem gi_setN{P:List Int}{i j:Nat}(h:j≠i)(x:Int):gi (P.set i x) j=gi P j:=by simp [gi,List.getD,List.getElem?_set,Ne.symm h]
structure RunL (c:List Ins) (p m:Nat) (t:Tr) (s s':PS):Prop where
 run:runM c (m-p) p s=.ok s'
 op:s'.op=s.op
 ot:s'.ot=s.ot
 len:s'.P.length=s.P.length
 part:PartOk s'.P p t
 ends : EndOk s'.P p t
 same:∀ k,k < p∨m≤k→gi s'.P k=gi s.P k
theorem RunL.refl(c:List Ins)(p:Nat)(s:PS):RunL c p p .nil s s:=⟨by rw [Nat.sub_self];rfl,rfl,rfl,rfl,trivial,trivial,fun _ _=>rfl⟩
theorem lst_run{c:List Ins}:∀ {f d:Nat} {b:Bool} {p:Nat} {s:PS},c.length-p < f→p≤c.length→s.op.length=d→s.ot.length=d→d≤8→inLp c s.op=b→s.P.length=c.length →
  match lst c f d b p with
  | .bad q=>(q < c.length→runM c (q+1-p) p s=.error q∧p≤q)∧(c.length≤q→q=c.length∧∃ s',runM c (c.length-p) p s=.ok s'∧s'.op≠[])
  | .ok t m=>∃ s',RunL c p m t s s':=by
 intro f
 induction f with
 | zero=>intro d b p s h;omega
 | succ f ih=>
  intro d b p s hf hp hd ho h8 hb hl
  unfold lst
  by_cases hpl:p < c.length
  ·rw [if_pos hpl]
   by_cases h1:oI c p=28∨oI c p=31
   ·rw [if_pos h1];exact⟨s,RunL.refl c p s⟩
   rw [if_neg h1]
   by_cases h2:oI c p=27∨oI c p=29
   ·rw [if_pos h2]
    by_cases h3:8≤d
    ·rw [if_pos h3]
     refine⟨fun _=>⟨?_,Nat.le_refl _⟩,fun h=>by omega⟩
     have e1:stepM c p s=none:=by unfold stepM;rw [if_pos h2,if_pos (by omega)]
     rw [show p+1-p=1 by omega]
     unfold runM;rw [e1]
    rw [if_neg h3]
    have e1:stepM c p s=some ⟨p :: s.op,-1 :: s.ot,s.P.set p (-1)⟩:=by unfold stepM;rw [if_pos h2,if_neg (by omega)]
    have hb1:inLp c (p :: s.op)=(b || decide (oI c p=29)):=by
     show (decide (oI c p=29) || inLp c s.op)=_
     rw [hb,Bool.or_comm]
    have h4:=ih (d:=d+1) (b:=b || decide (oI c p=29)) (p:=p+1) (s:=⟨p :: s.op,-1 :: s.ot,s.P.set p (-1)⟩) (by omega) (by omega) (by simp [hd]) (by simp [ho]) (by omega) hb1 (by simp [hl])
    cases hx:lst c f (d+1) (b || decide (oI c p=29)) (p+1) with
    | bad q=>
     rw [hx] at h4
     refine⟨fun h=>⟨?_,?_⟩,fun h=>⟨(h4.2 h).1,?_⟩⟩
     ·have h5:=(h4.1 h).2
      rw [show q+1-p=1+(q+1-(p+1)) by omega,runM_add (runM_one e1)]
      exact (h4.1 h).1
     ·have h5:=(h4.1 h).2;omega
     ·obtain⟨-,s',h6,h7⟩:=h4.2 h
      refine⟨s',?_,h7⟩
      rw [show c.length-p=1+(c.length-(p+1)) by omega,runM_add (runM_one e1)]
      exact h6
    | ok a m=>
     rw [hx] at h4
     obtain⟨s1,r1⟩:=h4
     obtain⟨-,hm,hml,hme,-⟩:=lst_ok hx
     have hml:=hml (by omega)
     have r1l:s1.P.length=c.length:=by rw [r1.len];simp [hl]
     have r1op:s1.op=p :: s.op:=r1.op
     have r1ot:s1.ot=-1 :: s.ot:=r1.ot
     have run1:∀ x k s2,runM c x m s1=k→x+(m-p)=s2→runM c s2 p s=k:=by
      intro x k s2 h h'
      rw [←h',show x+(m-p)=1+((m-(p+1))+x) by omega,runM_add (runM_one e1),runM_add r1.run,show p+1+(m-(p+1))=m by omega]
      exact h
     simp only [PR.bind]
     by_cases h5:m < c.length∧oI c p=27∧oI c m=28
     ·rw [if_pos h5]
      have e2:stepM c m s1=some ⟨p :: s.op,(m:Int) :: s.ot,(s1.P.set m (-1)).set p (m:Int)⟩:=by
       unfold stepM
       rw [if_neg (by omega),if_pos h5.2.2,r1op,r1ot]
       simp only []
       rw [if_pos ⟨h5.2.1,by omega⟩]
      have hb2:inLp c (p :: s.op)=b:=by
       rw [hb1,h5.2.1]
       simp
      have h6:=ih (d:=d+1) (b:=b) (p:=m+1) (s:=⟨p :: s.op,(m:Int) :: s.ot,(s1.P.set m (-1)).set p (m:Int)⟩) (by omega) (by omega) (by simp [hd]) (by simp [ho]) (by omega) hb2 (by simp [r1l])
      cases hy:lst c f (d+1) b (m+1) with
      | bad q=>
       rw [hy] at h6
       refine⟨fun h=>⟨?_,?_⟩,fun h=>⟨(h6.2 h).1,?_⟩⟩
       ·have h7:=(h6.1 h).2
        refine run1 (q+1-m) _ _ ?_ (by omega)
        rw [show q+1-m=1+(q+1-(m+1)) by omega,runM_add (runM_one e2)]
        exact (h6.1 h).1
       ·have h7:=(h6.1 h).2;omega
       ·obtain⟨-,s',h7,h9⟩:=h6.2 h
        refine⟨s',run1 (c.length-m) _ _ ?_ (by omega),h9⟩
        rw [show c.length-m=1+(c.length-(m+1)) by omega,runM_add (runM_one e2)]
        exact h7
      | ok e q=>
       rw [hy] at h6
       obtain⟨s2,r2⟩:=h6
       obtain⟨-,hq,hql,hqe,-⟩:=lst_ok hy
       have hql:=hql (by omega)
       have r2l:s2.P.length=c.length:=by rw [r2.len];simp [r1l]
       have r2op:s2.op=p :: s.op:=r2.op
       have r2ot:s2.ot=(m:Int) :: s.ot:=r2.ot
       have run2:∀ x k s3,runM c x q s2=k→x+(q-p)=s3→runM c s3 p s=k:=by
        intro x k s3 h h'
        refine run1 (1+((q-(m+1))+x)) _ _ ?_ (by omega)
        rw [runM_add (runM_one e2),runM_add r2.run,show m+1+(q-(m+1))=q by omega]
        exact h
       simp only []
       by_cases h7:q < c.length∧oI c q=31
       ·rw [if_pos h7]
        have e3:stepM c q s2=some ⟨s.op,s.ot,((s2.P.set q (-1)).set q (p:Int)).set m (q:Int)⟩:=by
         unfold stepM
         rw [if_neg (by omega),if_neg (by omega),if_neg (by omega),if_pos h7.2,r2op,r2ot]
         simp only []
         rw [if_pos (Int.natCast_nonneg _)]
         rfl
        have h9:=ih (d:=d) (b:=b) (p:=q+1) (s:=⟨s.op,s.ot,((s2.P.set q (-1)).set q (p:Int)).set m (q:Int)⟩) (by omega) (by omega) hd ho h8 hb (by simp [r2l])
        cases hz:lst c f d b (q+1) with
        | bad u=>
         rw [hz] at h9
         refine⟨fun h=>⟨?_,?_⟩,fun h=>⟨(h9.2 h).1,?_⟩⟩
         ·have h10:=(h9.1 h).2
          refine run2 (u+1-q) _ _ ?_ (by omega)
          rw [show u+1-q=1+(u+1-(q+1)) by omega,runM_add (runM_one e3)]
          exact (h9.1 h).1
         ·have h10:=(h9.1 h).2;omega
         ·obtain⟨-,s',h10,h11⟩:=h9.2 h
          refine⟨s',run2 (c.length-q) _ _ ?_ (by omega),h11⟩
          rw [show c.length-q=1+(c.length-(q+1)) by omega,runM_add (runM_one e3)]
          exact h10
        | ok r u=>
         rw [hz] at h9
         obtain⟨s3,r3⟩:=h9
         obtain⟨-,hu,hul,-,-⟩:=lst_ok hz
         have keep3:∀ k,k < q+1→k≠q→k≠m→gi s3.P k=gi s2.P k:=by
          intro k k1 k2 k3
          rw [r3.same k (.inl k1),gi_setN k3,gi_setN k2,gi_setN k2]
         have keep2:∀ k,k < m+1→k≠m→k≠p→gi s2.P k=gi s1.P k:=by
          intro k k1 k2 k3
          rw [r2.same k (.inl k1),gi_setN k3,gi_setN k2]
         have g3:gi s3.P q=(p:Int):=by rw [r3.same q (.inl (by omega)),gi_setN (by omega),gi_setE (by simp;omega)]
         have g2:gi s3.P m=(q:Int):=by rw [r3.same m (.inl (by omega)),gi_setE (by simp;omega)]
         have g1:gi s3.P p=(m:Int):=by rw [keep3 p (by omega) (by omega) (by omega),r2.same p (.inl (by omega)),gi_setE (by simp;omega)]
         refine⟨s3,⟨?_,r3.op,r3.ot,by rw [r3.len];simp [r2l,hl],⟨?_,?_,?_,?_,?_⟩,⟨?_,?_,?_,?_⟩,?_⟩⟩
         ·refine run2 (u-q) _ _ ?_ (by omega)
          rw [show u-q=1+(u-(q+1)) by omega,runM_add (runM_one e3)]
          exact r3.run
         ·rw [g1,hm]
         ·rw [←hm,g2,hq,hm];omega
         ·exact r1.part.ext (fun k k1 k2=>by rw [keep3 k (by omega) (by omega) (by omega),keep2 k (by omega) (by omega) (by omega)])
         ·rw [show p+2+a.size=m+1 by omega]
          exact r2.part.ext (fun k k1 k2=>keep3 k (by omega) (by omega) (by omega))
         ·rw [show p+3+a.size+e.size=q+1 by omega]
          exact r3.part
         ·rw [show p+2+a.size+e.size=q by omega];exact g3
         ·exact r1.ends.ext (fun k k1 k2=>by rw [keep3 k (by omega) (by omega) (by omega),keep2 k (by omega) (by omega) (by omega)])
         ·rw [show p+2+a.size=m+1 by omega]
          exact r2.ends.ext (fun k k1 k2=>keep3 k (by omega) (by omega) (by omega))
         ·rw [show p+3+a.size+e.size=q+1 by omega]
          exact r3.ends
         ·intro k hk
          have hk1:k < p∨u≤k:=hk
          rw [r3.same k (by omega),gi_setN (by omega),gi_setN (by omega),gi_setN (by omega),r2.same k (by omega),gi_setN (by omega),gi_setN (by omega),r1.same k (by omega),gi_setN (by omega)]
       ·rw [if_neg h7]
        refine⟨fun h=>⟨?_,by omega⟩,fun h=>⟨by omega,s2,?_,by rw [r2op];simp⟩⟩
        ·have hqe:=hqe h
         have h28:oI c q=28:=by omega
         have e3:stepM c q s2=none:=by
          unfold stepM
          rw [if_neg (by omega),if_pos h28,r2op,r2ot]
          simp only []
          rw [if_neg (by omega)]
         refine run2 1 _ _ ?_ (by omega)
         unfold runM;rw [e3]
        ·refine run2 0 _ _ rfl (by omega)
     ·rw [if_neg h5]
      by_cases h6:m < c.length∧oI c m=31
      ·rw [if_pos h6]
       have e3:stepM c m s1=some ⟨s.op,s.ot,((s1.P.set m (-1)).set m (p:Int)).set p (m:Int)⟩:=by
        unfold stepM
        rw [if_neg (by omega),if_neg (by omega),if_neg (by omega),if_pos h6.2,r1op,r1ot]
        simp only []
        rw [if_neg (by omega)]
       have h9:=ih (d:=d) (b:=b) (p:=m+1) (s:=⟨s.op,s.ot,((s1.P.set m (-1)).set m (p:Int)).set p (m:Int)⟩) (by omega) (by omega) hd ho h8 hb (by simp [r1l])
       cases hz:lst c f d b (m+1) with
       | bad u=>
        rw [hz] at h9
        refine⟨fun h=>⟨?_,?_⟩,fun h=>⟨(h9.2 h).1,?_⟩⟩
        ·have h10:=(h9.1 h).2
         refine run1 (u+1-m) _ _ ?_ (by omega)
         rw [show u+1-m=1+(u+1-(m+1)) by omega,runM_add (runM_one e3)]
         exact (h9.1 h).1
        ·have h10:=(h9.1 h).2;omega
        ·obtain⟨-,s',h10,h11⟩:=h9.2 h
         refine⟨s',run1 (c.length-m) _ _ ?_ (by omega),h11⟩
         rw [show c.length-m=1+(c.length-(m+1)) by omega,runM_add (runM_one e3)]
         exact h10
       | ok r u=>
        rw [hz] at h9
        obtain⟨s3,r3⟩:=h9
        obtain⟨-,hu,hul,-,-⟩:=lst_ok hz
        have keep3:∀ k,k < m+1→k≠m→k≠p→gi s3.P k=gi s1.P k:=by
         intro k k1 k2 k3
         rw [r3.same k (.inl k1),gi_setN k3,gi_setN k2,gi_setN k2]
        have g3:gi s3.P m=(p:Int):=by rw [r3.same m (.inl (by omega)),gi_setN (by omega),gi_setE (by simp;omega)]
        have g1:gi s3.P p=(m:Int):=by rw [r3.same p (.inl (by omega)),gi_setE (by simp;omega)]
        have main:RunL c p u (if oI c p=27 then .ift a r else .lp a r) s s3:=by
         refine⟨?_,r3.op,r3.ot,by rw [r3.len];simp [r1l,hl],?_,?_,?_⟩
         ·refine run1 (u-m) _ _ ?_ (by omega)
          rw [show u-m=1+(u-(m+1)) by omega,runM_add (runM_one e3)]
          exact r3.run
         ·have k1:gi s3.P p=(p+1+a.size:Nat):=by rw [g1,hm]
          have k2:PartOk s3.P (p+1) a:=r1.part.ext (fun k k1 k2=>keep3 k (by omega) (by omega) (by omega))
          have k3:PartOk s3.P (p+2+a.size) r:=by rw [show p+2+a.size=m+1 by omega];exact r3.part
          split
          ·exact⟨k1,k2,k3⟩
          ·exact⟨k1,k2,k3⟩
         ·have k1:gi s3.P (p+1+a.size)=(p:Int):=by rw [←hm];exact g3
          have k2:EndOk s3.P (p+1) a:=r1.ends.ext (fun k k1 k2=>keep3 k (by omega) (by omega) (by omega))
          have k3:EndOk s3.P (p+2+a.size) r:=by rw [show p+2+a.size=m+1 by omega];exact r3.ends
          split
          ·exact⟨k1,k2,k3⟩
          ·exact⟨k1,k2,k3⟩
         ·intro k hk
          have hk1:k < p∨u≤k:=hk
          rw [r3.same k (by omega),gi_setN (by omega),gi_setN (by omega),gi_setN (by omega),r1.same k (by omega),gi_setN (by omega)]
        show ∃ s',RunL c p u ((if oI c p=27 then Tr.ift a else Tr.lp a) r) s s'
        refine⟨s3,?_⟩
        split
        ·rename_i h;rw [if_pos h] at main;exact main
        ·rename_i h;rw [if_neg h] at main;exact main
      ·rw [if_neg h6]
       refine⟨fun h=>⟨?_,by omega⟩,fun h=>⟨by omega,s1,?_,by rw [r1op];simp⟩⟩
       ·have hme:=hme h
        have h28:oI c m=28:=by omega
        have h29:oI c p≠27:=fun h27=>h5 ⟨h,h27,h28⟩
        have e3:stepM c m s1=none:=by
         unfold stepM
         rw [if_neg (by omega),if_pos h28,r1op,r1ot]
         simp only []
         rw [if_neg (by omega)]
        refine run1 1 _ _ ?_ (by omega)
        unfold runM;rw [e3]
       ·refine run1 0 _ _ rfl (by omega)
   ·rw [if_neg h2]
    by_cases h3:oI c p=30∧b=false
    ·rw [if_pos h3]
     refine⟨fun _=>⟨?_,Nat.le_refl _⟩,fun h=>by omega⟩
     have e1:stepM c p s=none:=by unfold stepM;rw [if_neg h2,if_neg (by omega),if_pos h3.1,hb,h3.2];rfl
     rw [show p+1-p=1 by omega]
     unfold runM;rw [e1]
    ·rw [if_neg h3]
     have e1:stepM c p s=some ⟨s.op,s.ot,s.P.set p (-1)⟩:=by
      unfold stepM
      rw [if_neg h2,if_neg (by omega)]
      by_cases h30:oI c p=30
      ·rw [if_pos h30,hb]
       cases b with
       | true=>rfl
       | false=>exact absurd ⟨h30,rfl⟩ h3
      ·rw [if_neg h30,if_neg (by omega)]
     have h9:=ih (d:=d) (b:=b) (p:=p+1) (s:=⟨s.op,s.ot,s.P.set p (-1)⟩) (by omega) (by omega) hd ho h8 hb (by simp [hl])
     cases hz:lst c f d b (p+1) with
     | bad u=>
      rw [hz] at h9
      refine⟨fun h=>⟨?_,?_⟩,fun h=>⟨(h9.2 h).1,?_⟩⟩
      ·have h10:=(h9.1 h).2
       rw [show u+1-p=1+(u+1-(p+1)) by omega,runM_add (runM_one e1)]
       exact (h9.1 h).1
      ·have h10:=(h9.1 h).2;omega
      ·obtain⟨-,s',h10,h11⟩:=h9.2 h
       refine⟨s',?_,h11⟩
       rw [show c.length-p=1+(c.length-(p+1)) by omega,runM_add (runM_one e1)]
       exact h10
     | ok r u=>
      rw [hz] at h9
      obtain⟨s3,r3⟩:=h9
      obtain⟨-,hu,hul,-,-⟩:=lst_ok hz
      refine⟨s3,⟨?_,r3.op,r3.ot,by rw [r3.len];simp [hl],r3.part,r3.ends,fun k hk=>?_⟩⟩
      ·rw [show u-p=1+(u-(p+1)) by omega,runM_add (runM_one e1)]
       exact r3.run
      ·have hk1:k < p∨u≤k:=hk
       rw [r3.same k (by omega),gi_setN (by omega)]
  ·rw [if_neg hpl];exact⟨s,RunL.refl c p s⟩
def ps0(c:List Ins):PS:=⟨[],[],List.replicate c.length 0⟩
theorem parse_run(c:List Ins):match parse c with
  | .bad q=>(q < c.length∧runM c (q+1) 0 (ps0 c)=.error q)∨(q=c.length∧∃ s',runM c c.length 0 (ps0 c)=.ok s'∧s'.op≠[])
  | .ok t _=>∃ s',runM c c.length 0 (ps0 c)=.ok s'∧s'.op=[]∧s'.P.length=c.length∧PartOk s'.P 0 t∧EndOk s'.P 0 t∧Fit c false 0 t∧t.size=c.length:=by
 have h:=lst_run (c:=c) (f:=c.length+1) (d:=0) (b:=false) (p:=0) (s:=ps0 c) (by omega) (Nat.zero_le _) rfl rfl (by omega) rfl (by simp [ps0])
 unfold parse
 cases hx:lst c (c.length+1) 0 false 0 with
 | bad q=>
  rw [hx] at h
  show (q < c.length∧_)∨_
  by_cases hq:q < c.length
  ·exact .inl ⟨hq,(h.1 hq).1⟩
  ·obtain⟨h1,s',h2,h3⟩:=h.2 (by omega)
   exact .inr ⟨h1,s',by simpa using h2,h3⟩
 | ok t m=>
  rw [hx] at h
  obtain⟨s',r⟩:=h
  obtain⟨hf,hm,hml,hme,-⟩:=lst_ok hx
  have hml:=hml (Nat.zero_le _)
  simp only [PR.bind]
  by_cases hc:m=c.length
  ·rw [if_pos hc]
   have hr:=r.run
   rw [hc] at hr
   exact⟨s',by simpa using hr,r.op,by rw [r.len];simp [ps0],r.part,r.ends,hf,by omega⟩
  ·rw [if_neg hc]
   have hlt:m < c.length:=by omega
   refine .inl ⟨hlt,?_⟩
   have hop:s'.op=[]:=r.op
   have hot:s'.ot=[]:=r.ot
   have e1:stepM c m s'=none:=by
    unfold stepM
    rcases hme hlt with h28 | h31
    ·rw [if_neg (by omega),if_pos h28,hop]
    ·rw [if_neg (by omega),if_neg (by omega),if_neg (by omega),if_pos h31,hop]
   have h2:=r.run
   have h3:=runM_add (b:=1) h2
   rw [show m-0+1=m+1 by omega,show 0+(m-0)=m by omega] at h3
   rw [h3]
   unfold runM;rw [e1]
end Go.Proofs.YtepoclhdklgnhaaGreatDoor
