/- Vw Wu. -/
import Derived.Test.YtepoclhdklgnhaaGreatDoorRC05
import Derived.Test.YtepoclhdklgnhaaGreatDoorRC06
set_option maxRecDepth 100000
set_option maxHeartbeats 40000000
set_option linter.unusedVariables false
set_option linter.unusedSimpArgs false
namespace Go.Proofs.YtepoclhdklgnhaaGreatDoor
open Go.RowKit Go.Proofs
structure PS where
 op:List Nat
 ot:List Int
 P:List Int
def inLp(c:List Ins)(l:List Nat):Bool:=l.any fun k=>decide (oI c k=29)
def stepM(c:List Ins)(i:Nat)(s:PS):Option PS:=
 if oI c i=27∨oI c i=29 then (if s.op.length=8 then none else some ⟨i :: s.op,-1 :: s.ot,s.P.set i (-1)⟩)
 else if oI c i=28 then (match s.op,s.ot with
  | k :: _,x :: ot=>if oI c k=27∧x < 0 then some ⟨s.op,(i:Int) :: ot,(s.P.set i (-1)).set k (i:Int)⟩ else none
  | _,_=>none)
 else if oI c i=30 then (if inLp c s.op then some ⟨s.op,s.ot,s.P.set i (-1)⟩ else none)
 else if oI c i=31 then (match s.op,s.ot with
  | k :: op,x :: ot=>some ⟨op,ot,((s.P.set i (-1)).set i (k:Int)).set (if 0≤x then x.toNat else k) (i:Int)⟩
  | _,_=>none)
 else some ⟨s.op,s.ot,s.P.set i (-1)⟩
def runM(c:List Ins):Nat→Nat→PS→Except Nat PS
 | 0,_,s=>.ok s
 | k+1,i,s=>match stepM c i s with
   | none=>.error i
   | some s'=>runM c k (i+1) s'
theorem runM_succ(c:List Ins)(k i:Nat)(s:PS):runM c (k+1) i s=match stepM c i s with
  | none=>.error i
  | some s'=>runM c k (i+1) s':=rfl
theorem runM_add{c:List Ins}:∀ {a b i:Nat} {s s':PS},runM c a i s=.ok s'→runM c (a+b) i s=runM c b (i+a) s':=by
 intro a
 induction a with
 | zero=>intro b i s s' h;cases h;rw [Nat.zero_add];rfl
 | succ a ih=>
  intro b i s s' h
  rw [show a+1+b=(a+b)+1 by omega]
  rw [runM_succ] at h ⊢
  cases hs:stepM c i s with
  | none=>rw [hs] at h;cases h
  | some s1=>
   rw [hs] at h
   show runM c (a+b) (i+1) s1=_
   rw [ih h,show i+1+a=i+(a+1) by omega]
theorem runM_bad{c:List Ins}:∀ {a b i:Nat} {s:PS} {q:Nat},runM c a i s=.error q→runM c (a+b) i s=.error q:=by
 intro a
 induction a with
 | zero=>intro b i s q h;cases h
 | succ a ih=>
  intro b i s q h
  rw [show a+1+b=(a+b)+1 by omega]
  rw [runM_succ] at h ⊢
  cases hs:stepM c i s with
  | none=>rw [hs] at h;exact h
  | some s1=>
   rw [hs] at h
   exact ih h
theorem runM_one{c:List Ins}{i:Nat}{s s':PS}(h:stepM c i s=some s'):runM c 1 i s=.ok s':=by
 unfold runM
 rw [h]
 rfl
def EndOk(P:List Int):Nat→Tr→Prop
 | _,.nil=>True
 | lo,.ins r=>EndOk P (lo+1) r
 | lo,.ift a r=>gi P (lo+1+a.size)=(lo:Int)∧EndOk P (lo+1) a∧EndOk P (lo+2+a.size) r
 | lo,.ife a d r=>gi P (lo+2+a.size+d.size)=(lo:Int)∧EndOk P (lo+1) a∧EndOk P (lo+2+a.size) d∧EndOk P (lo+3+a.size+d.size) r
 | lo,.lp a r=>gi P (lo+1+a.size)=(lo:Int)∧EndOk P (lo+1) a∧EndOk P (lo+2+a.size) r
theorem PartOk.ext{P Q:List Int}:∀ {t:Tr} {lo:Nat},PartOk P lo t→(∀ k,lo≤k→k < lo+t.size→gi Q k=gi P k)→PartOk Q lo t:=by
 intro t
 induction t with
 | nil=>intro lo _ _;trivial
 | ins r ih=>intro lo h e;exact ih h (fun k h1 h2=>e k (by omega) (by simp only [Tr.size];omega))
 | ift a r iha ih=>
  intro lo h e
  exact⟨by rw [e lo (Nat.le_refl _) (by simp only [Tr.size];omega)];exact h.1,iha h.2.1 (fun k h1 h2=>e k (by omega) (by simp only [Tr.size];omega)),ih h.2.2 (fun k h1 h2=>e k (by omega) (by simp only [Tr.size];omega))⟩
 | ife a d r iha ihd ih=>
  intro lo h e
  exact⟨by rw [e lo (Nat.le_refl _) (by simp only [Tr.size];omega)];exact h.1,by rw [e (lo+1+a.size) (by omega) (by simp only [Tr.size];omega)];exact h.2.1,iha h.2.2.1 (fun k h1 h2=>e k (by omega) (by simp only [Tr.size];omega)),ihd h.2.2.2.1 (fun k h1 h2=>e k (by omega) (by simp only [Tr.size];omega)),ih h.2.2.2.2 (fun k h1 h2=>e k (by omega) (by simp only [Tr.size];omega))⟩
 | lp a r iha ih=>
  intro lo h e
  exact⟨by rw [e lo (Nat.le_refl _) (by simp only [Tr.size];omega)];exact h.1,iha h.2.1 (fun k h1 h2=>e k (by omega) (by simp only [Tr.size];omega)),ih h.2.2 (fun k h1 h2=>e k (by omega) (by simp only [Tr.size];omega))⟩
theorem EndOk.ext{P Q:List Int}:∀ {t:Tr} {lo:Nat},EndOk P lo t→(∀ k,lo≤k→k < lo+t.size→gi Q k=gi P k)→EndOk Q lo t:=by
 intro t
 induction t with
 | nil=>intro lo _ _;trivial
 | ins r ih=>intro lo h e;exact ih h (fun k h1 h2=>e k (by omega) (by simp only [Tr.size];omega))
 | ift a r iha ih=>
  intro lo h e
  exact⟨by rw [e (lo+1+a.size) (by omega) (by simp only [Tr.size];omega)];exact h.1,iha h.2.1 (fun k h1 h2=>e k (by omega) (by simp only [Tr.size];omega)),ih h.2.2 (fun k h1 h2=>e k (by omega) (by simp only [Tr.size];omega))⟩
 | ife a d r iha ihd ih=>
  intro lo h e
  exact⟨by rw [e (lo+2+a.size+d.size) (by omega) (by simp only [Tr.size];omega)];exact h.1,iha h.2.1 (fun k h1 h2=>e k (by omega) (by simp only [Tr.size];omega)),ihd h.2.2.1 (fun k h1 h2=>e k (by omega) (by simp only [Tr.size];omega)),ih h.2.2.2 (fun k h1 h2=>e k (by omega) (by simp only [Tr.size];omega))⟩
 | lp a r iha ih=>
  intro lo h e
  exact⟨by rw [e (lo+1+a.size) (by omega) (by simp only [Tr.size];omega)];exact h.1,iha h.2.1 (fun k h1 h2=>e k (by omega) (by simp only [Tr.size];omega)),ih h.2.2 (fun k h1 h2=>e k (by omega) (by simp only [Tr.size];omega))⟩
theorem gi_setE{P:List Int}{i:Nat}(h:i < P.length)(x:Int):gi (P.set i x) i=x:=by simp [gi,List.getD,h]
theorem gi_setN{P:List Int}{i j:Nat}(h:j≠i)(x:Int):gi (P.set i x) j=gi P j:=by simp [gi,List.getD,List.getElem?_set,Ne.symm h]
structure RunL (c:List Ins) (p m:Nat) (t:Tr) (s s':PS):Prop where
 run:runM c (m-p) p s=.ok s'
 op:s'.op=s.op
 ot:s'.ot=s.ot
 len:s'.P.length=s.P.length
 part:PartOk s'.P p t
 ends : EndOk s'.P p t
 same:∀ k,k < p∨m≤k→gi s'.P k=gi s.P k
theorem RunL.refl(c:List Ins)(p:Nat)(s:PS):RunL c p p .nil s s:=⟨by rw [Nat.sub_self];rfl,rfl,rfl,rfl,trivial,trivial,fun _ _=>rfl⟩
theorem lst_run{c:List Ins}:∀ {f d:Nat} {b:Bool} {p:Nat} {s:PS},c.length-p < f→p≤c.length→s.op.length=d→s.ot.length=d→d≤8→inLp c s.op=b→s.P.length=c.length →
  match lst c f d b p with
  | .bad q=>(q < c.length→runM c (q+1-p) p s=.error q∧p≤q)∧(c.length≤q→q=c.length∧∃ s',runM c (c.length-p) p s=.ok s'∧s'.op≠[])
  | .ok t m=>∃ s',RunL c p m t s s':=by
 intro f
 induction f with
 | zero=>intro d b p s h;omega
 | succ f ih=>
  intro d b p s hf hp hd ho h8 hb hl
  unfold lst
  by_cases hpl:p < c.length
  ·rw [if_pos hpl]
   by_cases h1:oI c p=28∨oI c p=31
   ·rw [if_pos h1];exact⟨s,RunL.refl c p s⟩
   rw [if_neg h1]
   by_cases h2:oI c p=27∨oI c p=29
   ·rw [if_pos h2]
    by_cases h3:8≤d
    ·rw [if_pos h3]
     refine⟨fun _=>⟨?_,Nat.le_refl _⟩,fun h=>by omega⟩
     have e1:stepM c p s=none:=by unfold stepM;rw [if_pos h2,if_pos (by omega)]
     rw [show p+1-p=1 by omega]
     unfold runM;rw [e1]
    rw [if_neg h3]
    have e1:stepM c p s=some ⟨p :: s.op,-1 :: s.ot,s.P.set p (-1)⟩:=by unfold stepM;rw [if_pos h2,if_neg (by omega)]
    have hb1:inLp c (p :: s.op)=(b || decide (oI c p=29)):=by
     show (decide (oI c p=29) || inLp c s.op)=_
     rw [hb,Bool.or_comm]
    have h4:=ih (d:=d+1) (b:=b || decide (oI c p=29)) (p:=p+1) (s:=⟨p :: s.op,-1 :: s.ot,s.P.set p (-1)⟩) (by omega) (by omega) (by simp [hd]) (by simp [ho]) (by omega) hb1 (by simp [hl])
    cases hx:lst c f (d+1) (b || decide (oI c p=29)) (p+1) with
    | bad q=>
     rw [hx] at h4
     refine⟨fun h=>⟨?_,?_⟩,fun h=>⟨(h4.2 h).1,?_⟩⟩
     ·have h5:=(h4.1 h).2
      rw [show q+1-p=1+(q+1-(p+1)) by omega,runM_add (runM_one e1)]
      exact (h4.1 h).1
     ·have h5:=(h4.1 h).2;omega
     ·obtain⟨-,s',h6,h7⟩:=h4.2 h
      refine⟨s',?_,h7⟩
      rw [show c.length-p=1+(c.length-(p+1)) by omega,runM_add (runM_one e1)]
      exact h6
    | ok a m=>
     rw [hx] at h4
     obtain⟨s1,r1⟩:=h4
     obtain⟨-,hm,hml,hme,-⟩:=lst_ok hx
     have hml:=hml (by omega)
     have r1l:s1.P.length=c.length:=by rw [r1.len];simp [hl]
     have r1op:s1.op=p :: s.op:=r1.op
     have r1ot:s1.ot=-1 :: s.ot:=r1.ot
     have run1:∀ x k s2,runM c x m s1=k→x+(m-p)=s2→runM c s2 p s=k:=by
      intro x k s2 h h'
      rw [←h',show x+(m-p)=1+((m-(p+1))+x) by omega,runM_add (runM_one e1),runM_add r1.run,show p+1+(m-(p+1))=m by omega]
      exact h
     simp only [PR.bind]
     by_cases h5:m < c.length∧oI c p=27∧oI c m=28
     ·rw [if_pos h5]
      have e2:stepM c m s1=some ⟨p :: s.op,(m:Int) :: s.ot,(s1.P.set m (-1)).set p (m:Int)⟩:=by
       unfold stepM
       rw [if_neg (by omega),if_pos h5.2.2,r1op,r1ot]
       simp only []
       rw [if_pos ⟨h5.2.1,by omega⟩]
      have hb2:inLp c (p :: s.op)=b:=by
       rw [hb1,h5.2.1]
       simp
      have h6:=ih (d:=d+1) (b:=b) (p:=m+1) (s:=⟨p :: s.op,(m:Int) :: s.ot,(s1.P.set m (-1)).set p (m:Int)⟩) (by omega) (by omega) (by simp [hd]) (by simp [ho]) (by omega) hb2 (by simp [r1l])
      cases hy:lst c f (d+1) b (m+1) with
      | bad q=>
       rw [hy] at h6
       refine⟨fun h=>⟨?_,?_⟩,fun h=>⟨(h6.2 h).1,?_⟩⟩
       ·have h7:=(h6.1 h).2
        refine run1 (q+1-m) _ _ ?_ (by omega)
        rw [show q+1-m=1+(q+1-(m+1)) by omega,runM_add (runM_one e2)]
        exact (h6.1 h).1
       ·have h7:=(h6.1 h).2;omega
       ·obtain⟨-,s',h7,h9⟩:=h6.2 h
        refine⟨s',run1 (c.length-m) _ _ ?_ (by omega),h9⟩
        rw [show c.length-m=1+(c.length-(m+1)) by omega,runM_add (runM_one e2)]
        exact h7
      | ok e q=>
       rw [hy] at h6
       obtain⟨s2,r2⟩:=h6
       obtain⟨-,hq,hql,hqe,-⟩:=lst_ok hy
       have hql:=hql (by omega)
       have r2l:s2.P.length=c.length:=by rw [r2.len];simp [r1l]
       have r2op:s2.op=p :: s.op:=r2.op
       have r2ot:s2.ot=(m:Int) :: s.ot:=r2.ot
       have run2:∀ x k s3,runM c x q s2=k→x+(q-p)=s3→runM c s3 p s=k:=by
        intro x k s3 h h'
        refine run1 (1+((q-(m+1))+x)) _ _ ?_ (by omega)
        rw [runM_add (runM_one e2),runM_add r2.run,show m+1+(q-(m+1))=q by omega]
        exact h
       simp only []
       by_cases h7:q < c.length∧oI c q=31
       ·rw [if_pos h7]
        have e3:stepM c q s2=some ⟨s.op,s.ot,((s2.P.set q (-1)).set q (p:Int)).set m (q:Int)⟩:=by
         unfold stepM
         rw [if_neg (by omega),if_neg (by omega),if_neg (by omega),if_pos h7.2,r2op,r2ot]
         simp only []
         rw [if_pos (Int.natCast_nonneg _)]
         rfl
        have h9:=ih (d:=d) (b:=b) (p:=q+1) (s:=⟨s.op,s.ot,((s2.P.set q (-1)).set q (p:Int)).set m (q:Int)⟩) (by omega) (by omega) hd ho h8 hb (by simp [r2l])
        cases hz:lst c f d b (q+1) with
        | bad u=>
         rw [hz] at h9
         refine⟨fun h=>⟨?_,?_⟩,fun h=>⟨(h9.2 h).1,?_⟩⟩
         ·have h10:=(h9.1 h).2
          refine run2 (u+1-q) _ _ ?_ (by omega)
          rw [show u+1-q=1+(u+1-(q+1)) by omega,runM_add (runM_one e3)]
          exact (h9.1 h).1
         ·have h10:=(h9.1 h).2;omega
         ·obtain⟨-,s',h10,h11⟩:=h9.2 h
          refine⟨s',run2 (c.length-q) _ _ ?_ (by omega),h11⟩
          rw [show c.length-q=1+(c.length-(q+1)) by omega,runM_add (runM_one e3)]
          exact h10
        | ok r u=>
         rw [hz] at h9
         obtain⟨s3,r3⟩:=h9
         obtain⟨-,hu,hul,-,-⟩:=lst_ok hz
         have keep3:∀ k,k < q+1→k≠q→k≠m→gi s3.P k=gi s2.P k:=by
          intro k k1 k2 k3
          rw [r3.same k (.inl k1),gi_setN k3,gi_setN k2,gi_setN k2]
         have keep2:∀ k,k < m+1→k≠m→k≠p→gi s2.P k=gi s1.P k:=by
          intro k k1 k2 k3
          rw [r2.same k (.inl k1),gi_setN k3,gi_setN k2]
         have g3:gi s3.P q=(p:Int):=by rw [r3.same q (.inl (by omega)),gi_setN (by omega),gi_setE (by simp;omega)]
         have g2:gi s3.P m=(q:Int):=by rw [r3.same m (.inl (by omega)),gi_setE (by simp;omega)]
         have g1:gi s3.P p=(m:Int):=by rw [keep3 p (by omega) (by omega) (by omega),r2.same p (.inl (by omega)),gi_setE (by simp;omega)]
         refine⟨s3,⟨?_,r3.op,r3.ot,by rw [r3.len];simp [r2l,hl],⟨?_,?_,?_,?_,?_⟩,⟨?_,?_,?_,?_⟩,?_⟩⟩
         ·refine run2 (u-q) _ _ ?_ (by omega)
          rw [show u-q=1+(u-(q+1)) by omega,runM_add (runM_one e3)]
          exact r3.run
         ·rw [g1,hm]
         ·rw [←hm,g2,hq,hm];omega
         ·exact r1.part.ext (fun k k1 k2=>by rw [keep3 k (by omega) (by omega) (by omega),keep2 k (by omega) (by omega) (by omega)])
         ·rw [show p+2+a.size=m+1 by omega]
          exact r2.part.ext (fun k k1 k2=>keep3 k (by omega) (by omega) (by omega))
         ·rw [show p+3+a.size+e.size=q+1 by omega]
          exact r3.part
         ·rw [show p+2+a.size+e.size=q by omega];exact g3
         ·exact r1.ends.ext (fun k k1 k2=>by rw [keep3 k (by omega) (by omega) (by omega),keep2 k (by omega) (by omega) (by omega)])
         ·rw [show p+2+a.size=m+1 by omega]
          exact r2.ends.ext (fun k k1 k2=>keep3 k (by omega) (by omega) (by omega))
         ·rw [show p+3+a.size+e.size=q+1 by omega]
          exact r3.ends
         ·intro k hk
          have hk1:k < p∨u≤k:=hk
          rw [r3.same k (by omega),gi_setN (by omega),gi_setN (by omega),gi_setN (by omega),r2.same k (by omega),gi_setN (by omega),gi_setN (by omega),r1.same k (by omega),gi_setN (by omega)]
       ·rw [if_neg h7]
        refine⟨fun h=>⟨?_,by omega⟩,fun h=>⟨by omega,s2,?_,by rw [r2op];simp⟩⟩
        ·have hqe:=hqe h
         have h28:oI c q=28:=by omega
         have e3:stepM c q s2=none:=by
          unfold stepM
          rw [if_neg (by omega),if_pos h28,r2op,r2ot]
          simp only []
          rw [if_neg (by omega)]
         refine run2 1 _ _ ?_ (by omega)
         unfold runM;rw [e3]
        ·refine run2 0 _ _ rfl (by omega)
     ·rw [if_neg h5]
      by_cases h6:m < c.length∧oI c m=31
      ·rw [if_pos h6]
       have e3:stepM c m s1=some ⟨s.op,s.ot,((s1.P.set m (-1)).set m (p:Int)).set p (m:Int)⟩:=by
        unfold stepM
        rw [if_neg (by omega),if_neg (by omega),if_neg (by omega),if_pos h6.2,r1op,r1ot]
        simp only []
        rw [if_neg (by omega)]
       have h9:=ih (d:=d) (b:=b) (p:=m+1) (s:=⟨s.op,s.ot,((s1.P.set m (-1)).set m (p:Int)).set p (m:Int)⟩) (by omega) (by omega) hd ho h8 hb (by simp [r1l])
       cases hz:lst c f d b (m+1) with
       | bad u=>
        rw [hz] at h9
        refine⟨fun h=>⟨?_,?_⟩,fun h=>⟨(h9.2 h).1,?_⟩⟩
        ·have h10:=(h9.1 h).2
         refine run1 (u+1-m) _ _ ?_ (by omega)
         rw [show u+1-m=1+(u+1-(m+1)) by omega,runM_add (runM_one e3)]
         exact (h9.1 h).1
        ·have h10:=(h9.1 h).2;omega
        ·obtain⟨-,s',h10,h11⟩:=h9.2 h
         refine⟨s',run1 (c.length-m) _ _ ?_ (by omega),h11⟩
         rw [show c.length-m=1+(c.length-(m+1)) by omega,runM_add (runM_one e3)]
         exact h10
       | ok r u=>
        rw [hz] at h9
        obtain⟨s3,r3⟩:=h9
        obtain⟨-,hu,hul,-,-⟩:=lst_ok hz
        have keep3:∀ k,k < m+1→k≠m→k≠p→gi s3.P k=gi s1.P k:=by
         intro k k1 k2 k3
         rw [r3.same k (.inl k1),gi_setN k3,gi_setN k2,gi_setN k2]
        have g3:gi s3.P m=(p:Int):=by rw [r3.same m (.inl (by omega)),gi_setN (by omega),gi_setE (by simp;omega)]
        have g1:gi s3.P p=(m:Int):=by rw [r3.same p (.inl (by omega)),gi_setE (by simp;omega)]
        have main:RunL c p u (if oI c p=27 then .ift a r else .lp a r) s s3:=by
         refine⟨?_,r3.op,r3.ot,by rw [r3.len];simp [r1l,hl],?_,?_,?_⟩
         ·refine run1 (u-m) _ _ ?_ (by omega)
          rw [show u-m=1+(u-(m+1)) by omega,runM_add (runM_one e3)]
          exact r3.run
         ·have k1:gi s3.P p=(p+1+a.size:Nat):=by rw [g1,hm]
          have k2:PartOk s3.P (p+1) a:=r1.part.ext (fun k k1 k2=>keep3 k (by omega) (by omega) (by omega))
          have k3:PartOk s3.P (p+2+a.size) r:=by rw [show p+2+a.size=m+1 by omega];exact r3.part
          split
          ·exact⟨k1,k2,k3⟩
          ·exact⟨k1,k2,k3⟩
         ·have k1:gi s3.P (p+1+a.size)=(p:Int):=by rw [←hm];exact g3
          have k2:EndOk s3.P (p+1) a:=r1.ends.ext (fun k k1 k2=>keep3 k (by omega) (by omega) (by omega))
          have k3:EndOk s3.P (p+2+a.size) r:=by rw [show p+2+a.size=m+1 by omega];exact r3.ends
          split
          ·exact⟨k1,k2,k3⟩
          ·exact⟨k1,k2,k3⟩
         ·intro k hk
          have hk1:k < p∨u≤k:=hk
          rw [r3.same k (by omega),gi_setN (by omega),gi_setN (by omega),gi_setN (by omega),r1.same k (by omega),gi_setN (by omega)]
        show ∃ s',RunL c p u ((if oI c p=27 then Tr.ift a else Tr.lp a) r) s s'
        refine⟨s3,?_⟩
        split
        ·rename_i h;rw [if_pos h] at main;exact main
        ·rename_i h;rw [if_neg h] at main;exact main
      ·rw [if_neg h6]
       refine⟨fun h=>⟨?_,by omega⟩,fun h=>⟨by omega,s1,?_,by rw [r1op];simp⟩⟩
       ·have hme:=hme h
        have h28:oI c m=28:=by omega
        have h29:oI c p≠27:=fun h27=>h5 ⟨h,h27,h28⟩
        have e3:stepM c m s1=none:=by
         unfold stepM
         rw [if_neg (by omega),if_pos h28,r1op,r1ot]
         simp only []
         rw [if_neg (by omega)]
        refine run1 1 _ _ ?_ (by omega)
        unfold runM;rw [e3]
       ·refine run1 0 _ _ rfl (by omega)
   ·rw [if_neg h2]
    by_cases h3:oI c p=30∧b=false
    ·rw [if_pos h3]
     refine⟨fun _=>⟨?_,Nat.le_refl _⟩,fun h=>by omega⟩
     have e1:stepM c p s=none:=by unfold stepM;rw [if_neg h2,if_neg (by omega),if_pos h3.1,hb,h3.2];rfl
     rw [show p+1-p=1 by omega]
     unfold runM;rw [e1]
    ·rw [if_neg h3]
     have e1:stepM c p s=some ⟨s.op,s.ot,s.P.set p (-1)⟩:=by
      unfold stepM
      rw [if_neg h2,if_neg (by omega)]
      by_cases h30:oI c p=30
      ·rw [if_pos h30,hb]
       cases b with
       | true=>rfl
       | false=>exact absurd ⟨h30,rfl⟩ h3
      ·rw [if_neg h30,if_neg (by omega)]
     have h9:=ih (d:=d) (b:=b) (p:=p+1) (s:=⟨s.op,s.ot,s.P.set p (-1)⟩) (by omega) (by omega) hd ho h8 hb (by simp [hl])
     cases hz:lst c f d b (p+1) with
     | bad u=>
      rw [hz] at h9
      refine⟨fun h=>⟨?_,?_⟩,fun h=>⟨(h9.2 h).1,?_⟩⟩
      ·have h10:=(h9.1 h).2
       rw [show u+1-p=1+(u+1-(p+1)) by omega,runM_add (runM_one e1)]
       exact (h9.1 h).1
      ·have h10:=(h9.1 h).2;omega
      ·obtain⟨-,s',h10,h11⟩:=h9.2 h
       refine⟨s',?_,h11⟩
       rw [show c.length-p=1+(c.length-(p+1)) by omega,runM_add (runM_one e1)]
       exact h10
     | ok r u=>
      rw [hz] at h9
      obtain⟨s3,r3⟩:=h9
      obtain⟨-,hu,hul,-,-⟩:=lst_ok hz
      refine⟨s3,⟨?_,r3.op,r3.ot,by rw [r3.len];simp [hl],r3.part,r3.ends,fun k hk=>?_⟩⟩
      ·rw [show u-p=1+(u-(p+1)) by omega,runM_add (runM_one e1)]
       exact r3.run
      ·have hk1:k < p∨u≤k:=hk
       rw [r3.same k (by omega),gi_setN (by omega)]
  ·rw [if_neg hpl];exact⟨s,RunL.refl c p s⟩
def ps0(c:List Ins):PS:=⟨[],[],List.replicate c.length 0⟩
theorem parse_run(c:List Ins):match parse c with
  | .bad q=>(q < c.length∧runM c (q+1) 0 (ps0 c)=.error q)∨(q=c.length∧∃ s',runM c c.length 0 (ps0 c)=.ok s'∧s'.op≠[])
  | .ok t _=>∃ s',runM c c.length 0 (ps0 c)=.ok s'∧s'.op=[]∧s'.P.length=c.length∧PartOk s'.P 0 t∧EndOk s'.P 0 t∧Fit c false 0 t∧t.size=c.length:=by
 have h:=lst_run (c:=c) (f:=c.length+1) (d:=0) (b:=false) (p:=0) (s:=ps0 c) (by omega) (Nat.zero_le _) rfl rfl (by omega) rfl (by simp [ps0])
 unfold parse
 cases hx:lst c (c.length+1) 0 false 0 with
 | bad q=>
  rw [hx] at h
  show (q < c.length∧_)∨_
  by_cases hq:q < c.length
  ·exact .inl ⟨hq,(h.1 hq).1⟩
  ·obtain⟨h1,s',h2,h3⟩:=h.2 (by omega)
   exact .inr ⟨h1,s',by simpa using h2,h3⟩
 | ok t m=>
  rw [hx] at h
  obtain⟨s',r⟩:=h
  obtain⟨hf,hm,hml,hme,-⟩:=lst_ok hx
  have hml:=hml (Nat.zero_le _)
  simp only [PR.bind]
  by_cases hc:m=c.length
  ·rw [if_pos hc]
   have hr:=r.run
   rw [hc] at hr
   exact⟨s',by simpa using hr,r.op,by rw [r.len];simp [ps0],r.part,r.ends,hf,by omega⟩
  ·rw [if_neg hc]
   have hlt:m < c.length:=by omega
   refine .inl ⟨hlt,?_⟩
   have hop:s'.op=[]:=r.op
   have hot:s'.ot=[]:=r.ot
   have e1:stepM c m s'=none:=by
    unfold stepM
    rcases hme hlt with h28 | h31
    ·rw [if_neg (by omega),if_pos h28,hop]
    ·rw [if_neg (by omega),if_neg (by omega),if_neg (by omega),if_pos h31,hop]
   have h2:=r.run
   have h3:=runM_add (b:=1) h2
   rw [show m-0+1=m+1 by omega,show 0+(m-0)=m by omega] at h3
   rw [h3]
   unfold runM;rw [e1]
def loopM(c:List Ins)(P:List Int):Nat→List Nat
 | 0=>[]
 | k+1=>if oI c k=29 then k :: loopM c P k else if oI c k=31∧oI c (gi P k).toNat=29 then (loopM c P k).tail else loopM c P k
theorem loopM_succ(c:List Ins)(P:List Int)(k:Nat):loopM c P (k+1)=if oI c k=29 then k :: loopM c P k else if oI c k=31∧oI c (gi P k).toNat=29 then (loopM c P k).tail else loopM c P k:=rfl
theorem loopM_tree{c:List Ins}{P:List Int}:∀ {t:Tr} {lo:Nat} {b:Bool},Fit c b lo t→EndOk P lo t→(b=true→loopM c P lo≠[]) →
  loopM c P (lo+t.size)=loopM c P lo∧∀ k,lo≤k→k < lo+t.size→(oI c k=30→loopM c P k≠[])∧(oI c k=31→(0≤gi P k∧gi P k < (k:Int))∧(oI c (gi P k).toNat=29→loopM c P k≠[])):=by
 intro t
 induction t with
 | nil=>intro lo b _ _ _;exact⟨rfl,fun k h1 h2=>by simp only [Tr.size] at h2;omega⟩
 | ins r ih=>
  intro lo b f e hb
  have e1:loopM c P (lo+1)=loopM c P lo:=by rw [loopM_succ,if_neg f.2.2.1,if_neg (by intro h;exact f.2.2.2.1 h.1)]
  obtain⟨h1,h2⟩:=ih f.2.2.2.2.2 e (fun h=>by rw [e1];exact hb h)
  refine⟨by simp only [Tr.size];rw [show lo+(r.size+1)=lo+1+r.size by omega,h1,e1],fun k k1 k2=>?_⟩
  simp only [Tr.size] at k2
  by_cases hk:k=lo
  ·subst hk
   exact⟨fun h30=>hb (f.2.2.2.2.1 h30),fun h31=>absurd h31 f.2.2.2.1⟩
  ·exact h2 k (by omega) (by omega)
 | ift a r iha ih=>
  intro lo b f e hb
  have e1:loopM c P (lo+1)=loopM c P lo:=by have:=f.1;rw [loopM_succ,if_neg (by omega),if_neg (by omega)]
  obtain⟨h1,h2⟩:=iha f.2.1 e.2.1 (fun h=>by rw [e1];exact hb h)
  have e2:loopM c P (lo+2+a.size)=loopM c P lo:=by
   rw [show lo+2+a.size=(lo+1+a.size)+1 by omega]
   have:=f.2.2.1
   have hg:=e.1
   have:=f.1
   rw [loopM_succ,if_neg (by omega),hg,if_neg (by simp;omega),h1,e1]
  obtain⟨h3,h4⟩:=ih f.2.2.2 e.2.2 (fun h=>by rw [e2];exact hb h)
  refine⟨by simp only [Tr.size];rw [show lo+(a.size+r.size+2)=lo+2+a.size+r.size by omega,h3,e2],fun k k1 k2=>?_⟩
  simp only [Tr.size] at k2
  have f1:=f.1
  have f3:=f.2.2.1
  by_cases hk:k=lo
  ·subst hk;exact⟨fun h=>by omega,fun h=>by omega⟩
  by_cases hk2:k < lo+1+a.size
  ·exact h2 k (by omega) hk2
  by_cases hk3:k=lo+1+a.size
  ·subst hk3
   refine⟨fun h=>by omega,fun h=>⟨?_,fun h29=>?_⟩⟩
   ·rw [e.1];omega
   ·rw [e.1] at h29;simp at h29;omega
  ·exact h4 k (by omega) (by omega)
 | ife a d r iha ihd ih=>
  intro lo b f e hb
  have f1:=f.1
  have f3:=f.2.2.1
  have f5:=f.2.2.2.2.1
  have e1:loopM c P (lo+1)=loopM c P lo:=by rw [loopM_succ,if_neg (by omega),if_neg (by omega)]
  obtain⟨h1,h2⟩:=iha f.2.1 e.2.1 (fun h=>by rw [e1];exact hb h)
  have e2:loopM c P (lo+2+a.size)=loopM c P lo:=by
   rw [show lo+2+a.size=(lo+1+a.size)+1 by omega]
   rw [loopM_succ,if_neg (by omega),if_neg (by omega),h1,e1]
  obtain⟨h3,h4⟩:=ihd f.2.2.2.1 e.2.2.1 (fun h=>by rw [e2];exact hb h)
  have e3:loopM c P (lo+3+a.size+d.size)=loopM c P lo:=by
   rw [show lo+3+a.size+d.size=(lo+2+a.size+d.size)+1 by omega]
   have hg:=e.1
   rw [loopM_succ,if_neg (by omega),hg,if_neg (by simp;omega),h3,e2]
  obtain⟨h5,h6⟩:=ih f.2.2.2.2.2 e.2.2.2 (fun h=>by rw [e3];exact hb h)
  refine⟨by simp only [Tr.size];rw [show lo+(a.size+d.size+r.size+3)=lo+3+a.size+d.size+r.size by omega,h5,e3],fun k k1 k2=>?_⟩
  simp only [Tr.size] at k2
  by_cases hk:k=lo
  ·subst hk;exact⟨fun h=>by omega,fun h=>by omega⟩
  by_cases hk2:k < lo+1+a.size
  ·exact h2 k (by omega) hk2
  by_cases hk3:k=lo+1+a.size
  ·subst hk3;exact⟨fun h=>by omega,fun h=>by omega⟩
  by_cases hk4:k < lo+2+a.size+d.size
  ·exact h4 k (by omega) hk4
  by_cases hk5:k=lo+2+a.size+d.size
  ·subst hk5
   refine⟨fun h=>by omega,fun h=>⟨?_,fun h29=>?_⟩⟩
   ·rw [e.1];omega
   ·rw [e.1] at h29;simp at h29;omega
  ·exact h6 k (by omega) (by omega)
 | lp a r iha ih=>
  intro lo b f e hb
  have f1:=f.1
  have f3:=f.2.2.1
  have e1:loopM c P (lo+1)=lo :: loopM c P lo:=by rw [loopM_succ,if_pos f1]
  obtain⟨h1,h2⟩:=iha f.2.1 e.2.1 (fun h=>by rw [e1];simp)
  have e2:loopM c P (lo+2+a.size)=loopM c P lo:=by
   rw [show lo+2+a.size=(lo+1+a.size)+1 by omega]
   have hg:=e.1
   rw [loopM_succ,if_neg (by omega),hg,if_pos ⟨f3,by simpa using f1⟩,h1,e1]
   rfl
  obtain⟨h3,h4⟩:=ih f.2.2.2 e.2.2 (fun h=>by rw [e2];exact hb h)
  refine⟨by simp only [Tr.size];rw [show lo+(a.size+r.size+2)=lo+2+a.size+r.size by omega,h3,e2],fun k k1 k2=>?_⟩
  simp only [Tr.size] at k2
  by_cases hk:k=lo
  ·subst hk;exact⟨fun h=>by omega,fun h=>by omega⟩
  by_cases hk2:k < lo+1+a.size
  ·exact h2 k (by omega) hk2
  by_cases hk3:k=lo+1+a.size
  ·subst hk3
   refine⟨fun h=>by omega,fun h=>⟨?_,fun h29=>?_⟩⟩
   ·rw [e.1];omega
   ·rw [h1,e1];simp
  ·exact h4 k (by omega) (by omega)
theorem codeE_all:∀ {l:List Ins},codeE l=0→∀ i∈l,chkE i=0:=by
 intro l
 induction l with
 | nil=>intro _ i hi;cases hi
 | cons x l ih=>
  intro h i hi
  rw [codeE_step] at h
  split at h
  ·rename_i hx;exact absurd h hx
  ·rename_i hx
   rcases List.mem_cons.1 hi with rfl | hi
   ·exact Decidable.not_not.1 hx
   ·exact ih h i hi
theorem arrGo_all:∀ {l:List Arr} {n:Int},n≤65536→arrGo n l=0→∀ x∈l,1≤x.size∧x.size≤65536:=by
 intro l
 induction l with
 | nil=>intro n _ _ x hx;cases hx
 | cons y l ih=>
  intro n hn h x hx
  unfold arrGo at h
  split at h
  ·cases h
  ·rename_i hy
   rcases List.mem_cons.1 hx with rfl | hx
   ·omega
   ·exact ih (by omega) h x hx
theorem argAt_all{p:Prg}(h:¬ argAt p < p.code.length):∀ k,k < p.code.length→badArg p (gI p.code k)=false:=by
 intro k hk
 cases hb:badArg p (gI p.code k) with
 | false=>rfl
 | true=>
  exfalso
  refine h ?_
  unfold argAt
  rw [List.findIdx_lt_length]
  exact⟨gI p.code k,by rw [gI_get hk];exact List.getElem_mem hk,hb⟩
theorem prgOk_of{p:Prg}(hwf:∀ x∈p.code,0≤x.arg∧x.arg < 4294967296)(h:(chkP p).2=0):PrgOk p∧formE p=0∧∃ t,parse p.code=.ok t p.code.length∧treeOf p=t:=by
 unfold chkP at h
 by_cases hf:formE p≠0
 ·rw [if_pos hf] at h;exact absurd h hf
 rw [if_neg hf] at h
 have hf:formE p=0:=Decidable.not_not.1 hf
 cases hp:parse p.code with
 | bad a=>rw [hp] at h;simp at h
 | ok t m=>
  rw [hp] at h
  simp only [] at h
  split at h
  ·simp at h
  rename_i harg
  have hm:=(parse_ok hp).2.1
  subst hm
  have hf0:=hf
  refine⟨?_,hf0,t,rfl,by unfold treeOf;rw [hp]⟩
  unfold formE at hf
  split at hf
  ·rename_i hx;exact absurd hf hx
  rename_i ha
  have ha:arrE p.arrs=0:=Decidable.not_not.1 ha
  split at hf
  ·cases hf
  rename_i hl
  split at hf
  ·cases hf
  rename_i hc
  unfold arrE at ha
  split at ha
  ·cases ha
  rename_i ha8
  refine⟨by omega,by omega,⟨by omega,arrGo_all (Int.le_refl _) ha⟩,fun k hk=>?_,fun k hk ho=>?_,fun k hk ho=>?_⟩
  ·have hmem:gI p.code k∈p.code:=by rw [gI_get hk];exact List.getElem_mem hk
   have h1:=codeE_all hf _ hmem
   have h2:=hwf _ hmem
   unfold chkE at h1
   split at h1
   ·cases h1
   ·rename_i ho
    have ho:okX (gI p.code k).op=true:=by simpa using ho
    have ho2:0≤(gI p.code k).op∧(gI p.code k).op < 36:=by simpa [okX] using ho
    exact⟨ho2.1,ho2.2,h2.1,h2.2⟩
  ·have h1:=argAt_all harg k hk
   have ho:(gI p.code k).op=1∨(gI p.code k).op=2:=ho
   unfold badArg at h1
   simp only [Bool.or_eq_false_iff,Bool.and_eq_false_iff,decide_eq_false_iff_not] at h1
   rcases h1.1 with h2 | h2
   ·exact absurd ho h2
   ·omega
  ·have h1:=argAt_all harg k hk
   have ho:(gI p.code k).op=3∨(gI p.code k).op=4:=ho
   unfold badArg at h1
   simp only [Bool.or_eq_false_iff,Bool.and_eq_false_iff,decide_eq_false_iff_not] at h1
   rcases h1.2 with h2 | h2
   ·exact absurd ho h2
   ·omega
def HdAll(c:List Ins):Hd→Prop
 | .widen=>True
 | .given r=>∀ k,k < c.length→oI c k=29→(invAt r k).isSome=true
theorem popA_err{stk:List Vl}{base:Nat}{ty:List UInt8}{x:Int}(h:popA stk base ty=.error x):x=14∨x=13:=by
 unfold popA at h
 split at h
 ·injection h with h;exact .inl h.symm
 ·split at h
  ·cases h
  ·injection h with h;exact .inr h.symm
theorem pushA_bad{lo a:Nat}{st:St}{l:List Vl}{e x:Int}(h:pushA lo st l e=.bad a x):a=lo∧x=14:=by
 unfold pushA at h
 split at h
 ·injection h with h1 h2;exact⟨h1.symm,h2.symm⟩
 ·cases h
theorem pushA_one{lo:Nat}{st st':St}{l:List Vl}{e s' e':Int}(h:pushA lo st l e=.ok st' s' e'):s'=1∧e'=e∧st'.locs=st.locs:=by
 unfold pushA at h
 split at h
 ·cases h
 ·cases h;exact⟨rfl,rfl,rfl⟩
def OneR(lo:Nat)(op:Int)(st:St):ER→Prop
 | .bad a x=>a=lo∧0 < x
 | .ok st' s _=>s=1∧(op≠2→st'.locs=st.locs)
 | .stuck=>True
theorem OneR.push{lo:Nat}{op:Int}{st st2:St}{l:List Vl}{e:Int}(h:st2.locs=st.locs):OneR lo op st (pushA lo st2 l e):=by
 cases hp:pushA lo st2 l e with
 | bad a x=>obtain⟨h1,h2⟩:=pushA_bad hp;exact⟨h1,by omega⟩
 | stuck=>trivial
 | ok st' s e'=>obtain⟨h1,h2,h3⟩:=pushA_one hp;exact⟨h1,fun _=>h3.trans h⟩
theorem plA_one(p:Prg)(lo base:Nat)(st:St):OneR lo (oI p.code lo) st (plA p lo base st):=by
 unfold plA
 cases hp:popA st.stk base (opX (oI p.code lo)).pops with
 | error x=>exact⟨rfl,by rcases popA_err hp with h | h <;> omega⟩
 | ok rl=>
  obtain⟨rest,l⟩:=rl
  simp only []
  generalize oI p.code lo=op
  by_cases ho0:op=0
  ·rw [if_pos ho0];exact OneR.push rfl
  rw [if_neg ho0]
  by_cases ho1:op=1
  ·rw [if_pos ho1];exact OneR.push rfl
  rw [if_neg ho1]
  by_cases ho2:op=2
  ·rw [if_pos ho2];exact⟨rfl,fun h=>absurd ho2 h⟩
  rw [if_neg ho2]
  by_cases ho3:op=3
  ·rw [if_pos ho3]
   split
   ·exact⟨rfl,by omega⟩
   ·exact OneR.push rfl
  rw [if_neg ho3]
  by_cases ho4:op=4
  ·rw [if_pos ho4]
   split
   ·exact⟨rfl,by omega⟩
   ·exact⟨rfl,fun _=>rfl⟩
  rw [if_neg ho4]
  by_cases ho5:op=5
  ·rw [if_pos ho5];exact OneR.push rfl
  rw [if_neg ho5]
  by_cases ho7:op=7
  ·rw [if_pos ho7];exact OneR.push rfl
  rw [if_neg ho7]
  by_cases ho6:op=6∨op=35
  ·rw [if_pos ho6];exact⟨rfl,fun _=>rfl⟩
  rw [if_neg ho6]
  by_cases ho34:op=34
  ·rw [if_pos ho34];exact⟨rfl,fun _=>rfl⟩
  rw [if_neg ho34]
  by_cases ho32:op=32
  ·rw [if_pos ho32];exact OneR.push rfl
  rw [if_neg ho32]
  by_cases ho26:op=26
  ·rw [if_pos ho26];exact OneR.push rfl
  rw [if_neg ho26]
  by_cases hot:(opX op).pushes=[116]
  ·rw [if_pos hot];exact OneR.push rfl
  rw [if_neg hot]
  cases ha:apI op (gV l 0).iv (gV l 1).iv with
  | none=>exact⟨rfl,by omega⟩
  | some x=>exact OneR.push rfl
theorem insA_one(p:Prg)(lo base loop:Nat)(st:St):OneR lo (oI p.code lo) st (insA p lo base loop st):=by
 unfold insA
 by_cases h30:oI p.code lo=30
 ·rw [if_pos h30]
  cases hp:popA st.stk base [116] with
  | error x=>exact⟨rfl,by rcases popA_err hp with h | h <;> omega⟩
  | ok rl=>
   obtain⟨rest,l⟩:=rl
   simp only []
   split
   ·exact⟨rfl,by omega⟩
   ·exact⟨rfl,fun _=>rfl⟩
 ·rw [if_neg h30];exact plA_one p lo base st
theorem ER.bind_bad{x:ER}{f:St→Int→Int→ER}{a:Nat}{v:Int}(h:x.bind f=.bad a v):x=.bad a v∨∃ st1 s1 e1,x=.ok st1 s1 e1∧f st1 s1 e1=.bad a v:=by
 cases x with
 | bad b e=>exact .inl h
 | stuck=>cases h
 | ok st1 s1 e1=>exact .inr ⟨st1,s1,e1,rfl,h⟩
theorem passA_bad{c:List Ins}{h:Hd}{lo hi height:Nat}{body:St→ER}{Q:Nat→Int→Prop}(hq:∀ x,x=14∨x=23→Q hi x)(hb:∀ s0 a x,body s0=.bad a x→Q a x) :
  ∀ k pass head st a x,passA c h lo hi height body k pass head st=.bad a x→Q a x:=by
 intro k
 induction k with
 | zero=>intro pass head st a x h;cases h
 | succ k ih=>
  intro pass head st a x hr
  unfold passA at hr
  rcases ER.bind_bad hr with h1 | ⟨s1,u,v,h1,h2⟩
  ·exact hb _ _ _ h1
  ·split at h2
   ·injection h2 with h3 h4;subst h3 h4;exact hq _ (.inl rfl)
   split at h2
   ·cases h2
   ·cases h with
    | given r=>injection h2 with h3 h4;subst h3 h4;exact hq _ (.inr rfl)
    | widen=>exact ih _ _ _ _ _ h2
theorem anaT_bad{p:Prg}{h:Hd}(hh:HdAll p.code h):∀ (t:Tr) (lo base loop:Nat) (st:St) (s e:Int) (b:Bool) (a:Nat) (x:Int),Fit p.code b lo t→lo+t.size≤p.code.length→anaT p h t lo base loop st s e=.bad a x→(lo≤a∧a≤lo+t.size)∧0 < x:=by
 intro t
 induction t with
 | nil=>intro lo base loop st s e b a x hf hl hr;cases hr
 | ins r ih=>
  intro lo base loop st s e b q x hf hl hr
  simp only [Tr.size] at hl ⊢
  rw [anaT_ins] at hr
  rcases ER.bind_bad hr with h1 | ⟨s1,u,v,h1,h2⟩
  ·have h3:=insA_one p lo base loop st
   rw [h1] at h3
   obtain⟨rfl,h4⟩:=h3
   exact⟨by omega,h4⟩
  ·have h3:=ih _ _ _ _ _ _ _ _ _ hf.2.2.2.2.2 (by omega) h2
   exact⟨by omega,h3.2⟩
 | ift a r iha ih=>
  intro lo base loop st s e b q x hf hl hr
  simp only [Tr.size] at hl ⊢
  unfold anaT at hr
  cases hp:popA st.stk base [116] with
  | error y=>
   rw [hp] at hr
   injection hr with h1 h2
   exact⟨by omega,by rcases popA_err hp with h | h <;> omega⟩
  | ok rl=>
   obtain⟨rest,l⟩:=rl
   rw [hp] at hr
   simp only [] at hr
   rcases ER.bind_bad hr with h1 | ⟨s1,u,v,h1,h2⟩
   ·have h3:=iha _ _ _ _ _ _ _ _ _ hf.2.1 (by omega) h1
    exact⟨by omega,h3.2⟩
   ·split at h2
    ·injection h2 with h3 h4;exact⟨by omega,by omega⟩
    ·have h3:=ih _ _ _ _ _ _ _ _ _ hf.2.2.2 (by omega) h2
     exact⟨by omega,h3.2⟩
 | ife a d r iha ihd ih=>
  intro lo base loop st s e b q x hf hl hr
  simp only [Tr.size] at hl ⊢
  unfold anaT at hr
  cases hp:popA st.stk base [116] with
  | error y=>
   rw [hp] at hr
   injection hr with h1 h2
   exact⟨by omega,by rcases popA_err hp with h | h <;> omega⟩
  | ok rl=>
   obtain⟨rest,l⟩:=rl
   rw [hp] at hr
   simp only [] at hr
   rcases ER.bind_bad hr with h1 | ⟨s1,u,v,h1,h2⟩
   ·have h3:=iha _ _ _ _ _ _ _ _ _ hf.2.1 (by omega) h1
    exact⟨by omega,h3.2⟩
   ·split at h2
    ·injection h2 with h3 h4;exact⟨by omega,by omega⟩
    ·rcases ER.bind_bad h2 with h3 | ⟨s2,u2,v2,h3,h4⟩
     ·have h5:=ihd _ _ _ _ _ _ _ _ _ hf.2.2.2.1 (by omega) h3
      exact⟨by omega,h5.2⟩
     ·split at h4
      ·injection h4 with h5 h6;exact⟨by omega,by omega⟩
      ·have h5:=ih _ _ _ _ _ _ _ _ _ hf.2.2.2.2.2 (by omega) h4
       exact⟨by omega,h5.2⟩
 | lp a r iha ih=>
  intro lo base loop st s e b q x hf hl hr
  simp only [Tr.size] at hl ⊢
  unfold anaT at hr
  cases hp:popA st.stk base [110] with
  | error y=>
   rw [hp] at hr
   injection hr with h1 h2
   exact⟨by omega,by rcases popA_err hp with h | h <;> omega⟩
  | ok rl=>
   obtain⟨rest,l⟩:=rl
   rw [hp] at hr
   simp only [] at hr
   split at hr
   ·injection hr with h1 h2;exact⟨by omega,by omega⟩
   split at hr
   ·rename_i y hen
    injection hr with h1 h2
    subst h1 h2
    refine⟨by omega,?_⟩
    unfold enterA at hen
    cases h with
    | widen=>cases hen
    | given R=>
     simp only [] at hen
     cases hx:invAt R lo with
     | none=>
      have:=hh lo (by omega) hf.1
      rw [hx] at this
      cases this
     | some z=>
      rw [hx] at hen
      simp only [] at hen
      split at hen
      ·injection hen with hen;omega
      ·split at hen
       ·cases hen
       ·injection hen with hen;omega
   ·rename_i head most hen
    rcases ER.bind_bad hr with h1 | ⟨s1,u,v,h1,h2⟩
    ·exact passA_bad (Q:=fun q x=>(lo≤q∧q≤lo+(a.size+r.size+2))∧0 < x) (fun x hx=>⟨by omega,by rcases hx with h | h <;> omega⟩)
      (fun s0 q x hb=>by have h3:=iha _ _ _ _ _ _ _ _ _ hf.2.1 (by omega) hb;exact⟨by omega,h3.2⟩) _ _ _ _ _ _ h1
    ·have h3:=ih _ _ _ _ _ _ _ _ _ hf.2.2.2 (by omega) h2
     exact⟨by omega,h3.2⟩
theorem st0_ok{p:Prg}{n:Nat}(hp:PrgOk p)(hn:p.locs=(n:Int)):StOk n (st0 p):=by
 refine⟨⟨by simp [st0,hn],fun x hx=>?_⟩,fun v hv=>absurd hv List.not_mem_nil,by simp [st0],by simp [st0],fun l hl=>absurd hl List.not_mem_nil,fun x hx=>absurd hx List.not_mem_nil⟩
 obtain⟨-,rfl⟩:=List.mem_replicate.1 hx
 decide
structure RepOk (p:Prg) (r:Rp):Prop where
 ats:r.inv.map (fun x=>x.at_)=(loopsOf p.code).map (fun (k:Nat)=>(k:Int))
 inv:∀ x∈r.inv,0≤x.most∧x.most≤65536∧(x.locs.length:Int)=p.locs∧∀ y∈x.locs,ivE y=0
 emits:0≤r.emits∧r.emits≤r.steps
 steps:r.steps≤281474976710656
 hgt:0≤r.hgt∧r.hgt≤32
 plain:(∀ k,k < p.code.length→oI p.code k≠27∧oI p.code k≠29)→r.steps=(p.code.length:Int)
end Go.Proofs.YtepoclhdklgnhaaGreatDoor
