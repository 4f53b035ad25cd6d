/- Vw Wu Rl. -/
import Derived.Test.YtpaplehcafeeaaaGreatDoorLE07
import Derived.Test.YtpaplehcafeeaaaGreatDoorLE16
set_option maxRecDepth 100000
set_option maxHeartbeats 40000000
set_option linter.unusedVariables false
set_option linter.unusedSimpArgs false
namespace Go.Proofs.YtpaplehcafeeaaaGreatDoor
open Go.RowKit Go.Proofs
structure PS where
 op:List Nat
 ot:List Int
 P:List Int
def inLp(c:List Ins)(l:List Nat):Bool:=l.any fun k=>decide (oI c k=29)
def stepM(c:List Ins)(i:Nat)(s:PS):Option PS:=
 if oI c i=27∨oI c i=29 then (if s.op.length=8 then none else some ⟨i :: s.op,-1 :: s.ot,s.P.set i (-1)⟩)
 else if oI c i=28 then (match s.op,s.ot with
  | k :: _,x :: ot=>if oI c k=27∧x < 0 then some ⟨s.op,(i:Int) :: ot,(s.P.set i (-1)).set k (i:Int)⟩ else none
  | _,_=>none)
 else if oI c i=30 then (if inLp c s.op then some ⟨s.op,s.ot,s.P.set i (-1)⟩ else none)
 else if oI c i=31 then (match s.op,s.ot with
  | k :: op,x :: ot=>some ⟨op,ot,((s.P.set i (-1)).set i (k:Int)).set (if 0≤x then x.toNat else k) (i:Int)⟩
  | _,_=>none)
 else some ⟨s.op,s.ot,s.P.set i (-1)⟩
def runM(c:List Ins):Nat→Nat→PS→Except Nat PS
 | 0,_,s=>.ok s
 | k+1,i,s=>match stepM c i s with
   | none=>.error i
   | some s'=>runM c k (i+1) s'
theorem runM_succ(c:List Ins)(k i:Nat)(s:PS):runM c (k+1) i s=match stepM c i s with
  | none=>.error i
  | some s'=>runM c k (i+1) s':=rfl
theorem runM_add{c:List Ins}:∀ {a b i:Nat} {s s':PS},runM c a i s=.ok s'→runM c (a+b) i s=runM c b (i+a) s':=by
 intro a
 induction a with
 | zero=>intro b i s s' h;cases h;rw [Nat.zero_add];rfl
 | succ a ih=>
  intro b i s s' h
  rw [show a+1+b=(a+b)+1 by omega]
  rw [runM_succ] at h ⊢
  cases hs:stepM c i s with
  | none=>rw [hs] at h;cases h
  | some s1=>
   rw [hs] at h
   show runM c (a+b) (i+1) s1=_
   rw [ih h,show i+1+a=i+(a+1) by omega]
theorem runM_one{c:List Ins}{i:Nat}{s s':PS}(h:stepM c i s=some s'):runM c 1 i s=.ok s':=by
 unfold runM
 rw [h]
 rfl
def EndOk(P:List Int):Nat→Tr→Prop
 | _,.nil=>True
 | lo,.ins r=>EndOk P (lo+1) r
 | lo,.ift a r=>gi P (lo+1+a.size)=(lo:Int)∧EndOk P (lo+1) a∧EndOk P (lo+2+a.size) r
 | lo,.ife a d r=>gi P (lo+2+a.size+d.size)=(lo:Int)∧EndOk P (lo+1) a∧EndOk P (lo+2+a.size) d∧EndOk P (lo+3+a.size+d.size) r
 | lo,.lp a r=>gi P (lo+1+a.size)=(lo:Int)∧EndOk P (lo+1) a∧EndOk P (lo+2+a.size) r
theorem PartOk.ext{P Q:List Int}:∀ {t:Tr} {lo:Nat},PartOk P lo t→(∀ k,lo≤k→k < lo+t.size→gi Q k=gi P k)→PartOk Q lo t:=by
 intro t
 induction t with
 | nil=>intro lo _ _;trivial
 | ins r ih=>intro lo h e;exact ih h (fun k h1 h2=>e k (by omega) (by simp only [Tr.size];omega))
 | ift a r iha ih=>
  intro lo h e
  exact⟨by rw [e lo (Nat.le_refl _) (by simp only [Tr.size];omega)];exact h.1,iha h.2.1 (fun k h1 h2=>e k (by omega) (by simp only [Tr.size];omega)),ih h.2.2 (fun k h1 h2=>e k (by omega) (by simp only [Tr.size];omega))⟩
 | ife a d r iha ihd ih=>
  intro lo h e
  exact⟨by rw [e lo (Nat.le_refl _) (by simp only [Tr.size];omega)];exact h.1,by rw [e (lo+1+a.size) (by omega) (by simp only [Tr.size];omega)];exact h.2.1,iha h.2.2.1 (fun k h1 h2=>e k (by omega) (by simp only [Tr.size];omega)),ihd h.2.2.2.1 (fun k h1 h2=>e k (by omega) (by simp only [Tr.size];omega)),ih h.2.2.2.2 (fun k h1 h2=>e k (by omega) (by simp only [Tr.size];omega))⟩
 | lp a r iha ih=>
  intro lo h e
  exact⟨by rw [e lo (Nat.le_refl _) (by simp only [Tr.size];omega)];exact h.1,iha h.2.1 (fun k h1 h2=>e k (by omega) (by simp only [Tr.size];omega)),ih h.2.2 (fun k h1 h2=>e k (by omega) (by simp only [Tr.size];omega))⟩
theorem EndOk.ext{P Q:List Int}:∀ {t:Tr} {lo:Nat},EndOk P lo t→(∀ k,lo≤k→k < lo+t.size→gi Q k=gi P k)→EndOk Q lo t:=by
 intro t
 induction t with
 | nil=>intro lo _ _;trivial
 | ins r ih=>intro lo h e;exact ih h (fun k h1 h2=>e k (by omega) (by simp only [Tr.size];omega))
 | ift a r iha ih=>
  intro lo h e
  exact⟨by rw [e (lo+1+a.size) (by omega) (by simp only [Tr.size];omega)];exact h.1,iha h.2.1 (fun k h1 h2=>e k (by omega) (by simp only [Tr.size];omega)),ih h.2.2 (fun k h1 h2=>e k (by omega) (by simp only [Tr.size];omega))⟩
 | ife a d r iha ihd ih=>
  intro lo h e
  exact⟨by rw [e (lo+2+a.size+d.size) (by omega) (by simp only [Tr.size];omega)];exact h.1,iha h.2.1 (fun k h1 h2=>e k (by omega) (by simp only [Tr.size];omega)),ihd h.2.2.1 (fun k h1 h2=>e k (by omega) (by simp only [Tr.size];omega)),ih h.2.2.2 (fun k h1 h2=>e k (by omega) (by simp only [Tr.size];omega))⟩
 | lp a r iha ih=>
  intro lo h e
  exact⟨by rw [e (lo+1+a.size) (by omega) (by simp only [Tr.size];omega)];exact h.1,iha h.2.1 (fun k h1 h2=>e k (by omega) (by simp only [Tr.size];omega)),ih h.2.2 (fun k h1 h2=>e k (by omega) (by simp only [Tr.size];omega))⟩
theorem gi_setE{P:List Int}{i:Nat}(h:i < P.length)(x:Int):gi (P.set i x) i=x:=by simp [gi,List.getD,h]
theorem gi_setN{P:List Int}{i j:Nat}(h:j≠i)(x:Int):gi (P.set i x) j=gi P j:=by simp [gi,List.getD,List.getElem?_set,Ne.symm h]
structure RunL (c:List Ins) (p m:Nat) (t:Tr) (s s':PS):Prop where
 run:runM c (m-p) p s=.ok s'
 op:s'.op=s.op
 ot:s'.ot=s.ot
 len:s'.P.length=s.P.length
 part:PartOk s'.P p t
 ends : EndOk s'.P p t
 same:∀ k,k < p∨m≤k→gi s'.P k=gi s.P k
theorem RunL.refl(c:List Ins)(p:Nat)(s:PS):RunL c p p .nil s s:=⟨by rw [Nat.sub_self];rfl,rfl,rfl,rfl,trivial,trivial,fun _ _=>rfl⟩
theorem lst_run{c:List Ins}:∀ {f d:Nat} {b:Bool} {p:Nat} {s:PS},c.length-p < f→p≤c.length→s.op.length=d→s.ot.length=d→d≤8→inLp c s.op=b→s.P.length=c.length →
  match lst c f d b p with
  | .bad q=>(q < c.length→runM c (q+1-p) p s=.error q∧p≤q)∧(c.length≤q→q=c.length∧∃ s',runM c (c.length-p) p s=.ok s'∧s'.op≠[])
  | .ok t m=>∃ s',RunL c p m t s s':=by
 intro f
 induction f with
 | zero=>intro d b p s h;omega
 | succ f ih=>
  intro d b p s hf hp hd ho h8 hb hl
  unfold lst
  by_cases hpl:p < c.length
  ·rw [if_pos hpl]
   by_cases h1:oI c p=28∨oI c p=31
   ·rw [if_pos h1];exact⟨s,RunL.refl c p s⟩
   rw [if_neg h1]
   by_cases h2:oI c p=27∨oI c p=29
   ·rw [if_pos h2]
    by_cases h3:8≤d
    ·rw [if_pos h3]
     refine⟨fun _=>⟨?_,Nat.le_refl _⟩,fun h=>by omega⟩
     have e1:stepM c p s=none:=by unfold stepM;rw [if_pos h2,if_pos (by omega)]
     rw [show p+1-p=1 by omega]
     unfold runM;rw [e1]
    rw [if_neg h3]
    have e1:stepM c p s=some ⟨p :: s.op,-1 :: s.ot,s.P.set p (-1)⟩:=by unfold stepM;rw [if_pos h2,if_neg (by omega)]
    have hb1:inLp c (p :: s.op)=(b || decide (oI c p=29)):=by
     show (decide (oI c p=29) || inLp c s.op)=_
     rw [hb,Bool.or_comm]
    have h4:=ih (d:=d+1) (b:=b || decide (oI c p=29)) (p:=p+1) (s:=⟨p :: s.op,-1 :: s.ot,s.P.set p (-1)⟩) (by omega) (by omega) (by simp [hd]) (by simp [ho]) (by omega) hb1 (by simp [hl])
    cases hx:lst c f (d+1) (b || decide (oI c p=29)) (p+1) with
    | bad q=>
     rw [hx] at h4
     refine⟨fun h=>⟨?_,?_⟩,fun h=>⟨(h4.2 h).1,?_⟩⟩
     ·have h5:=(h4.1 h).2
      rw [show q+1-p=1+(q+1-(p+1)) by omega,runM_add (runM_one e1)]
      exact (h4.1 h).1
     ·have h5:=(h4.1 h).2;omega
     ·obtain⟨-,s',h6,h7⟩:=h4.2 h
      refine⟨s',?_,h7⟩
      rw [show c.length-p=1+(c.length-(p+1)) by omega,runM_add (runM_one e1)]
      exact h6
    | ok a m=>
     rw [hx] at h4
     obtain⟨s1,r1⟩:=h4
     obtain⟨-,hm,hml,hme,-⟩:=lst_ok hx
     have hml:=hml (by omega)
     have r1l:s1.P.length=c.length:=by rw [r1.len];simp [hl]
     have r1op:s1.op=p :: s.op:=r1.op
     have r1ot:s1.ot=-1 :: s.ot:=r1.ot
     have run1:∀ x k s2,runM c x m s1=k→x+(m-p)=s2→runM c s2 p s=k:=by
      intro x k s2 h h'
      rw [←h',show x+(m-p)=1+((m-(p+1))+x) by omega,runM_add (runM_one e1),runM_add r1.run,show p+1+(m-(p+1))=m by omega]
      exact h
     simp only [PR.bind]
     by_cases h5:m < c.length∧oI c p=27∧oI c m=28
     ·rw [if_pos h5]
      have e2:stepM c m s1=some ⟨p :: s.op,(m:Int) :: s.ot,(s1.P.set m (-1)).set p (m:Int)⟩:=by
       unfold stepM
       rw [if_neg (by omega),if_pos h5.2.2,r1op,r1ot]
       simp only []
       rw [if_pos ⟨h5.2.1,by omega⟩]
      have hb2:inLp c (p :: s.op)=b:=by
       rw [hb1,h5.2.1]
       simp
      have h6:=ih (d:=d+1) (b:=b) (p:=m+1) (s:=⟨p :: s.op,(m:Int) :: s.ot,(s1.P.set m (-1)).set p (m:Int)⟩) (by omega) (by omega) (by simp [hd]) (by simp [ho]) (by omega) hb2 (by simp [r1l])
      cases hy:lst c f (d+1) b (m+1) with
      | bad q=>
       rw [hy] at h6
       refine⟨fun h=>⟨?_,?_⟩,fun h=>⟨(h6.2 h).1,?_⟩⟩
       ·have h7:=(h6.1 h).2
        refine run1 (q+1-m) _ _ ?_ (by omega)
        rw [show q+1-m=1+(q+1-(m+1)) by omega,runM_add (runM_one e2)]
        exact (h6.1 h).1
       ·have h7:=(h6.1 h).2;omega
       ·obtain⟨-,s',h7,h9⟩:=h6.2 h
        refine⟨s',run1 (c.length-m) _ _ ?_ (by omega),h9⟩
        rw [show c.length-m=1+(c.length-(m+1)) by omega,runM_add (runM_one e2)]
        exact h7
      | ok e q=>
       rw [hy] at h6
       obtain⟨s2,r2⟩:=h6
       obtain⟨-,hq,hql,hqe,-⟩:=lst_ok hy
       have hql:=hql (by omega)
       have r2l:s2.P.length=c.length:=by rw [r2.len];simp [r1l]
       have r2op:s2.op=p :: s.op:=r2.op
       have r2ot:s2.ot=(m:Int) :: s.ot:=r2.ot
       have run2:∀ x k s3,runM c x q s2=k→x+(q-p)=s3→runM c s3 p s=k:=by
        intro x k s3 h h'
        refine run1 (1+((q-(m+1))+x)) _ _ ?_ (by omega)
        rw [runM_add (runM_one e2),runM_add r2.run,show m+1+(q-(m+1))=q by omega]
        exact h
       simp only []
       by_cases h7:q < c.length∧oI c q=31
       ·rw [if_pos h7]
        have e3:stepM c q s2=some ⟨s.op,s.ot,((s2.P.set q (-1)).set q (p:Int)).set m (q:Int)⟩:=by
         unfold stepM
         rw [if_neg (by omega),if_neg (by omega),if_neg (by omega),if_pos h7.2,r2op,r2ot]
         simp only []
         rw [if_pos (Int.natCast_nonneg _)]
         rfl
        have h9:=ih (d:=d) (b:=b) (p:=q+1) (s:=⟨s.op,s.ot,((s2.P.set q (-1)).set q (p:Int)).set m (q:Int)⟩) (by omega) (by omega) hd ho h8 hb (by simp [r2l])
        cases hz:lst c f d b (q+1) with
        | bad u=>
         rw [hz] at h9
         refine⟨fun h=>⟨?_,?_⟩,fun h=>⟨(h9.2 h).1,?_⟩⟩
         ·have h10:=(h9.1 h).2
          refine run2 (u+1-q) _ _ ?_ (by omega)
          rw [show u+1-q=1+(u+1-(q+1)) by omega,runM_add (runM_one e3)]
          exact (h9.1 h).1
         ·have h10:=(h9.1 h).2;omega
         ·obtain⟨-,s',h10,h11⟩:=h9.2 h
          refine⟨s',run2 (c.length-q) _ _ ?_ (by omega),h11⟩
          rw [show c.length-q=1+(c.length-(q+1)) by omega,runM_add (runM_one e3)]
          exact h10
        | ok r u=>
         rw [hz] at h9
         obtain⟨s3,r3⟩:=h9
         obtain⟨-,hu,hul,-,-⟩:=lst_ok hz
         have keep3:∀ k,k < q+1→k≠q→k≠m→gi s3.P k=gi s2.P k:=by
          intro k k1 k2 k3
          rw [r3.same k (.inl k1),gi_setN k3,gi_setN k2,gi_setN k2]
         have keep2:∀ k,k < m+1→k≠m→k≠p→gi s2.P k=gi s1.P k:=by
          intro k k1 k2 k3
          rw [r2.same k (.inl k1),gi_setN k3,gi_setN k2]
         have g3:gi s3.P q=(p:Int):=by rw [r3.same q (.inl (by omega)),gi_setN (by omega),gi_setE (by simp;omega)]
         have g2:gi s3.P m=(q:Int):=by rw [r3.same m (.inl (by omega)),gi_setE (by simp;omega)]
         have g1:gi s3.P p=(m:Int):=by rw [keep3 p (by omega) (by omega) (by omega),r2.same p (.inl (by omega)),gi_setE (by simp;omega)]
         refine⟨s3,⟨?_,r3.op,r3.ot,by rw [r3.len];simp [r2l,hl],⟨?_,?_,?_,?_,?_⟩,⟨?_,?_,?_,?_⟩,?_⟩⟩
         ·refine run2 (u-q) _ _ ?_ (by omega)
          rw [show u-q=1+(u-(q+1)) by omega,runM_add (runM_one e3)]
          exact r3.run
         ·rw [g1,hm]
         ·rw [←hm,g2,hq,hm];omega
         ·exact r1.part.ext (fun k k1 k2=>by rw [keep3 k (by omega) (by omega) (by omega),keep2 k (by omega) (by omega) (by omega)])
         ·rw [show p+2+a.size=m+1 by omega]
          exact r2.part.ext (fun k k1 k2=>keep3 k (by omega) (by omega) (by omega))
         ·rw [show p+3+a.size+e.size=q+1 by omega]
          exact r3.part
         ·rw [show p+2+a.size+e.size=q by omega];exact g3
         ·exact r1.ends.ext (fun k k1 k2=>by rw [keep3 k (by omega) (by omega) (by omega),keep2 k (by omega) (by omega) (by omega)])
         ·rw [show p+2+a.size=m+1 by omega]
          exact r2.ends.ext (fun k k1 k2=>keep3 k (by omega) (by omega) (by omega))
         ·rw [show p+3+a.size+e.size=q+1 by omega]
          exact r3.ends
         ·intro k hk
          have hk1:k < p∨u≤k:=hk
          rw [r3.same k (by omega),gi_setN (by omega),gi_setN (by omega),gi_setN (by omega),r2.same k (by omega),gi_setN (by omega),gi_setN (by omega),r1.same k (by omega),gi_setN (by omega)]
       ·rw [if_neg h7]
        refine⟨fun h=>⟨?_,by omega⟩,fun h=>⟨by omega,s2,?_,by rw [r2op];simp⟩⟩
        ·have hqe:=hqe h
         have h28:oI c q=28:=by omega
         have e3:stepM c q s2=none:=by
          unfold stepM
          rw [if_neg (by omega),if_pos h28,r2op,r2ot]
          simp only []
          rw [if_neg (by omega)]
         refine run2 1 _ _ ?_ (by omega)
         unfold runM;rw [e3]
        ·refine run2 0 _ _ rfl (by omega)
     ·rw [if_neg h5]
      by_cases h6:m < c.length∧oI c m=31
      ·rw [if_pos h6]
       have e3:stepM c m s1=some ⟨s.op,s.ot,((s1.P.set m (-1)).set m (p:Int)).set p (m:Int)⟩:=by
        unfold stepM
        rw [if_neg (by omega),if_neg (by omega),if_neg (by omega),if_pos h6.2,r1op,r1ot]
        simp only []
        rw [if_neg (by omega)]
       have h9:=ih (d:=d) (b:=b) (p:=m+1) (s:=⟨s.op,s.ot,((s1.P.set m (-1)).set m (p:Int)).set p (m:Int)⟩) (by omega) (by omega) hd ho h8 hb (by simp [r1l])
       cases hz:lst c f d b (m+1) with
       | bad u=>
        rw [hz] at h9
        refine⟨fun h=>⟨?_,?_⟩,fun h=>⟨(h9.2 h).1,?_⟩⟩
        ·have h10:=(h9.1 h).2
         refine run1 (u+1-m) _ _ ?_ (by omega)
         rw [show u+1-m=1+(u+1-(m+1)) by omega,runM_add (runM_one e3)]
         exact (h9.1 h).1
        ·have h10:=(h9.1 h).2;omega
        ·obtain⟨-,s',h10,h11⟩:=h9.2 h
         refine⟨s',run1 (c.length-m) _ _ ?_ (by omega),h11⟩
         rw [show c.length-m=1+(c.length-(m+1)) by omega,runM_add (runM_one e3)]
         exact h10
       | ok r u=>
        rw [hz] at h9
        obtain⟨s3,r3⟩:=h9
        obtain⟨-,hu,hul,-,-⟩:=lst_ok hz
        have keep3:∀ k,k < m+1→k≠m→k≠p→gi s3.P k=gi s1.P k:=by
         intro k k1 k2 k3
         rw [r3.same k (.inl k1),gi_setN k3,gi_setN k2,gi_setN k2]
        have g3:gi s3.P m=(p:Int):=by rw [r3.same m (.inl (by omega)),gi_setN (by omega),gi_setE (by simp;omega)]
        have g1:gi s3.P p=(m:Int):=by rw [r3.same p (.inl (by omega)),gi_setE (by simp;omega)]
        have main:RunL c p u (if oI c p=27 then .ift a r else .lp a r) s s3:=by
         refine⟨?_,r3.op,r3.ot,by rw [r3.len];simp [r1l,hl],?_,?_,?_⟩
         ·refine run1 (u-m) _ _ ?_ (by omega)
          rw [show u-m=1+(u-(m+1)) by omega,runM_add (runM_one e3)]
          exact r3.run
         ·have k1:gi s3.P p=(p+1+a.size:Nat):=by rw [g1,hm]
          have k2:PartOk s3.P (p+1) a:=r1.part.ext (fun k k1 k2=>keep3 k (by omega) (by omega) (by omega))
          have k3:PartOk s3.P (p+2+a.size) r:=by rw [show p+2+a.size=m+1 by omega];exact r3.part
          split
          ·exact⟨k1,k2,k3⟩
          ·exact⟨k1,k2,k3⟩
         ·have k1:gi s3.P (p+1+a.size)=(p:Int):=by rw [←hm];exact g3
          have k2:EndOk s3.P (p+1) a:=r1.ends.ext (fun k k1 k2=>keep3 k (by omega) (by omega) (by omega))
          have k3:EndOk s3.P (p+2+a.size) r:=by rw [show p+2+a.size=m+1 by omega];exact r3.ends
          split
          ·exact⟨k1,k2,k3⟩
          ·exact⟨k1,k2,k3⟩
         ·intro k hk
          have hk1:k < p∨u≤k:=hk
          rw [r3.same k (by omega),gi_setN (by omega),gi_setN (by omega),gi_setN (by omega),r1.same k (by omega),gi_setN (by omega)]
        show ∃ s',RunL c p u ((if oI c p=27 then Tr.ift a else Tr.lp a) r) s s'
        refine⟨s3,?_⟩
        split
        ·rename_i h;rw [if_pos h] at main;exact main
        ·rename_i h;rw [if_neg h] at main;exact main
      ·rw [if_neg h6]
       refine⟨fun h=>⟨?_,by omega⟩,fun h=>⟨by omega,s1,?_,by rw [r1op];simp⟩⟩
       ·have hme:=hme h
        have h28:oI c m=28:=by omega
        have h29:oI c p≠27:=fun h27=>h5 ⟨h,h27,h28⟩
        have e3:stepM c m s1=none:=by
         unfold stepM
         rw [if_neg (by omega),if_pos h28,r1op,r1ot]
         simp only []
         rw [if_neg (by omega)]
        refine run1 1 _ _ ?_ (by omega)
        unfold runM;rw [e3]
       ·refine run1 0 _ _ rfl (by omega)
   ·rw [if_neg h2]
    by_cases h3:oI c p=30∧b=false
    ·rw [if_pos h3]
     refine⟨fun _=>⟨?_,Nat.le_refl _⟩,fun h=>by omega⟩
     have e1:stepM c p s=none:=by unfold stepM;rw [if_neg h2,if_neg (by omega),if_pos h3.1,hb,h3.2];rfl
     rw [show p+1-p=1 by omega]
     unfold runM;rw [e1]
    ·rw [if_neg h3]
     have e1:stepM c p s=some ⟨s.op,s.ot,s.P.set p (-1)⟩:=by
      unfold stepM
      rw [if_neg h2,if_neg (by omega)]
      by_cases h30:oI c p=30
      ·rw [if_pos h30,hb]
       cases b with
       | true=>rfl
       | false=>exact absurd ⟨h30,rfl⟩ h3
      ·rw [if_neg h30,if_neg (by omega)]
     have h9:=ih (d:=d) (b:=b) (p:=p+1) (s:=⟨s.op,s.ot,s.P.set p (-1)⟩) (by omega) (by omega) hd ho h8 hb (by simp [hl])
     cases hz:lst c f d b (p+1) with
     | bad u=>
      rw [hz] at h9
      refine⟨fun h=>⟨?_,?_⟩,fun h=>⟨(h9.2 h).1,?_⟩⟩
      ·have h10:=(h9.1 h).2
       rw [show u+1-p=1+(u+1-(p+1)) by omega,runM_add (runM_one e1)]
       exact (h9.1 h).1
      ·have h10:=(h9.1 h).2;omega
      ·obtain⟨-,s',h10,h11⟩:=h9.2 h
       refine⟨s',?_,h11⟩
       rw [show c.length-p=1+(c.length-(p+1)) by omega,runM_add (runM_one e1)]
       exact h10
     | ok r u=>
      rw [hz] at h9
      obtain⟨s3,r3⟩:=h9
      obtain⟨-,hu,hul,-,-⟩:=lst_ok hz
      refine⟨s3,⟨?_,r3.op,r3.ot,by rw [r3.len];simp [hl],r3.part,r3.ends,fun k hk=>?_⟩⟩
      ·rw [show u-p=1+(u-(p+1)) by omega,runM_add (runM_one e1)]
       exact r3.run
      ·have hk1:k < p∨u≤k:=hk
       rw [r3.same k (by omega),gi_setN (by omega)]
  ·rw [if_neg hpl];exact⟨s,RunL.refl c p s⟩
def ps0(c:List Ins):PS:=⟨[],[],List.replicate c.length 0⟩
theorem parse_run(c:List Ins):match parse c with
  | .bad q=>(q < c.length∧runM c (q+1) 0 (ps0 c)=.error q)∨(q=c.length∧∃ s',runM c c.length 0 (ps0 c)=.ok s'∧s'.op≠[])
  | .ok t _=>∃ s',runM c c.length 0 (ps0 c)=.ok s'∧s'.op=[]∧s'.P.length=c.length∧PartOk s'.P 0 t∧EndOk s'.P 0 t∧Fit c false 0 t∧t.size=c.length:=by
 have h:=lst_run (c:=c) (f:=c.length+1) (d:=0) (b:=false) (p:=0) (s:=ps0 c) (by omega) (Nat.zero_le _) rfl rfl (by omega) rfl (by simp [ps0])
 unfold parse
 cases hx:lst c (c.length+1) 0 false 0 with
 | bad q=>
  rw [hx] at h
  show (q < c.length∧_)∨_
  by_cases hq:q < c.length
  ·exact .inl ⟨hq,(h.1 hq).1⟩
  ·obtain⟨h1,s',h2,h3⟩:=h.2 (by omega)
   exact .inr ⟨h1,s',by simpa using h2,h3⟩
 | ok t m=>
  rw [hx] at h
  obtain⟨s',r⟩:=h
  obtain⟨hf,hm,hml,hme,-⟩:=lst_ok hx
  have hml:=hml (Nat.zero_le _)
  simp only [PR.bind]
  by_cases hc:m=c.length
  ·rw [if_pos hc]
   have hr:=r.run
   rw [hc] at hr
   exact⟨s',by simpa using hr,r.op,by rw [r.len];simp [ps0],r.part,r.ends,hf,by omega⟩
  ·rw [if_neg hc]
   have hlt:m < c.length:=by omega
   refine .inl ⟨hlt,?_⟩
   have hop:s'.op=[]:=r.op
   have hot:s'.ot=[]:=r.ot
   have e1:stepM c m s'=none:=by
    unfold stepM
    rcases hme hlt with h28 | h31
    ·rw [if_neg (by omega),if_pos h28,hop]
    ·rw [if_neg (by omega),if_neg (by omega),if_neg (by omega),if_pos h31,hop]
   have h2:=r.run
   have h3:=runM_add (b:=1) h2
   rw [show m-0+1=m+1 by omega,show 0+(m-0)=m by omega] at h3
   rw [h3]
   unfold runM;rw [e1]
theorem codeE_all:∀ {l:List Ins},codeE l=0→∀ i∈l,chkE i=0:=by
 intro l
 induction l with
 | nil=>intro _ i hi;cases hi
 | cons x l ih=>
  intro h i hi
  rw [codeE_step] at h
  split at h
  ·rename_i hx;exact absurd h hx
  ·rename_i hx
   rcases List.mem_cons.1 hi with rfl | hi
   ·exact Decidable.not_not.1 hx
   ·exact ih h i hi
theorem arrGo_all:∀ {l:List Arr} {n:Int},n≤65536→arrGo n l=0→∀ x∈l,1≤x.size∧x.size≤65536:=by
 intro l
 induction l with
 | nil=>intro n _ _ x hx;cases hx
 | cons y l ih=>
  intro n hn h x hx
  unfold arrGo at h
  split at h
  ·cases h
  ·rename_i hy
   rcases List.mem_cons.1 hx with rfl | hx
   ·omega
   ·exact ih (by omega) h x hx
theorem argAt_all{p:Prg}(h:¬ argAt p < p.code.length):∀ k,k < p.code.length→badArg p (gI p.code k)=false:=by
 intro k hk
 cases hb:badArg p (gI p.code k) with
 | false=>rfl
 | true=>
  exfalso
  refine h ?_
  unfold argAt
  rw [List.findIdx_lt_length]
  exact⟨gI p.code k,by rw [gI_get hk];exact List.getElem_mem hk,hb⟩
theorem prgOk_of{p:Prg}(hwf:∀ x∈p.code,0≤x.arg∧x.arg < 4294967296)(h:(chkP p).2=0):PrgOk p∧formE p=0∧∃ t,parse p.code=.ok t p.code.length∧treeOf p=t:=by
 unfold chkP at h
 by_cases hf:formE p≠0
 ·rw [if_pos hf] at h;exact absurd h hf
 rw [if_neg hf] at h
 have hf:formE p=0:=Decidable.not_not.1 hf
 cases hp:parse p.code with
 | bad a=>rw [hp] at h;simp at h
 | ok t m=>
  rw [hp] at h
  simp only [] at h
  split at h
  ·simp at h
  rename_i harg
  have hm:=(parse_ok hp).2.1
  subst hm
  have hf0:=hf
  refine⟨?_,hf0,t,rfl,by unfold treeOf;rw [hp]⟩
  unfold formE at hf
  split at hf
  ·rename_i hx;exact absurd hf hx
  rename_i ha
  have ha:arrE p.arrs=0:=Decidable.not_not.1 ha
  split at hf
  ·cases hf
  rename_i hl
  split at hf
  ·cases hf
  rename_i hc
  unfold arrE at ha
  split at ha
  ·cases ha
  rename_i ha8
  refine⟨by omega,by omega,⟨by omega,arrGo_all (Int.le_refl _) ha⟩,fun k hk=>?_,fun k hk ho=>?_,fun k hk ho=>?_⟩
  ·have hmem:gI p.code k∈p.code:=by rw [gI_get hk];exact List.getElem_mem hk
   have h1:=codeE_all hf _ hmem
   have h2:=hwf _ hmem
   unfold chkE at h1
   split at h1
   ·cases h1
   ·rename_i ho
    have ho:okX (gI p.code k).op=true:=by simpa using ho
    have ho2:0≤(gI p.code k).op∧(gI p.code k).op < 36:=by simpa [okX] using ho
    exact⟨ho2.1,ho2.2,h2.1,h2.2⟩
  ·have h1:=argAt_all harg k hk
   have ho:(gI p.code k).op=1∨(gI p.code k).op=2:=ho
   unfold badArg at h1
   simp only [Bool.or_eq_false_iff,Bool.and_eq_false_iff,decide_eq_false_iff_not] at h1
   rcases h1.1 with h2 | h2
   ·exact absurd ho h2
   ·omega
  ·have h1:=argAt_all harg k hk
   have ho:(gI p.code k).op=3∨(gI p.code k).op=4:=ho
   unfold badArg at h1
   simp only [Bool.or_eq_false_iff,Bool.and_eq_false_iff,decide_eq_false_iff_not] at h1
   rcases h1.2 with h2 | h2
   ·exact absurd ho h2
   ·omega
theorem tree_fit{p:Prg}{t:Tr}{m:Nat}(h:parse p.code=.ok t m):Fit p.code false 0 t∧t.size=p.code.length:=⟨(parse_ok h).2.2.1,(parse_ok h).2.2.2.1⟩
theorem parse_bad_le{c:List Ins}{q:Nat}(h:parse c=.bad q):q≤c.length:=by
 have h1:=parse_run c
 rw [h] at h1
 rcases h1 with h1 | h1
 ·omega
 ·omega
def HdAll(c:List Ins):Hd→Prop
 | .widen=>True
 | .given r=>∀ k,k < c.length→oI c k=29→(invAt r k).isSome=true
theorem popA_err{stk:List Vl}{base:Nat}{ty:List UInt8}{x:Int}(h:popA stk base ty=.error x):x=14∨x=13:=by
 unfold popA at h
 split at h
 ·injection h with h;exact .inl h.symm
 ·split at h
  ·cases h
  ·injection h with h;exact .inr h.symm
theorem pushA_bad{lo a:Nat}{st:St}{l:List Vl}{e x:Int}(h:pushA lo st l e=.bad a x):a=lo∧x=14:=by
 unfold pushA at h
 split at h
 ·injection h with h1 h2;exact⟨h1.symm,h2.symm⟩
 ·cases h
theorem pushA_one{lo:Nat}{st st':St}{l:List Vl}{e s' e':Int}(h:pushA lo st l e=.ok st' s' e'):s'=1∧e'=e∧st'.locs=st.locs:=by
 unfold pushA at h
 split at h
 ·cases h
 ·cases h;exact⟨rfl,rfl,rfl⟩
def OneR(lo:Nat)(op:Int)(st:St):ER→Prop
 | .bad a x=>a=lo∧0 < x
 | .ok st' s _=>s=1∧(op≠2→st'.locs=st.locs)
 | .stuck=>True
theorem OneR.push{lo:Nat}{op:Int}{st st2:St}{l:List Vl}{e:Int}(h:st2.locs=st.locs):OneR lo op st (pushA lo st2 l e):=by
 cases hp:pushA lo st2 l e with
 | bad a x=>obtain⟨h1,h2⟩:=pushA_bad hp;exact⟨h1,by omega⟩
 | stuck=>trivial
 | ok st' s e'=>obtain⟨h1,h2,h3⟩:=pushA_one hp;exact⟨h1,fun _=>h3.trans h⟩
theorem plA_one(p:Prg)(lo base:Nat)(st:St):OneR lo (oI p.code lo) st (plA p lo base st):=by
 unfold plA
 cases hp:popA st.stk base (opX (oI p.code lo)).pops with
 | error x=>exact⟨rfl,by rcases popA_err hp with h | h <;> omega⟩
 | ok rl=>
  obtain⟨rest,l⟩:=rl
  simp only []
  generalize oI p.code lo=op
  by_cases ho0:op=0
  ·rw [if_pos ho0];exact OneR.push rfl
  rw [if_neg ho0]
  by_cases ho1:op=1
  ·rw [if_pos ho1];exact OneR.push rfl
  rw [if_neg ho1]
  by_cases ho2:op=2
  ·rw [if_pos ho2];exact⟨rfl,fun h=>absurd ho2 h⟩
  rw [if_neg ho2]
  by_cases ho3:op=3
  ·rw [if_pos ho3]
   split
   ·exact⟨rfl,by omega⟩
   ·exact OneR.push rfl
  rw [if_neg ho3]
  by_cases ho4:op=4
  ·rw [if_pos ho4]
   split
   ·exact⟨rfl,by omega⟩
   ·exact⟨rfl,fun _=>rfl⟩
  rw [if_neg ho4]
  by_cases ho5:op=5
  ·rw [if_pos ho5];exact OneR.push rfl
  rw [if_neg ho5]
  by_cases ho7:op=7
  ·rw [if_pos ho7];exact OneR.push rfl
  rw [if_neg ho7]
  by_cases ho6:op=6∨op=35
  ·rw [if_pos ho6];exact⟨rfl,fun _=>rfl⟩
  rw [if_neg ho6]
  by_cases ho34:op=34
  ·rw [if_pos ho34];exact⟨rfl,fun _=>rfl⟩
  rw [if_neg ho34]
  by_cases ho32:op=32
  ·rw [if_pos ho32];exact OneR.push rfl
  rw [if_neg ho32]
  by_cases ho26:op=26
  ·rw [if_pos ho26];exact OneR.push rfl
  rw [if_neg ho26]
  by_cases hot:(opX op).pushes=[116]
  ·rw [if_pos hot];exact OneR.push rfl
  rw [if_neg hot]
  cases ha:apI op (gV l 0).iv (gV l 1).iv with
  | none=>exact⟨rfl,by omega⟩
  | some x=>exact OneR.push rfl
theorem insA_one(p:Prg)(lo base loop:Nat)(st:St):OneR lo (oI p.code lo) st (insA p lo base loop st):=by
 unfold insA
 by_cases h30:oI p.code lo=30
 ·rw [if_pos h30]
  cases hp:popA st.stk base [116] with
  | error x=>exact⟨rfl,by rcases popA_err hp with h | h <;> omega⟩
  | ok rl=>
   obtain⟨rest,l⟩:=rl
   simp only []
   split
   ·exact⟨rfl,by omega⟩
   ·exact⟨rfl,fun _=>rfl⟩
 ·rw [if_neg h30];exact plA_one p lo base st
theorem insA_base{p:Prg}{lo base loop:Nat}{st st':St}{s e:Int}(h:insA p lo base loop st=.ok st' s e):base≤st'.stk.length∧st'.inv=st.inv:=by
 unfold insA at h
 by_cases h30:oI p.code lo=30
 ·rw [if_pos h30] at h
  cases hp:popA st.stk base [116] with
  | error x=>rw [hp] at h;cases h
  | ok rl=>
   obtain⟨rest,l⟩:=rl
   rw [hp] at h
   simp only [] at h
   split at h
   ·cases h
   ·injection h with h1 _ _
    subst h1
    exact⟨(popA_len hp).2.1,rfl⟩
 ·rw [if_neg h30] at h
  obtain⟨-,-,g,g2,-⟩:=plA_hgt h h30
  exact⟨g2,g⟩
theorem ER.bind_bad{x:ER}{f:St→Int→Int→ER}{a:Nat}{v:Int}(h:x.bind f=.bad a v):x=.bad a v∨∃ st1 s1 e1,x=.ok st1 s1 e1∧f st1 s1 e1=.bad a v:=by
 cases x with
 | bad b e=>exact .inl h
 | stuck=>cases h
 | ok st1 s1 e1=>exact .inr ⟨st1,s1,e1,rfl,h⟩
theorem passA_bad{c:List Ins}{h:Hd}{lo hi height:Nat}{body:St→ER}{Q:Nat→Int→Prop}(hq:∀ x,x=14∨x=23→Q hi x)(hb:∀ s0 a x,body s0=.bad a x→Q a x) :
  ∀ k pass head st a x,passA c h lo hi height body k pass head st=.bad a x→Q a x:=by
 intro k
 induction k with
 | zero=>intro pass head st a x h;cases h
 | succ k ih=>
  intro pass head st a x hr
  unfold passA at hr
  rcases ER.bind_bad hr with h1 | ⟨s1,u,v,h1,h2⟩
  ·exact hb _ _ _ h1
  ·split at h2
   ·injection h2 with h3 h4;subst h3 h4;exact hq _ (.inl rfl)
   split at h2
   ·cases h2
   ·cases h with
    | given r=>injection h2 with h3 h4;subst h3 h4;exact hq _ (.inr rfl)
    | widen=>exact ih _ _ _ _ _ h2
theorem anaT_bad{p:Prg}{h:Hd}(hh:HdAll p.code h):∀ (t:Tr) (lo base loop:Nat) (st:St) (s e:Int) (b:Bool) (a:Nat) (x:Int),Fit p.code b lo t→lo+t.size≤p.code.length→anaT p h t lo base loop st s e=.bad a x→(lo≤a∧a≤lo+t.size)∧0 < x:=by
 intro t
 induction t with
 | nil=>intro lo base loop st s e b a x hf hl hr;cases hr
 | ins r ih=>
  intro lo base loop st s e b q x hf hl hr
  simp only [Tr.size] at hl ⊢
  rw [anaT_ins] at hr
  rcases ER.bind_bad hr with h1 | ⟨s1,u,v,h1,h2⟩
  ·have h3:=insA_one p lo base loop st
   rw [h1] at h3
   obtain⟨rfl,h4⟩:=h3
   exact⟨by omega,h4⟩
  ·have h3:=ih _ _ _ _ _ _ _ _ _ hf.2.2.2.2.2 (by omega) h2
   exact⟨by omega,h3.2⟩
 | ift a r iha ih=>
  intro lo base loop st s e b q x hf hl hr
  simp only [Tr.size] at hl ⊢
  unfold anaT at hr
  cases hp:popA st.stk base [116] with
  | error y=>
   rw [hp] at hr
   injection hr with h1 h2
   exact⟨by omega,by rcases popA_err hp with h | h <;> omega⟩
  | ok rl=>
   obtain⟨rest,l⟩:=rl
   rw [hp] at hr
   simp only [] at hr
   rcases ER.bind_bad hr with h1 | ⟨s1,u,v,h1,h2⟩
   ·have h3:=iha _ _ _ _ _ _ _ _ _ hf.2.1 (by omega) h1
    exact⟨by omega,h3.2⟩
   ·split at h2
    ·injection h2 with h3 h4;exact⟨by omega,by omega⟩
    ·have h3:=ih _ _ _ _ _ _ _ _ _ hf.2.2.2 (by omega) h2
     exact⟨by omega,h3.2⟩
 | ife a d r iha ihd ih=>
  intro lo base loop st s e b q x hf hl hr
  simp only [Tr.size] at hl ⊢
  unfold anaT at hr
  cases hp:popA st.stk base [116] with
  | error y=>
   rw [hp] at hr
   injection hr with h1 h2
   exact⟨by omega,by rcases popA_err hp with h | h <;> omega⟩
  | ok rl=>
   obtain⟨rest,l⟩:=rl
   rw [hp] at hr
   simp only [] at hr
   rcases ER.bind_bad hr with h1 | ⟨s1,u,v,h1,h2⟩
   ·have h3:=iha _ _ _ _ _ _ _ _ _ hf.2.1 (by omega) h1
    exact⟨by omega,h3.2⟩
   ·split at h2
    ·injection h2 with h3 h4;exact⟨by omega,by omega⟩
    ·rcases ER.bind_bad h2 with h3 | ⟨s2,u2,v2,h3,h4⟩
     ·have h5:=ihd _ _ _ _ _ _ _ _ _ hf.2.2.2.1 (by omega) h3
      exact⟨by omega,h5.2⟩
     ·split at h4
      ·injection h4 with h5 h6;exact⟨by omega,by omega⟩
      ·have h5:=ih _ _ _ _ _ _ _ _ _ hf.2.2.2.2.2 (by omega) h4
       exact⟨by omega,h5.2⟩
 | lp a r iha ih=>
  intro lo base loop st s e b q x hf hl hr
  simp only [Tr.size] at hl ⊢
  unfold anaT at hr
  cases hp:popA st.stk base [110] with
  | error y=>
   rw [hp] at hr
   injection hr with h1 h2
   exact⟨by omega,by rcases popA_err hp with h | h <;> omega⟩
  | ok rl=>
   obtain⟨rest,l⟩:=rl
   rw [hp] at hr
   simp only [] at hr
   split at hr
   ·injection hr with h1 h2;exact⟨by omega,by omega⟩
   split at hr
   ·rename_i y hen
    injection hr with h1 h2
    subst h1 h2
    refine⟨by omega,?_⟩
    unfold enterA at hen
    cases h with
    | widen=>cases hen
    | given R=>
     simp only [] at hen
     cases hx:invAt R lo with
     | none=>
      have:=hh lo (by omega) hf.1
      rw [hx] at this
      cases this
     | some z=>
      rw [hx] at hen
      simp only [] at hen
      split at hen
      ·injection hen with hen;omega
      ·split at hen
       ·cases hen
       ·injection hen with hen;omega
   ·rename_i head most hen
    rcases ER.bind_bad hr with h1 | ⟨s1,u,v,h1,h2⟩
    ·exact passA_bad (Q:=fun q x=>(lo≤q∧q≤lo+(a.size+r.size+2))∧0 < x) (fun x hx=>⟨by omega,by rcases hx with h | h <;> omega⟩)
      (fun s0 q x hb=>by have h3:=iha _ _ _ _ _ _ _ _ _ hf.2.1 (by omega) hb;exact⟨by omega,h3.2⟩) _ _ _ _ _ _ h1
    ·have h3:=ih _ _ _ _ _ _ _ _ _ hf.2.2.2 (by omega) h2
     exact⟨by omega,h3.2⟩
theorem st0_ok{p:Prg}{n:Nat}(hp:PrgOk p)(hn:p.locs=(n:Int)):StOk n (st0 p):=by
 refine⟨⟨by simp [st0,hn],fun x hx=>?_⟩,fun v hv=>absurd hv List.not_mem_nil,by simp [st0],by simp [st0],fun l hl=>absurd hl List.not_mem_nil,fun x hx=>absurd hx List.not_mem_nil⟩
 obtain⟨-,rfl⟩:=List.mem_replicate.1 hx
 decide
theorem whole_of{p:Prg}{h:Hd}{t:Tr}{r:Rp}(hr:whole p h t=.ok r):∃ st,anaT p h t 0 0 0 (st0 p) 0 0=.ok st r.steps r.emits∧st.stk.length=0∧r.hgt=(st.hgt:Int)∧r.inv=sortI p.code.length st.inv:=by
 unfold whole at hr
 split at hr
 ·cases hr
 ·cases hr
 ·rename_i st s e ha
  split at hr
  ·cases hr
  ·rename_i hl
   injection hr with hr
   subst hr
   exact⟨st,ha,by simpa using hl,rfl,rfl⟩
theorem sort_ats(l:List Inv):∀ (ks:List Nat),(ks.filterMap fun k=>invAt l k).map (fun x=>x.at_)=(ks.filter fun k=>(invAt l k).isSome).map (fun (k:Nat)=>(k:Int)):=by
 intro ks
 induction ks with
 | nil=>rfl
 | cons k ks ih=>
  cases hk:invAt l k with
  | none=>rw [List.filterMap_cons_none hk,List.filter_cons_of_neg (by rw [hk];decide),ih]
  | some x=>rw [List.filterMap_cons_some hk,List.filter_cons_of_pos (by rw [hk];rfl),List.map_cons,List.map_cons,ih,(invAt_some hk).2]
theorem ats_of{p:Prg}{h:Hd}{t:Tr}{st st':St}{s e:Int}{b:Bool}(hf:Fit p.code b 0 t)(hl:t.size=p.code.length)(hr:anaT p h t 0 0 0 st 0 0=.ok st' s e)(h0:st.inv=[]):(sortI p.code.length st'.inv).map (fun x=>x.at_)=(loopsOf p.code).map (fun (k:Nat)=>(k:Int)):=by
 have hn:=anaT_note _ _ _ _ _ _ _ _ _ _ _ hf hr (Nat.zero_le _)
 unfold sortI loopsOf
 rw [sort_ats]
 congr 1
 apply List.filter_congr
 intro k hk
 have hk:=List.mem_range.1 hk
 by_cases h29:oI p.code k=29
 ·rw [hn.all k (Nat.zero_le _) (by omega) h29,decide_eq_true h29]
 ·rw [decide_eq_false h29]
  cases hi:(invAt st'.inv k).isSome with
  | false=>rfl
  | true=>
   rcases hn.only k hi with h1 | h1
   ·rw [h0] at h1;cases h1
   ·exact absurd h1 h29
theorem plain_steps{p:Prg}{h:Hd}:∀ (t:Tr) (lo base loop:Nat) (st st':St) (s e s' e':Int) (b:Bool),Fit p.code b lo t→(∀ k,lo≤k→k < lo+t.size→oI p.code k≠27∧oI p.code k≠29)→anaT p h t lo base loop st s e=.ok st' s' e'→s+t.size≤1024→s'=s+t.size:=by
 intro t
 induction t with
 | nil=>intro lo base loop st st' s e s' e' b hf hk hr h0;cases hr;simp [Tr.size]
 | ins r ih=>
  intro lo base loop st st' s e s' e' b hf hk hr h0
  simp only [Tr.size] at hk h0 ⊢
  rw [anaT_ins] at hr
  obtain⟨s1,x,y,h1,h2⟩:=ER.bind_ok hr
  have h3:=insA_one p lo base loop st
  rw [h1] at h3
  obtain⟨rfl,-⟩:=h3
  have hc:capS s 1=s+1:=by unfold capS tooMany;omega
  rw [hc] at h2
  have h4:=ih _ _ _ _ _ _ _ _ _ _ hf.2.2.2.2.2 (fun k k1 k2=>hk k (by omega) (by omega)) h2 (by omega)
  omega
 | ift a r iha ih=>intro lo base loop st st' s e s' e' b hf hk hr h0;exact absurd hf.1 (hk lo (Nat.le_refl _) (by simp only [Tr.size];omega)).1
 | ife a d r iha ihd ih=>intro lo base loop st st' s e s' e' b hf hk hr h0;exact absurd hf.1 (hk lo (Nat.le_refl _) (by simp only [Tr.size];omega)).1
 | lp a r iha ih=>intro lo base loop st st' s e s' e' b hf hk hr h0;exact absurd hf.1 (hk lo (Nat.le_refl _) (by simp only [Tr.size];omega)).2
theorem verP_of{p:Prg}{r:Rp}(h:verP p=.ok r):(chkP p).2=0∧whole p .widen (treeOf p)=.ok r∧r.steps≤281474976710656:=by
 unfold verP at h
 split at h
 ·cases h
 ·rename_i hc
  have hc:(chkP p).2=0:=Decidable.not_not.1 hc
  cases hw:whole p .widen (treeOf p) with
  | bad a e=>rw [hw] at h;cases h
  | stuck=>rw [hw] at h;cases h
  | ok r2=>
   rw [hw] at h
   simp only [] at h
   split at h
   ·cases h
   ·cases h;exact⟨hc,rfl,by omega⟩
structure RepOk (p:Prg) (r:Rp):Prop where
 ats:r.inv.map (fun x=>x.at_)=(loopsOf p.code).map (fun (k:Nat)=>(k:Int))
 inv:∀ x∈r.inv,0≤x.most∧x.most≤65536∧(x.locs.length:Int)=p.locs∧∀ y∈x.locs,ivE y=0
 emits:0≤r.emits∧r.emits≤r.steps
 steps:r.steps≤281474976710656
 hgt:0≤r.hgt∧r.hgt≤32
 plain:(∀ k,k < p.code.length→oI p.code k≠27∧oI p.code k≠29)→r.steps=(p.code.length:Int)
theorem sort_mem{l:List Inv}{n:Nat}{x:Inv}(h:x∈sortI n l):x∈l:=by
 unfold sortI at h
 obtain⟨k,-,hk⟩:=List.mem_filterMap.1 h
 exact (invAt_some hk).1
theorem reports_of{p:Prg}{r:Rp}(hwf:∀ x∈p.code,0≤x.arg∧x.arg < 4294967296)(h:verP p=.ok r):RepOk p r:=by
 obtain⟨hc,hw,hs⟩:=verP_of h
 obtain⟨hp,-,t,ht,hto⟩:=prgOk_of hwf hc
 rw [hto] at hw
 obtain⟨hf,hsz⟩:=tree_fit ht
 obtain⟨st,ha,hst,hh,hi⟩:=whole_of hw
 obtain⟨n,hn⟩:∃ n:Nat,p.locs=(n:Int):=⟨p.locs.toNat,by have:=hp.locs;omega⟩
 have hg:=anaT_good (h:=.widen) hp hn trivial t 0 0 0 (st0 p) 0 0 false hf (by omega) (st0_ok hp hn) (by omega) (by omega) (by unfold tooMany;omega)
 rw [ha] at hg
 obtain⟨g1,g2,g3,g4,-⟩:=hg
 refine⟨by rw [hi];exact ats_of hf hsz ha rfl,fun x hx=>?_,⟨g2,g3⟩,hs,⟨by omega,by have:=g1.hgt;omega⟩,fun hpl=>?_⟩
 ·rw [hi] at hx
  obtain⟨k1,k2,k3⟩:=g1.inv x (sort_mem hx)
  exact⟨k2,k3,by rw [k1.1,hn],fun y hy=>ivE_iff.2 (k1.2 y hy)⟩
 ·have hlen:=hp.len
  have:=plain_steps t 0 0 0 _ _ _ _ _ _ _ hf (fun k k1 k2=>hpl k (by omega)) ha (by omega)
  omega
theorem verP_bad{p:Prg}{a:Nat}{e:Int}(hwf:∀ x∈p.code,0≤x.arg∧x.arg < 4294967296)(hfe:0≤formE p)(h:verP p=.bad a e):a≤p.code.length∧0 < e:=by
 unfold verP at h
 split at h
 ·rename_i hc
  injection h with h1 h2
  subst h1 h2
  unfold chkP at hc ⊢
  by_cases hf:formE p≠0
  ·rw [if_pos hf];exact⟨Nat.zero_le _,by simp only [];omega⟩
  rw [if_neg hf] at hc ⊢
  cases hp:parse p.code with
  | bad q=>exact⟨parse_bad_le hp,by simp only [];omega⟩
  | ok t m=>
   rw [hp] at hc
   simp only [] at hc ⊢
   by_cases ha:argAt p < p.code.length
   ·rw [if_pos ha];exact⟨Nat.le_of_lt ha,by simp only [];omega⟩
   ·rw [if_neg ha] at hc;exact absurd rfl hc
 ·rename_i hc
  have hc:(chkP p).2=0:=Decidable.not_not.1 hc
  obtain⟨hp,-,t,ht,hto⟩:=prgOk_of hwf hc
  obtain⟨hf,hsz⟩:=tree_fit ht
  rw [hto] at h
  cases hw:whole p .widen t with
  | stuck=>rw [hw] at h;cases h
  | ok r2=>
   rw [hw] at h
   simp only [] at h
   split at h
   ·injection h with h1 h2;exact⟨by omega,by omega⟩
   ·cases h
  | bad a2 e2=>
   rw [hw] at h
   injection h with h1 h2
   subst h1 h2
   unfold whole at hw
   split at hw
   ·rename_i a3 e3 ha
    injection hw with h1 h2
    subst h1 h2
    have:=anaT_bad (h:=.widen) trivial t 0 0 0 _ _ _ false _ _ hf (by omega) ha
    exact⟨by omega,this.2⟩
   ·cases hw
   ·split at hw
    ·injection hw with h1 h2;exact⟨by omega,by omega⟩
    ·cases hw
structure RI where
 op:Int
 dst:Int
 a:Int
 b:Int
 arg:Int
deriving DecidableEq
def shTo(op:Int):Bool:=decide ((8≤op∧op≤26)∨op=0∨op=3∨op=32∨op=33∨op=36∨op=38)
def shA(op:Int):Bool:=decide ((8≤op∧op≤27)∨op=3∨op=4∨op=29∨op=30∨op=34∨op=35∨op=36∨op=37)
def shB(op:Int):Bool:=decide ((8≤op∧op≤25∧op≠23)∨op=4)
def popsN(op:Int):Nat:=(opX op).pops.length
def pushsN(op:Int):Nat:=(opX op).pushes.length
def lowI(next spare:Int)(most:Int)(i:Ins):List RI:=
 if i.op=1 then [⟨36,next,i.arg,-1,0⟩]
 else if i.op=2 then [⟨36,i.arg,next-1,-1,0⟩]
 else if i.op=5 then [⟨36,next,next-1,-1,0⟩]
 else if i.op=6 then []
 else if i.op=7 then [⟨36,spare,next-1,-1,0⟩,⟨36,next-1,next-2,-1,0⟩,⟨36,next-2,spare,-1,0⟩]
 else if i.op=29 then [⟨29,-1,next-1,-1,most⟩]
 else [⟨i.op,if shTo i.op then next-popsN i.op else -1,if shA i.op then next-popsN i.op else -1,if shB i.op then next-popsN i.op+1 else -1,i.arg⟩]
def lowN(next:Int)(bases:List Int)(op:Int):Int × List Int:=
 let m:=next+((pushsN op:Int)-popsN op)
 if op=27∨op=29 then (m,m :: bases)
 else if op=28 then (bases.headD 0,bases)
 else if op=31 then (bases.headD 0,bases.tail)
 else (m,bases)
def lowC(c:List Ins)(spare:Int)(most:Nat→Int):Nat→Nat→Int→List Int→List RI
 | 0,_,_,_=>[]
 | k+1,at_,next,bases=>lowI next spare (most at_) (gI c at_)++lowC c spare most k (at_+1) (lowN next bases (oI c at_)).1 (lowN next bases (oI c at_)).2
def mostAt(l:List Inv)(k:Nat):Int:=match invAt l k with | some x=>x.most | none=>0
structure LCode where
 arrs:List Arr
 regs:Int
 code:List RI
def lowP(p:Prg)(r:Rp):LCode:=⟨p.arrs,p.locs+r.hgt+1,lowC p.code (p.locs+r.hgt) (mostAt r.inv) p.code.length 0 p.locs []⟩
def cntI(op:Int):Nat:=if op=6 then 0 else if op=7 then 3 else 1
theorem lowI_len(next spare most:Int)(i:Ins):(lowI next spare most i).length=cntI i.op:=by
 unfold lowI cntI
 repeat' split
 all_goals first | rfl | omega
def cntC(c:List Ins):Nat→Nat→Nat
 | 0,_=>0
 | k+1,at_=>cntI (oI c at_)+cntC c k (at_+1)
theorem lowC_len(c:List Ins)(spare:Int)(most:Nat→Int):∀ (k at_:Nat) (next:Int) (bases:List Int),(lowC c spare most k at_ next bases).length=cntC c k at_
 | 0,_,_,_=>rfl
 | k+1,at_,next,bases=>by
  unfold lowC cntC
  rw [List.length_append,lowI_len,lowC_len c spare most k]
  rfl
def FedT(p:Prg):Tr→Nat→Nat→Prop
 | .nil,_,_=>True
 | .ins r,lo,n=>popsN (oI p.code lo)≤n∧FedT p r (lo+1) (n-popsN (oI p.code lo)+pushsN (oI p.code lo))
 | .ift a r,lo,n=>1≤n∧FedT p a (lo+1) (n-1)∧(hT p a (lo+1) (n-1)).1=n-1∧FedT p r (lo+2+a.size) (n-1)
 | .ife a d r,lo,n=>1≤n∧FedT p a (lo+1) (n-1)∧(hT p a (lo+1) (n-1)).1=n-1∧FedT p d (lo+2+a.size) (n-1)∧(hT p d (lo+2+a.size) (n-1)).1=n-1∧FedT p r (lo+3+a.size+d.size) (n-1)
 | .lp a r,lo,n=>1≤n∧FedT p a (lo+1) (n-1)∧(hT p a (lo+1) (n-1)).1=n-1∧FedT p r (lo+2+a.size) (n-1)
theorem popA_le{stk:List Vl}{base:Nat}{ty:List UInt8}{r l:List Vl}(h:popA stk base ty=.ok (r,l)):base+ty.length≤stk.length:=by
 unfold popA at h
 split at h
 ·cases h
 ·omega
theorem pushN_eq{op:Int}(h0:0≤op)(h1:op < 36)(h2:op≠27∧op≠28∧op≠29∧op≠31):pushN op=pushsN op:=by
 have key:∀ k:Fin 36,(k.1≠27∧k.1≠28∧k.1≠29∧k.1≠31)→pushN (k.1:Int)=pushsN (k.1:Int):=by decide +kernel
 have:=key ⟨op.toNat,by omega⟩ (by simp only [];omega)
 simp only [] at this
 rw [show ((op.toNat:Nat):Int)=op by omega] at this
 exact this
theorem insA_pops{p:Prg}{lo base loop:Nat}{st st':St}{s e:Int}(h:insA p lo base loop st=.ok st' s e):popsN (oI p.code lo)≤st.stk.length:=by
 unfold insA at h
 split at h
 ·rename_i h30
  rw [h30]
  cases hp:popA st.stk base [116] with
  | error x=>rw [hp] at h;cases h
  | ok rl=>
   obtain⟨r,l⟩:=rl
   have:=popA_le hp
   have e:popsN 30=1:=by decide +kernel
   simp at this
   omega
 ·unfold plA at h
  cases hp:popA st.stk base (opX (oI p.code lo)).pops with
  | error x=>rw [hp] at h;cases h
  | ok rl=>
   obtain⟨r,l⟩:=rl
   have:=popA_le hp
   unfold popsN
   omega
theorem passA_first{c:List Ins}{h:Hd}{lo hi height:Nat}{body:St→ER}:∀ (k pass:Nat) (head:List Iv) (st st':St) (s e:Int),passA c h lo hi height body k pass head st=.ok st' s e→st'.stk.length=height∧∃ s0 s1 u v,s0.stk=st.stk∧body s0=.ok s1 u v∧s1.stk.length=height:=by
 intro k
 induction k with
 | zero=>intro pass head st st' s e h;cases h
 | succ k ih=>
  intro pass head st st' s e h
  unfold passA at h
  obtain⟨s1,u,v,h1,h2⟩:=ER.bind_ok h
  split at h2
  ·cases h2
  rename_i hl
  have hl:s1.stk.length=height:=by simpa using hl
  refine⟨?_,{ st with locs:=head,lvs:=[] },s1,u,v,rfl,h1,hl⟩
  split at h2
  ·injection h2 with h2
   rw [←h2]
   exact hl
  ·split at h2
   ·cases h2
   ·exact (ih _ _ _ _ _ _ h2).1
theorem fed_of{p:Prg}{h:Hd}(hr:∀ k,k < p.code.length→0≤oI p.code k∧oI p.code k < 36):∀ (t:Tr) (lo base loop:Nat) (st st':St) (s e s' e':Int) (b:Bool),Fit p.code b lo t→lo+t.size≤p.code.length→anaT p h t lo base loop st s e=.ok st' s' e'→base≤st.stk.length→FedT p t lo st.stk.length:=by
 intro t
 induction t with
 | nil=>intro lo base loop st st' s e s' e' b _ _ _ _;trivial
 | ins r ih=>
  intro lo base loop st st' s e s' e' b hf hl ha hb
  simp only [Tr.size] at hl
  rw [anaT_ins] at ha
  obtain⟨s1,u,v,q1,q2⟩:=ER.bind_ok ha
  have h1:=insA_pops q1
  have h2:=(anaT_hgt (h:=h) (.ins .nil) lo base loop st s1 0 0 (capS 0 u) (capS 0 v) (by rw [anaT_ins,q1];rfl) hb).1.1
  obtain⟨r0,r1⟩:=hr lo (by omega)
  have h3:(hT p (.ins .nil) lo st.stk.length).1=st.stk.length-popsN (oI p.code lo)+pushsN (oI p.code lo):=by
   show st.stk.length-(if oI p.code lo=30 then 1 else (opX (oI p.code lo)).pops.length)+pushN (oI p.code lo)=_
   rw [pushN_eq r0 r1 ⟨hf.1,hf.2.1,hf.2.2.1,hf.2.2.2.1⟩]
   congr 2
   split
   ·rename_i h30;rw [h30];decide +kernel
   ·rfl
  refine⟨h1,?_⟩
  rw [←h3,←h2]
  exact ih _ _ _ _ _ _ _ _ _ b hf.2.2.2.2.2 (by omega) q2 (insA_base q1).1
 | ift a r iha ih=>
  intro lo base loop st st' s e s' e' b hf hl ha hb
  simp only [Tr.size] at hl
  unfold anaT at ha
  cases hp:popA st.stk base [116] with
  | error x=>rw [hp] at ha;cases ha
  | ok rl=>
   obtain⟨rest,l⟩:=rl
   rw [hp] at ha
   simp only [] at ha
   have hle:=popA_le hp
   obtain⟨g1,g2,-⟩:=popA_len hp
   simp only [List.length_cons,List.length_nil] at hle g1
   obtain⟨s1,u,v,h3,h4⟩:=ER.bind_ok ha
   split at h4
   ·cases h4
   rename_i hg
   have hg:s1.stk.length=rest.length:=by simpa using hg
   have f1:=iha _ _ _ _ _ _ _ _ _ b hf.2.1 (by omega) h3 (Nat.le_refl _)
   have f2:=(anaT_hgt _ _ _ _ _ _ _ _ _ _ h3 (Nat.le_refl _)).1.1
   simp only [] at f1 f2
   have f3:=ih _ _ _ _ _ _ _ _ _ b hf.2.2.2 (by omega) h4 (by simp only [];omega)
   simp only [] at f3
   rw [hg,g1] at f3
   rw [hg] at f2
   rw [g1] at f1 f2
   exact⟨by omega,f1,f2.symm,f3⟩
 | ife a d r iha ihd ih=>
  intro lo base loop st st' s e s' e' b hf hl ha hb
  simp only [Tr.size] at hl
  unfold anaT at ha
  cases hp:popA st.stk base [116] with
  | error x=>rw [hp] at ha;cases ha
  | ok rl=>
   obtain⟨rest,l⟩:=rl
   rw [hp] at ha
   simp only [] at ha
   have hle:=popA_le hp
   obtain⟨g1,g2,-⟩:=popA_len hp
   simp only [List.length_cons,List.length_nil] at hle g1
   obtain⟨s1,u,v,h3,h4⟩:=ER.bind_ok ha
   split at h4
   ·cases h4
   rename_i hg
   have hg:s1.stk.length=rest.length:=by simpa using hg
   obtain⟨s2,u2,v2,h5,h6⟩:=ER.bind_ok h4
   split at h6
   ·cases h6
   rename_i hg2
   have hg2:s2.stk.length=rest.length:=by simpa using hg2
   have f1:=iha _ _ _ _ _ _ _ _ _ b hf.2.1 (by omega) h3 (Nat.le_refl _)
   have f2:=(anaT_hgt _ _ _ _ _ _ _ _ _ _ h3 (Nat.le_refl _)).1.1
   have f4:=ihd _ _ _ _ _ _ _ _ _ b hf.2.2.2.1 (by omega) h5 (by simp only [];omega)
   have f5:=(anaT_hgt _ _ _ _ _ _ _ _ _ _ h5 (by simp only [];omega)).1.1
   have f3:=ih _ _ _ _ _ _ _ _ _ b hf.2.2.2.2.2 (by omega) h6 (by simp only [];omega)
   simp only [] at f1 f2 f3 f4 f5
   rw [hg2,g1] at f3
   rw [hg] at f2 f4 f5
   rw [hg2] at f5
   rw [g1] at f1 f2 f4 f5
   exact⟨by omega,f1,f2.symm,f4,f5.symm,f3⟩
 | lp a r iha ih=>
  intro lo base loop st st' s e s' e' b hf hl ha hb
  simp only [Tr.size] at hl
  unfold anaT at ha
  cases hp:popA st.stk base [110] with
  | error x=>rw [hp] at ha;cases ha
  | ok rl=>
   obtain⟨rest,l⟩:=rl
   rw [hp] at ha
   simp only [] at ha
   have hle:=popA_le hp
   obtain⟨g1,g2,-⟩:=popA_len hp
   simp only [List.length_cons,List.length_nil] at hle g1
   split at ha
   ·cases ha
   cases hen:enterA h lo (gV l 0).iv.hi st.locs with
   | error x=>rw [hen] at ha;cases ha
   | ok hm=>
    obtain⟨head,most⟩:=hm
    rw [hen] at ha
    simp only [] at ha
    obtain⟨s1,u,v,h3,h4⟩:=ER.bind_ok ha
    obtain⟨k1,s0,s2,u2,v2,k2,k3,k4⟩:=passA_first _ _ _ _ _ _ _ h3
    simp only [] at k2
    have f1:=iha _ _ _ _ _ _ _ _ _ true hf.2.1 (by omega) k3 (by rw [k2];exact Nat.le_refl _)
    have f2:=(anaT_hgt _ _ _ _ _ _ _ _ _ _ k3 (by rw [k2];exact Nat.le_refl _)).1.1
    have f3:=ih _ _ _ _ _ _ _ _ _ b hf.2.2.2 (by omega) h4 (by simp only [];omega)
    simp only [] at f3
    rw [k1,g1] at f3
    rw [k2,g1] at f1 f2
    rw [k4,g1] at f2
    exact⟨by omega,f1,f2.symm,f3⟩
end Go.Proofs.YtpaplehcafeeaaaGreatDoor
