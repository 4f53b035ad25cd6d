/- Rm Rn. -/
import Derived.Test.YtpaplehcafeeaaaGreatDoorLE23
set_option maxRecDepth 100000
set_option maxHeartbeats 40000000
set_option linter.unusedVariables false
set_option linter.unusedSimpArgs false
namespace Go.Proofs.YtpaplehcafeeaaaGreatDoor
open Go.RowKit Go.Proofs
def lowS(c:List Ins):Nat→Nat→Int→List Int→Int × List Int
 | 0,_,next,bases=>(next,bases)
 | k+1,at_,next,bases=>lowS c k (at_+1) (lowN next bases (oI c at_)).1 (lowN next bases (oI c at_)).2
theorem lowS_add(c:List Ins):∀ (a b at_:Nat) (next:Int) (bases:List Int),lowS c (a+b) at_ next bases=lowS c b (at_+a) (lowS c a at_ next bases).1 (lowS c a at_ next bases).2
 | 0,b,at_,next,bases=>by rw [Nat.zero_add,Nat.add_zero];rfl
 | a+1,b,at_,next,bases=>by
  rw [show a+1+b=(a+b)+1 by omega]
  show lowS c (a+b) (at_+1) _ _=_
  rw [lowS_add c a b,show at_+1+a=at_+(a+1) by omega]
  rfl
theorem lowC_add(c:List Ins)(spare:Int)(most:Nat→Int):∀ (a b at_:Nat) (next:Int) (bases:List Int),lowC c spare most (a+b) at_ next bases=lowC c spare most a at_ next bases++lowC c spare most b (at_+a) (lowS c a at_ next bases).1 (lowS c a at_ next bases).2
 | 0,b,at_,next,bases=>by rw [Nat.zero_add,Nat.add_zero];rfl
 | a+1,b,at_,next,bases=>by
  rw [show a+1+b=(a+b)+1 by omega]
  show lowI next spare (most at_) (gI c at_)++lowC c spare most (a+b) (at_+1) _ _=_
  rw [lowC_add c spare most a b,show at_+1+a=at_+(a+1) by omega,←List.append_assoc]
  rfl
theorem lowS_one(c:List Ins)(at_:Nat)(next:Int)(bases:List Int):lowS c 1 at_ next bases=lowN next bases (oI c at_):=rfl
theorem lowC_one(c:List Ins)(spare:Int)(most:Nat→Int)(at_:Nat)(next:Int)(bases:List Int):lowC c spare most 1 at_ next bases=lowI next spare (most at_) (gI c at_):=List.append_nil _
def readsR(x:RI):List Int:=(if shA x.op then [x.a] else [])++(if shB x.op then [x.b] else [])
def toR(x:RI):Int:=if shTo x.op then x.dst else -1
def wGet(W:List Bool)(r:Int):Bool:=W.getD r.toNat false
def wSet(W:List Bool)(r:Int):List Bool:=if 0≤r then W.set r.toNat true else W
def readOk(L R:Int)(W:List Bool)(r:Int):Bool:=decide (0≤r) && decide (r < R) && (decide (r < L) || wGet W r)
def wrOk(L R:Int):List Bool→List RI→Bool
 | _,[]=>true
 | W,x :: l=>((readsR x).all (readOk L R W) && decide (toR x < R∧(shTo x.op=true→0≤toR x))) && wrOk L R (wSet W (toR x)) l
theorem wrOk_cons(L R:Int)(W:List Bool)(x:RI)(l:List RI):wrOk L R W (x :: l)=(((readsR x).all (readOk L R W) && decide (toR x < R∧(shTo x.op=true→0≤toR x))) && wrOk L R (wSet W (toR x)) l):=rfl
theorem wrOk_append(L R:Int):∀ (l m:List RI) (W:List Bool),wrOk L R W (l++m)=(wrOk L R W l && wrOk L R (l.foldl (fun W x=>wSet W (toR x)) W) m)
 | [],m,W=>by rw [List.nil_append];rfl
 | x :: l,m,W=>by rw [List.cons_append,wrOk_cons,wrOk_cons,wrOk_append L R l m,List.foldl_cons];simp only [Bool.and_assoc]
def InvW(L R:Int)(W:List Bool)(hi:Int):Prop:=(W.length:Int)=R∧∀ r,L≤r→r < hi→wGet W r=true
theorem wGet_set{W:List Bool}{r q:Int}(h:wGet W q=true):wGet (wSet W r) q=true:=by
 unfold wSet
 split
 ·unfold wGet at h ⊢
  rw [List.getD_eq_getElem?_getD,List.getElem?_set]
  split
  ·split
   ·rfl
   ·rename_i h1 h2
    rw [List.getD_eq_getElem?_getD,List.getElem?_eq_none (by omega)] at h
    cases h
  ·rw [←List.getD_eq_getElem?_getD];exact h
 ·exact h
theorem wGet_self{W:List Bool}{r:Int}(h0:0≤r)(h1:r < W.length):wGet (wSet W r) r=true:=by
 unfold wSet wGet
 rw [if_pos h0,List.getD_eq_getElem?_getD,List.getElem?_set_self (by omega)]
 rfl
theorem wSet_len(W:List Bool)(r:Int):(wSet W r).length=W.length:=by
 unfold wSet
 split
 ·rw [List.length_set]
 ·rfl
theorem InvW.set{L R:Int}{W:List Bool}{hi:Int}(h:InvW L R W hi)(r:Int):InvW L R (wSet W r) hi:=⟨by rw [wSet_len];exact h.1,fun q h1 h2=>wGet_set (h.2 q h1 h2)⟩
theorem InvW.push{L R:Int}{W:List Bool}{hi:Int}(h:InvW L R W hi)(h0:0≤L)(h1:L≤hi)(h2:hi < R):InvW L R (wSet W hi) (hi+1):=⟨by rw [wSet_len];exact h.1,fun q h3 h4=>by
 by_cases hq:q=hi
 ·rw [hq];exact wGet_self (by omega) (by have:=h.1;omega)
 ·exact wGet_set (h.2 q h3 (by omega))⟩
theorem InvW.le{L R:Int}{W:List Bool}{hi lo:Int}(h:InvW L R W hi)(hl:lo≤hi):InvW L R W lo:=⟨h.1,fun q h1 h2=>h.2 q h1 (by omega)⟩
theorem InvW.read{L R:Int}{W:List Bool}{hi r:Int}(h:InvW L R W hi)(h0:0≤L)(h1:L≤r)(h2:r < hi)(h3:hi≤R):readOk L R W r=true:=by
 unfold readOk
 rw [h.2 r h1 h2]
 simp
 omega
def foldW(W:List Bool)(l:List RI):List Bool:=l.foldl (fun W x=>wSet W (toR x)) W
def SegOk(L R:Int)(W:List Bool)(l:List RI)(hi:Int):Prop:=wrOk L R W l=true∧InvW L R (foldW W l) hi
theorem SegOk.app{L R:Int}{W:List Bool}{l m:List RI}{hi h2:Int}(h:SegOk L R W l hi)(k:SegOk L R (foldW W l) m h2):SegOk L R W (l++m) h2:=by
 refine⟨?_,?_⟩
 ·rw [wrOk_append,h.1];exact k.1
 ·unfold foldW;rw [List.foldl_append];exact k.2
theorem SegOk.nil{L R:Int}{W:List Bool}{hi:Int}(h:InvW L R W hi):SegOk L R W [] hi:=⟨rfl,h⟩
theorem table_low:∀ k:Fin 36,k.1≠1→k.1≠2→k.1≠5→k.1≠6→k.1≠7→k.1≠29→(shA (k.1:Int)=true→1≤popsN (k.1:Int))∧(shB (k.1:Int)=true→2≤popsN (k.1:Int))∧pushsN (k.1:Int)=(if shTo (k.1:Int) then 1 else 0):=by decide +kernel
theorem table_five:popsN 1=0∧pushsN 1=1∧popsN 2=1∧pushsN 2=0∧popsN 5=1∧pushsN 5=2∧popsN 6=1∧pushsN 6=0∧popsN 7=2∧pushsN 7=2∧popsN 29=1∧pushsN 29=0:=by decide +kernel
theorem sh36:shA 36=true∧shB 36=false∧shTo 36=true∧shA 29=true∧shB 29=false∧shTo 29=false:=by decide +kernel
theorem readOk_loc{L R:Int}{W:List Bool}{r:Int}(h0:0≤r)(h1:r < L)(h2:L≤R):readOk L R W r=true:=by
 unfold readOk
 rw [decide_eq_true h0,decide_eq_true (show r < R by omega),decide_eq_true h1]
 rfl
theorem seg_one{L R:Int}{W:List Bool}{x:RI}{hi:Int}(h1:(readsR x).all (readOk L R W)=true)(h2:toR x < R)(h3:InvW L R (wSet W (toR x)) hi)(h4:shTo x.op=true→0≤toR x):SegOk L R W [x] hi:=⟨by rw [wrOk_cons,h1,decide_eq_true (show toR x < R∧(shTo x.op=true→0≤toR x) from ⟨h2,h4⟩)];rfl,h3⟩
theorem wr_one{L H:Int}(hL:0≤L)(most:Int)(i:Ins)(h0:0≤i.op∧i.op < 36)(ha:i.op=1∨i.op=2→0≤i.arg∧i.arg < L){n:Nat}(hn:popsN i.op≤n)(hH:(n:Int)≤H)(hm:((n-popsN i.op+pushsN i.op:Nat):Int)≤H){W:List Bool}(hW:InvW L (L+H+1) W (L+n)) :
  SegOk L (L+H+1) W (lowI (L+n) (L+H) most i) (L+((n-popsN i.op+pushsN i.op:Nat):Int)):=by
 obtain⟨t1,t2,t3,t4,t5,t6,t7,t8,t9,t10,t11,t12⟩:=table_five
 obtain⟨s1,s2,s3,s4,s5,s6⟩:=sh36
 obtain⟨op,arg⟩:=i
 simp only [] at h0 ha hn hm ⊢
 unfold lowI
 simp only []
 by_cases h1:op=1
 ·subst h1
  rw [if_pos rfl]
  obtain⟨a0,a1⟩:=ha (.inl rfl)
  rw [t1,t2]
  refine seg_one ?_ ?_ ?_ ?_
  ·show (((if shA 36 then [arg] else [])++(if shB 36 then [-1] else [])).all _)=true
   rw [s1,s2]
   show (readOk _ _ _ arg && true)=true
   rw [readOk_loc a0 a1 (by omega)];rfl
  ·show (if shTo 36 then _ else _) < _
   rw [s3];show L+(n:Int) < _;omega
  ·show InvW _ _ (wSet W (if shTo 36 then _ else _)) _
   rw [s3]
   have:=hW.push hL (by omega) (by omega)
   have e:L+((n-0+1:Nat):Int)=L+n+1:=by omega
   rw [e]
   exact this
  ·intro _
   show 0≤(if shTo 36 then L+(n:Int) else _)
   rw [s3];show 0≤L+(n:Int);omega
 rw [if_neg h1]
 by_cases h2:op=2
 ·subst h2
  rw [if_pos rfl]
  obtain⟨a0,a1⟩:=ha (.inr rfl)
  rw [t3] at hn
  rw [t3,t4]
  refine seg_one ?_ ?_ ?_ ?_
  ·show (((if shA 36 then [L+(n:Int)-1] else [])++(if shB 36 then [-1] else [])).all _)=true
   rw [s1,s2]
   show (readOk _ _ _ (L+(n:Int)-1) && true)=true
   rw [hW.read hL (by omega) (by omega) (by omega)];rfl
  ·show (if shTo 36 then _ else _) < _
   rw [s3];show arg < _;omega
  ·exact (hW.set _).le (by omega)
  ·intro _
   show 0≤(if shTo 36 then arg else _)
   rw [s3];exact a0
 rw [if_neg h2]
 by_cases h5:op=5
 ·subst h5
  rw [if_pos rfl]
  rw [t5] at hn
  rw [t5,t6] at hm
  rw [t5,t6]
  refine seg_one ?_ ?_ ?_ ?_
  ·show (((if shA 36 then [L+(n:Int)-1] else [])++(if shB 36 then [-1] else [])).all _)=true
   rw [s1,s2]
   show (readOk _ _ _ (L+(n:Int)-1) && true)=true
   rw [hW.read hL (by omega) (by omega) (by omega)];rfl
  ·show (if shTo 36 then _ else _) < _
   rw [s3];show L+(n:Int) < _;omega
  ·show InvW _ _ (wSet W (if shTo 36 then _ else _)) _
   rw [s3]
   have:=hW.push hL (by omega) (by omega)
   have e:L+((n-1+2:Nat):Int)=L+n+1:=by omega
   rw [e]
   exact this
  ·intro _
   show 0≤(if shTo 36 then L+(n:Int) else _)
   rw [s3];show 0≤L+(n:Int);omega
 rw [if_neg h5]
 by_cases h6:op=6
 ·subst h6
  rw [if_pos rfl]
  exact SegOk.nil (hW.le (by rw [t7,t8];omega))
 rw [if_neg h6]
 by_cases h7:op=7
 ·subst h7
  rw [if_pos rfl]
  rw [t9] at hn
  rw [t9,t10]
  have e:L+((n-2+2:Nat):Int)=L+n:=by omega
  rw [e]
  have hw1:=hW.set (L+H)
  have hw2:=hw1.set (L+n-1)
  have g1:wGet (wSet W (L+H)) (L+H)=true:=wGet_self (by omega) (by have:=hW.1;omega)
  have g2:wGet (wSet (wSet W (L+H)) (L+n-1)) (L+H)=true:=wGet_set g1
  have to36:∀ d a:Int,toR ⟨36,d,a,-1,0⟩=d:=fun d a=>by show (if shTo 36 then _ else _)=_;rw [s3];rfl
  have rd36:∀ d a:Int,readsR ⟨36,d,a,-1,0⟩=[a]:=fun d a=>by show ((if shA 36 then [a] else [])++(if shB 36 then [-1] else []))=_;rw [s1,s2];rfl
  refine SegOk.app (l:=[_]) (hi:=L+n) (seg_one ?_ ?_ ?_ ?_) (SegOk.app (l:=[_]) (m:=[_]) (hi:=L+n) (seg_one ?_ ?_ ?_ ?_) (seg_one ?_ ?_ ?_ ?_))
  ·rw [rd36];show (readOk _ _ _ _ && true)=true;rw [hW.read hL (by omega) (by omega) (by omega)];rfl
  ·rw [to36];omega
  ·rw [to36];exact hw1
  ·intro _;rw [to36];omega
  ·rw [rd36]
   show (readOk _ _ (wSet W (toR _)) _ && true)=true
   rw [to36,hw1.read hL (by omega) (by omega) (by omega)];rfl
  ·rw [to36];omega
  ·show InvW _ _ (wSet (wSet W (toR _)) (toR _)) _
   rw [to36,to36];exact hw2
  ·intro _;rw [to36];omega
  ·rw [rd36]
   show (readOk _ _ (wSet (wSet W (toR _)) (toR _)) _ && true)=true
   rw [to36,to36]
   unfold readOk
   rw [g2]
   simp
   omega
  ·rw [to36];omega
  ·show InvW _ _ (wSet (wSet (wSet W (toR _)) (toR _)) (toR _)) _
   rw [to36,to36,to36]
   exact hw2.set _
  ·intro _;rw [to36];omega
 rw [if_neg h7]
 by_cases h29:op=29
 ·subst h29
  rw [if_pos rfl]
  rw [t11] at hn
  rw [t11,t12]
  refine seg_one ?_ ?_ ?_ ?_
  ·show (((if shA 29 then [L+(n:Int)-1] else [])++(if shB 29 then [-1] else [])).all _)=true
   rw [s4,s5]
   show (readOk _ _ _ (L+(n:Int)-1) && true)=true
   rw [hW.read hL (by omega) (by omega) (by omega)];rfl
  ·show (if shTo 29 then _ else _) < _
   rw [s6];show (-1:Int) < _;omega
  ·exact (hW.set _).le (by omega)
  ·intro h
   have h:shTo 29=true:=h
   rw [s6] at h
   cases h
 rw [if_neg h29]
 obtain⟨k,hk⟩:∃ k:Nat,op=(k:Int):=⟨op.toNat,by omega⟩
 subst hk
 obtain⟨q1,q2,q3⟩:=table_low ⟨k,by omega⟩ (by simp only [];omega) (by simp only [];omega) (by simp only [];omega) (by simp only [];omega) (by simp only [];omega) (by simp only [];omega)
 simp only [] at q1 q2 q3
 obtain⟨po,hpo⟩:∃ po,po=popsN (k:Int):=⟨_,rfl⟩
 rw [←hpo] at q1 q2 hn hm ⊢
 rw [q3] at hm ⊢
 cases hA:shA (k:Int) <;> cases hB:shB (k:Int) <;> cases hT:shTo (k:Int)
 all_goals
  try rw [hA] at q1
  try rw [hB] at q2
  try rw [hT] at hm
  simp only [if_true,if_false,Bool.false_eq_true,false_implies,true_implies] at q1 q2 hm ⊢
  refine seg_one ?_ ?_ ?_ ?_
  ·unfold readsR
   simp only [hA,hB]
   simp only [if_true,if_false,Bool.false_eq_true,List.nil_append,List.append_nil,List.cons_append,List.all_cons,List.all_nil,Bool.and_true]
   try rw [hW.read hL (by omega) (by omega) (by omega)]
   try rw [hW.read hL (by omega) (by omega) (by omega)]
   try rfl
  ·unfold toR
   simp only [hT]
   simp only [if_true,if_false,Bool.false_eq_true]
   omega
  ·unfold toR
   simp only [hT]
   simp only [if_true,if_false,Bool.false_eq_true]
   first
    | exact (hW.set _).le (by omega)
    | (have h9:=(hW.le (lo:=L+n-po) (by omega)).push hL (by omega) (by omega)
       have e:L+((n-po+1:Nat):Int)=L+n-po+1:=by omega
       rw [e]
       exact h9)
  ·intro h
   have h:shTo (k:Int)=true:=h
   first
    | (rw [hT] at h;cases h;done)
    | (unfold toR;simp only [hT];simp only [if_true];omega)
theorem lowN_plain{next:Int}{bases:List Int}{op:Int}(h:op≠27∧op≠28∧op≠29∧op≠31):lowN next bases op=(next+((pushsN op:Int)-popsN op),bases):=by
 unfold lowN
 simp only []
 rw [if_neg (by omega),if_neg (by omega),if_neg (by omega)]
theorem table_blk:popsN 27=1∧pushsN 27=0∧popsN 28=0∧pushsN 28=0∧popsN 29=1∧pushsN 29=0∧popsN 31=0∧pushsN 31=0∧popsN 30=1:=by decide +kernel
theorem lowN_open{L:Int}{n:Nat}{bases:List Int}{op:Int}(h:op=27∨op=29)(hn:1≤n):lowN (L+n) bases op=(L+((n-1:Nat):Int),(L+((n-1:Nat):Int)) :: bases):=by
 obtain⟨t1,t2,-,-,t5,t6,-⟩:=table_blk
 unfold lowN
 simp only []
 rw [if_pos h]
 have e:L+(n:Int)+((pushsN op:Int)-(popsN op:Int))=L+((n-1:Nat):Int):=by
  rcases h with rfl | rfl
  ·rw [t1,t2];omega
  ·rw [t5,t6];omega
 rw [e]
theorem lowN_else{next x:Int}{bases:List Int}:lowN next (x :: bases) 28=(x,x :: bases):=by
 unfold lowN
 simp only []
 rw [if_neg (by omega),if_pos trivial]
 rfl
theorem lowN_end{next x:Int}{bases:List Int}:lowN next (x :: bases) 31=(x,bases):=by
 unfold lowN
 simp only []
 rw [if_neg (by omega),if_neg (by omega),if_pos trivial]
 rfl
section
variable {p : Prg} {L H : Int} {most : Nat → Int}
theorem wr_end(hL:0≤L)(hr:∀ k,k < p.code.length→0≤oI p.code k∧oI p.code k < 36){k n:Nat}(hk:k < p.code.length)(ho:oI p.code k=28∨oI p.code k=31)(hH:(n:Int)≤H){W:List Bool}(hW:InvW L (L+H+1) W (L+n)) :
  SegOk L (L+H+1) W (lowI (L+n) (L+H) (most k) (gI p.code k)) (L+n):=by
 obtain⟨-,-,t3,t4,-,-,t7,t8,-⟩:=table_blk
 have e:popsN (gI p.code k).op=0∧pushsN (gI p.code k).op=0:=by
  have ho:(gI p.code k).op=28∨(gI p.code k).op=31:=ho
  rcases ho with h | h
  ·rw [h];exact⟨t3,t4⟩
  ·rw [h];exact⟨t7,t8⟩
 have:=wr_one hL (most k) (gI p.code k) (hr k hk) (fun h=>by have ho:(gI p.code k).op=28∨(gI p.code k).op=31:=ho;omega) (n:=n) (by omega) hH (by rw [e.1,e.2];omega) hW
 rw [e.1,e.2] at this
 exact this
theorem wr_open(hL:0≤L)(hr:∀ k,k < p.code.length→0≤oI p.code k∧oI p.code k < 36){k n:Nat}(hk:k < p.code.length)(ho:oI p.code k=27∨oI p.code k=29)(hn:1≤n)(hH:(n:Int)≤H){W:List Bool}(hW:InvW L (L+H+1) W (L+n)) :
  SegOk L (L+H+1) W (lowI (L+n) (L+H) (most k) (gI p.code k)) (L+((n-1:Nat):Int)):=by
 obtain⟨t1,t2,-,-,t5,t6,-⟩:=table_blk
 have e:popsN (gI p.code k).op=1∧pushsN (gI p.code k).op=0:=by
  have ho:(gI p.code k).op=27∨(gI p.code k).op=29:=ho
  rcases ho with h | h
  ·rw [h];exact⟨t1,t2⟩
  ·rw [h];exact⟨t5,t6⟩
 have:=wr_one hL (most k) (gI p.code k) (hr k hk) (fun h=>by have ho:(gI p.code k).op=27∨(gI p.code k).op=29:=ho;omega) (n:=n) (by omega) hH (by rw [e.1,e.2];omega) hW
 rw [e.1,e.2] at this
 exact this
theorem wr_tree(hL:0≤L)(hr:∀ k,k < p.code.length→0≤oI p.code k∧oI p.code k < 36)(ha:∀ k,k < p.code.length→oI p.code k=1∨oI p.code k=2→0≤(gI p.code k).arg∧(gI p.code k).arg < L) :
  ∀ (t:Tr) (lo n:Nat) (bases:List Int) (W:List Bool) (b:Bool),Fit p.code b lo t→lo+t.size≤p.code.length→FedT p t lo n→(n:Int)≤H→((hT p t lo n).2:Int)≤H→InvW L (L+H+1) W (L+n) →
  lowS p.code t.size lo (L+n) bases=(L+((hT p t lo n).1:Nat),bases)∧SegOk L (L+H+1) W (lowC p.code (L+H) most t.size lo (L+n) bases) (L+((hT p t lo n).1:Nat)):=by
 intro t
 induction t with
 | nil=>intro lo n bases W b _ _ _ _ _ hW;exact⟨rfl,SegOk.nil hW⟩
 | ins r ih=>
  intro lo n bases W b hf hl hd hn hh hW
  simp only [Tr.size] at hl
  obtain⟨d1,d2⟩:=hd
  have hrl:=hr lo (by omega)
  have hpu:=pushN_eq hrl.1 hrl.2 ⟨hf.1,hf.2.1,hf.2.2.1,hf.2.2.2.1⟩
  have hpo:(if oI p.code lo=30 then 1 else (opX (oI p.code lo)).pops.length)=popsN (oI p.code lo):=by
   split
   ·rename_i h30;rw [h30];exact table_blk.2.2.2.2.2.2.2.2.symm
   ·rfl
  have hT1:hT p (.ins r) lo n=((hT p r (lo+1) (n-popsN (oI p.code lo)+pushsN (oI p.code lo))).1,max (if pushsN (oI p.code lo)=0 then 0 else n-popsN (oI p.code lo)+pushsN (oI p.code lo)) (hT p r (lo+1) (n-popsN (oI p.code lo)+pushsN (oI p.code lo))).2):=by
   rw [←hpu,←hpo];rfl
  rw [hT1] at hh ⊢
  simp only [] at hh ⊢
  obtain⟨m,hm⟩:∃ m,m=n-popsN (oI p.code lo)+pushsN (oI p.code lo):=⟨_,rfl⟩
  rw [←hm] at d2 hh ⊢
  have hmH:(m:Int)≤H:=by
   by_cases h0:pushsN (oI p.code lo)=0
   ·omega
   ·rw [if_neg h0] at hh;omega
  have hh2:((hT p r (lo+1) m).2:Int)≤H:=by omega
  have hone:=wr_one hL (most lo) (gI p.code lo) hrl (ha lo (by omega)) d1 hn (by have hm':m=n-popsN (gI p.code lo).op+pushsN (gI p.code lo).op:=hm;rw [←hm'];exact hmH) hW
  have hone:SegOk L (L+H+1) W (lowI (L+n) (L+H) (most lo) (gI p.code lo)) (L+(m:Int)):=by rw [hm];exact hone
  have hN:lowN (L+n) bases (oI p.code lo)=(L+(m:Int),bases):=by
   rw [lowN_plain ⟨hf.1,hf.2.1,hf.2.2.1,hf.2.2.2.1⟩]
   have:L+(n:Int)+((pushsN (oI p.code lo):Int)-(popsN (oI p.code lo):Int))=L+(m:Int):=by omega
   rw [this]
  obtain⟨i1,i2⟩:=ih (lo+1) m bases _ b hf.2.2.2.2.2 (by omega) d2 hmH hh2 hone.2
  refine⟨?_,?_⟩
  ·show lowS p.code r.size (lo+1) _ _=_
   rw [hN];exact i1
  ·show SegOk _ _ _ (lowI _ _ _ _++lowC p.code (L+H) most r.size (lo+1) _ _) _
   rw [hN];exact hone.app i2
 | ift a r iha ih=>
  intro lo n bases W b hf hl hd hn hh hW
  simp only [Tr.size] at hl
  obtain⟨d1,d2,d3,d4⟩:=hd
  have hh:((max (hT p a (lo+1) (n-1)).2 (hT p r (lo+2+a.size) (n-1)).2:Nat):Int)≤H:=hh
  have o1:=wr_open (most:=most) hL hr (k:=lo) (by omega) (.inl hf.1) d1 hn hW
  obtain⟨a1,a2⟩:=iha (lo+1) (n-1) ((L+((n-1:Nat):Int)) :: bases) _ b hf.2.1 (by omega) d2 (by omega) (by omega) o1.2
  rw [d3] at a1 a2
  have o2:=wr_end (most:=most) hL hr (k:=lo+1+a.size) (n:=n-1) (by omega) (.inr hf.2.2.1) (by omega) a2.2
  obtain⟨b1,b2⟩:=ih (lo+2+a.size) (n-1) bases _ b hf.2.2.2 (by omega) d4 (by omega) (by omega) o2.2
  have hsz:(Tr.ift a r).size=1+(a.size+(1+r.size)):=by simp only [Tr.size];omega
  have e1:lowS p.code 1 lo (L+n) bases=(L+((n-1:Nat):Int),(L+((n-1:Nat):Int)) :: bases):=by rw [lowS_one,hf.1,lowN_open (.inl rfl) d1]
  have e2:lowS p.code 1 (lo+1+a.size) (L+((n-1:Nat):Int)) ((L+((n-1:Nat):Int)) :: bases)=(L+((n-1:Nat):Int),bases):=by rw [lowS_one,hf.2.2.1,lowN_end]
  rw [hsz,lowS_add,lowC_add,lowS_add,lowC_add,lowS_add,lowC_add,e1]
  simp only []
  rw [a1]
  simp only []
  rw [e2,show lo+1+a.size+1=lo+2+a.size by omega,lowC_one,lowC_one]
  exact⟨b1,o1.app (a2.app (o2.app b2))⟩
 | ife a d r iha ihd ih=>
  intro lo n bases W b hf hl hd hn hh hW
  simp only [Tr.size] at hl
  obtain⟨d1,d2,d3,d4,d5,d6⟩:=hd
  have hh:((max (max (hT p a (lo+1) (n-1)).2 (hT p d (lo+2+a.size) (n-1)).2) (hT p r (lo+3+a.size+d.size) (n-1)).2:Nat):Int)≤H:=hh
  have o1:=wr_open (most:=most) hL hr (k:=lo) (by omega) (.inl hf.1) d1 hn hW
  obtain⟨a1,a2⟩:=iha (lo+1) (n-1) ((L+((n-1:Nat):Int)) :: bases) _ b hf.2.1 (by omega) d2 (by omega) (by omega) o1.2
  rw [d3] at a1 a2
  have o2:=wr_end (most:=most) hL hr (k:=lo+1+a.size) (n:=n-1) (by omega) (.inl hf.2.2.1) (by omega) a2.2
  obtain⟨c1,c2⟩:=ihd (lo+2+a.size) (n-1) ((L+((n-1:Nat):Int)) :: bases) _ b hf.2.2.2.1 (by omega) d4 (by omega) (by omega) o2.2
  rw [d5] at c1 c2
  have o3:=wr_end (most:=most) hL hr (k:=lo+2+a.size+d.size) (n:=n-1) (by omega) (.inr hf.2.2.2.2.1) (by omega) c2.2
  obtain⟨b1,b2⟩:=ih (lo+3+a.size+d.size) (n-1) bases _ b hf.2.2.2.2.2 (by omega) d6 (by omega) (by omega) o3.2
  have hsz:(Tr.ife a d r).size=1+(a.size+(1+(d.size+(1+r.size)))):=by simp only [Tr.size];omega
  have e1:lowS p.code 1 lo (L+n) bases=(L+((n-1:Nat):Int),(L+((n-1:Nat):Int)) :: bases):=by rw [lowS_one,hf.1,lowN_open (.inl rfl) d1]
  have e2:lowS p.code 1 (lo+1+a.size) (L+((n-1:Nat):Int)) ((L+((n-1:Nat):Int)) :: bases)=(L+((n-1:Nat):Int),(L+((n-1:Nat):Int)) :: bases):=by rw [lowS_one,hf.2.2.1,lowN_else]
  have e3:lowS p.code 1 (lo+2+a.size+d.size) (L+((n-1:Nat):Int)) ((L+((n-1:Nat):Int)) :: bases)=(L+((n-1:Nat):Int),bases):=by rw [lowS_one,hf.2.2.2.2.1,lowN_end]
  rw [hsz,lowS_add,lowC_add,lowS_add,lowC_add,lowS_add,lowC_add,lowS_add,lowC_add,lowS_add,lowC_add,e1]
  simp only []
  rw [a1]
  simp only []
  rw [e2,show lo+1+a.size+1=lo+2+a.size by omega]
  simp only []
  rw [c1]
  simp only []
  rw [e3,show lo+2+a.size+d.size+1=lo+3+a.size+d.size by omega,lowC_one,lowC_one,lowC_one]
  exact⟨b1,o1.app (a2.app (o2.app (c2.app (o3.app b2))))⟩
 | lp a r iha ih=>
  intro lo n bases W b hf hl hd hn hh hW
  simp only [Tr.size] at hl
  obtain⟨d1,d2,d3,d4⟩:=hd
  have hh:((max (hT p a (lo+1) (n-1)).2 (hT p r (lo+2+a.size) (n-1)).2:Nat):Int)≤H:=hh
  have o1:=wr_open (most:=most) hL hr (k:=lo) (by omega) (.inr hf.1) d1 hn hW
  obtain⟨a1,a2⟩:=iha (lo+1) (n-1) ((L+((n-1:Nat):Int)) :: bases) _ true hf.2.1 (by omega) d2 (by omega) (by omega) o1.2
  rw [d3] at a1 a2
  have o2:=wr_end (most:=most) hL hr (k:=lo+1+a.size) (n:=n-1) (by omega) (.inr hf.2.2.1) (by omega) a2.2
  obtain⟨b1,b2⟩:=ih (lo+2+a.size) (n-1) bases _ b hf.2.2.2 (by omega) d4 (by omega) (by omega) o2.2
  have hsz:(Tr.lp a r).size=1+(a.size+(1+r.size)):=by simp only [Tr.size];omega
  have e1:lowS p.code 1 lo (L+n) bases=(L+((n-1:Nat):Int),(L+((n-1:Nat):Int)) :: bases):=by rw [lowS_one,hf.1,lowN_open (.inr rfl) d1]
  have e2:lowS p.code 1 (lo+1+a.size) (L+((n-1:Nat):Int)) ((L+((n-1:Nat):Int)) :: bases)=(L+((n-1:Nat):Int),bases):=by rw [lowS_one,hf.2.2.1,lowN_end]
  rw [hsz,lowS_add,lowC_add,lowS_add,lowC_add,lowS_add,lowC_add,e1]
  simp only []
  rw [a1]
  simp only []
  rw [e2,show lo+1+a.size+1=lo+2+a.size by omega,lowC_one,lowC_one]
  exact⟨b1,o1.app (a2.app (o2.app b2))⟩
end
theorem low_of{p:Prg}{r:Rp}(hwf:∀ x∈p.code,0≤x.arg∧x.arg < 4294967296)(h:verP p=.ok r):PrgOk p∧∃ t,parse p.code=.ok t p.code.length∧Fit p.code false 0 t∧t.size=p.code.length∧FedT p t 0 0∧((hT p t 0 0).2:Int)≤r.hgt∧(hT p t 0 0).1=0∧0≤r.hgt∧r.hgt≤32:=by
 obtain⟨hc,hw,hs⟩:=verP_of h
 obtain⟨hp,-,t,ht,hto⟩:=prgOk_of hwf hc
 have hr:=reports_of hwf h
 rw [hto] at hw
 obtain⟨hf,hsz⟩:=tree_fit ht
 obtain⟨st,ha,hst,hh,-⟩:=whole_of hw
 have h1:=fed_of (fun k hk=>⟨(hp.ins k hk).1,(hp.ins k hk).2.1⟩) t 0 0 0 (st0 p) st 0 0 _ _ false hf (by omega) ha (Nat.zero_le _)
 have h2:=(anaT_hgt _ _ _ _ _ _ _ _ _ _ ha (Nat.zero_le _)).1
 have h3:(st0 p).stk.length=0:=rfl
 have h4:(st0 p).hgt=0:=rfl
 rw [h3] at h1 h2
 rw [h4] at h2
 exact⟨hp,t,ht,hf,hsz,h1,by rw [hh,h2.2];omega,by rw [←h2.1];exact hst,hr.hgt.1,hr.hgt.2⟩
theorem writes_of{p:Prg}{r:Rp}(hwf:∀ x∈p.code,0≤x.arg∧x.arg < 4294967296)(h:verP p=.ok r):wrOk p.locs (p.locs+r.hgt+1) (List.replicate (p.locs+r.hgt+1).toNat false) (lowP p r).code=true:=by
 obtain⟨hp,t,-,hf,hsz,h1,h2,h3,h4,h5⟩:=low_of hwf h
 have hW:InvW p.locs (p.locs+r.hgt+1) (List.replicate (p.locs+r.hgt+1).toNat false) (p.locs+((0:Nat):Int)):=⟨by rw [List.length_replicate];have:=hp.locs;omega,fun q h1 h2=>by omega⟩
 have:=(wr_tree (most:=mostAt r.inv) hp.locs.1 (fun k hk=>⟨(hp.ins k hk).1,(hp.ins k hk).2.1⟩) (fun k hk ho=>⟨(hp.ins k hk).2.2.1,hp.loc k hk ho⟩) t 0 0 [] _ false hf (by omega) h1 h4 h2 hW).2.1
 rw [hsz,show p.locs+((0:Nat):Int)=p.locs by omega] at this
 exact this
def knownR(op:Int):Bool:=decide (0≤op∧op < 39∧op≠1∧op≠2∧op≠5∧op≠6∧op≠7)
def mostR(na spills op:Int):Int:=if op=0 then 4294967295 else if op=3∨op=4 then na-1 else if op=35 then 15 else if op=29 then 65536 else if op=37∨op=38 then spills-1 else 0
def rightR(regs n:Int)(used:Bool):Bool:=if used then decide (0≤n∧n < regs) else decide (n=-1)
def chkRI(na regs spills:Int)(x:RI):Int:=if knownR x.op=false then 1 else if (rightR regs x.dst (shTo x.op) && rightR regs x.a (shA x.op) && rightR regs x.b (shB x.op) && decide (x.arg≤mostR na spills x.op))=false then 2 else 0
structure BkO where
 lp:Bool
 wi:Bool
 ot:Bool
def topO(l:List BkO):BkO:=l.headD ⟨false,false,false⟩
def nest1(op:Int)(l:List BkO):Option (List BkO):=
 if op=27∨op=29 then (if l.length < 8 then some (⟨decide (op=29),decide (op=29) || (topO l).wi,false⟩ :: l) else none)
 else if op=28 then (match l with | []=>none | x :: r=>if x.lp || x.ot then none else some (⟨x.lp,x.wi,true⟩ :: r))
 else if op=30 then (if (topO l).wi then some l else none)
 else if op=31 then (match l with | []=>none | _ :: r=>some r)
 else some l
def nestS:List RI→List BkO→Option (List BkO)
 | [],l=>some l
 | x :: r,l=>match nest1 x.op l with
   | none=>none
   | some l'=>nestS r l'
structure LowOk (p:Prg) (r:Rp):Prop where
 chk:∀ x∈(lowP p r).code,chkRI p.arrs.length (p.locs+r.hgt+1) 0 x=0
 nest:nestS (lowP p r).code []=some []
 len:(lowP p r).code.length≤3072
 regs:0≤p.locs+r.hgt+1∧p.locs+r.hgt+1≤1024
end Go.Proofs.YtpaplehcafeeaaaGreatDoor
