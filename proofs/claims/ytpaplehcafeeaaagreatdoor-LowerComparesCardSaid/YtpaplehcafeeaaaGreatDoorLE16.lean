/- Vd Vz Wt. -/
import Derived.Test.YtpaplehcafeeaaaGreatDoorLE07
set_option maxRecDepth 100000
set_option maxHeartbeats 40000000
set_option linter.unusedVariables false
set_option linter.unusedSimpArgs false
namespace Go.Proofs.YtpaplehcafeeaaaGreatDoor
open Go.RowKit Go.Proofs
structure PrgOk (p:Prg):Prop where
 locs:0≤p.locs∧p.locs≤16
 len:p.code.length≤1024
 arrs:p.arrs.length≤8∧∀ x∈p.arrs,1≤x.size∧x.size≤65536
 ins:∀ k,k < p.code.length→0≤oI p.code k∧oI p.code k < 36∧0≤(gI p.code k).arg∧(gI p.code k).arg < 4294967296
 loc:∀ k,k < p.code.length→oI p.code k=1∨oI p.code k=2→(gI p.code k).arg < p.locs
 arr:∀ k,k < p.code.length→oI p.code k=3∨oI p.code k=4→(gI p.code k).arg < p.arrs.length
def LOk(n:Nat)(l:List Iv):Prop:=l.length=n∧∀ x∈l,ivOk x=true
structure StOk (n:Nat) (st:St):Prop where
 locs:LOk n st.locs
 stk:∀ v∈st.stk,ivOk v.iv=true
 len:st.stk.length≤32
 hgt:st.hgt≤32
 lvs:∀ l∈st.lvs,LOk n l
 inv:∀ x∈st.inv,LOk n x.locs∧0≤x.most∧x.most≤65536
def HdOk(n:Nat):Hd→Prop
 | .widen=>True
 | .given r=>∀ x∈r,LOk n x.locs∧0≤x.most∧x.most≤65536
theorem gL_ok{n:Nat}{l:List Iv}(h:LOk n l)(i:Nat):ivOk (gL l i)=true:=by
 unfold gL
 rw [List.getD_eq_getElem?_getD]
 by_cases hi:i < l.length
 ·rw [List.getElem?_eq_getElem hi]
  exact h.2 _ (List.getElem_mem hi)
 ·rw [List.getElem?_eq_none (by omega)]
  decide
theorem gV_ok{l:List Vl}(h:∀ v∈l,ivOk v.iv=true)(i:Nat):ivOk (gV l i).iv=true:=by
 unfold gV
 rw [List.getD_eq_getElem?_getD]
 by_cases hi:i < l.length
 ·rw [List.getElem?_eq_getElem hi]
  exact h _ (List.getElem_mem hi)
 ·rw [List.getElem?_eq_none (by omega)]
  decide
theorem gL_get{l:List Iv}{i:Nat}(h:i < l.length):gL l i=l[i]:=by simp [gL,List.getD,h]
theorem stored_iff{c:List Ins}{lo hi i:Nat}:stored c lo hi i=true↔∃ k,lo≤k∧k < hi∧k < c.length∧oI c k=2∧(gI c k).arg=(i:Int):=by
 unfold stored
 rw [List.any_eq_true]
 constructor
 ·rintro⟨x,hx,h⟩
  obtain⟨j,hj,rfl⟩:=List.mem_iff_getElem.1 hx
  simp only [List.length_take,List.length_drop] at hj
  simp only [List.getElem_take,List.getElem_drop,decide_eq_true_eq] at h
  refine⟨lo+j,by omega,by omega,by omega,?_,?_⟩
  ·unfold oI gI;rw [List.getD_eq_getElem?_getD,List.getElem?_eq_getElem (by omega)];exact h.1
  ·unfold gI;rw [List.getD_eq_getElem?_getD,List.getElem?_eq_getElem (by omega)];exact h.2
 ·rintro⟨k,h1,h2,h3,h4,h5⟩
  refine⟨c[k],List.mem_iff_getElem.2 ⟨k-lo,by simp;omega,?_⟩,?_⟩
  ·simp only [List.getElem_take,List.getElem_drop]
   congr 1;omega
  ·unfold oI gI at h4
   unfold gI at h5
   rw [List.getD_eq_getElem?_getD,List.getElem?_eq_getElem h3] at h4 h5
   exact decide_eq_true ⟨h4,h5⟩
theorem stored_sub{c:List Ins}{lo hi lo' hi' i:Nat}(h:stored c lo hi i=false)(h1:lo≤lo')(h2:hi'≤hi):stored c lo' hi' i=false:=by
 cases hs:stored c lo' hi' i with
 | false=>rfl
 | true=>
  obtain⟨k,a,b,d⟩:=stored_iff.1 hs
  rw [stored_iff.2 ⟨k,by omega,by omega,d⟩] at h
  exact h
theorem gL_join{n:Nat}{l m:List Iv}(hl:l.length=n)(hm:m.length=n){i:Nat}(hi:i < n):gL (joinL l m) i=ivJoin (gL l i) (gL m i):=by
 unfold joinL
 rw [gL_get (by rw [List.length_zipWith];omega),gL_get (by omega),gL_get (by omega),List.getElem_zipWith]
theorem joinL_ok{n:Nat}{l m:List Iv}(hl:LOk n l)(hm:LOk n m):LOk n (joinL l m):=by
 have h1:(joinL l m).length=n:=by unfold joinL;rw [List.length_zipWith,hl.1,hm.1,Nat.min_self]
 refine⟨h1,fun x hx=>?_⟩
 obtain⟨i,hi,rfl⟩:=List.mem_iff_getElem.1 hx
 rw [←gL_get hi,gL_join hl.1 hm.1 (by omega)]
 exact ivJoin_ok _ _
theorem fold_ok{n:Nat}:∀ (ls:List (List Iv)) (l:List Iv),LOk n l→(∀ m∈ls,LOk n m)→LOk n (ls.foldl joinL l):=by
 intro ls
 induction ls with
 | nil=>intro l h _;exact h
 | cons m ls ih=>intro l h hm;exact ih _ (joinL_ok h (hm m (List.mem_cons_self ..))) (fun x hx=>hm x (List.mem_cons_of_mem _ hx))
theorem fold_same{n i:Nat}{x:Iv}(hi:i < n)(hx:ivOk x=true):∀ (ls:List (List Iv)) (l:List Iv),LOk n l→(∀ m∈ls,LOk n m)→gL l i=x→(∀ m∈ls,gL m i=x)→gL (ls.foldl joinL l) i=x:=by
 intro ls
 induction ls with
 | nil=>intro l _ _ h _;exact h
 | cons m ls ih=>
  intro l h hm e em
  refine ih _ (joinL_ok h (hm m (List.mem_cons_self ..))) (fun x hx=>hm x (List.mem_cons_of_mem _ hx)) ?_ (fun x hx=>em x (List.mem_cons_of_mem _ hx))
  rw [gL_join h.1 (hm m (List.mem_cons_self ..)).1 hi,e,em m (List.mem_cons_self ..),ivJoin_self hx]
theorem withinL_iff{l m:List Iv}:withinL l m=true↔l.length=m.length∧∀ i,i < l.length→ivIn (gL l i) (gL m i)=true:=by
 unfold withinL
 rw [Bool.and_eq_true,decide_eq_true_eq,List.all_eq_true]
 constructor
 ·rintro⟨h1,h2⟩
  refine⟨h1,fun i hi=>?_⟩
  rw [gL_get hi,gL_get (by omega)]
  have h3:=h2 (ivIn l[i] m[i]) (List.mem_iff_getElem.2 ⟨i,by rw [List.length_zipWith];omega,by rw [List.getElem_zipWith]⟩)
  exact h3
 ·rintro⟨h1,h2⟩
  refine⟨h1,fun x hx=>?_⟩
  obtain⟨i,hi,rfl⟩:=List.mem_iff_getElem.1 hx
  rw [List.length_zipWith] at hi
  rw [List.getElem_zipWith,←gL_get (by omega),←gL_get (by omega)]
  exact h2 i (by omega)
theorem nextH_length(c:List Ins)(lo hi pass:Nat)(head fin:List Iv):(nextH c lo hi pass head fin).length=head.length:=by simp [nextH]
theorem gL_nextH{c:List Ins}{lo hi pass:Nat}{head fin:List Iv}{i:Nat}(h:i < head.length):gL (nextH c lo hi pass head fin) i=if pass < 3 then ivWiden (gL head i) (ivJoin (gL head i) (gL fin i)) else if stored c lo hi i then ivFull else gL head i:=by
 rw [gL_get (by rw [nextH_length];exact h)]
 unfold nextH
 rw [List.getElem_map,List.getElem_range]
theorem nextH_ok{n:Nat}{c:List Ins}{lo hi pass:Nat}{head fin:List Iv}(h:LOk n head):LOk n (nextH c lo hi pass head fin):=by
 refine⟨by rw [nextH_length,h.1],fun x hx=>?_⟩
 obtain⟨i,hi,rfl⟩:=List.mem_iff_getElem.1 hx
 have hi':i < head.length:=by rw [←nextH_length c lo _ pass head fin];exact hi
 rw [←gL_get hi,gL_nextH hi']
 split
 ·exact ivWiden_ok _ _
 split
 ·decide
 ·exact gL_ok h i
def UnS(n:Nat)(c:List Ins)(lo hi:Nat)(st st':St):Prop:=∀ i,i < n→stored c lo hi i=false→gL st'.locs i=gL st.locs i∧∀ l∈st'.lvs,l∈st.lvs∨gL l i=gL st.locs i
def GoodR(n:Nat)(R:St→Prop)(x:ER):Prop:=match x with
 | .bad _ _=>True
 | .stuck=>False
 | .ok st s e=>StOk n st∧0≤e∧e≤s∧s≤tooMany∧R st
theorem GoodR.bind{n:Nat}{R R':St→Prop}{x:ER}{f:St→Int→Int→ER}(h:GoodR n R x)(hf:∀ st s e,StOk n st→0≤e→e≤s→s≤tooMany→R st→GoodR n R' (f st s e)):GoodR n R' (x.bind f):=by
 cases x with
 | bad a e=>trivial
 | stuck=>exact h.elim
 | ok st s e=>exact hf st s e h.1 h.2.1 h.2.2.1 h.2.2.2.1 h.2.2.2.2
theorem GoodR.mono{n:Nat}{R R':St→Prop}{x:ER}(h:GoodR n R x)(hR:∀ st,R st→R' st):GoodR n R' x:=by
 cases x with
 | bad a e=>trivial
 | stuck=>exact h.elim
 | ok st s e=>exact⟨h.1,h.2.1,h.2.2.1,h.2.2.2.1,hR _ h.2.2.2.2⟩
theorem popA_ok{stk:List Vl}{base:Nat}{ty:List UInt8}{r l:List Vl}(h:popA stk base ty=.ok (r,l)):r=stk.take (stk.length-ty.length)∧l=stk.drop (stk.length-ty.length)∧base+ty.length≤stk.length:=by
 unfold popA at h
 split at h
 ·cases h
 ·split at h
  ·injection h with h
   injection h with h1 h2
   exact⟨h1.symm,h2.symm,by omega⟩
  ·cases h
theorem popA_rest{n:Nat}{st:St}{base:Nat}{ty:List UInt8}{r l:List Vl}(hs:StOk n st)(h:popA st.stk base ty=.ok (r,l)):StOk n { st with stk:=r }∧(∀ v∈l,ivOk v.iv=true)∧l.length=ty.length∧r.length+ty.length=st.stk.length:=by
 obtain⟨rfl,rfl,hl⟩:=popA_ok h
 refine⟨⟨hs.locs,fun v hv=>hs.stk v (List.mem_of_mem_take hv),?_,hs.hgt,hs.lvs,hs.inv⟩,fun v hv=>hs.stk v (List.mem_of_mem_drop hv),by simp;omega,by simp;omega⟩
 have:=hs.len
 simp only [List.length_take]
 omega
theorem pushA_good{n lo:Nat}{st:St}{l:List Vl}{e:Int}{R:St→Prop}(hs:StOk n st)(hl:∀ v∈l,ivOk v.iv=true)(he:0≤e∧e≤1)(hR:∀ s h,R { st with stk:=s,hgt:=h }):GoodR n R (pushA lo st l e):=by
 unfold pushA
 split
 ·trivial
 ·rename_i h
  refine⟨⟨hs.locs,fun v hv=>?_,by simp only [];omega,?_,hs.lvs,hs.inv⟩,he.1,he.2,by unfold tooMany;omega,hR _ _⟩
  ·rcases List.mem_append.1 hv with h1 | h1
   ·exact hs.stk v h1
   ·exact hl v h1
  ·have:=hs.hgt
   simp only []
   omega
theorem UnS.refl{n:Nat}{c:List Ins}{lo hi:Nat}{st st':St}(h1:st'.locs=st.locs)(h2:st'.lvs=st.lvs):UnS n c lo hi st st':=fun i _ _=>⟨by rw [h1],fun l hl=>.inl (by rw [←h2];exact hl)⟩
theorem UnS.trans{n:Nat}{c:List Ins}{lo mid hi lo' hi':Nat}{st st' st'':St}(h:UnS n c lo mid st st')(h':UnS n c lo' hi' st' st'')(h1:lo≤lo')(h2:mid≤hi)(h3:hi'≤hi):UnS n c lo hi st st'':=fun i hi0 hs=>by
 obtain⟨a,b⟩:=h i hi0 (stored_sub hs (Nat.le_refl _) h2)
 obtain⟨a',b'⟩:=h' i hi0 (stored_sub hs h1 h3)
 refine⟨a'.trans a,fun l hl=>?_⟩
 rcases b' l hl with h4 | h4
 ·exact b l h4
 ·exact .inr (h4.trans a)
theorem num_one{x:Iv}(h:ivOk x=true):∀ v∈[numV x],ivOk v.iv=true:=fun v hv=>by rw [List.mem_singleton.1 hv];exact h
theorem plA_good{p:Prg}{n lo base:Nat}{st:St}(hp:PrgOk p)(hn:p.locs=(n:Int))(hlo:lo < p.code.length)(hs:StOk n st):GoodR n (UnS n p.code lo (lo+1) st) (plA p lo base st):=by
 obtain⟨o1,o2,a1,a2⟩:=hp.ins lo hlo
 unfold plA
 cases hpop:popA st.stk base (opX (oI p.code lo)).pops with
 | error e=>trivial
 | ok rl=>
  obtain⟨r,l⟩:=rl
  obtain⟨h1,h2,h3,h4⟩:=popA_rest hs hpop
  have hu:∀ s h,UnS n p.code lo (lo+1) st { locs:=st.locs,stk:=s,hgt:=h,lvs:=st.lvs,inv:=st.inv }:=fun s h=>UnS.refl rfl rfl
  simp only []
  by_cases c0:oI p.code lo=0
  ·rw [if_pos c0]
   exact pushA_good h1 (num_one (ivOk_iff.2 ⟨a1,Int.le_refl _,by dsimp only;omega⟩)) (by omega) hu
  rw [if_neg c0]
  by_cases c1:oI p.code lo=1
  ·rw [if_pos c1]
   exact pushA_good h1 (num_one (gL_ok hs.locs _)) (by omega) hu
  rw [if_neg c1]
  by_cases c2:oI p.code lo=2
  ·rw [if_pos c2]
   refine⟨⟨⟨by rw [List.length_set];exact hs.locs.1,fun x hx=>?_⟩,h1.stk,h1.len,h1.hgt,h1.lvs,h1.inv⟩,by omega,by omega,by unfold tooMany;omega,fun i hi hst=>⟨?_,fun l hl=>.inl hl⟩⟩
   ·rcases List.mem_or_eq_of_mem_set hx with h | h
    ·exact hs.locs.2 x h
    ·rw [h];exact gV_ok h2 0
   ·have hne:(gI p.code lo).arg.toNat≠i:=fun e=>by
     rw [stored_iff.2 ⟨lo,Nat.le_refl _,by omega,hlo,c2,by omega⟩] at hst
     cases hst
    simp only [gL,List.getD_eq_getElem?_getD,List.getElem?_set_ne hne]
  rw [if_neg c2]
  by_cases c3:oI p.code lo=3
  ·rw [if_pos c3]
   split
   ·trivial
   ·exact pushA_good h1 (num_one (by split <;> decide)) (by omega) hu
  rw [if_neg c3]
  by_cases c4:oI p.code lo=4
  ·rw [if_pos c4]
   split
   ·trivial
   ·exact⟨h1,by omega,by omega,by unfold tooMany;omega,hu _ _⟩
  rw [if_neg c4]
  by_cases c5:oI p.code lo=5
  ·rw [if_pos c5]
   exact pushA_good h1 (fun v hv=>by simp at hv;rw [hv];exact gV_ok h2 _) (by omega) hu
  rw [if_neg c5]
  by_cases c7:oI p.code lo=7
  ·rw [if_pos c7]
   exact pushA_good h1 (fun v hv=>by simp at hv;rcases hv with hv | hv <;> rw [hv] <;> exact gV_ok h2 _) (by omega) hu
  rw [if_neg c7]
  by_cases c6:oI p.code lo=6∨oI p.code lo=35
  ·rw [if_pos c6]
   exact⟨h1,by omega,by omega,by unfold tooMany;omega,hu _ _⟩
  rw [if_neg c6]
  by_cases c34:oI p.code lo=34
  ·rw [if_pos c34]
   exact⟨h1,by omega,by omega,by unfold tooMany;omega,hu _ _⟩
  rw [if_neg c34]
  by_cases c32:oI p.code lo=32
  ·rw [if_pos c32]
   exact pushA_good h1 (num_one (by decide)) (by omega) hu
  rw [if_neg c32]
  by_cases c26:oI p.code lo=26
  ·rw [if_pos c26]
   exact pushA_good h1 (num_one (by decide)) (by omega) hu
  rw [if_neg c26]
  by_cases ct:(opX (oI p.code lo)).pushes=[116]
  ·rw [if_pos ct]
   exact pushA_good h1 (fun v hv=>by rw [List.mem_singleton.1 hv];decide) (by omega) hu
  rw [if_neg ct]
  cases ha:apI (oI p.code lo) (gV l 0).iv (gV l 1).iv with
  | none=>trivial
  | some x=>exact pushA_good h1 (num_one (apI_ok (gV_ok h2 0) (gV_ok h2 1) ha)) (by omega) hu
theorem capS_ok{a b a' b':Int}(h0:0≤b)(h1:b≤a)(h2:0≤b')(h3:b'≤a'):0≤capS b b'∧capS b b'≤capS a a'∧capS a a'≤tooMany:=by
 unfold capS tooMany
 omega
theorem prodS_ok{x y n:Int}(h0:0≤x)(h1:x≤y)(h2:0≤n):0≤prodS x n∧prodS x n≤prodS y n∧prodS y n≤tooMany:=by
 unfold prodS
 have hT:(0:Int)≤tooMany:=by unfold tooMany;omega
 have a:=Int.mul_nonneg h0 h2
 have b:=Int.mul_nonneg (by omega:0≤y) h2
 have c:=Int.mul_le_mul_of_nonneg_right h1 h2
 split <;> split <;> omega
theorem GoodR.cap{n:Nat}{R:St→Prop}{x:ER}(h:GoodR n R x){f:St→Int→Int→ER}{R':St→Prop}{s e:Int}(he:0≤e)(hs:e≤s)(hf:∀ st s' e',StOk n st→R st→0≤e'→e'≤s'→0≤capS e e'→capS e e'≤capS s s'→capS s s'≤tooMany→GoodR n R' (f st s' e')):GoodR n R' (x.bind f):=
 h.bind fun st s' e' h1 h2 h3 h4 h5=>hf st s' e' h1 h5 h2 h3 (capS_ok he hs h2 h3).1 (capS_ok he hs h2 h3).2.1 (capS_ok he hs h2 h3).2.2
def UnH(h:Hd)(n:Nat)(c:List Ins)(lo hi:Nat)(st st':St):Prop:=match h with
 | .widen=>UnS n c lo hi st st'
 | .given _=>True
theorem UnH.of{h:Hd}{n:Nat}{c:List Ins}{lo hi:Nat}{st st':St}(hu:UnS n c lo hi st st'):UnH h n c lo hi st st':=by
 cases h with
 | widen=>exact hu
 | given r=>trivial
theorem UnH.trans{h:Hd}{n:Nat}{c:List Ins}{lo mid hi lo' hi':Nat}{st st' st'':St}(hu:UnH h n c lo mid st st')(h':UnH h n c lo' hi' st' st'')(h1:lo≤lo')(h2:mid≤hi)(h3:hi'≤hi):UnH h n c lo hi st st'':=by
 cases h with
 | widen=>exact UnS.trans hu h' h1 h2 h3
 | given r=>trivial
theorem noteI_ok{n:Nat}{l:List Inv}{x:Inv}(h:∀ x∈l,LOk n x.locs∧0≤x.most∧x.most≤65536)(hx:LOk n x.locs∧0≤x.most∧x.most≤65536):∀ y∈noteI l x,LOk n y.locs∧0≤y.most∧y.most≤65536:=by
 unfold noteI
 intro y hy
 split at hy
 ·obtain⟨z,hz,rfl⟩:=List.mem_map.1 hy
  split
  ·exact hx
  ·exact h z hz
 ·rcases List.mem_append.1 hy with h1 | h1
  ·exact h y h1
  ·rw [List.mem_singleton.1 h1];exact hx
theorem passA_good{n:Nat}{c:List Ins}{h:Hd}{lo hi height:Nat}{body:St→ER}(hb:∀ s0,StOk n s0→GoodR n (UnH h n c lo hi s0) (body s0)) :
  ∀ k pass head st,StOk n st→LOk n head→(h=.widen→1≤pass∧pass≤4∧5≤k+pass∧(pass=4→∀ i,i < n→stored c lo hi i=true→gL head i=ivFull))→0 < k →
   GoodR n (fun st'=>h=.widen→∀ i,i < n→stored c lo hi i=false→gL st'.locs i=gL head i∧∀ l∈st'.lvs,gL l i=gL head i) (passA c h lo hi height body k pass head st):=by
 intro k
 induction k with
 | zero=>intro pass head st _ _ _ h0;omega
 | succ k ih=>
  intro pass head st hs hh hw _
  unfold passA
  have hs0:StOk n { st with locs:=head,lvs:=[] }:=⟨hh,hs.stk,hs.len,hs.hgt,fun l hl=>absurd hl (List.not_mem_nil),hs.inv⟩
  refine (hb _ hs0).bind fun st' s e h1 h2 h3 h4 h5=>?_
  split
  ·trivial
  split
  ·rename_i hin
   refine⟨⟨hh,h1.stk,h1.len,h1.hgt,h1.lvs,h1.inv⟩,h2,h3,h4,fun hwd i hi0 hst=>⟨rfl,fun l hl=>?_⟩⟩
   subst hwd
   rcases (h5 i hi0 hst).2 l hl with h6 | h6
   ·exact absurd h6 (List.not_mem_nil)
   ·exact h6
  ·rename_i hnin
   cases h with
   | given r=>trivial
   | widen=>
    simp only []
    obtain⟨w1,w2,w3,w4⟩:=hw rfl
    by_cases h40:pass=4
    ·exfalso
     refine hnin (withinL_iff.2 ⟨by rw [h1.locs.1,hh.1],fun i hi0=>?_⟩)
     rw [h1.locs.1] at hi0
     cases hst:stored c lo hi i with
     | true=>rw [w4 h40 i hi0 hst];exact ivIn_full (gL_ok h1.locs i)
     | false=>
      rw [(h5 i hi0 hst).1]
      exact ivIn_self (gL_ok hh i)
    ·refine (ih (pass+1) _ st' h1 (nextH_ok hh) (fun _=>⟨by omega,by omega,by omega,fun h4' i hi0 hst=>?_⟩) (by omega)).mono fun st2 h6 hwd i hi0 hst=>?_
     ·rw [gL_nextH (by rw [hh.1];exact hi0),if_neg (by omega),if_pos hst]
     ·have e1:gL (nextH c lo hi pass head st'.locs) i=gL head i:=by
       rw [gL_nextH (by rw [hh.1];exact hi0)]
       split
       ·rw [(h5 i hi0 hst).1]
        rw [ivJoin_self (gL_ok hh i),ivWiden_self (gL_ok hh i)]
       ·rw [if_neg (by rw [hst];decide)]
      rw [←e1]
      exact h6 rfl i hi0 hst
theorem enterA_ok{n lo:Nat}{h:Hd}{most m:Int}{locs head:List Iv}(hh:HdOk n h)(hl:LOk n locs)(h0:0≤most∧most≤65536)(he:enterA h lo most locs=.ok (head,m)):LOk n head∧(0≤m∧m≤65536)∧(h=.widen→head=locs):=by
 unfold enterA at he
 cases h with
 | widen=>
  injection he with he
  injection he with e1 e2
  exact⟨e1 ▸ hl,e2 ▸ h0,fun _=>e1.symm⟩
 | given r=>
  simp only [] at he
  cases hx:invAt r lo with
  | none=>rw [hx] at he;cases he
  | some x=>
   rw [hx] at he
   simp only [] at he
   split at he
   ·cases he
   ·split at he
    ·injection he with he
     injection he with e1 e2
     have hm:x∈r:=List.mem_of_find?_eq_some hx
     exact⟨e1 ▸ (hh x hm).1,e2 ▸ (hh x hm).2,fun h=>by cases h⟩
    ·cases he
theorem anaT_good{p:Prg}{h:Hd}{n:Nat}(hp:PrgOk p)(hn:p.locs=(n:Int))(hh:HdOk n h):∀ (t:Tr) (lo base loop:Nat) (st:St) (s e:Int) (b:Bool),Fit p.code b lo t→lo+t.size≤p.code.length→StOk n st→0≤e→e≤s→s≤tooMany →
  GoodR n (UnH h n p.code lo (lo+t.size) st) (anaT p h t lo base loop st s e):=by
 intro t
 induction t with
 | nil=>intro lo base loop st s e b hf hl hs h0 h1 h2;exact⟨hs,h0,h1,h2,UnH.of (UnS.refl rfl rfl)⟩
 | ins r ih=>
  intro lo base loop st s e b hf hl hs h0 h1 h2
  simp only [Tr.size] at hl ⊢
  unfold anaT
  have hx:GoodR n (UnS n p.code lo (lo+1) st) (if oI p.code lo=30 then (match popA st.stk base [116] with | .error x=>.bad lo x | .ok (rest,_)=>if rest.length≠loop then .bad lo 14 else .ok { st with stk:=rest,lvs:=st.lvs++[st.locs] } 1 0) else plA p lo base st):=by
   split
   ·cases hpop:popA st.stk base [116] with
    | error e=>trivial
    | ok rl=>
     obtain⟨rest,l⟩:=rl
     obtain⟨h3,-,-,-⟩:=popA_rest hs hpop
     simp only []
     split
     ·trivial
     ·refine⟨⟨h3.locs,h3.stk,h3.len,h3.hgt,fun m hm=>?_,h3.inv⟩,by omega,by omega,by unfold tooMany;omega,fun i hi hst=>⟨rfl,fun m hm=>?_⟩⟩
      ·rcases List.mem_append.1 hm with h | h
       ·exact hs.lvs m h
       ·rw [List.mem_singleton.1 h];exact hs.locs
      ·rcases List.mem_append.1 hm with h | h
       ·exact .inl h
       ·rw [List.mem_singleton.1 h];exact .inr rfl
   ·exact plA_good hp hn (by omega) hs
  refine hx.cap h0 h1 fun st' s' e' hs' hu a b' c d f=>?_
  exact (ih (lo+1) base loop st' _ _ b hf.2.2.2.2.2 (by omega) hs' c d f).mono fun st2 h2=>(UnH.of hu).trans h2 (by omega) (by omega) (by omega)
 | ift a r iha ih=>
  intro lo base loop st s e b hf hl hs h0 h1 h2
  simp only [Tr.size] at hl ⊢
  unfold anaT
  cases hpop:popA st.stk base [116] with
  | error e=>trivial
  | ok rl=>
   obtain⟨rest,l⟩:=rl
   obtain⟨h3,-,-,-⟩:=popA_rest hs hpop
   simp only []
   refine (iha (lo+1) rest.length loop _ 0 0 b hf.2.1 (by omega) h3 (by omega) (by omega) (by unfold tooMany;omega)).bind fun s1 xs xe h4 h5 h6 h7 h8=>?_
   split
   ·trivial
   ·have hk:=capS_ok (a:=max xs 0) (b:=max xe 0) (a':=1) (b':=0) (by omega) (by omega) (by omega) (by omega)
    have hk2:=capS_ok h0 h1 hk.1 hk.2.1
    have hs2:StOk n { s1 with locs:=joinL s1.locs st.locs }:=⟨joinL_ok h4.locs hs.locs,h4.stk,h4.len,h4.hgt,h4.lvs,h4.inv⟩
    refine (ih (lo+2+a.size) base loop _ _ _ b hf.2.2.2 (by omega) hs2 hk2.1 hk2.2.1 hk2.2.2).mono fun st2 h9=>?_
    refine UnH.trans (mid:=lo+1+a.size) ?_ h9 (by omega) (by omega) (by omega)
    cases h with
    | given r=>trivial
    | widen=>
     intro i hi hst
     obtain⟨u1,u2⟩:=h8 i hi (stored_sub hst (by omega) (by omega))
     refine⟨?_,u2⟩
     simp only [] at u1 ⊢
     rw [gL_join h4.locs.1 hs.locs.1 hi,u1,ivJoin_self (gL_ok hs.locs i)]
 | ife a d r iha ihd ih=>
  intro lo base loop st s e b hf hl hs h0 h1 h2
  simp only [Tr.size] at hl ⊢
  unfold anaT
  cases hpop:popA st.stk base [116] with
  | error e=>trivial
  | ok rl=>
   obtain⟨rest,l⟩:=rl
   obtain⟨h3,-,-,-⟩:=popA_rest hs hpop
   simp only []
   refine (iha (lo+1) rest.length loop _ 0 0 b hf.2.1 (by omega) h3 (by omega) (by omega) (by unfold tooMany;omega)).bind fun s1 xs xe h4 h5 h6 h7 h8=>?_
   split
   ·trivial
   ·have hs1:StOk n { s1 with locs:=st.locs }:=⟨hs.locs,h4.stk,h4.len,h4.hgt,h4.lvs,h4.inv⟩
    refine (ihd (lo+2+a.size) rest.length loop _ 0 0 b hf.2.2.2.1 (by omega) hs1 (by omega) (by omega) (by unfold tooMany;omega)).bind fun s2 ys ye g4 g5 g6 g7 g8=>?_
    split
    ·trivial
    ·have hk:=capS_ok (a:=max xs ys) (b:=max xe ye) (a':=1) (b':=0) (by omega) (by omega) (by omega) (by omega)
     have hk2:=capS_ok h0 h1 hk.1 hk.2.1
     have hs2:StOk n { s2 with locs:=joinL s1.locs s2.locs }:=⟨joinL_ok h4.locs g4.locs,g4.stk,g4.len,g4.hgt,g4.lvs,g4.inv⟩
     refine (ih (lo+3+a.size+d.size) base loop _ _ _ b hf.2.2.2.2.2 (by omega) hs2 hk2.1 hk2.2.1 hk2.2.2).mono fun st2 h9=>?_
     refine UnH.trans (mid:=lo+2+a.size+d.size) ?_ h9 (by omega) (by omega) (by omega)
     cases h with
     | given r=>trivial
     | widen=>
      intro i hi hst
      obtain⟨u1,u2⟩:=h8 i hi (stored_sub hst (by omega) (by omega))
      obtain⟨v1,v2⟩:=g8 i hi (stored_sub hst (by omega) (by omega))
      simp only [] at u1 u2 v1 v2 ⊢
      refine⟨?_,fun m hm=>?_⟩
      ·rw [gL_join h4.locs.1 g4.locs.1 hi,u1,v1,ivJoin_self (gL_ok hs.locs i)]
      ·rcases v2 m hm with w | w
       ·exact u2 m w
       ·exact .inr w
 | lp a r iha ih=>
  intro lo base loop st s e b hf hl hs h0 h1 h2
  simp only [Tr.size] at hl ⊢
  unfold anaT
  cases hpop:popA st.stk base [110] with
  | error e=>trivial
  | ok rl=>
   obtain⟨rest,l⟩:=rl
   obtain⟨h3,h3',-,-⟩:=popA_rest hs hpop
   simp only []
   split
   ·trivial
   ·rename_i hm
    have hiv:=ivOk_iff.1 (gV_ok h3' 0)
    cases hen:enterA h lo (gV l 0).iv.hi st.locs with
    | error x=>trivial
    | ok hm2=>
     obtain⟨head,most⟩:=hm2
     obtain⟨e1,e2,e3⟩:=enterA_ok hh hs.locs ⟨by omega,by omega⟩ hen
     simp only []
     have hpass:=passA_good (n:=n) (c:=p.code) (h:=h) (lo:=lo) (hi:=lo+1+a.size) (height:=rest.length) (body:=fun s0=>anaT p h a (lo+1) rest.length rest.length s0 0 0)
      (fun s0 hs0=>(iha (lo+1) rest.length rest.length s0 0 0 true hf.2.1 (by omega) hs0 (by omega) (by omega) (by unfold tooMany;omega)).mono fun st2 hu=>by
       cases h with
       | given r=>trivial
       | widen=>exact fun i hi hst=>hu i hi (stored_sub hst (by omega) (Nat.le_refl _)))
      PASSES 1 head { st with stk:=rest } h3 e1 (fun _=>⟨by omega,by omega,by unfold PASSES;omega,fun h=>by omega⟩) (by unfold PASSES;omega)
     refine hpass.bind fun s1 xs xe h4 h5 h6 h7 h8=>?_
     have hk0:=capS_ok (a:=xs) (b:=xe) (a':=1) (b':=0) h5 h6 (by omega) (by omega)
     have hcap:capS xs 1=capS xs 1:=rfl
     have hx1:xe≤capS xs 1:=by unfold capS tooMany at *;omega
     have hk1:=prodS_ok h5 hx1 e2.1
     have hk:=capS_ok (a':=1) (b':=0) hk1.1 hk1.2.1 (by omega) (by omega)
     have hk2:=capS_ok h0 h1 hk.1 hk.2.1
     have hfo:=fold_ok s1.lvs s1.locs h4.locs h4.lvs
     have hs2:StOk n { s1 with locs:=s1.lvs.foldl joinL s1.locs,lvs:=st.lvs,inv:=noteI s1.inv ⟨(lo:Int),most,s1.locs⟩ }:=⟨hfo,h4.stk,h4.len,h4.hgt,hs.lvs,noteI_ok h4.inv ⟨h4.locs,e2⟩⟩
     refine (ih (lo+2+a.size) base loop _ _ _ b hf.2.2.2 (by omega) hs2 hk2.1 hk2.2.1 hk2.2.2).mono fun st2 h9=>?_
     refine UnH.trans (mid:=lo+1+a.size) ?_ h9 (by omega) (by omega) (by omega)
     cases h with
     | given r=>trivial
     | widen=>
      intro i hi hst
      obtain⟨u1,u2⟩:=h8 rfl i hi (stored_sub hst (Nat.le_refl _) (by omega))
      have e4:=e3 rfl
      subst e4
      exact⟨fold_same hi (gL_ok hs.locs i) _ _ h4.locs h4.lvs u1 u2,fun m hm=>.inl hm⟩
theorem ER.bind_ok{x:ER}{f:St→Int→Int→ER}{st:St}{s e:Int}(h:x.bind f=.ok st s e):∃ st1 s1 e1,x=.ok st1 s1 e1∧f st1 s1 e1=.ok st s e:=by
 cases x with
 | bad a e=>cases h
 | stuck=>cases h
 | ok st1 s1 e1=>exact⟨st1,s1,e1,rfl,h⟩
theorem invAt_some{l:List Inv}{k:Nat}{x:Inv}(h:invAt l k=some x):x∈l∧x.at_=(k:Int):=by
 unfold invAt at h
 exact⟨List.mem_of_find?_eq_some h,by simpa using List.find?_some h⟩
theorem invAt_note{l:List Inv}{x:Inv}{k:Nat}:invAt (noteI l x) k=if x.at_=(k:Int) then some x else invAt l k:=by
 unfold noteI
 split
 ·rename_i h
  unfold invAt
  induction l with
  | nil=>simp at h
  | cons y l ih=>
   rw [List.map_cons,List.find?_cons,List.find?_cons]
   by_cases hy:y.at_=x.at_
   ·rw [if_pos hy]
    by_cases hx:x.at_=(k:Int)
    ·rw [if_pos hx,decide_eq_true hx]
    ·rw [if_neg hx,decide_eq_false hx,decide_eq_false (by omega)]
     simp only []
     by_cases hl:l.any (fun y=>decide (y.at_=x.at_))=true
     ·have h1:=ih hl
      rw [if_neg hx] at h1
      exact h1
     ·congr 1
      have:∀ (m:List Inv),m.any (fun y=>decide (y.at_=x.at_))≠true→m.map (fun y=>if y.at_=x.at_ then x else y)=m:=by
       intro m
       induction m with
       | nil=>intro _;rfl
       | cons z m ih2=>
        intro hm
        have hm1:z.at_≠x.at_:=fun h=>hm (by rw [List.any_cons,decide_eq_true h];rfl)
        have hm2:m.any (fun y=>decide (y.at_=x.at_))≠true:=fun h=>hm (by rw [List.any_cons,h,Bool.or_true])
        rw [List.map_cons,if_neg hm1,ih2 hm2]
      exact this l hl
   ·rw [if_neg hy]
    have hl:l.any (fun y=>decide (y.at_=x.at_))=true:=by
     simp only [List.any_cons,Bool.or_eq_true,decide_eq_true_eq] at h
     rcases h with h | h
     ·exact absurd h hy
     ·exact h
    have h1:=ih hl
    by_cases hk:y.at_=(k:Int)
    ·rw [decide_eq_true hk,if_neg (by omega)]
    ·rw [decide_eq_false hk]
     exact h1
 ·rename_i h
  unfold invAt
  rw [List.find?_append]
  by_cases hx:x.at_=(k:Int)
  ·rw [if_pos hx]
   have h1:l.find? (fun y=>decide (y.at_=(k:Int)))=none:=by
    rw [List.find?_eq_none]
    intro y hy hyk
    refine h (List.any_eq_true.2 ⟨y,hy,?_⟩)
    have:y.at_=(k:Int):=by simpa using hyk
    exact decide_eq_true (by omega)
   rw [h1]
   simp [hx]
  ·rw [if_neg hx]
   cases hf:l.find? (fun y=>decide (y.at_=(k:Int))) with
   | some y=>rfl
   | none=>simp [hx]
theorem passA_hgt{c:List Ins}{h:Hd}{lo hi height m:Nat}{body:St→ER}(hb:∀ s0 s1 s e,body s0=.ok s1 s e→s0.stk.length=height→s1.hgt=max s0.hgt m) :
  ∀ k pass head st st' s e,passA c h lo hi height body k pass head st=.ok st' s e→st.stk.length=height→st'.stk.length=height∧st'.hgt=max st.hgt m:=by
 intro k
 induction k with
 | zero=>intro pass head st st' s e h;cases h
 | succ k ih=>
  intro pass head st st' s e hr hs
  unfold passA at hr
  obtain⟨s1,a,b,h1,h2⟩:=ER.bind_ok hr
  have h3:=hb _ _ _ _ h1 hs
  simp only [] at h3
  split at h2
  ·cases h2
  rename_i hh
  split at h2
  ·cases h2;exact⟨by simpa using hh,h3⟩
  ·cases h with
   | given r=>cases h2
   | widen=>
    obtain⟨h4,h5⟩:=ih _ _ _ _ _ _ h2 (by simpa using hh)
    exact⟨h4,by rw [h5,h3];omega⟩
theorem passA_base{c:List Ins}{h:Hd}{lo hi height:Nat}{body:St→ER}{rest:List Vl}(hl:rest.length=height)(hb:∀ s0 s1 s e,body s0=.ok s1 s e→s0.stk=rest→s1.stk.take height=rest) :
  ∀ k pass head st st' s e,passA c h lo hi height body k pass head st=.ok st' s e→st.stk=rest→st'.stk=rest:=by
 intro k
 induction k with
 | zero=>intro pass head st st' s e h;cases h
 | succ k ih=>
  intro pass head st st' s e hr hs
  unfold passA at hr
  obtain⟨s1,a,b,h1,h2⟩:=ER.bind_ok hr
  have h3:=hb _ _ _ _ h1 hs
  split at h2
  ·cases h2
  rename_i hh
  have h4:s1.stk=rest:=by rw [←h3,List.take_of_length_le (by omega)]
  split at h2
  ·cases h2;exact h4
  ·cases h with
   | given r=>cases h2
   | widen=>exact ih _ _ _ _ _ _ h2 h4
def pushN(op:Int):Nat:=if op=5∨op=7 then 2 else if op=2∨op=4∨op=6∨op=35∨op=34∨op=30 then 0 else 1
def hT(p:Prg):Tr→Nat→Nat→Nat × Nat
 | .nil,_,n=>(n,0)
 | .ins r,lo,n=>
  let op:=oI p.code lo
  let m:=n-(if op=30 then 1 else (opX op).pops.length)+pushN op
  ((hT p r (lo+1) m).1,max (if pushN op=0 then 0 else m) (hT p r (lo+1) m).2)
 | .ift a r,lo,n=>((hT p r (lo+2+a.size) (n-1)).1,max (hT p a (lo+1) (n-1)).2 (hT p r (lo+2+a.size) (n-1)).2)
 | .ife a d r,lo,n=>((hT p r (lo+3+a.size+d.size) (n-1)).1,max (max (hT p a (lo+1) (n-1)).2 (hT p d (lo+2+a.size) (n-1)).2) (hT p r (lo+3+a.size+d.size) (n-1)).2)
 | .lp a r,lo,n=>((hT p r (lo+2+a.size) (n-1)).1,max (hT p a (lo+1) (n-1)).2 (hT p r (lo+2+a.size) (n-1)).2)
theorem pushA_hgt{lo:Nat}{st st':St}{l:List Vl}{e s' e':Int}(h:pushA lo st l e=.ok st' s' e'):st'.stk.length=st.stk.length+l.length∧st'.hgt=max st.hgt (st.stk.length+l.length)∧st'.inv=st.inv∧st'.stk=st.stk++l∧st'.lvs=st.lvs:=by
 unfold pushA at h
 split at h
 ·cases h
 ·cases h
  exact⟨by simp,by simp,rfl,rfl,rfl⟩
theorem popA_len{stk:List Vl}{base:Nat}{ty:List UInt8}{r l:List Vl}(h:popA stk base ty=.ok (r,l)):r.length=stk.length-ty.length∧base≤r.length∧r.take base=stk.take base:=by
 obtain⟨rfl,-,hl⟩:=popA_ok h
 refine⟨by simp,by simp;omega,?_⟩
 rw [List.take_take]
 congr 1
 omega
theorem plA_hgt{p:Prg}{lo base:Nat}{st st':St}{s e:Int}(h:plA p lo base st=.ok st' s e)(h30:oI p.code lo≠30) :
  st'.stk.length=st.stk.length-(opX (oI p.code lo)).pops.length+pushN (oI p.code lo)∧st'.hgt=max st.hgt (if pushN (oI p.code lo)=0 then 0 else st'.stk.length)∧st'.inv=st.inv∧(base≤st'.stk.length∧st'.stk.take base=st.stk.take base):=by
 unfold plA at h
 cases hp:popA st.stk base (opX (oI p.code lo)).pops with
 | error x=>rw [hp] at h;cases h
 | ok rl=>
  obtain⟨rest,l⟩:=rl
  rw [hp] at h
  simp only [] at h
  obtain⟨h1,h2,h3⟩:=popA_len hp
  generalize oI p.code lo=op at h h1 hp h30 ⊢
  have push1:∀ (v:Vl) (st2:St) (e0:Int),pushA lo st2 [v] e0=.ok st' s e→st2.stk=rest→st2.hgt=st.hgt→st2.inv=st.inv→pushN op=1 →
    st'.stk.length=st.stk.length-(opX op).pops.length+pushN op∧st'.hgt=max st.hgt (if pushN op=0 then 0 else st'.stk.length)∧st'.inv=st.inv∧(base≤st'.stk.length∧st'.stk.take base=st.stk.take base):=by
   intro v st2 e0 hh e1 e2 e3 e4
   obtain⟨g1,g2,g3,g4,-⟩:=pushA_hgt hh
   rw [e1] at g1 g2 g4
   rw [e4]
   simp only [List.length_singleton] at g1 g2
   refine⟨by rw [g1,h1],by rw [g2,e2,if_neg (by omega),g1],g3.trans e3,by omega,?_⟩
   rw [g4,List.take_append_of_le_length h2,h3]
  have push2:∀ (v v':Vl) (st2:St) (e0:Int),pushA lo st2 [v,v'] e0=.ok st' s e→st2.stk=rest→st2.hgt=st.hgt→st2.inv=st.inv→pushN op=2 →
    st'.stk.length=st.stk.length-(opX op).pops.length+pushN op∧st'.hgt=max st.hgt (if pushN op=0 then 0 else st'.stk.length)∧st'.inv=st.inv∧(base≤st'.stk.length∧st'.stk.take base=st.stk.take base):=by
   intro v v' st2 e0 hh e1 e2 e3 e4
   obtain⟨g1,g2,g3,g4,-⟩:=pushA_hgt hh
   rw [e1] at g1 g2 g4
   rw [e4]
   simp only [List.length_cons,List.length_nil] at g1 g2
   refine⟨by rw [g1,h1],by rw [g2,e2,if_neg (by omega),g1],g3.trans e3,by omega,?_⟩
   rw [g4,List.take_append_of_le_length h2,h3]
  have push0:∀ (st2:St),st'=st2→st2.stk=rest→st2.hgt=st.hgt→st2.inv=st.inv→pushN op=0 →
    st'.stk.length=st.stk.length-(opX op).pops.length+pushN op∧st'.hgt=max st.hgt (if pushN op=0 then 0 else st'.stk.length)∧st'.inv=st.inv∧(base≤st'.stk.length∧st'.stk.take base=st.stk.take base):=by
   intro st2 hh e1 e2 e3 e4
   subst hh
   rw [e4,if_pos rfl,e1,e2,e3]
   exact⟨by rw [h1];rfl,by omega,rfl,h2,h3⟩
  by_cases ho0:op=0
  ·rw [if_pos ho0] at h;exact push1 _ _ _ h rfl rfl rfl (by rw [ho0];rfl)
  rw [if_neg ho0] at h
  by_cases ho1:op=1
  ·rw [if_pos ho1] at h;exact push1 _ _ _ h rfl rfl rfl (by rw [ho1];rfl)
  rw [if_neg ho1] at h
  by_cases ho2:op=2
  ·rw [if_pos ho2] at h
   injection h with h4 h5 h6
   exact push0 _ h4.symm rfl rfl rfl (by rw [ho2];rfl)
  rw [if_neg ho2] at h
  by_cases ho3:op=3
  ·rw [if_pos ho3] at h
   split at h
   ·cases h
   ·exact push1 _ _ _ h rfl rfl rfl (by rw [ho3];rfl)
  rw [if_neg ho3] at h
  by_cases ho4:op=4
  ·rw [if_pos ho4] at h
   split at h
   ·cases h
   ·injection h with h4 h5 h6
    exact push0 _ h4.symm rfl rfl rfl (by rw [ho4];rfl)
  rw [if_neg ho4] at h
  by_cases ho5:op=5
  ·rw [if_pos ho5] at h;exact push2 _ _ _ _ h rfl rfl rfl (by rw [ho5];rfl)
  rw [if_neg ho5] at h
  by_cases ho7:op=7
  ·rw [if_pos ho7] at h;exact push2 _ _ _ _ h rfl rfl rfl (by rw [ho7];rfl)
  rw [if_neg ho7] at h
  by_cases ho6:op=6∨op=35
  ·rw [if_pos ho6] at h
   injection h with h4 h5 h6
   exact push0 _ h4.symm rfl rfl rfl (by unfold pushN;rw [if_neg (by omega),if_pos (by omega)])
  rw [if_neg ho6] at h
  by_cases ho34:op=34
  ·rw [if_pos ho34] at h
   injection h with h4 h5 h6
   exact push0 _ h4.symm rfl rfl rfl (by rw [ho34];rfl)
  rw [if_neg ho34] at h
  have pn1:pushN op=1:=by unfold pushN;rw [if_neg (by omega),if_neg (by omega)]
  by_cases ho32:op=32
  ·rw [if_pos ho32] at h;exact push1 _ _ _ h rfl rfl rfl pn1
  rw [if_neg ho32] at h
  by_cases ho26:op=26
  ·rw [if_pos ho26] at h;exact push1 _ _ _ h rfl rfl rfl pn1
  rw [if_neg ho26] at h
  by_cases hot:(opX op).pushes=[116]
  ·rw [if_pos hot] at h;exact push1 _ _ _ h rfl rfl rfl pn1
  rw [if_neg hot] at h
  cases ha:apI op (gV l 0).iv (gV l 1).iv with
  | none=>rw [ha] at h;cases h
  | some x=>rw [ha] at h;exact push1 _ _ _ h rfl rfl rfl pn1
theorem anaT_hgt{p:Prg}{h:Hd}:∀ (t:Tr) (lo base loop:Nat) (st st':St) (s e s' e':Int),anaT p h t lo base loop st s e=.ok st' s' e'→base≤st.stk.length →
  (st'.stk.length=(hT p t lo st.stk.length).1∧st'.hgt=max st.hgt (hT p t lo st.stk.length).2)∧(base≤st'.stk.length∧st'.stk.take base=st.stk.take base):=by
 intro t
 induction t with
 | nil=>
  intro lo base loop st st' s e s' e' hr hb
  cases hr
  exact⟨⟨rfl,by simp [hT]⟩,hb,rfl⟩
 | ins r ih=>
  intro lo base loop st st' s e s' e' hr hb
  unfold anaT at hr
  obtain⟨s1,a,b,h1,h2⟩:=ER.bind_ok hr
  unfold hT
  by_cases h30:oI p.code lo=30
  ·rw [if_pos h30] at h1
   cases hp:popA st.stk base [116] with
   | error x=>rw [hp] at h1;cases h1
   | ok rl=>
    obtain⟨rest,l⟩:=rl
    rw [hp] at h1
    simp only [] at h1
    split at h1
    ·cases h1
    ·injection h1 with h1 _ _
     subst h1
     obtain⟨g1,g2,g3⟩:=popA_len hp
     obtain⟨⟨f1,f2⟩,f3,f4⟩:=ih _ _ _ _ _ _ _ _ _ h2 g2
     simp only [] at f1 f2 f4
     have e1:st.stk.length-1+pushN 30=rest.length:=by rw [g1];rfl
     simp only [h30,↓reduceIte,e1]
     refine⟨⟨f1,?_⟩,f3,by rw [f4,g3]⟩
     rw [f2]
     have h0:pushN 30=0:=rfl
     simp only [h0,↓reduceIte]
     omega
  ·rw [if_neg h30] at h1
   obtain⟨g1,g2,-,g3,g4⟩:=plA_hgt h1 h30
   obtain⟨⟨f1,f2⟩,f3,f4⟩:=ih _ _ _ _ _ _ _ _ _ h2 g3
   simp only [if_neg h30]
   rw [←g1]
   refine⟨⟨f1,?_⟩,f3,by rw [f4,g4]⟩
   rw [f2,g2]
   omega
 | ift a r iha ih=>
  intro lo base loop st st' s e s' e' hr hb
  unfold anaT at hr
  cases hp:popA st.stk base [116] with
  | error x=>rw [hp] at hr;cases hr
  | ok rl=>
   obtain⟨rest,l⟩:=rl
   rw [hp] at hr
   simp only [] at hr
   obtain⟨g1,g2,g3⟩:=popA_len hp
   obtain⟨s1,x,y,h1,h2⟩:=ER.bind_ok hr
   obtain⟨⟨a1,a2⟩,a3,a4⟩:=iha _ _ _ _ _ _ _ _ _ h1 (Nat.le_refl _)
   simp only [] at a1 a2 a4
   split at h2
   ·cases h2
   rename_i hl
   have hl:s1.stk.length=rest.length:=by simpa using hl
   have hst:s1.stk=rest:=by
    have h3:=a4
    rw [List.take_of_length_le (by omega),List.take_of_length_le (Nat.le_refl _)] at h3
    exact h3
   obtain⟨⟨f1,f2⟩,f3,f4⟩:=ih _ _ _ _ _ _ _ _ _ h2 (by simp only [];omega)
   simp only [] at f1 f2 f4
   have e1:st.stk.length-1=rest.length:=by rw [g1];rfl
   simp only [hT,e1]
   rw [hl] at f1 f2
   refine⟨⟨f1,by rw [f2,a2];omega⟩,f3,by rw [f4,hst,g3]⟩
 | ife a d r iha ihd ih=>
  intro lo base loop st st' s e s' e' hr hb
  unfold anaT at hr
  cases hp:popA st.stk base [116] with
  | error x=>rw [hp] at hr;cases hr
  | ok rl=>
   obtain⟨rest,l⟩:=rl
   rw [hp] at hr
   simp only [] at hr
   obtain⟨g1,g2,g3⟩:=popA_len hp
   obtain⟨s1,x,y,h1,h2⟩:=ER.bind_ok hr
   obtain⟨⟨a1,a2⟩,a3,a4⟩:=iha _ _ _ _ _ _ _ _ _ h1 (Nat.le_refl _)
   simp only [] at a1 a2 a4
   split at h2
   ·cases h2
   rename_i hl
   have hl:s1.stk.length=rest.length:=by simpa using hl
   have hst:s1.stk=rest:=by
    have h3:=a4
    rw [List.take_of_length_le (by omega),List.take_of_length_le (Nat.le_refl _)] at h3
    exact h3
   obtain⟨s2,x2,y2,h3,h4⟩:=ER.bind_ok h2
   obtain⟨⟨b1,b2⟩,b3,b4⟩:=ihd _ _ _ _ _ _ _ _ _ h3 (by simp only [];omega)
   simp only [] at b1 b2 b4
   split at h4
   ·cases h4
   rename_i hl2
   have hl2:s2.stk.length=rest.length:=by simpa using hl2
   have hst2:s2.stk=rest:=by
    have h5:=b4
    rw [List.take_of_length_le (by omega),hst,List.take_of_length_le (Nat.le_refl _)] at h5
    exact h5
   obtain⟨⟨f1,f2⟩,f3,f4⟩:=ih _ _ _ _ _ _ _ _ _ h4 (by simp only [];omega)
   simp only [] at f1 f2 f4
   have e1:st.stk.length-1=rest.length:=by rw [g1];rfl
   simp only [hT,e1]
   rw [hl2] at f1 f2
   rw [hl] at b2
   refine⟨⟨f1,by rw [f2,b2,a2];omega⟩,f3,by rw [f4,hst2,g3]⟩
 | lp a r iha ih=>
  intro lo base loop st st' s e s' e' hr hb
  unfold anaT at hr
  cases hp:popA st.stk base [110] with
  | error x=>rw [hp] at hr;cases hr
  | ok rl=>
   obtain⟨rest,l⟩:=rl
   rw [hp] at hr
   simp only [] at hr
   obtain⟨g1,g2,g3⟩:=popA_len hp
   split at hr
   ·cases hr
   split at hr
   ·cases hr
   rename_i head most hen
   obtain⟨s1,x,y,h1,h2⟩:=ER.bind_ok hr
   obtain⟨a1,a2⟩:=passA_hgt (m:=(hT p a (lo+1) rest.length).2) (fun s0 s1 s e hs hl=>by
    have h3:=(iha _ _ _ _ _ _ _ _ _ hs (by omega)).1.2
    rw [hl] at h3
    exact h3) _ _ _ _ _ _ _ h1 rfl
   have hst:s1.stk=rest:=passA_base (rest:=rest) rfl (fun s0 s1 s e hs hl=>by
    have h3:=(iha _ _ _ _ _ _ _ _ _ hs (by rw [hl];exact Nat.le_refl _)).2.2
    rw [h3,hl,List.take_of_length_le (Nat.le_refl _)]) _ _ _ _ _ _ _ h1 rfl
   simp only [] at a2
   obtain⟨⟨f1,f2⟩,f3,f4⟩:=ih _ _ _ _ _ _ _ _ _ h2 (by simp only [];omega)
   simp only [] at f1 f2 f4
   have e1:st.stk.length-1=rest.length:=by rw [g1];rfl
   simp only [hT,e1]
   rw [a1] at f1 f2
   refine⟨⟨f1,by rw [f2,a2];omega⟩,f3,by rw [f4,hst,g3]⟩
structure NoteR (c:List Ins) (lo hi:Nat) (a b:List Inv):Prop where
 out:∀ k,k < lo∨hi≤k→invAt b k=invAt a k
 keep:∀ k,(invAt a k).isSome=true→(invAt b k).isSome=true
 all:∀ k,lo≤k→k < hi→oI c k=29→(invAt b k).isSome=true
 only:∀ k,(invAt b k).isSome=true→(invAt a k).isSome=true∨oI c k=29
theorem NoteR.refl{c:List Ins}{lo hi:Nat}(a:List Inv)(h:∀ k,lo≤k→k < hi→oI c k≠29):NoteR c lo hi a a:=⟨fun _ _=>rfl,fun _ h=>h,fun k h1 h2 h3=>absurd h3 (h k h1 h2),fun _ h=>.inl h⟩
theorem NoteR.comp{c:List Ins}{lo hi l1 h1 l2 h2:Nat}{a b d:List Inv}(h:NoteR c l1 h1 a b)(h':NoteR c l2 h2 b d)(e1:lo≤l1∧h1≤hi)(e2:lo≤l2∧h2≤hi)(hk:∀ k,lo≤k→k < hi→oI c k=29→(l1≤k∧k < h1)∨(l2≤k∧k < h2)):NoteR c lo hi a d:=by
 refine⟨fun k hk=>?_,fun k hk=>h'.keep k (h.keep k hk),fun k k1 k2 k3=>?_,fun k hk=>?_⟩
 ·rw [h'.out k (by omega),h.out k (by omega)]
 ·rcases hk k k1 k2 k3 with h3 | h3
  ·exact h'.keep k (h.all k h3.1 h3.2 k3)
  ·exact h'.all k h3.1 h3.2 k3
 ·rcases h'.only k hk with h3 | h3
  ·exact h.only k h3
  ·exact .inr h3
theorem NoteR.trans{c:List Ins}{lo hi:Nat}{a b d:List Inv}(h:NoteR c lo hi a b)(h':NoteR c lo hi b d):NoteR c lo hi a d:=h.comp h' ⟨Nat.le_refl _,Nat.le_refl _⟩ ⟨Nat.le_refl _,Nat.le_refl _⟩ (fun k h1 h2 _=>.inl ⟨h1,h2⟩)
theorem NoteR.note{c:List Ins}{lo:Nat}{a:List Inv}{x:Inv}(hx:x.at_=(lo:Int))(hc:oI c lo=29):NoteR c lo (lo+1) a (noteI a x):=by
 refine⟨fun k hk=>?_,fun k hk=>?_,fun k h1 h2 _=>?_,fun k hk=>?_⟩
 ·rw [invAt_note,if_neg (by omega)]
 ·rw [invAt_note];split
  ·rfl
  ·exact hk
 ·rw [invAt_note,if_pos (by omega)];rfl
 ·rw [invAt_note] at hk
  split at hk
  ·rename_i h
   exact .inr (by rw [show k=lo by omega];exact hc)
  ·exact .inl hk
theorem anaT_note{p:Prg}{h:Hd}:∀ (t:Tr) (lo base loop:Nat) (st st':St) (s e s' e':Int) (b:Bool),Fit p.code b lo t→anaT p h t lo base loop st s e=.ok st' s' e'→base≤st.stk.length→NoteR p.code lo (lo+t.size) st.inv st'.inv:=by
 intro t
 induction t with
 | nil=>
  intro lo base loop st st' s e s' e' b hf hr hb
  cases hr
  exact NoteR.refl _ (fun k h1 h2=>by simp only [Tr.size] at h2;omega)
 | ins r ih=>
  intro lo base loop st st' s e s' e' b hf hr hb
  unfold anaT at hr
  obtain⟨s1,x,y,h1,h2⟩:=ER.bind_ok hr
  have hinv:s1.inv=st.inv∧base≤s1.stk.length:=by
   by_cases h30:oI p.code lo=30
   ·rw [if_pos h30] at h1
    cases hp:popA st.stk base [116] with
    | error x=>rw [hp] at h1;cases h1
    | ok rl=>
     obtain⟨rest,l⟩:=rl
     rw [hp] at h1
     simp only [] at h1
     split at h1
     ·cases h1
     ·injection h1 with h1 _ _
      subst h1
      exact⟨rfl,(popA_len hp).2.1⟩
   ·rw [if_neg h30] at h1
    obtain⟨-,-,g,g2,-⟩:=plA_hgt h1 h30
    exact⟨g,g2⟩
  have h3:=ih _ _ _ _ _ _ _ _ _ _ hf.2.2.2.2.2 h2 hinv.2
  rw [hinv.1] at h3
  refine (NoteR.refl (lo:=lo) (hi:=lo+1) st.inv (fun k k1 k2=>?_)).comp h3 ⟨Nat.le_refl _,by simp only [Tr.size];omega⟩ ⟨by omega,by simp only [Tr.size];omega⟩ (fun k k1 k2 _=>by simp only [Tr.size] at k2;omega)
  rw [show k=lo by omega]
  exact hf.2.2.1
 | ift a r iha ih=>
  intro lo base loop st st' s e s' e' b hf hr hb
  unfold anaT at hr
  cases hp:popA st.stk base [116] with
  | error x=>rw [hp] at hr;cases hr
  | ok rl=>
   obtain⟨rest,l⟩:=rl
   rw [hp] at hr
   simp only [] at hr
   obtain⟨g1,g2,g3⟩:=popA_len hp
   obtain⟨s1,x,y,h1,h2⟩:=ER.bind_ok hr
   have ha:=iha _ _ _ _ _ _ _ _ _ _ hf.2.1 h1 (Nat.le_refl _)
   split at h2
   ·cases h2
   rename_i hl
   have hl:s1.stk.length=rest.length:=by simpa using hl
   have hr2:=ih _ _ _ _ _ _ _ _ _ _ hf.2.2.2 h2 (by simp only [];omega)
   have f1:=hf.1
   have f3:=hf.2.2.1
   refine ha.comp hr2 ⟨by omega,by simp only [Tr.size];omega⟩ ⟨by omega,by simp only [Tr.size];omega⟩ (fun k k1 k2 k3=>?_)
   simp only [Tr.size] at k2
   by_cases e1:k=lo
   ·subst e1;omega
   by_cases e2:k=lo+1+a.size
   ·subst e2;omega
   omega
 | ife a d r iha ihd ih=>
  intro lo base loop st st' s e s' e' b hf hr hb
  unfold anaT at hr
  cases hp:popA st.stk base [116] with
  | error x=>rw [hp] at hr;cases hr
  | ok rl=>
   obtain⟨rest,l⟩:=rl
   rw [hp] at hr
   simp only [] at hr
   obtain⟨g1,g2,g3⟩:=popA_len hp
   obtain⟨s1,x,y,h1,h2⟩:=ER.bind_ok hr
   have ha:=iha _ _ _ _ _ _ _ _ _ _ hf.2.1 h1 (Nat.le_refl _)
   split at h2
   ·cases h2
   rename_i hl
   have hl:s1.stk.length=rest.length:=by simpa using hl
   obtain⟨s2,x2,y2,h3,h4⟩:=ER.bind_ok h2
   have hd:=ihd _ _ _ _ _ _ _ _ _ _ hf.2.2.2.1 h3 (by simp only [];omega)
   split at h4
   ·cases h4
   rename_i hl2
   have hl2:s2.stk.length=rest.length:=by simpa using hl2
   have hr2:=ih _ _ _ _ _ _ _ _ _ _ hf.2.2.2.2.2 h4 (by simp only [];omega)
   have f1:=hf.1
   have f3:=hf.2.2.1
   have f5:=hf.2.2.2.2.1
   have had:NoteR p.code (lo+1) (lo+2+a.size+d.size) st.inv s2.inv:=ha.comp hd ⟨by omega,by omega⟩ ⟨by omega,by omega⟩ (fun k k1 k2 k3=>by
    by_cases e2:k=lo+1+a.size
    ·subst e2;omega
    omega)
   refine had.comp hr2 ⟨by omega,by simp only [Tr.size];omega⟩ ⟨by omega,by simp only [Tr.size];omega⟩ (fun k k1 k2 k3=>?_)
   simp only [Tr.size] at k2
   by_cases e1:k=lo
   ·subst e1;omega
   by_cases e2:k=lo+2+a.size+d.size
   ·subst e2;omega
   omega
 | lp a r iha ih=>
  intro lo base loop st st' s e s' e' b hf hr hb
  unfold anaT at hr
  cases hp:popA st.stk base [110] with
  | error x=>rw [hp] at hr;cases hr
  | ok rl=>
   obtain⟨rest,l⟩:=rl
   rw [hp] at hr
   simp only [] at hr
   obtain⟨g1,g2,g3⟩:=popA_len hp
   split at hr
   ·cases hr
   split at hr
   ·cases hr
   rename_i head most hen
   obtain⟨s1,x,y,h1,h2⟩:=ER.bind_ok hr
   have hst:s1.stk=rest∧NoteR p.code (lo+1) (lo+1+a.size) st.inv s1.inv:=by
    have hq:∀ k pass head st st' s e,passA p.code h lo (lo+1+a.size) rest.length (fun s0=>anaT p h a (lo+1) rest.length rest.length s0 0 0) k pass head st=.ok st' s e→st.stk=rest→st'.stk=rest∧NoteR p.code (lo+1) (lo+1+a.size) st.inv st'.inv:=by
     intro k
     induction k with
     | zero=>intro pass head st st' s e h;cases h
     | succ k ihk=>
      intro pass head st st' s e hr hs
      unfold passA at hr
      obtain⟨s1,x,y,q1,q2⟩:=ER.bind_ok hr
      have q3:=(anaT_hgt _ _ _ _ _ _ _ _ _ _ q1 (by simp only [];rw [hs];exact Nat.le_refl _)).2.2
      have q4:=iha _ _ _ _ _ _ _ _ _ _ hf.2.1 q1 (by simp only [];rw [hs];exact Nat.le_refl _)
      simp only [] at q3 q4
      rw [hs,List.take_of_length_le (Nat.le_refl _)] at q3
      split at q2
      ·cases q2
      rename_i hh
      have q5:s1.stk=rest:=by rw [←q3,List.take_of_length_le (by omega)]
      split at q2
      ·cases q2;exact⟨q5,q4⟩
      ·cases h with
       | given r=>cases q2
       | widen=>
        obtain⟨w1,w2⟩:=ihk _ _ _ _ _ _ q2 q5
        exact⟨w1,q4.trans w2⟩
    exact hq _ _ _ { st with stk:=rest } _ _ _ h1 rfl
   have f1:=hf.1
   have f3:=hf.2.2.1
   have hr2:=ih _ _ _ _ _ _ _ _ _ _ hf.2.2.2 h2 (by simp only [];rw [hst.1];exact g2)
   have hn:NoteR p.code lo (lo+1+a.size) st.inv (noteI s1.inv ⟨(lo:Int),most,s1.locs⟩):=hst.2.comp (NoteR.note (lo:=lo) rfl f1) ⟨by omega,by omega⟩ ⟨by omega,by omega⟩ (fun k k1 k2 k3=>by omega)
   refine hn.comp hr2 ⟨by omega,by simp only [Tr.size];omega⟩ ⟨by omega,by simp only [Tr.size];omega⟩ (fun k k1 k2 k3=>?_)
   simp only [Tr.size] at k2
   by_cases e2:k=lo+1+a.size
   ·subst e2;omega
   omega
def insA(p:Prg)(lo base loop:Nat)(st:St):ER:=if oI p.code lo=30 then
   match popA st.stk base [116] with
   | .error x=>.bad lo x
   | .ok (rest,_)=>if rest.length≠loop then .bad lo 14 else .ok { st with stk:=rest,lvs:=st.lvs++[st.locs] } 1 0
  else plA p lo base st
theorem anaT_ins(p:Prg)(h:Hd)(r:Tr)(lo base loop:Nat)(st:St)(s e:Int):anaT p h (.ins r) lo base loop st s e=(insA p lo base loop st).bind fun st' s' e'=>anaT p h r (lo+1) base loop st' (capS s s') (capS e e'):=rfl
end Go.Proofs.YtpaplehcafeeaaaGreatDoor
