/- Lo. -/
import Derived.Test.YtpaplehcafeeaaaGreatDoorLE24
import Derived.Test.YtpaplehcafeeaaaGreatDoorLE02
set_option maxRecDepth 100000
set_option maxHeartbeats 40000000
set_option linter.unusedVariables false
set_option linter.unusedSimpArgs false
namespace Go.Proofs.YtpaplehcafeeaaaGreatDoor
open Go.RowKit Go.Proofs
def folN(m:Int)(bases:List Int)(op:Int):Int × List Int:=
 if op=27∨op=29 then (m,m :: bases)
 else if op=28 then (bases.headD 0,bases)
 else if op=31 then (bases.headD 0,bases.tail)
 else (m,bases)
theorem lowN_fol(next:Int)(bases:List Int)(op:Int):lowN next bases op=folN (next+((pushsN op:Int)-popsN op)) bases op:=rfl
theorem table_two:∀ k:Fin 36,popsN (k.1:Int)≤2∧pushsN (k.1:Int)≤2:=by decide +kernel
theorem two_of{op:Int}(h0:0≤op)(h1:op < 36):popsN op≤2∧pushsN op≤2:=by
 have:=table_two ⟨op.toNat,by omega⟩
 simp only [] at this
 rwa [show ((op.toNat:Nat):Int)=op by omega] at this
def BdI(M:Int)(s:Int × List Int):Prop:=(-M≤s.1∧s.1≤M)∧∀ b∈s.2,-M≤b∧b≤M
theorem headD_bd{M:Int}(hM:0≤M){l:List Int}(h:∀ b∈l,-M≤b∧b≤M):-M≤l.headD 0∧l.headD 0≤M:=by
 cases l with
 | nil=>exact⟨by show -M≤0;omega,hM⟩
 | cons x l=>exact h x (List.mem_cons_self ..)
theorem lowN_bd{next:Int}{bases:List Int}{op:Int}(h0:0≤op)(h1:op < 36){M:Int}(hM:0≤M)(h:BdI M (next,bases)):BdI (M+2) (lowN next bases op):=by
 obtain⟨p1,p2⟩:=two_of h0 h1
 obtain⟨a1,a2⟩:=h
 have hh:=headD_bd hM a2
 simp only [] at a1 a2 hh
 unfold lowN
 simp only []
 split
 ·refine⟨by simp only [];omega,fun b hb=>?_⟩
  rcases List.mem_cons.1 hb with h | h
  ·omega
  ·have:=a2 b h;omega
 split
 ·exact⟨by simp only [];omega,fun b hb=>by have:=a2 b hb;omega⟩
 split
 ·exact⟨by simp only [];omega,fun b hb=>by have:=a2 b (List.mem_of_mem_tail hb);omega⟩
 ·exact⟨by simp only [];omega,fun b hb=>by have:=a2 b hb;omega⟩
theorem lowS_snoc(c:List Ins)(k:Nat)(next:Int)(bases:List Int):lowS c (k+1) 0 next bases=lowN (lowS c k 0 next bases).1 (lowS c k 0 next bases).2 (oI c k):=by
 rw [lowS_add c k 1 0,Nat.zero_add,lowS_one]
theorem lowC_snoc(c:List Ins)(spare:Int)(most:Nat→Int)(k:Nat)(next:Int)(bases:List Int):lowC c spare most (k+1) 0 next bases=lowC c spare most k 0 next bases++lowI (lowS c k 0 next bases).1 spare (most k) (gI c k):=by
 rw [lowC_add c spare most k 1 0,Nat.zero_add,lowC_one]
theorem lowS_bd{c:List Ins}(hr:∀ k,k < c.length→0≤oI c k∧oI c k < 36){L:Int}(hL:0≤L):∀ k,k≤c.length→BdI (L+2 * k) (lowS c k 0 L [])
 | 0,_=>⟨by show -(L+2 * ((0:Nat):Int))≤L∧L≤L+2 * ((0:Nat):Int);omega,fun b hb=>by cases hb⟩
 | k+1,hk=>by
  have h1:=lowS_bd hr hL k (by omega)
  rw [lowS_snoc]
  obtain⟨r0,r1⟩:=hr k (by omega)
  have h2:=lowN_bd r0 r1 (M:=L+2 * (k:Int)) (by omega) (next:=(lowS c k 0 L []).1) (bases:=(lowS c k 0 L []).2) h1
  rw [show L+2 * ((k+1:Nat):Int)=L+2 * (k:Int)+2 by omega]
  exact h2
theorem lowN_len(next:Int)(bases:List Int)(op:Int):(lowN next bases op).2.length≤bases.length+1:=by
 unfold lowN
 simp only []
 repeat' split
 all_goals (simp only [List.length_cons,List.length_tail];omega)
theorem lowS_len(c:List Ins)(L:Int):∀ k,(lowS c k 0 L []).2.length≤k
 | 0=>Nat.le_refl _
 | k+1=>by
  rw [lowS_snoc]
  exact Nat.le_trans (lowN_len _ _ _) (Nat.succ_le_succ (lowS_len c L k))
theorem cntC_le3(c:List Ins):∀ k at_,cntC c k at_≤3 * k
 | 0,_=>Nat.le_refl _
 | k+1,at_=>by
  unfold cntC
  have h1:=cntC_le3 c k (at_+1)
  have h2:cntI (oI c at_)≤3:=by unfold cntI;repeat' split
                                all_goals omega
  omega
def BasOk(c:List Ins)(n lo:Nat)(next:Int)(bases bases':List Int):Prop:=(lowS c n lo next bases).2=bases'∧∀ k,k < n→(oI c (lo+k)=28∨oI c (lo+k)=31)→(lowS c k lo next bases).2≠[]
theorem BasOk.app{c:List Ins}{a b lo:Nat}{next:Int}{bs b1 b2:List Int}(h:BasOk c a lo next bs b1)(h':∀ nx,BasOk c b (lo+a) nx b1 b2):BasOk c (a+b) lo next bs b2:=by
 obtain⟨rfl,h2⟩:=h
 refine⟨by rw [lowS_add];exact (h' _).1,fun k hk ho=>?_⟩
 by_cases hka:k < a
 ·exact h2 k hka ho
 ·obtain⟨j,rfl⟩:∃ j,k=a+j:=⟨k-a,by omega⟩
  rw [lowS_add]
  exact (h' _).2 j (by omega) (by rw [Nat.add_assoc];exact ho)
theorem BasOk.one{c:List Ins}{lo:Nat}{next:Int}{bs b1:List Int}(h:(lowN next bs (oI c lo)).2=b1)(h2:oI c lo=28∨oI c lo=31→bs≠[]):BasOk c 1 lo next bs b1:=by
 refine⟨h,fun k hk ho=>?_⟩
 obtain rfl:k=0:=by omega
 exact h2 ho
theorem lowN_opens{next:Int}{bases:List Int}{op:Int}(h:op=27∨op=29):(lowN next bases op).2=(next+((pushsN op:Int)-popsN op)) :: bases:=by
 unfold lowN
 simp only []
 rw [if_pos h]
theorem bas_tree{c:List Ins}:∀ (t:Tr) (lo:Nat) (next:Int) (bases:List Int) (b:Bool),Fit c b lo t→BasOk c t.size lo next bases bases:=by
 intro t
 induction t with
 | nil=>intro lo next bases b _;exact⟨rfl,fun k hk=>absurd hk (Nat.not_lt_zero _)⟩
 | ins r ih=>
  intro lo next bases b hf
  rw [show (Tr.ins r).size=1+r.size by simp only [Tr.size];omega]
  exact BasOk.app (BasOk.one (by rw [lowN_plain ⟨hf.1,hf.2.1,hf.2.2.1,hf.2.2.2.1⟩]) (fun h=>by rcases h with h | h;exact absurd h hf.2.1;exact absurd h hf.2.2.2.1)) (fun nx=>ih _ nx _ b hf.2.2.2.2.2)
 | ift a r iha ih=>
  intro lo next bases b hf
  rw [show (Tr.ift a r).size=1+(a.size+(1+r.size)) by simp only [Tr.size];omega]
  refine BasOk.app (BasOk.one (lowN_opens (.inl hf.1)) (fun h=>by rw [hf.1] at h;omega)) (fun nx=>BasOk.app (iha _ nx _ b hf.2.1) (fun ny=>BasOk.app (BasOk.one (by rw [hf.2.2.1,lowN_end]) (fun _=>by simp)) (fun nz=>?_)))
  rw [show lo+1+a.size+1=lo+2+a.size by omega]
  exact ih _ nz _ b hf.2.2.2
 | ife a d r iha ihd ih=>
  intro lo next bases b hf
  rw [show (Tr.ife a d r).size=1+(a.size+(1+(d.size+(1+r.size)))) by simp only [Tr.size];omega]
  refine BasOk.app (BasOk.one (lowN_opens (.inl hf.1)) (fun h=>by rw [hf.1] at h;omega)) (fun nx=>BasOk.app (iha _ nx _ b hf.2.1) (fun ny=>BasOk.app (BasOk.one (by rw [hf.2.2.1,lowN_else]) (fun _=>by simp)) (fun nz=>?_)))
  rw [show lo+1+a.size+1=lo+2+a.size by omega]
  refine BasOk.app (ihd _ nz _ b hf.2.2.2.1) (fun nu=>BasOk.app (BasOk.one (by rw [hf.2.2.2.2.1,lowN_end]) (fun _=>by simp)) (fun nv=>?_))
  rw [show lo+2+a.size+d.size+1=lo+3+a.size+d.size by omega]
  exact ih _ nv _ b hf.2.2.2.2.2
 | lp a r iha ih=>
  intro lo next bases b hf
  rw [show (Tr.lp a r).size=1+(a.size+(1+r.size)) by simp only [Tr.size];omega]
  refine BasOk.app (BasOk.one (lowN_opens (.inr hf.1)) (fun h=>by rw [hf.1] at h;omega)) (fun nx=>BasOk.app (iha _ nx _ true hf.2.1) (fun ny=>BasOk.app (BasOk.one (by rw [hf.2.2.1,lowN_end]) (fun _=>by simp)) (fun nz=>?_)))
  rw [show lo+1+a.size+1=lo+2+a.size by omega]
  exact ih _ nz _ b hf.2.2.2
def mapM(f:Int→Option Value)(l:List Inv):Int→Option Value:=l.foldl (fun f x=>zput f x.at_ (.int .i64 x.most)) f
theorem mapM_take{l:List Inv}{f:Int→Option Value}{k:Nat}(hk:k < l.length):mapM f (l.take (k+1))=zput (mapM f (l.take k)) (l.getD k ⟨0,0,[]⟩).at_ (.int .i64 (l.getD k ⟨0,0,[]⟩).most):=by
 unfold mapM
 rw [List.take_add_one,List.foldl_append,List.getElem?_eq_getElem hk,List.getD_eq_getElem?_getD,List.getElem?_eq_getElem hk]
 rfl
theorem invAt_cons(y:Inv)(l:List Inv)(k:Nat):invAt (y :: l) k=if y.at_=(k:Int) then some y else invAt l k:=by
 unfold invAt
 rw [List.find?_cons]
 by_cases h:y.at_=(k:Int)
 ·rw [if_pos h];simp [h]
 ·rw [if_neg h];simp [h]
theorem mapM_at:∀ (l:List Inv) (f:Int→Option Value),(l.map fun x=>x.at_).Nodup→∀ k:Nat,mapM f l (k:Int)=match invAt l k with | some x=>some (.int .i64 x.most) | none=>f (k:Int)
 | [],f,_,k=>rfl
 | y :: l,f,hn,k=>by
  have hn:=List.nodup_cons.1 hn
  show mapM (zput f y.at_ (.int .i64 y.most)) l (k:Int)=_
  rw [mapM_at l _ hn.2 k,invAt_cons]
  by_cases h:y.at_=(k:Int)
  ·rw [if_pos h]
   cases hi:invAt l k with
   | none=>simp only [];unfold zput;rw [if_pos h.symm]
   | some x=>exact absurd (List.mem_map.2 ⟨x,(invAt_some hi).1,(invAt_some hi).2⟩) (by rw [←h];exact hn.1)
  ·rw [if_neg h]
   cases hi:invAt l k with
   | none=>simp only [];unfold zput;rw [if_neg (fun e=>h e.symm)]
   | some x=>rfl
theorem mostAt_eq(l:List Inv)(k:Nat)(hn:(l.map fun x=>x.at_).Nodup):(mapM (fun _=>none) l (k:Int)).getD (.int .i64 0)=.int .i64 (mostAt l k):=by
 rw [mapM_at l _ hn k]
 unfold mostAt
 cases invAt l k <;> rfl
theorem chkE_nn(i:Ins):0≤chkE i:=by
 unfold chkE
 repeat' split
 all_goals decide
theorem codeE_nn:∀ l:List Ins,0≤codeE l:=by
 intro l
 induction l with
 | nil=>exact Int.le_refl _
 | cons i l ih=>
  rw [codeE_step]
  split
  ·exact chkE_nn i
  ·exact ih
theorem arrGo_nn:∀ (l:List Arr) (n:Int),0≤arrGo n l:=by
 intro l
 induction l with
 | nil=>intro n;exact Int.le_refl _
 | cons x l ih=>
  intro n
  unfold arrGo
  split
  ·decide
  ·exact ih _
theorem formE_nn(p:Prg):0≤formE p:=by
 unfold formE arrE
 repeat' split
 all_goals first | decide | exact arrGo_nn _ _ | exact codeE_nn _
structure LowW (p:Prg) (r:Rp):Prop where
 ok:PrgOk p
 hgt:0≤r.hgt∧r.hgt≤32
 bd:∀ k,k≤p.code.length→BdI 2064 (lowS p.code k 0 p.locs [])
 bas:∀ k,k < p.code.length→oI p.code k=28∨oI p.code k=31→(lowS p.code k 0 p.locs []).2≠[]
 ats:(r.inv.map fun x=>x.at_).Nodup
 most:∀ k,0≤mostAt r.inv k∧mostAt r.inv k≤65536
 inv:∀ x∈r.inv,0≤x.at_∧x.at_ < 1024∧0≤x.most∧x.most≤65536
 len:r.inv.length≤1024
theorem lowW_of{p:Prg}{r:Rp}(hwf:∀ x∈p.code,0≤x.arg∧x.arg < 4294967296)(h:verP p=.ok r):LowW p r:=by
 obtain⟨hp,t,-,hf,hsz,-,-,-,h4,h5⟩:=low_of hwf h
 have hr:=reports_of hwf h
 have hl:=hp.len
 have hlo:=hp.locs
 refine⟨hp,⟨h4,h5⟩,fun k hk=>?_,fun k hk ho=>?_,?_,fun k=>?_,fun x hx=>?_,?_⟩
 ·obtain⟨b1,b2⟩:=lowS_bd (fun k hk=>⟨(hp.ins k hk).1,(hp.ins k hk).2.1⟩) hlo.1 k hk
  exact⟨by omega,fun b hb=>by have:=b2 b hb;omega⟩
 ·have:=(bas_tree t 0 p.locs [] false hf).2 k (by omega)
  rw [Nat.zero_add] at this
  exact this ho
 ·rw [hr.ats]
  unfold loopsOf
  exact List.Pairwise.map _ (fun a b hab e=>hab (by omega)) (List.Pairwise.filter _ List.nodup_range)
 ·unfold mostAt
  cases hi:invAt r.inv k with
  | none=>simp only [];omega
  | some x=>have:=hr.inv x (invAt_some hi).1;simp only [];omega
 ·have h1:x.at_∈r.inv.map (fun x=>x.at_):=List.mem_map.2 ⟨x,hx,rfl⟩
  rw [hr.ats] at h1
  obtain⟨k,hk,he⟩:=List.mem_map.1 h1
  unfold loopsOf at hk
  have:=List.mem_range.1 (List.mem_filter.1 hk).1
  have h2:=hr.inv x hx
  omega
 ·have h1:=congrArg List.length hr.ats
  rw [List.length_map,List.length_map] at h1
  rw [h1]
  unfold loopsOf
  exact Nat.le_trans (List.length_filter_le _ _) (by rw [List.length_range];exact hl)
end Go.Proofs.YtpaplehcafeeaaaGreatDoor
