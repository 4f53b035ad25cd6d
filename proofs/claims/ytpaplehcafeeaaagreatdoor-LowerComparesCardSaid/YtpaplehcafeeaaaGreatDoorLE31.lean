/- Xp. -/
import Derived.Test.YtpaplehcafeeaaaGreatDoorLE30
set_option maxRecDepth 100000
set_option maxHeartbeats 40000000
set_option linter.unusedVariables false
set_option linter.unusedSimpArgs false
set_option linter.unusedSectionVars false
namespace Go.Proofs.YtpaplehcafeeaaaGreatDoor
open Go.RowKit Go.Proofs
variable [Inhabited ArgB]
section
variable {B g mb : Nat} {v : WV} {w w1 : World} {st : St} {d : WD}
theorem WK.rowL(h:WK B g mb v w st d)(hg:w.grownBy w1 (Value.slice d.vA d.vn d.vc).ownBlock):rowV w1 g 145 (rowK v d (st.hgt:Int) mb):=h.row.grown hg (fun e=>h.lvs.ne_row h.row (by decide) g e.symm rfl)
theorem WK.pushL(h:WK B g mb v w st d)(hg:w.grownBy w1 (Value.slice d.vA d.vn d.vc).ownBlock){A':Option Addr}{n' c':Nat}(ho:LvsS w1 B A' n' c' (d.X++[⟨d.lA,d.ln,d.lc⟩]))(hf:∀ b,(Value.slice A' n' c').ownBlock=some b→(Value.slice d.vA d.vn d.vc).ownBlock=some b∨w.heap.size≤b) :
  WK B g mb v (w1.setCell ⟨g,9,none⟩ (.slice A' n' c')) { st with lvs:=st.lvs++[st.locs] } { d with vA:=A',vn:=n',vc:=c',X:=d.X++[⟨d.lA,d.ln,d.lc⟩] }∧KV B g mb d { d with vA:=A',vn:=n',vc:=c',X:=d.X++[⟨d.lA,d.ln,d.lc⟩] } w (w1.setCell ⟨g,9,none⟩ (.slice A' n' c')):=by
 have hr1:=h.rowL hg
 have ht1:∀ (k:Nat) cs fr,(Value.slice d.vA d.vn d.vc).ownBlock=some k→w.heap[k]?≠some (Obj.cells cs 148 fr):=fun k cs fr hk=>by
  obtain⟨-,-,cur,hcur⟩:=h.lvs.blk hk
  exact ne_of_cells hcur (by decide)
 have hk1:KI B w w1:=KI.of_grown hg (fun k hk=>(h.lvs.blk hk).2.1) h.hB ht1
 have g2:w1.grownBy (w1.setCell ⟨g,9,none⟩ (.slice A' n' c')) (some g):=grownBy.setCell' (World.grownBy.refl _ _) _
 have hr1':w1.heap[g]?=some (.cells (rowK v d (st.hgt:Int) mb) 145 (0,0)):=hr1
 have hk2:KI B w1 (w1.setCell ⟨g,9,none⟩ (.slice A' n' c')):=by
  refine KI.of_grown g2 (fun k hk=>by injection hk with hk;rw [←hk];exact h.hg) (Nat.le_trans h.hB hg.size) (fun k cs fr hk=>?_)
  injection hk with hk;rw [←hk];exact ne_of_cells hr1' (by decide)
 have hk:=hk1.trans hk2
 have hblk:∀ k,k < w.heap.size→k≠g→(Value.slice d.vA d.vn d.vc).ownBlock≠some k→(w1.setCell ⟨g,9,none⟩ (.slice A' n' c')).heap[k]?=w.heap[k]?:=fun k h0 h1 h2=>(Below.heap_setCell w1 ⟨g,9,none⟩ _ k h1).trans (hg.block k h0 (fun e=>h2 e.symm))
 obtain⟨f,m1,m2⟩:=h.map
 obtain⟨mo,hmo1,hmo2⟩:=m1.isMap
 have hmb1:w1.heap[mb]?=w.heap[mb]?:=hg.block mb m1.lt (fun e=>by
  obtain⟨-,-,cur,hcur⟩:=h.lvs.blk (b:=mb) e.symm
  rw [hmo1] at hcur
  injection hcur with hcur
  rw [hcur] at hmo2
  cases hmo2)
 have hst1:=h.stk.grown hg (fun b hb e=>h.stk.ne_own h.lvs (by decide) b hb (by rw [←e]))
 refine⟨⟨hr1.set 9 (.slice A' n' c'),h.hg,Nat.le_trans h.hB (Nat.le_trans hg.size g2.size),h.locs.keep hk,hst1.grown g2 (hst1.ne_row hr1 (by decide)),ho.grown g2 (ho.ne_row hr1 (by decide)),by simp [h.lvl],fun i hi=>?_,h.hm,f,?_,m2.keep hk⟩,⟨⟨hk,fun k cs fr hc hne=>?_,hf⟩,fun k h0 h1 _ h3 _=>hblk k h0 h1 h3,fun k hk=>.inl hk⟩⟩
 ·have hlen:i < d.X.length+1:=by simpa using hi
  by_cases hlt:i < d.X.length
  ·have e1:(d.X++[(⟨d.lA,d.ln,d.lc⟩:SlV)]).getD i ⟨none,0,0⟩=d.X.getD i ⟨none,0,0⟩:=by simp [List.getD,List.getElem?_append_left hlt]
   have e2:(st.lvs++[st.locs]).getD i []=st.lvs.getD i []:=by simp [List.getD,List.getElem?_append_left (show i < st.lvs.length by rw [←h.lvl];exact hlt)]
   show IvK B _ ((d.X++[(⟨d.lA,d.ln,d.lc⟩:SlV)]).getD i ⟨none,0,0⟩).A _ _ ((st.lvs++[st.locs]).getD i [])
   rw [e1,e2]
   exact (h.lvi i hlt).keep hk
  ·obtain rfl:i=d.X.length:=by omega
   have e1:(d.X++[(⟨d.lA,d.ln,d.lc⟩:SlV)]).getD d.X.length ⟨none,0,0⟩=⟨d.lA,d.ln,d.lc⟩:=by simp [List.getD]
   have e2:(st.lvs++[st.locs]).getD d.X.length []=st.locs:=by rw [h.lvl];simp [List.getD]
   show IvK B _ ((d.X++[(⟨d.lA,d.ln,d.lc⟩:SlV)]).getD d.X.length ⟨none,0,0⟩).A _ _ ((st.lvs++[st.locs]).getD d.X.length [])
   rw [e1,e2]
   exact h.locs.keep hk
 ·have m3:=m1.same hmb1
  exact m3.same (g2.block mb m3.lt (fun e=>h.ne_map (by injection e)))
 ·refine hblk k (lt_of_heap hc) (fun e=>?_) hne
  have h1:=h.row
  unfold rowV at h1
  rw [←e] at h1
  exact ne_of_cells h1 (by decide) hc
end
def RepC(wB:World)(g mb:Nat)(v:WV)(p:Prg)(P:List Int)(n:Nat)(h:Hd)(N:Nat):Prop:=∀ (a:Tr) (lo base:Nat) (st:St) (d:WD) (w:World),a.size < N→Fit p.code true (lo+1) a→PartOk P (lo+1) a→oI p.code lo=29→gi P lo=(lo+1+a.size:Nat)→lo+2+a.size≤p.code.length→Below wB.heap.size wB w→WK wB.heap.size g mb v w st d→StOk n st→base≤32→d.mn+(6 * cT a+1)≤NOTES →
 Calls Tryz.prog 110 #[.pointer (some ⟨g,0,none⟩),.int .i64 (lo:Int),.int .i64 (base:Int)] w (BlkR wB.heap.size g mb v d w (6 * cT a+1) (lo+1+a.size) (repA p h a lo base st))
theorem capS_le(a b:Int):capS a b≤tooMany:=by unfold capS;omega
theorem blk_good{n:Nat}{R:St→Prop}{x:ER}(hx:GoodR n R (x.bind fun st' s' e'=>ER.ok st' (capS 0 s') (capS 0 e')))(hle:∀ st s e,x=.ok st s e→s≤tooMany∧e≤tooMany):GoodR n (fun _=>True) x:=by
 cases x with
 | bad a e=>trivial
 | stuck=>exact hx.elim
 | ok st s e=>
  obtain⟨h1,h2⟩:=hle st s e rfl
  obtain⟨g1,g2,g3,-,-⟩:=hx
  have e1:capS 0 s=s:=by unfold capS;omega
  have e2:capS 0 e=e:=by unfold capS;omega
  rw [e2] at g2 g3
  rw [e1] at g3
  exact⟨g1,g2,g3,h1,trivial⟩
theorem choA_le{p:Prg}{h:Hd}{a:Tr}{dd:Option Tr}{lo base loop:Nat}{st st':St}{s e:Int}(hc:choA p h a dd lo base loop st=.ok st' s e):s≤tooMany∧e≤tooMany:=by
 unfold choA at hc
 cases hp:popA st.stk base [116] with
 | error x=>rw [hp] at hc;cases hc
 | ok rl=>
  obtain⟨rest,l⟩:=rl
  rw [hp] at hc
  simp only [] at hc
  obtain⟨s1,x,y,h1,h2⟩:=ER.bind_ok hc
  split at h2
  ·cases h2
  ·cases dd with
   | none=>injection h2 with _ h3 h4;rw [←h3,←h4];exact⟨capS_le _ _,capS_le _ _⟩
   | some d=>
    obtain⟨s2,x2,y2,h3,h4⟩:=ER.bind_ok h2
    split at h4
    ·cases h4
    ·injection h4 with _ h5 h6;rw [←h5,←h6];exact⟨capS_le _ _,capS_le _ _⟩
theorem repA_le{p:Prg}{h:Hd}{a:Tr}{lo base:Nat}{st st':St}{s e:Int}(hc:repA p h a lo base st=.ok st' s e):s≤tooMany∧e≤tooMany:=by
 unfold repA at hc
 cases hp:popA st.stk base [110] with
 | error x=>rw [hp] at hc;cases hc
 | ok rl=>
  obtain⟨rest,l⟩:=rl
  rw [hp] at hc
  simp only [] at hc
  split at hc
  ·cases hc
  ·split at hc
   ·cases hc
   ·obtain⟨s1,x,y,h1,h2⟩:=ER.bind_ok hc
    injection h2 with _ h3 h4
    rw [←h3,←h4]
    exact⟨capS_le _ _,capS_le _ _⟩
theorem code_step(wB:World)(g mb:Nat)(v:WV)(p:Prg)(P:List Int)(n:Nat)(h:Hd)(N:Nat)(hC:CodeC wB g mb v p P n h N)(hR:RepC wB g mb v p P n h N)(hk:PK wB v p P)(hP:P.length=p.code.length)(hn:p.locs=(n:Int))(hh:HdOk n h):CodeC wB g mb v p P n h (N+1):=by
 intro t lo base loop st d w b htN hf hpo hl hb hW hs hba hlp hmn hlvs
 have Hlvs:=Lib.hid hlvs
 clear hlvs
 obtain⟨w1,hw1,g1,r10,r11,s1⟩:=two_boxes w 0 0 0 0
 have HW:=Lib.hid hW
 have HB:=Lib.hid hb
 have HK:=Lib.hid hk
 have HS:=Lib.hid hs
 have Hn:=Lib.hid hn
 have HC:=Lib.hid hC
 have HRp:=Lib.hid hR
 have HP:=Lib.hid hP
 have HH:=Lib.hid hh
 have Hl:=Lib.hid hl
 have HtN:=Lib.hid htN
 have hhi:lo+t.size≤1024:=by have:=hk.ok.len;omega
 obtain⟨hi,hhi'⟩:∃ hi,hi=lo+t.size:=⟨_,rfl⟩
 rw [←hhi'] at hhi ⊢
 have Hhi:=Lib.hid hhi'
 have Hw1:=Lib.hid hw1
 have HI:Hid (WK wB.heap.size g mb v w1 st d∧KV wB.heap.size g mb d d w w1∧rowV w1 w.heap.size 151 #[.int .i64 0,.int .i64 0]∧rowV w1 (w.heap.size+1) 151 #[.int .i64 0,.int .i64 0]):=⟨hW.below g1,KV.of_below g1 hW.hB,r10,r11⟩
 have HI2:Hid (Fit p.code b lo t∧PartOk P lo t):=⟨hf,hpo⟩
 have Hmn:=Lib.hid hmn
 clear hW hb hk hs hn hC hR hP hh hl htN hw1 g1 r10 r11 s1 hf hpo hmn hhi'
 go_enter Tryz.func77,Tryz.ntmps77
 go_wp2_with fail
 rw [←Hw1.out]
 go_loopw [12,13] (fun s12 _ wr=>∃ (r:Tr) (lo':Nat) (st':St) (d':WD) (s e:Int),s12=.int .i64 (lo':Int)∧Hid (lo'+r.size=hi∧0≤e∧e≤s∧s≤tooMany)∧Hid (Fit p.code b lo' r∧PartOk P lo' r∧anaT p h t lo base loop st 0 0=anaT p h r lo' base loop st' s e∧StOk n st'∧d'.mn+cT r≤d.mn+cT t∧lo≤lo'∧st'.lvs.length≤lo')∧Hid (WK wB.heap.size g mb v wr st' d'∧KV wB.heap.size g mb d d' w wr∧rowV wr w.heap.size 151 #[.int .i64 0,.int .i64 0]∧rowV wr (w.heap.size+1) 151 #[.int .i64 s,.int .i64 e])) (fun s12 _ _=>hi-(intOf s12).toNat)
 case atStart=>exact⟨t,lo,st,d,0,0,rfl,Lib.hid ⟨Hhi.out.symm,by omega,by omega,by unfold tooMany;omega⟩,Lib.hid ⟨HI2.out.1,HI2.out.2,rfl,HS.out,Nat.le_refl _,Nat.le_refl _,Hlvs.out⟩,HI⟩
 case round=>
  clear HI HI2
  obtain⟨r,lo',st',d',s,e,rfl,Hsz,HQ,HI⟩:=hrel
  have hsz:=Hsz.out.1
  have hse:=Hsz.out.2
  unfold tooMany at hse
  have Hse:Hid (0≤e∧e≤s∧s≤281474976710657):=hse
  cases r with
  | nil=>
   obtain rfl:lo'=hi:=by simp only [Tr.size] at hsz;omega
   have d0:decide ((lo':Int) < (lo':Int))=false:=by simp
   obtain⟨b0,b1⟩:=two_cellsV HI.out.2.2.2
   have Hr10:=Lib.hid HI.out.2.2.1
   clear hsz hse
   go_wp2_with (refine wpList_store_row rfl 151 (.tmp 10) (.tmp 79) rfl _ #[.int .i64 s,.int .i64 e] rfl rfl _ _ Hr10.out (hIbd _ _) rfl (hA2 _ _) ?_)
   obtain⟨k1,k2⟩:=two_cellsV (setRow_heap wr w.heap.size _ #[.int .i64 s,.int .i64 e] _ _ Hr10.out)
   refine bodyPost_ret (v:=.agg #[.int .i64 s,.int .i64 e]) (by simp [results,Tryz.results77,go_sem,k1,k2]) rfl ?_
   rw [HQ.out.2.2.1]
   exact⟨rfl,_,HI.out.1.boxG Hr10.out (by decide) (by decide) (by decide) (by decide) HW.out.hB (grownBy_setRow3 _ _ _),HI.out.2.1.boxG (Nat.le_refl _) HW.out.hB (grownBy_setRow3 _ _ _),HQ.out.2.2.2.2.1⟩
  | ins r'=>
   by_cases h30:oI p.code lo'=30
   ·skip
    obtain⟨hf1,hpo1,heq1,hs1,hmn1,hlo1,hlv1⟩:=HQ.out
    have Hlvs1:=Lib.hid hlv1
    have Hlo2:=Lib.hid hlo1
    have hlt:lo' < hi:=by simp only [Tr.size] at hsz;omega
    have d0:decide ((lo':Int) < (hi:Int))=true:=by simp;omega
    have d0':decide (lo' < hi)=true:=by simp;omega
    have hll:lo' < p.code.length:=by have h1:=Hl.out;have h2:=Hhi.out;omega
    have hbr:=HB.out.trans HI.out.2.1.kw.ki.below
    obtain⟨w2,hw2⟩:∃ w2,w2=wr.alloc (.cells #[.int .i64 0,.int .i64 0] 151):=⟨_,rfl⟩
    have hb2:Below wr.heap.size wr w2:=by rw [hw2];exact balloc (Below.refl _ _) _
    have r13:rowV w2 wr.heap.size 151 #[.int .i64 0,.int .i64 0]:=by rw [hw2];exact rowV.new wr _ _
    have hK2:=HI.out.1.below hb2
    obtain⟨cb,off,hcA,hcb,hx1,hx2⟩:=HK.out.ins (hbr.trans (hb2.mono HI.out.1.hB)) hll
    obtain⟨-,-,e2,-,-,-,e6,-,-,e9,-⟩:=hK2.cells
    have f9:=hK2.frozen 9
    have hcn:=HK.out.cn
    have hlo2:lo' < v.cn:=by omega
    obtain⟨cn,hcn'⟩:∃ c,c=v.cn:=⟨_,rfl⟩
    rw [hcA,←hcn'] at e2
    rw [←hcn'] at hlo2
    have HK2:=Lib.hid hK2
    have HV2:=Lib.hid (HI.out.2.1.trans (KV.of_below (g:=g) (mb:=mb) (d:=d') hb2 HI.out.1.hB))
    have HR2:=Lib.hid (And.intro (HI.out.2.2.1.below hb2 HI.out.2.2.1.lt) (And.intro (HI.out.2.2.2.below hb2 HI.out.2.2.2.lt) r13))
    have Hbr:=Lib.hid (hbr.trans (hb2.mono HI.out.1.hB))
    have Hll:=Lib.hid hll
    have Hw2:=Lib.hid hw2
    have Hwr:=Lib.hid (And.intro (show w.heap.size+1 < wr.heap.size from HI.out.2.2.2.lt) HI.out.1.hB)
    have Hsz':=Lib.hid hsz
    have hgl:=hK2.row.lt
    rw [h30] at hx1
    have HPop:=Lib.hid (popW_any wB.heap.size g mb v d' st' w2 HK2.out lo' base [116] (by decide) hs1.len (by omega))
    have hzs:strB [116]=⟨#[116]⟩:=rfl
    rw [hzs] at HPop
    have Hins:Hid (anaT p h t lo base loop st 0 0=(match popA st'.stk base [116] with
     | .error x=>ER.bad lo' x
     | .ok (rest,_)=>if rest.length≠loop then ER.bad lo' 14 else ER.ok { st' with stk:=rest,lvs:=st'.lvs++[st'.locs] } 1 0).bind fun st2 s2 e2=>anaT p h r' (lo'+1) base loop st2 (capS s s2) (capS e e2)):=by
     show _=_
     rw [heq1,anaT_ins]
     unfold insA
     rw [if_pos h30]
     first | done | rfl
    have Hs1:=Lib.hid hs1
    have Hf1:=Lib.hid hf1
    have Hpo1:=Lib.hid hpo1
    have Hmn1:=Lib.hid hmn1
    clear hzs h30 f9 e6 e9
    clear hlv1 hlo1 hf1 hpo1 heq1 hs1 hmn1 hll hbr hw2 hb2 r13 hK2 hx2 hcA hcn hcn' hsz HI
    go_upto_region 6 with fail
    rw [←Hw2.out]
    go_wp2_with fail
    refine HPop.out.mono ?_
    intro en wp hr
    clear HPop hx1 e2
    cases hpop:popA st'.stk base [116] with
    | error x=>
     rw [hpop] at hr
     obtain⟨rfl,hb3⟩:=hr
     refine⟨rfl,?_⟩
     rw [Hins.out,hpop]
     exact⟨rfl,HV2.out.kw.ki.below.trans hb3⟩
    | ok rl=>
     obtain⟨rest,l⟩:=rl
     rw [hpop] at hr
     obtain⟨A1,c1,rfl,-,hKp,hVp⟩:=hr
     obtain⟨hSp,-,-,-⟩:=popA_rest Hs1.out hpop
     by_cases hlr:rest.length=loop
     ·have heqB:Hid (anaT p h t lo base loop st 0 0=anaT p h r' (lo'+1) base loop { st' with stk:=rest,lvs:=st'.lvs++[st'.locs] } (capS s 1) (capS e 0)):=by show _=_;rw [Hins.out,hpop];show ER.bind (if rest.length≠loop then _ else _) _=_;rw [if_neg (by simpa using hlr)];rfl
      have HLv:=Lib.hid (levelW_ok wB.heap.size g mb v { d' with sn:=rest.length } { st' with stk:=rest } wp hKp lo' loop hlr)
      obtain⟨-,-,-,-,-,-,e6,-,-,e9,-⟩:=hKp.cells
      simp only [] at e6 e9
      have hvn:d'.vn≤1024:=by have h1:=hKp.vn;have h2:=Hlvs1.out;have h1:d'.vn=st'.lvs.length:=h1;omega
      have hml:=Lib.hid (show d'.vn+1≤maxLen∧(d'.vn+1) * 24≤140737488355328 by unfold maxLen;omega)
      have HLd:Hid (LvsS wp.drew wB.heap.size d'.vA d'.vn d'.vc d'.X∧wB.heap.size≤wp.drew.heap.size):=⟨hKp.lvs,hKp.hB⟩
      have HKp:=Lib.hid hKp
      have HVp:=Lib.hid hVp
      have HSp:=Lib.hid hSp
      have hglp:=hKp.row.lt
      clear hKp hVp hSp hpop hlr hgl
      go_wp2_with fail
      refine HLv.out.mono ?_
      rintro en wq ⟨rfl,hwq⟩
      obtain rfl:=hwq.symm
      clear hwq HLv
      go_upto_region 15 with fail
      go_region_law (first | (refine step_pushT (enc:=encSv) (w:=wp.drew) rfl (.tmp 66) (.tmp 71) rfl uSv infoSv encSv_one rfl (fun _=>rfl) (by decide) rfl HLd.out.1 HLd.out.2 (⟨d'.lA,d'.ln,d'.lc⟩:SlV) _ rfl rfl hml.out.1 hml.out.2 ?_;intro A7 c7 w7 ho7 hb7 hg7 hf7;have r7:=(HKp.out.drewN 1).rowL hg7;have t9:=cell_rowV r7 (j:=9) rfl;have ft9:=frozen_rowV' r7 9;have hgl7:=r7.lt))
      all_goals
       obtain⟨w3,hw3⟩:∃ w3,w3=w7.setCell ⟨g,9,none⟩ (.slice A7 (d'.vn+1) c7):=⟨_,rfl⟩
       have hpl:=(HKp.out.drewN 1).pushL hg7 ho7 hf7
       have hK3:WK wB.heap.size g mb v w3 { st' with stk:=rest,lvs:=st'.lvs++[st'.locs] } { d' with sn:=rest.length,vA:=A7,vn:=d'.vn+1,vc:=c7,X:=d'.X++[⟨d'.lA,d'.ln,d'.lc⟩] }:=by rw [hw3];exact hpl.1
       have hV3:KV wB.heap.size g mb d' { d' with sn:=rest.length,vA:=A7,vn:=d'.vn+1,vc:=c7,X:=d'.X++[⟨d'.lA,d'.ln,d'.lc⟩] } w2 w3:=by rw [hw3];exact (HVp.out.drewN 1).trans hpl.2
       have Hlv2:Hid ((st'.lvs++[st'.locs]).length≤lo'+1):=by show _≤_;have h1:=Hlvs1.out;simp;omega
       rw [←hw3]
       clear hw3 hpl ho7 hb7 hg7 hf7 r7 t9 ft9 e6 e9
       have p10:=hV3.row HR2.out.1 (HK2.out.ne_box HR2.out.1 (by decide) (by decide) (by decide))
       have p11:=hV3.row HR2.out.2.1 (HK2.out.ne_box HR2.out.2.1 (by decide) (by decide) (by decide))
       have p13:=Lib.hid (hV3.row HR2.out.2.2 (HK2.out.ne_box HR2.out.2.2 (by decide) (by decide) (by decide)))
       obtain⟨w4,hw4⟩:∃ w4,w4=w3.setRow wr.heap.size #[.int .i64 1,.int .i64 0]:=⟨_,rfl⟩
       have g4:w3.grownBy w4 (some wr.heap.size):=by rw [hw4];exact grownBy_setRow3 _ _ _
       have hBr:wB.heap.size≤wr.heap.size:=Hwr.out.2
       have hw1r:w.heap.size+1 < wr.heap.size:=Hwr.out.1
       have HK4:=Lib.hid (hK3.boxG p13.out (by decide) (by decide) (by decide) (by decide) hBr g4)
       have HV4:=Lib.hid ((HV2.out.trans hV3).boxG (r:=wr.heap.size) (by omega) HW.out.hB g4)
       have HR4:Hid (rowV w4 w.heap.size 151 #[.int .i64 0,.int .i64 0]∧rowV w4 (w.heap.size+1) 151 #[.int .i64 s,.int .i64 e]∧rowV w4 wr.heap.size 151 #[.int .i64 1,.int .i64 0]):=⟨(g4.block _ p10.lt (fun e=>by injection e;omega)).trans p10,(g4.block _ p11.lt (fun e=>by injection e;omega)).trans p11,by rw [hw4];exact setRow_heap w3 wr.heap.size _ #[.int .i64 1,.int .i64 0] _ _ p13.out⟩
       have Hw4:=Lib.hid hw4
       clear p10 p11 hw4 g4 hBr hw1r hK3 hV3
       go_upto_region 17 with (refine wpList_store_row rfl 151 (.tmp 13) (.tmp 75) rfl _ #[.int .i64 1,.int .i64 0] rfl rfl _ _ p13.out (hIbd _ _) rfl (hA2 _ _) ?_)
       rw [←Hw4.out]
       have hbd:lo'+1≤hi:=by have h9:lo'+1+Tr.size r'=hi:=(by have h3:=Hsz'.out;simp only [Tr.size] at h3;omega);omega
       obtain⟨b0,b1⟩:=two_cellsV HR4.out.2.1
       obtain⟨x0,x1⟩:=two_cellsV HR4.out.2.2
       have hx:((0:Int)≤0∧(0:Int)≤1)∧(1:Int)≤281474976710657:=(by omega)
       have HPl:=Lib.hid (plus_any s e 1 0 (by omega) (by omega) (by omega) (by omega) w4)
       have Hx:=Lib.hid hx
       clear hx
       go_wp2_with fail
       refine HPl.out.mono ?_
       rintro en w8 ⟨rfl,hb8⟩
       have p11:=Lib.hid (HR4.out.2.1.below hb8 HR4.out.2.1.lt)
       have p10:=HR4.out.1.below hb8 HR4.out.1.lt
       have hK8:=HK4.out.below hb8
       have hV8:=HV4.out.trans (KV.of_below (g:=g) (mb:=mb) hb8 HK4.out.hB)
       obtain⟨w9,hw9⟩:∃ w9,w9=w8.setRow (w.heap.size+1) #[.int .i64 (capS s 1),.int .i64 (capS e 0)]:=⟨_,rfl⟩
       have g9:w8.grownBy w9 (some (w.heap.size+1)):=by rw [hw9];exact grownBy_setRow3 _ _ _
       have hB11:wB.heap.size≤w.heap.size+1:=Nat.le_succ_of_le HW.out.hB
       have HN:Hid (WK wB.heap.size g mb v w9 { st' with stk:=rest,lvs:=st'.lvs++[st'.locs] } { d' with sn:=rest.length,vA:=A7,vn:=d'.vn+1,vc:=c7,X:=d'.X++[⟨d'.lA,d'.ln,d'.lc⟩] }∧KV wB.heap.size g mb d { d' with sn:=rest.length,vA:=A7,vn:=d'.vn+1,vc:=c7,X:=d'.X++[⟨d'.lA,d'.ln,d'.lc⟩] } w w9∧rowV w9 w.heap.size 151 #[.int .i64 0,.int .i64 0]∧rowV w9 (w.heap.size+1) 151 #[.int .i64 (capS s 1),.int .i64 (capS e 0)]):=⟨hK8.boxG p11.out (by decide) (by decide) (by decide) (by decide) hB11 g9,hV8.boxG (Nat.le_succ _) HW.out.hB g9,(g9.block _ p10.lt (fun e=>by injection e;omega)).trans p10,by rw [hw9];exact setRow_heap w8 (w.heap.size+1) _ #[.int .i64 (capS s 1),.int .i64 (capS e 0)] _ _ p11.out⟩
       have Hw9:=Lib.hid hw9
       clear hb8 p10 hK8 hV8 hw9 g9 hB11 b0 b1 x0 x1
       go_wp2_with (refine wpList_store_row rfl 151 (.tmp 11) (.tmp 78) rfl _ #[.int .i64 (capS s 1),.int .i64 (capS e 0)] rfl rfl _ _ p11.out (hIbd _ _) rfl (hA2 _ _) ?_)
       rw [←Hw9.out]
       go_roundw
       case rel=>
        have hcap:=capS_ok Hse.out.1 Hse.out.2.1 Hx.out.1.1 Hx.out.1.2
        refine⟨r',lo'+1,{ st' with stk:=rest,lvs:=st'.lvs++[st'.locs] },{ d' with sn:=rest.length,vA:=A7,vn:=d'.vn+1,vc:=c7,X:=d'.X++[⟨d'.lA,d'.ln,d'.lc⟩] },capS s 1,capS e 0,by go_num,Lib.hid ⟨by have h3:=Hsz'.out;simp only [Tr.size] at h3;omega,hcap.1,hcap.2.1,hcap.2.2⟩,Lib.hid ⟨Hf1.out.2.2.2.2.2,Hpo1.out,heqB.out,⟨HSp.out.locs,HSp.out.stk,HSp.out.len,HSp.out.hgt,fun l hl=>by rcases List.mem_append.1 hl with h1 | h1;exact HSp.out.lvs l h1;rw [List.mem_singleton.1 h1];exact HSp.out.locs,HSp.out.inv⟩,by have h1:=Hmn1.out;simp only [cT] at h1;exact h1,by have:=Hlo2.out;omega,Hlv2.out⟩,HN⟩
       case measure=>(simp [intOf]) <;> omega
     ·have heqB:Hid (anaT p h t lo base loop st 0 0=.bad lo' 14):=by show _=_;rw [Hins.out,hpop];show ER.bind (if rest.length≠loop then _ else _) _=_;rw [if_pos (by simpa using hlr)];rfl
      have HLv:=Lib.hid (levelW_bad wB.heap.size g mb v { d' with sn:=rest.length } { st' with stk:=rest } wp hKp lo' loop hlr)
      have HVp:=Lib.hid hVp
      clear hKp hVp hSp hpop hlr
      go_wp2_with fail
      refine HLv.out.mono ?_
      rintro en wq ⟨rfl,hwq⟩
      obtain rfl:=hwq.symm
      refine⟨rfl,?_⟩
      rw [heqB.out]
      exact⟨rfl,(HV2.out.trans HVp.out).kw.ki.below⟩
   ·skip
    obtain⟨hf1,hpo1,heq1,hs1,hmn1,hlo1,hlv1⟩:=HQ.out
    have Hlvs1:=Lib.hid hlv1
    have Hlo2:=Lib.hid hlo1
    have hlt:lo' < hi:=by simp only [Tr.size] at hsz;omega
    have d0:decide ((lo':Int) < (hi:Int))=true:=by simp;omega
    have d0':decide (lo' < hi)=true:=by simp;omega
    have hll:lo' < p.code.length:=by have h1:=Hl.out;have h2:=Hhi.out;omega
    have hbr:=HB.out.trans HI.out.2.1.kw.ki.below
    obtain⟨w2,hw2⟩:∃ w2,w2=wr.alloc (.cells #[.int .i64 0,.int .i64 0] 151):=⟨_,rfl⟩
    have hb2:Below wr.heap.size wr w2:=by rw [hw2];exact balloc (Below.refl _ _) _
    have r13:rowV w2 wr.heap.size 151 #[.int .i64 0,.int .i64 0]:=by rw [hw2];exact rowV.new wr _ _
    have hK2:=HI.out.1.below hb2
    obtain⟨cb,off,hcA,hcb,hx1,hx2⟩:=HK.out.ins (hbr.trans (hb2.mono HI.out.1.hB)) hll
    obtain⟨-,-,e2,-,-,-,e6,-,-,e9,-⟩:=hK2.cells
    have f9:=hK2.frozen 9
    have hcn:=HK.out.cn
    have hlo2:lo' < v.cn:=by omega
    obtain⟨cn,hcn'⟩:∃ c,c=v.cn:=⟨_,rfl⟩
    rw [hcA,←hcn'] at e2
    rw [←hcn'] at hlo2
    have HK2:=Lib.hid hK2
    have HV2:=Lib.hid (HI.out.2.1.trans (KV.of_below (g:=g) (mb:=mb) (d:=d') hb2 HI.out.1.hB))
    have HR2:=Lib.hid (And.intro (HI.out.2.2.1.below hb2 HI.out.2.2.1.lt) (And.intro (HI.out.2.2.2.below hb2 HI.out.2.2.2.lt) r13))
    have Hbr:=Lib.hid (hbr.trans (hb2.mono HI.out.1.hB))
    have Hll:=Lib.hid hll
    have Hw2:=Lib.hid hw2
    have Hwr:=Lib.hid (And.intro (show w.heap.size+1 < wr.heap.size from HI.out.2.2.2.lt) HI.out.1.hB)
    have Hsz':=Lib.hid hsz
    have hgl:=hK2.row.lt
    have q27:(oI p.code lo'==27)=false:=by simpa using hf1.1
    have q29:(oI p.code lo'==29)=false:=by simpa using hf1.2.2.1
    have q30:(oI p.code lo'==30)=false:=by simpa using h30
    have H30:=Lib.hid h30
    have HCall:=Lib.hid (plainW_any wB g mb v d' st' w2 p P HK.out Hbr.out HK2.out n Hn.out hs1 lo' base Hll.out (by omega) hf1.1 hf1.2.1 hf1.2.2.1 h30 hf1.2.2.2.1)
    have heqA:Hid (anaT p h t lo base loop st 0 0=(plA p lo' base st').bind fun st2 s2 e2=>anaT p h r' (lo'+1) base loop st2 (capS s s2) (capS e e2)):=by show _=_;rw [heq1];exact (by rw [anaT_ins];unfold insA;rw [if_neg h30])
    have hgood:=(plA_good (base:=base) HK.out.ok Hn.out Hll.out hs1)
    have Hgood:=Lib.hid hgood
    have Hf1:=Lib.hid hf1
    have Hpo1:=Lib.hid hpo1
    have Hmn1:=Lib.hid hmn1
    clear hgood
    clear h30 hlv1 hlo1 hf1 hpo1 heq1 hs1 hmn1 hll hbr hw2 hb2 r13 hK2 hx2 hcA hcn hcn' hsz HI
    obtain⟨op,hop⟩:∃ op,op=oI p.code lo':=⟨_,rfl⟩
    rw [←hop] at hx1 q27 q29 q30
    clear hop
    go_upto_region 6 with fail
    rw [←Hw2.out]
    go_wp2_with fail
    refine HCall.out.mono ?_
    intro en w3 hr
    clear HCall hx1 e2 e6 e9 f9
    cases hana:plA p lo' base st' with
    | stuck=>rw [hana] at hr;exact hr.elim
    | bad q x=>
     rw [hana] at hr
     obtain⟨rfl,hb3⟩:=hr
     refine⟨rfl,?_⟩
     rw [heqA.out,hana]
     exact⟨rfl,HV2.out.kw.ki.below.trans hb3⟩
    | ok st2 xs xe=>
     rw [hana] at hr
     obtain⟨rfl,d2,hK3,hV3,hm3⟩:=hr
     have hg:=Hgood.out
     rw [hana] at hg
     have Hg:=Lib.hid hg
     have Hm3:=Lib.hid hm3
     have heqB:Hid (anaT p h t lo base loop st 0 0=anaT p h r' (lo'+1) base loop st2 (capS s xs) (capS e xe)):=by show _=_;rw [heqA.out,hana];rfl
     have Hlv2:Hid (st2.lvs.length≤lo'+1):=by
      show _≤_
      have h1:=anaT_lvs (p:=p) (h:=h) (.ins .nil) lo' base loop st' st2 0 0 (capS 0 xs) (capS 0 xe) (by rw [anaT_ins];unfold insA;rw [if_neg H30.out,hana];rfl)
      have h2:=Hlvs1.out
      simp only [Tr.size] at h1
      omega
     clear hg hm3 hana
     have p10:=hV3.row HR2.out.1 (HK2.out.ne_box HR2.out.1 (by decide) (by decide) (by decide))
     have p11:=hV3.row HR2.out.2.1 (HK2.out.ne_box HR2.out.2.1 (by decide) (by decide) (by decide))
     have p13:=Lib.hid (hV3.row HR2.out.2.2 (HK2.out.ne_box HR2.out.2.2 (by decide) (by decide) (by decide)))
     obtain⟨w4,hw4⟩:∃ w4,w4=w3.setRow wr.heap.size #[.int .i64 xs,.int .i64 xe]:=⟨_,rfl⟩
     have g4:w3.grownBy w4 (some wr.heap.size):=by rw [hw4];exact grownBy_setRow3 _ _ _
     have hBr:wB.heap.size≤wr.heap.size:=Hwr.out.2
     have hw1r:w.heap.size+1 < wr.heap.size:=Hwr.out.1
     have HK4:=Lib.hid (hK3.boxG p13.out (by decide) (by decide) (by decide) (by decide) hBr g4)
     have HV4:=Lib.hid ((HV2.out.trans hV3).boxG (r:=wr.heap.size) (by omega) HW.out.hB g4)
     have HR4:Hid (rowV w4 w.heap.size 151 #[.int .i64 0,.int .i64 0]∧rowV w4 (w.heap.size+1) 151 #[.int .i64 s,.int .i64 e]∧rowV w4 wr.heap.size 151 #[.int .i64 xs,.int .i64 xe]):=⟨(g4.block _ p10.lt (fun e=>by injection e;omega)).trans p10,(g4.block _ p11.lt (fun e=>by injection e;omega)).trans p11,by rw [hw4];exact setRow_heap w3 wr.heap.size _ #[.int .i64 xs,.int .i64 xe] _ _ p13.out⟩
     have Hw4:=Lib.hid hw4
     clear p10 p11 hw4 g4 hBr hw1r hK3 hV3
     go_upto_region 17 with (refine wpList_store_row rfl 151 (.tmp 13) (.tmp 32) rfl _ #[.int .i64 xs,.int .i64 xe] rfl rfl _ _ p13.out (hIbd _ _) rfl (hA2 _ _) ?_)
     rw [←Hw4.out]
     have hbd:lo'+1≤hi:=by have h9:lo'+1+Tr.size r'=hi:=(by have h3:=Hsz'.out;simp only [Tr.size] at h3;omega);omega
     obtain⟨b0,b1⟩:=two_cellsV HR4.out.2.1
     obtain⟨x0,x1⟩:=two_cellsV HR4.out.2.2
     have hx:((0:Int)≤xe∧(xe:Int)≤xs)∧(xs:Int)≤281474976710657:=(by have h1:=Hg.out.2.1;have h2:=Hg.out.2.2.1;have h3:=Hg.out.2.2.2.1;unfold tooMany at h3;exact⟨⟨h1,h2⟩,h3⟩)
     have HPl:=Lib.hid (plus_any s e xs xe (by omega) (by omega) (by omega) (by omega) w4)
     have Hx:=Lib.hid hx
     clear hx
     go_wp2_with fail
     refine HPl.out.mono ?_
     rintro en w8 ⟨rfl,hb8⟩
     have p11:=Lib.hid (HR4.out.2.1.below hb8 HR4.out.2.1.lt)
     have p10:=HR4.out.1.below hb8 HR4.out.1.lt
     have hK8:=HK4.out.below hb8
     have hV8:=HV4.out.trans (KV.of_below (g:=g) (mb:=mb) hb8 HK4.out.hB)
     obtain⟨w9,hw9⟩:∃ w9,w9=w8.setRow (w.heap.size+1) #[.int .i64 (capS s xs),.int .i64 (capS e xe)]:=⟨_,rfl⟩
     have g9:w8.grownBy w9 (some (w.heap.size+1)):=by rw [hw9];exact grownBy_setRow3 _ _ _
     have hB11:wB.heap.size≤w.heap.size+1:=Nat.le_succ_of_le HW.out.hB
     have HN:Hid (WK wB.heap.size g mb v w9 st2 d2∧KV wB.heap.size g mb d d2 w w9∧rowV w9 w.heap.size 151 #[.int .i64 0,.int .i64 0]∧rowV w9 (w.heap.size+1) 151 #[.int .i64 (capS s xs),.int .i64 (capS e xe)]):=⟨hK8.boxG p11.out (by decide) (by decide) (by decide) (by decide) hB11 g9,hV8.boxG (Nat.le_succ _) HW.out.hB g9,(g9.block _ p10.lt (fun e=>by injection e;omega)).trans p10,by rw [hw9];exact setRow_heap w8 (w.heap.size+1) _ #[.int .i64 (capS s xs),.int .i64 (capS e xe)] _ _ p11.out⟩
     have Hw9:=Lib.hid hw9
     clear hb8 p10 hK8 hV8 hw9 g9 hB11 b0 b1 x0 x1
     go_wp2_with (refine wpList_store_row rfl 151 (.tmp 11) (.tmp 78) rfl _ #[.int .i64 (capS s xs),.int .i64 (capS e xe)] rfl rfl _ _ p11.out (hIbd _ _) rfl (hA2 _ _) ?_)
     rw [←Hw9.out]
     go_roundw
     case rel=>
      have hcap:=capS_ok Hse.out.1 Hse.out.2.1 Hx.out.1.1 Hx.out.1.2
      refine⟨r',lo'+1,st2,d2,capS s xs,capS e xe,by go_num,Lib.hid ⟨by have h3:=Hsz'.out;simp only [Tr.size] at h3;omega,hcap.1,hcap.2.1,hcap.2.2⟩,Lib.hid ⟨Hf1.out.2.2.2.2.2,Hpo1.out,heqB.out,Hg.out.1,by have h1:=Hmn1.out;have h2:d2.mn≤d'.mn+0:=Hm3.out;simp only [cT] at h1;omega,by have:=Hlo2.out;omega,Hlv2.out⟩,HN⟩
     case measure=>(simp [intOf]) <;> omega
  | ift a r'=>
   obtain⟨hf1,hpo1,heq1,hs1,hmn1,hlo1,hlv1⟩:=HQ.out
   have Hlvs1:=Lib.hid hlv1
   have Hlo2:=Lib.hid hlo1
   have hlt:lo' < hi:=by simp only [Tr.size] at hsz;omega
   have d0:decide ((lo':Int) < (hi:Int))=true:=by simp;omega
   have d0':decide (lo' < hi)=true:=by simp;omega
   have hll:lo' < p.code.length:=by have h1:=Hl.out;have h2:=Hhi.out;omega
   have hbr:=HB.out.trans HI.out.2.1.kw.ki.below
   obtain⟨w2,hw2⟩:∃ w2,w2=wr.alloc (.cells #[.int .i64 0,.int .i64 0] 151):=⟨_,rfl⟩
   have hb2:Below wr.heap.size wr w2:=by rw [hw2];exact balloc (Below.refl _ _) _
   have r13:rowV w2 wr.heap.size 151 #[.int .i64 0,.int .i64 0]:=by rw [hw2];exact rowV.new wr _ _
   have hK2:=HI.out.1.below hb2
   obtain⟨cb,off,hcA,hcb,hx1,hx2⟩:=HK.out.ins (hbr.trans (hb2.mono HI.out.1.hB)) hll
   obtain⟨-,-,e2,-,-,-,e6,-,-,e9,-⟩:=hK2.cells
   have f9:=hK2.frozen 9
   have hcn:=HK.out.cn
   have hlo2:lo' < v.cn:=by omega
   obtain⟨cn,hcn'⟩:∃ c,c=v.cn:=⟨_,rfl⟩
   rw [hcA,←hcn'] at e2
   rw [←hcn'] at hlo2
   have HK2:=Lib.hid hK2
   have HV2:=Lib.hid (HI.out.2.1.trans (KV.of_below (g:=g) (mb:=mb) (d:=d') hb2 HI.out.1.hB))
   have HR2:=Lib.hid (And.intro (HI.out.2.2.1.below hb2 HI.out.2.2.1.lt) (And.intro (HI.out.2.2.2.below hb2 HI.out.2.2.2.lt) r13))
   have Hbr:=Lib.hid (hbr.trans (hb2.mono HI.out.1.hB))
   have Hll:=Lib.hid hll
   have Hw2:=Lib.hid hw2
   have Hwr:=Lib.hid (And.intro (show w.heap.size+1 < wr.heap.size from HI.out.2.2.2.lt) HI.out.1.hB)
   have Hsz':=Lib.hid hsz
   have hgl:=hK2.row.lt
   have q27:(oI p.code lo'==27)=true:=by rw [hf1.1];rfl
   rw [hf1.1] at hx1
   clear q27
   have HCall:=Lib.hid (choice_one wB g mb v p P n h N HC.out HK.out HP.out Hn.out HH.out a lo' base loop st' d' w2 b (by have h1:=HtN.out;have h2:=Hhi.out;have h3:=Hsz'.out;simp only [Tr.size] at h3;omega) hf1.2.1 hpo1.2.1 hf1.2.2.1 hpo1.1 (by simp only [Tr.size] at hsz;have h1:=Hl.out;have h2:=Hhi.out;omega) Hbr.out HK2.out hs1 hba hlp (by have h1:=hmn1;have h2:=Hmn.out;simp only [cT] at h1;omega) hlv1)
   have heqA:Hid (anaT p h t lo base loop st 0 0=(choA p h a none lo' base loop st').bind fun st2 s2 e2=>anaT p h r' (lo'+2+a.size) base loop st2 (capS s s2) (capS e e2)):=by show _=_;rw [heq1];exact anaT_ift _ _ _ _ _ _ _ _ _ _
   have hgood:=blk_good (n:=n) (x:=choA p h a none lo' base loop st') (by have h1:=anaT_good HK.out.ok Hn.out HH.out (.ift a .nil) lo' base loop st' 0 0 b ⟨hf1.1,hf1.2.1,hf1.2.2.1,trivial⟩ (by simp only [Tr.size] at hsz ⊢;have h1:=Hl.out;have h2:=Hhi.out;omega) hs1 (by omega) (by omega) (by unfold tooMany;omega);rw [anaT_ift] at h1;exact h1) (fun _ _ _ hc=>choA_le hc)
   have Hgood:=Lib.hid hgood
   have Hf1:=Lib.hid hf1
   have Hpo1:=Lib.hid hpo1
   have Hmn1:=Lib.hid hmn1
   clear hgood
   clear hlv1 hlo1 hf1 hpo1 heq1 hs1 hmn1 hll hbr hw2 hb2 r13 hK2 hx2 hcA hcn hcn' hsz HI
   go_upto_region 6 with fail
   rw [←Hw2.out]
   go_wp2_with fail
   refine HCall.out.mono ?_
   intro en w3 hr
   clear HCall hx1 e2 e6 e9 f9
   cases hana:choA p h a none lo' base loop st' with
   | stuck=>rw [hana] at hr;exact hr.elim
   | bad q x=>
    rw [hana] at hr
    obtain⟨rfl,hb3⟩:=hr
    refine⟨rfl,?_⟩
    rw [heqA.out,hana]
    exact⟨rfl,HV2.out.kw.ki.below.trans hb3⟩
   | ok st2 xs xe=>
    rw [hana] at hr
    obtain⟨rfl,d2,hK3,hV3,hm3⟩:=hr
    have hg:=Hgood.out
    rw [hana] at hg
    have Hg:=Lib.hid hg
    have Hm3:=Lib.hid hm3
    have heqB:Hid (anaT p h t lo base loop st 0 0=anaT p h r' (lo'+2+a.size) base loop st2 (capS s xs) (capS e xe)):=by show _=_;rw [heqA.out,hana];rfl
    have Hlv2:Hid (st2.lvs.length≤lo'+2+a.size):=by
     show _≤_
     have h1:=anaT_lvs (p:=p) (h:=h) (.ift a .nil) lo' base loop st' st2 0 0 (capS 0 xs) (capS 0 xe) (by rw [anaT_ift,hana];rfl)
     have h2:=Hlvs1.out
     simp only [Tr.size] at h1
     omega
    clear hg hm3 hana
    have p10:=hV3.row HR2.out.1 (HK2.out.ne_box HR2.out.1 (by decide) (by decide) (by decide))
    have p11:=hV3.row HR2.out.2.1 (HK2.out.ne_box HR2.out.2.1 (by decide) (by decide) (by decide))
    have p13:=Lib.hid (hV3.row HR2.out.2.2 (HK2.out.ne_box HR2.out.2.2 (by decide) (by decide) (by decide)))
    obtain⟨w4,hw4⟩:∃ w4,w4=w3.setRow wr.heap.size #[.int .i64 xs,.int .i64 xe]:=⟨_,rfl⟩
    have g4:w3.grownBy w4 (some wr.heap.size):=by rw [hw4];exact grownBy_setRow3 _ _ _
    have hBr:wB.heap.size≤wr.heap.size:=Hwr.out.2
    have hw1r:w.heap.size+1 < wr.heap.size:=Hwr.out.1
    have HK4:=Lib.hid (hK3.boxG p13.out (by decide) (by decide) (by decide) (by decide) hBr g4)
    have HV4:=Lib.hid ((HV2.out.trans hV3).boxG (r:=wr.heap.size) (by omega) HW.out.hB g4)
    have HR4:Hid (rowV w4 w.heap.size 151 #[.int .i64 0,.int .i64 0]∧rowV w4 (w.heap.size+1) 151 #[.int .i64 s,.int .i64 e]∧rowV w4 wr.heap.size 151 #[.int .i64 xs,.int .i64 xe]):=⟨(g4.block _ p10.lt (fun e=>by injection e;omega)).trans p10,(g4.block _ p11.lt (fun e=>by injection e;omega)).trans p11,by rw [hw4];exact setRow_heap w3 wr.heap.size _ #[.int .i64 xs,.int .i64 xe] _ _ p13.out⟩
    have Hw4:=Lib.hid hw4
    clear p10 p11 hw4 g4 hBr hw1r hK3 hV3
    go_upto_region 17 with (refine wpList_store_row rfl 151 (.tmp 13) (.tmp 41) rfl _ #[.int .i64 xs,.int .i64 xe] rfl rfl _ _ p13.out (hIbd _ _) rfl (hA2 _ _) ?_)
    rw [←Hw4.out]
    have hbd:lo'+2+a.size≤hi:=by have h9:lo'+2+a.size+Tr.size r'=hi:=(by have h3:=Hsz'.out;simp only [Tr.size] at h3;omega);omega
    obtain⟨b0,b1⟩:=two_cellsV HR4.out.2.1
    obtain⟨x0,x1⟩:=two_cellsV HR4.out.2.2
    have hx:((0:Int)≤xe∧(xe:Int)≤xs)∧(xs:Int)≤281474976710657:=(by have h1:=Hg.out.2.1;have h2:=Hg.out.2.2.1;have h3:=Hg.out.2.2.2.1;unfold tooMany at h3;exact⟨⟨h1,h2⟩,h3⟩)
    have HPl:=Lib.hid (plus_any s e xs xe (by omega) (by omega) (by omega) (by omega) w4)
    have Hx:=Lib.hid hx
    clear hx
    go_wp2_with fail
    refine HPl.out.mono ?_
    rintro en w8 ⟨rfl,hb8⟩
    have p11:=Lib.hid (HR4.out.2.1.below hb8 HR4.out.2.1.lt)
    have p10:=HR4.out.1.below hb8 HR4.out.1.lt
    have hK8:=HK4.out.below hb8
    have hV8:=HV4.out.trans (KV.of_below (g:=g) (mb:=mb) hb8 HK4.out.hB)
    obtain⟨w9,hw9⟩:∃ w9,w9=w8.setRow (w.heap.size+1) #[.int .i64 (capS s xs),.int .i64 (capS e xe)]:=⟨_,rfl⟩
    have g9:w8.grownBy w9 (some (w.heap.size+1)):=by rw [hw9];exact grownBy_setRow3 _ _ _
    have hB11:wB.heap.size≤w.heap.size+1:=Nat.le_succ_of_le HW.out.hB
    have HN:Hid (WK wB.heap.size g mb v w9 st2 d2∧KV wB.heap.size g mb d d2 w w9∧rowV w9 w.heap.size 151 #[.int .i64 0,.int .i64 0]∧rowV w9 (w.heap.size+1) 151 #[.int .i64 (capS s xs),.int .i64 (capS e xe)]):=⟨hK8.boxG p11.out (by decide) (by decide) (by decide) (by decide) hB11 g9,hV8.boxG (Nat.le_succ _) HW.out.hB g9,(g9.block _ p10.lt (fun e=>by injection e;omega)).trans p10,by rw [hw9];exact setRow_heap w8 (w.heap.size+1) _ #[.int .i64 (capS s xs),.int .i64 (capS e xe)] _ _ p11.out⟩
    have Hw9:=Lib.hid hw9
    clear hb8 p10 hK8 hV8 hw9 g9 hB11 b0 b1 x0 x1
    go_wp2_with (refine wpList_store_row rfl 151 (.tmp 11) (.tmp 78) rfl _ #[.int .i64 (capS s xs),.int .i64 (capS e xe)] rfl rfl _ _ p11.out (hIbd _ _) rfl (hA2 _ _) ?_)
    rw [←Hw9.out]
    go_roundw
    case rel=>
     have hcap:=capS_ok Hse.out.1 Hse.out.2.1 Hx.out.1.1 Hx.out.1.2
     refine⟨r',lo'+2+a.size,st2,d2,capS s xs,capS e xe,by go_num,Lib.hid ⟨by have h3:=Hsz'.out;simp only [Tr.size] at h3;omega,hcap.1,hcap.2.1,hcap.2.2⟩,Lib.hid ⟨Hf1.out.2.2.2,Hpo1.out.2.2,heqB.out,Hg.out.1,by have h1:=Hmn1.out;have h2:d2.mn≤d'.mn+cT a:=Hm3.out;simp only [cT] at h1;omega,by have:=Hlo2.out;omega,Hlv2.out⟩,HN⟩
    case measure=>(simp [intOf]) <;> omega
  | ife a dd r'=>
   obtain⟨hf1,hpo1,heq1,hs1,hmn1,hlo1,hlv1⟩:=HQ.out
   have Hlvs1:=Lib.hid hlv1
   have Hlo2:=Lib.hid hlo1
   have hlt:lo' < hi:=by simp only [Tr.size] at hsz;omega
   have d0:decide ((lo':Int) < (hi:Int))=true:=by simp;omega
   have d0':decide (lo' < hi)=true:=by simp;omega
   have hll:lo' < p.code.length:=by have h1:=Hl.out;have h2:=Hhi.out;omega
   have hbr:=HB.out.trans HI.out.2.1.kw.ki.below
   obtain⟨w2,hw2⟩:∃ w2,w2=wr.alloc (.cells #[.int .i64 0,.int .i64 0] 151):=⟨_,rfl⟩
   have hb2:Below wr.heap.size wr w2:=by rw [hw2];exact balloc (Below.refl _ _) _
   have r13:rowV w2 wr.heap.size 151 #[.int .i64 0,.int .i64 0]:=by rw [hw2];exact rowV.new wr _ _
   have hK2:=HI.out.1.below hb2
   obtain⟨cb,off,hcA,hcb,hx1,hx2⟩:=HK.out.ins (hbr.trans (hb2.mono HI.out.1.hB)) hll
   obtain⟨-,-,e2,-,-,-,e6,-,-,e9,-⟩:=hK2.cells
   have f9:=hK2.frozen 9
   have hcn:=HK.out.cn
   have hlo2:lo' < v.cn:=by omega
   obtain⟨cn,hcn'⟩:∃ c,c=v.cn:=⟨_,rfl⟩
   rw [hcA,←hcn'] at e2
   rw [←hcn'] at hlo2
   have HK2:=Lib.hid hK2
   have HV2:=Lib.hid (HI.out.2.1.trans (KV.of_below (g:=g) (mb:=mb) (d:=d') hb2 HI.out.1.hB))
   have HR2:=Lib.hid (And.intro (HI.out.2.2.1.below hb2 HI.out.2.2.1.lt) (And.intro (HI.out.2.2.2.below hb2 HI.out.2.2.2.lt) r13))
   have Hbr:=Lib.hid (hbr.trans (hb2.mono HI.out.1.hB))
   have Hll:=Lib.hid hll
   have Hw2:=Lib.hid hw2
   have Hwr:=Lib.hid (And.intro (show w.heap.size+1 < wr.heap.size from HI.out.2.2.2.lt) HI.out.1.hB)
   have Hsz':=Lib.hid hsz
   have hgl:=hK2.row.lt
   rw [hf1.1] at hx1
   have HCall:=Lib.hid (choice_two wB g mb v p P n h N HC.out HK.out HP.out Hn.out HH.out a dd lo' base loop st' d' w2 b (by have h1:=HtN.out;have h2:=Hhi.out;have h3:=Hsz'.out;simp only [Tr.size] at h3;omega) (by have h1:=HtN.out;have h2:=Hhi.out;have h3:=Hsz'.out;simp only [Tr.size] at h3;omega) hf1.2.2.2.1 hpo1.2.2.2.1 hf1.2.1 hpo1.2.2.1 hf1.2.2.1 hpo1.2.1 hpo1.1 (by simp only [Tr.size] at hsz;have h1:=Hl.out;have h2:=Hhi.out;omega) Hbr.out HK2.out hs1 hba hlp (by have h1:=hmn1;have h2:=Hmn.out;simp only [cT] at h1;omega) hlv1)
   have heqA:Hid (anaT p h t lo base loop st 0 0=(choA p h a (some dd) lo' base loop st').bind fun st2 s2 e2=>anaT p h r' (lo'+3+a.size+dd.size) base loop st2 (capS s s2) (capS e e2)):=by show _=_;rw [heq1];exact anaT_ife _ _ _ _ _ _ _ _ _ _ _
   have hgood:=blk_good (n:=n) (x:=choA p h a (some dd) lo' base loop st') (by have h1:=anaT_good HK.out.ok Hn.out HH.out (.ife a dd .nil) lo' base loop st' 0 0 b ⟨hf1.1,hf1.2.1,hf1.2.2.1,hf1.2.2.2.1,hf1.2.2.2.2.1,trivial⟩ (by simp only [Tr.size] at hsz ⊢;have h1:=Hl.out;have h2:=Hhi.out;omega) hs1 (by omega) (by omega) (by unfold tooMany;omega);rw [anaT_ife] at h1;exact h1) (fun _ _ _ hc=>choA_le hc)
   have Hgood:=Lib.hid hgood
   have Hf1:=Lib.hid hf1
   have Hpo1:=Lib.hid hpo1
   have Hmn1:=Lib.hid hmn1
   clear hgood
   clear hlv1 hlo1 hf1 hpo1 heq1 hs1 hmn1 hll hbr hw2 hb2 r13 hK2 hx2 hcA hcn hcn' hsz HI
   go_upto_region 6 with fail
   rw [←Hw2.out]
   go_wp2_with fail
   refine HCall.out.mono ?_
   intro en w3 hr
   clear HCall hx1 e2 e6 e9 f9
   cases hana:choA p h a (some dd) lo' base loop st' with
   | stuck=>rw [hana] at hr;exact hr.elim
   | bad q x=>
    rw [hana] at hr
    obtain⟨rfl,hb3⟩:=hr
    refine⟨rfl,?_⟩
    rw [heqA.out,hana]
    exact⟨rfl,HV2.out.kw.ki.below.trans hb3⟩
   | ok st2 xs xe=>
    rw [hana] at hr
    obtain⟨rfl,d2,hK3,hV3,hm3⟩:=hr
    have hg:=Hgood.out
    rw [hana] at hg
    have Hg:=Lib.hid hg
    have Hm3:=Lib.hid hm3
    have heqB:Hid (anaT p h t lo base loop st 0 0=anaT p h r' (lo'+3+a.size+dd.size) base loop st2 (capS s xs) (capS e xe)):=by show _=_;rw [heqA.out,hana];rfl
    have Hlv2:Hid (st2.lvs.length≤lo'+3+a.size+dd.size):=by
     show _≤_
     have h1:=anaT_lvs (p:=p) (h:=h) (.ife a dd .nil) lo' base loop st' st2 0 0 (capS 0 xs) (capS 0 xe) (by rw [anaT_ife,hana];rfl)
     have h2:=Hlvs1.out
     simp only [Tr.size] at h1
     omega
    clear hg hm3 hana
    have p10:=hV3.row HR2.out.1 (HK2.out.ne_box HR2.out.1 (by decide) (by decide) (by decide))
    have p11:=hV3.row HR2.out.2.1 (HK2.out.ne_box HR2.out.2.1 (by decide) (by decide) (by decide))
    have p13:=Lib.hid (hV3.row HR2.out.2.2 (HK2.out.ne_box HR2.out.2.2 (by decide) (by decide) (by decide)))
    obtain⟨w4,hw4⟩:∃ w4,w4=w3.setRow wr.heap.size #[.int .i64 xs,.int .i64 xe]:=⟨_,rfl⟩
    have g4:w3.grownBy w4 (some wr.heap.size):=by rw [hw4];exact grownBy_setRow3 _ _ _
    have hBr:wB.heap.size≤wr.heap.size:=Hwr.out.2
    have hw1r:w.heap.size+1 < wr.heap.size:=Hwr.out.1
    have HK4:=Lib.hid (hK3.boxG p13.out (by decide) (by decide) (by decide) (by decide) hBr g4)
    have HV4:=Lib.hid ((HV2.out.trans hV3).boxG (r:=wr.heap.size) (by omega) HW.out.hB g4)
    have HR4:Hid (rowV w4 w.heap.size 151 #[.int .i64 0,.int .i64 0]∧rowV w4 (w.heap.size+1) 151 #[.int .i64 s,.int .i64 e]∧rowV w4 wr.heap.size 151 #[.int .i64 xs,.int .i64 xe]):=⟨(g4.block _ p10.lt (fun e=>by injection e;omega)).trans p10,(g4.block _ p11.lt (fun e=>by injection e;omega)).trans p11,by rw [hw4];exact setRow_heap w3 wr.heap.size _ #[.int .i64 xs,.int .i64 xe] _ _ p13.out⟩
    have Hw4:=Lib.hid hw4
    clear p10 p11 hw4 g4 hBr hw1r hK3 hV3
    go_upto_region 17 with (refine wpList_store_row rfl 151 (.tmp 13) (.tmp 41) rfl _ #[.int .i64 xs,.int .i64 xe] rfl rfl _ _ p13.out (hIbd _ _) rfl (hA2 _ _) ?_)
    rw [←Hw4.out]
    have hbd:lo'+3+a.size+dd.size≤hi:=by have h9:lo'+3+a.size+dd.size+Tr.size r'=hi:=(by have h3:=Hsz'.out;simp only [Tr.size] at h3;omega);omega
    obtain⟨b0,b1⟩:=two_cellsV HR4.out.2.1
    obtain⟨x0,x1⟩:=two_cellsV HR4.out.2.2
    have hx:((0:Int)≤xe∧(xe:Int)≤xs)∧(xs:Int)≤281474976710657:=(by have h1:=Hg.out.2.1;have h2:=Hg.out.2.2.1;have h3:=Hg.out.2.2.2.1;unfold tooMany at h3;exact⟨⟨h1,h2⟩,h3⟩)
    have HPl:=Lib.hid (plus_any s e xs xe (by omega) (by omega) (by omega) (by omega) w4)
    have Hx:=Lib.hid hx
    clear hx
    go_wp2_with fail
    refine HPl.out.mono ?_
    rintro en w8 ⟨rfl,hb8⟩
    have p11:=Lib.hid (HR4.out.2.1.below hb8 HR4.out.2.1.lt)
    have p10:=HR4.out.1.below hb8 HR4.out.1.lt
    have hK8:=HK4.out.below hb8
    have hV8:=HV4.out.trans (KV.of_below (g:=g) (mb:=mb) hb8 HK4.out.hB)
    obtain⟨w9,hw9⟩:∃ w9,w9=w8.setRow (w.heap.size+1) #[.int .i64 (capS s xs),.int .i64 (capS e xe)]:=⟨_,rfl⟩
    have g9:w8.grownBy w9 (some (w.heap.size+1)):=by rw [hw9];exact grownBy_setRow3 _ _ _
    have hB11:wB.heap.size≤w.heap.size+1:=Nat.le_succ_of_le HW.out.hB
    have HN:Hid (WK wB.heap.size g mb v w9 st2 d2∧KV wB.heap.size g mb d d2 w w9∧rowV w9 w.heap.size 151 #[.int .i64 0,.int .i64 0]∧rowV w9 (w.heap.size+1) 151 #[.int .i64 (capS s xs),.int .i64 (capS e xe)]):=⟨hK8.boxG p11.out (by decide) (by decide) (by decide) (by decide) hB11 g9,hV8.boxG (Nat.le_succ _) HW.out.hB g9,(g9.block _ p10.lt (fun e=>by injection e;omega)).trans p10,by rw [hw9];exact setRow_heap w8 (w.heap.size+1) _ #[.int .i64 (capS s xs),.int .i64 (capS e xe)] _ _ p11.out⟩
    have Hw9:=Lib.hid hw9
    clear hb8 p10 hK8 hV8 hw9 g9 hB11 b0 b1 x0 x1
    go_wp2_with (refine wpList_store_row rfl 151 (.tmp 11) (.tmp 78) rfl _ #[.int .i64 (capS s xs),.int .i64 (capS e xe)] rfl rfl _ _ p11.out (hIbd _ _) rfl (hA2 _ _) ?_)
    rw [←Hw9.out]
    go_roundw
    case rel=>
     have hcap:=capS_ok Hse.out.1 Hse.out.2.1 Hx.out.1.1 Hx.out.1.2
     refine⟨r',lo'+3+a.size+dd.size,st2,d2,capS s xs,capS e xe,by go_num,Lib.hid ⟨by have h3:=Hsz'.out;simp only [Tr.size] at h3;omega,hcap.1,hcap.2.1,hcap.2.2⟩,Lib.hid ⟨Hf1.out.2.2.2.2.2,Hpo1.out.2.2.2.2,heqB.out,Hg.out.1,by have h1:=Hmn1.out;have h2:d2.mn≤d'.mn+(cT a+cT dd):=Hm3.out;simp only [cT] at h1;omega,by have:=Hlo2.out;omega,Hlv2.out⟩,HN⟩
    case measure=>(simp [intOf]) <;> omega
  | lp a r'=>
   obtain⟨hf1,hpo1,heq1,hs1,hmn1,hlo1,hlv1⟩:=HQ.out
   have Hlvs1:=Lib.hid hlv1
   have Hlo2:=Lib.hid hlo1
   have hlt:lo' < hi:=by simp only [Tr.size] at hsz;omega
   have d0:decide ((lo':Int) < (hi:Int))=true:=by simp;omega
   have d0':decide (lo' < hi)=true:=by simp;omega
   have hll:lo' < p.code.length:=by have h1:=Hl.out;have h2:=Hhi.out;omega
   have hbr:=HB.out.trans HI.out.2.1.kw.ki.below
   obtain⟨w2,hw2⟩:∃ w2,w2=wr.alloc (.cells #[.int .i64 0,.int .i64 0] 151):=⟨_,rfl⟩
   have hb2:Below wr.heap.size wr w2:=by rw [hw2];exact balloc (Below.refl _ _) _
   have r13:rowV w2 wr.heap.size 151 #[.int .i64 0,.int .i64 0]:=by rw [hw2];exact rowV.new wr _ _
   have hK2:=HI.out.1.below hb2
   obtain⟨cb,off,hcA,hcb,hx1,hx2⟩:=HK.out.ins (hbr.trans (hb2.mono HI.out.1.hB)) hll
   obtain⟨-,-,e2,-,-,-,e6,-,-,e9,-⟩:=hK2.cells
   have f9:=hK2.frozen 9
   have hcn:=HK.out.cn
   have hlo2:lo' < v.cn:=by omega
   obtain⟨cn,hcn'⟩:∃ c,c=v.cn:=⟨_,rfl⟩
   rw [hcA,←hcn'] at e2
   rw [←hcn'] at hlo2
   have HK2:=Lib.hid hK2
   have HV2:=Lib.hid (HI.out.2.1.trans (KV.of_below (g:=g) (mb:=mb) (d:=d') hb2 HI.out.1.hB))
   have HR2:=Lib.hid (And.intro (HI.out.2.2.1.below hb2 HI.out.2.2.1.lt) (And.intro (HI.out.2.2.2.below hb2 HI.out.2.2.2.lt) r13))
   have Hbr:=Lib.hid (hbr.trans (hb2.mono HI.out.1.hB))
   have Hll:=Lib.hid hll
   have Hw2:=Lib.hid hw2
   have Hwr:=Lib.hid (And.intro (show w.heap.size+1 < wr.heap.size from HI.out.2.2.2.lt) HI.out.1.hB)
   have Hsz':=Lib.hid hsz
   have hgl:=hK2.row.lt
   rw [hf1.1] at hx1
   have HCall:=Lib.hid (HRp.out a lo' base st' d' w2 (by have h1:=HtN.out;have h2:=Hhi.out;have h3:=Hsz'.out;simp only [Tr.size] at h3;omega) hf1.2.1 hpo1.2.1 hf1.1 hpo1.1 (by simp only [Tr.size] at hsz;have h1:=Hl.out;have h2:=Hhi.out;omega) Hbr.out HK2.out hs1 hba (by have h1:=hmn1;have h2:=Hmn.out;simp only [cT] at h1;omega))
   have heqA:Hid (anaT p h t lo base loop st 0 0=(repA p h a lo' base st').bind fun st2 s2 e2=>anaT p h r' (lo'+2+a.size) base loop st2 (capS s s2) (capS e e2)):=by show _=_;rw [heq1];exact anaT_lp _ _ _ _ _ _ _ _ _ _
   have hgood:=blk_good (n:=n) (x:=repA p h a lo' base st') (by have h1:=anaT_good HK.out.ok Hn.out HH.out (.lp a .nil) lo' base loop st' 0 0 b ⟨hf1.1,hf1.2.1,hf1.2.2.1,trivial⟩ (by simp only [Tr.size] at hsz ⊢;have h1:=Hl.out;have h2:=Hhi.out;omega) hs1 (by omega) (by omega) (by unfold tooMany;omega);rw [anaT_lp] at h1;exact h1) (fun _ _ _ hc=>repA_le hc)
   have Hgood:=Lib.hid hgood
   have Hf1:=Lib.hid hf1
   have Hpo1:=Lib.hid hpo1
   have Hmn1:=Lib.hid hmn1
   clear hgood
   clear hlv1 hlo1 hf1 hpo1 heq1 hs1 hmn1 hll hbr hw2 hb2 r13 hK2 hx2 hcA hcn hcn' hsz HI
   go_upto_region 6 with fail
   rw [←Hw2.out]
   go_wp2_with fail
   refine HCall.out.mono ?_
   intro en w3 hr
   clear HCall hx1 e2 e6 e9 f9
   cases hana:repA p h a lo' base st' with
   | stuck=>rw [hana] at hr;exact hr.elim
   | bad q x=>
    rw [hana] at hr
    obtain⟨rfl,hb3⟩:=hr
    refine⟨rfl,?_⟩
    rw [heqA.out,hana]
    exact⟨rfl,HV2.out.kw.ki.below.trans hb3⟩
   | ok st2 xs xe=>
    rw [hana] at hr
    obtain⟨rfl,d2,hK3,hV3,hm3⟩:=hr
    have hg:=Hgood.out
    rw [hana] at hg
    have Hg:=Lib.hid hg
    have Hm3:=Lib.hid hm3
    have heqB:Hid (anaT p h t lo base loop st 0 0=anaT p h r' (lo'+2+a.size) base loop st2 (capS s xs) (capS e xe)):=by show _=_;rw [heqA.out,hana];rfl
    have Hlv2:Hid (st2.lvs.length≤lo'+2+a.size):=by
     show _≤_
     have h1:=anaT_lvs (p:=p) (h:=h) (.lp a .nil) lo' base loop st' st2 0 0 (capS 0 xs) (capS 0 xe) (by rw [anaT_lp,hana];rfl)
     have h2:=Hlvs1.out
     simp only [Tr.size] at h1
     omega
    clear hg hm3 hana
    have p10:=hV3.row HR2.out.1 (HK2.out.ne_box HR2.out.1 (by decide) (by decide) (by decide))
    have p11:=hV3.row HR2.out.2.1 (HK2.out.ne_box HR2.out.2.1 (by decide) (by decide) (by decide))
    have p13:=Lib.hid (hV3.row HR2.out.2.2 (HK2.out.ne_box HR2.out.2.2 (by decide) (by decide) (by decide)))
    obtain⟨w4,hw4⟩:∃ w4,w4=w3.setRow wr.heap.size #[.int .i64 xs,.int .i64 xe]:=⟨_,rfl⟩
    have g4:w3.grownBy w4 (some wr.heap.size):=by rw [hw4];exact grownBy_setRow3 _ _ _
    have hBr:wB.heap.size≤wr.heap.size:=Hwr.out.2
    have hw1r:w.heap.size+1 < wr.heap.size:=Hwr.out.1
    have HK4:=Lib.hid (hK3.boxG p13.out (by decide) (by decide) (by decide) (by decide) hBr g4)
    have HV4:=Lib.hid ((HV2.out.trans hV3).boxG (r:=wr.heap.size) (by omega) HW.out.hB g4)
    have HR4:Hid (rowV w4 w.heap.size 151 #[.int .i64 0,.int .i64 0]∧rowV w4 (w.heap.size+1) 151 #[.int .i64 s,.int .i64 e]∧rowV w4 wr.heap.size 151 #[.int .i64 xs,.int .i64 xe]):=⟨(g4.block _ p10.lt (fun e=>by injection e;omega)).trans p10,(g4.block _ p11.lt (fun e=>by injection e;omega)).trans p11,by rw [hw4];exact setRow_heap w3 wr.heap.size _ #[.int .i64 xs,.int .i64 xe] _ _ p13.out⟩
    have Hw4:=Lib.hid hw4
    clear p10 p11 hw4 g4 hBr hw1r hK3 hV3
    go_upto_region 17 with (refine wpList_store_row rfl 151 (.tmp 13) (.tmp 50) rfl _ #[.int .i64 xs,.int .i64 xe] rfl rfl _ _ p13.out (hIbd _ _) rfl (hA2 _ _) ?_)
    rw [←Hw4.out]
    have hbd:lo'+2+a.size≤hi:=by have h9:lo'+2+a.size+Tr.size r'=hi:=(by have h3:=Hsz'.out;simp only [Tr.size] at h3;omega);omega
    obtain⟨b0,b1⟩:=two_cellsV HR4.out.2.1
    obtain⟨x0,x1⟩:=two_cellsV HR4.out.2.2
    have hx:((0:Int)≤xe∧(xe:Int)≤xs)∧(xs:Int)≤281474976710657:=(by have h1:=Hg.out.2.1;have h2:=Hg.out.2.2.1;have h3:=Hg.out.2.2.2.1;unfold tooMany at h3;exact⟨⟨h1,h2⟩,h3⟩)
    have HPl:=Lib.hid (plus_any s e xs xe (by omega) (by omega) (by omega) (by omega) w4)
    have Hx:=Lib.hid hx
    clear hx
    go_wp2_with fail
    refine HPl.out.mono ?_
    rintro en w8 ⟨rfl,hb8⟩
    have p11:=Lib.hid (HR4.out.2.1.below hb8 HR4.out.2.1.lt)
    have p10:=HR4.out.1.below hb8 HR4.out.1.lt
    have hK8:=HK4.out.below hb8
    have hV8:=HV4.out.trans (KV.of_below (g:=g) (mb:=mb) hb8 HK4.out.hB)
    obtain⟨w9,hw9⟩:∃ w9,w9=w8.setRow (w.heap.size+1) #[.int .i64 (capS s xs),.int .i64 (capS e xe)]:=⟨_,rfl⟩
    have g9:w8.grownBy w9 (some (w.heap.size+1)):=by rw [hw9];exact grownBy_setRow3 _ _ _
    have hB11:wB.heap.size≤w.heap.size+1:=Nat.le_succ_of_le HW.out.hB
    have HN:Hid (WK wB.heap.size g mb v w9 st2 d2∧KV wB.heap.size g mb d d2 w w9∧rowV w9 w.heap.size 151 #[.int .i64 0,.int .i64 0]∧rowV w9 (w.heap.size+1) 151 #[.int .i64 (capS s xs),.int .i64 (capS e xe)]):=⟨hK8.boxG p11.out (by decide) (by decide) (by decide) (by decide) hB11 g9,hV8.boxG (Nat.le_succ _) HW.out.hB g9,(g9.block _ p10.lt (fun e=>by injection e;omega)).trans p10,by rw [hw9];exact setRow_heap w8 (w.heap.size+1) _ #[.int .i64 (capS s xs),.int .i64 (capS e xe)] _ _ p11.out⟩
    have Hw9:=Lib.hid hw9
    clear hb8 p10 hK8 hV8 hw9 g9 hB11 b0 b1 x0 x1
    go_wp2_with (refine wpList_store_row rfl 151 (.tmp 11) (.tmp 78) rfl _ #[.int .i64 (capS s xs),.int .i64 (capS e xe)] rfl rfl _ _ p11.out (hIbd _ _) rfl (hA2 _ _) ?_)
    rw [←Hw9.out]
    go_roundw
    case rel=>
     have hcap:=capS_ok Hse.out.1 Hse.out.2.1 Hx.out.1.1 Hx.out.1.2
     refine⟨r',lo'+2+a.size,st2,d2,capS s xs,capS e xe,by go_num,Lib.hid ⟨by have h3:=Hsz'.out;simp only [Tr.size] at h3;omega,hcap.1,hcap.2.1,hcap.2.2⟩,Lib.hid ⟨Hf1.out.2.2.2,Hpo1.out.2.2,heqB.out,Hg.out.1,by have h1:=Hmn1.out;have h2:d2.mn≤d'.mn+(6 * cT a+1):=Hm3.out;simp only [cT] at h1;omega,by have:=Hlo2.out;omega,Hlv2.out⟩,HN⟩
    case measure=>(simp [intOf]) <;> omega
end Go.Proofs.YtpaplehcafeeaaaGreatDoor
