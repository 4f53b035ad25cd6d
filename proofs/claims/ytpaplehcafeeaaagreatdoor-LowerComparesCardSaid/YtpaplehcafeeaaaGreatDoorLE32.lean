/- Xq. -/
import Derived.Test.YtpaplehcafeeaaaGreatDoorLE31
import Derived.Test.YtpaplehcafeeaaaGreatDoorLE21
import Derived.Test.YtpaplehcafeeaaaGreatDoorLE27
import Derived.Deep.RegionHeld3
set_option maxRecDepth 100000
set_option maxHeartbeats 40000000
set_option linter.unusedVariables false
set_option linter.unusedSimpArgs false
set_option linter.unusedSectionVars false
namespace Go.Proofs.YtpaplehcafeeaaaGreatDoor
open Go.RowKit Go.Proofs
variable [Inhabited ArgB]
section
variable {B g mb : Nat} {v : WV} {w w' : World} {st : St} {d d' : WD}
theorem LvsS.keepKW{B2:Nat}{A:Option Addr}{n c:Nat}{X:List SlV}{o:Option Nat}(h:LvsS w B2 A n c X)(hk:KW B none o w w'):LvsS w' B2 A n c X:=by
 refine⟨h.1,?_⟩
 rcases h.2 with h1 | ⟨g,cap,cur,h1,h2,h3,h4⟩
 ·exact .inl h1
 ·exact .inr ⟨g,cap,cur,h1,h2,(hk.lv g cur (0,0) h3 (fun e=>by cases e)).trans h3,h4⟩
theorem KV.drop{W:World}(h:KV B g mb d d' w W){d2:WD}(h1:d2.own=none)(h2:d2.sown=d'.sown):KV B g mb d d2 w W:=
 ⟨⟨h.kw.ki,h.kw.lv,fun k hk=>by rw [h1] at hk;cases hk⟩,h.keep,fun k hk=>h.fs k (by rw [←h2];exact hk)⟩
theorem WK.heads{W:World}(h:WK B g mb v W st d')(hV:KV B g mb d d' w W){A:Option Addr}{n c:Nat}{head:List Iv}(hi:IvK B W A n c head){w2:World}(hw2:w2=(W.setCell ⟨g,6,none⟩ (.slice A n c)).setCell ⟨g,9,none⟩ (.slice none 0 0)) :
  WK B g mb v w2 { st with locs:=head,lvs:=[] } { d' with lA:=A,ln:=n,lc:=c,vA:=none,vn:=0,vc:=0,X:=[] }∧KV B g mb d { d' with lA:=A,ln:=n,lc:=c,vA:=none,vn:=0,vc:=0,X:=[] } w w2∧KI B W w2∧W.grownBy w2 (some g):=by
 have k1:=h.set 6 (.slice A n c) (d':={ d' with lA:=A,ln:=n,lc:=c }) (st':={ st with locs:=head }) rfl hi h.stk h.lvs h.lvl h.lvi rfl rfl
 have v1:=hV.trans (KV.setG (d':={ d' with lA:=A,ln:=n,lc:=c }) h 6 (.slice A n c) rfl rfl)
 have k2:=k1.set 9 (.slice none 0 0) (d':={ d' with lA:=A,ln:=n,lc:=c,vA:=none,vn:=0,vc:=0,X:=[] }) (st':={ st with locs:=head,lvs:=[] }) rfl k1.locs k1.stk (OwnS.nil _ _ _ _ _) rfl (fun i hi=>absurd hi (Nat.not_lt_zero _)) rfl rfl
 have v2:=(v1.trans (KV.setG (d':={ d' with lA:=A,ln:=n,lc:=c }) k1 9 (.slice none 0 0) rfl rfl)).drop (d2:={ d' with lA:=A,ln:=n,lc:=c,vA:=none,vn:=0,vc:=0,X:=[] }) rfl rfl
 have e1:=(KW.setG h 6 (.slice A n c) none).ki.trans (KW.setG k1 9 (.slice none 0 0) none).ki
 subst hw2
 exact⟨k2,v2,e1,grownBy.setCell' (grownBy.setCell' (World.grownBy.refl _ _) _) _⟩
theorem WK.note(h:WK B g mb v w st d)(hg:w.grownBy w' (some mb)){f:Int→Option Value}{x:Inv}{val:Value}(hx0:0≤x.at_)(hm:MapZ Tryz.prog 3 .i64 w' mb (d.mn+1) (zput f x.at_ val))(hm0:MapZ Tryz.prog 3 .i64 w mb d.mn f)(hf:MapI B w st.inv f)(hx:InvV B w x val) :
  WK B g mb v w' { st with inv:=noteI st.inv x } { d with mn:=d.mn+1 }∧KV B g mb d { d with mn:=d.mn+1 } w w'∧KI B w w':=by
 obtain⟨mo,hmo1,hmo2⟩:=hm0.isMap
 have hne:∀ (k:Nat) cs t fr,some mb=some k→w.heap[k]?≠some (Obj.cells cs t fr):=fun k cs t fr hk e=>by
  injection hk with hk
  rw [←hk,hmo1] at e
  injection e with e
  rw [e] at hmo2
  cases hmo2
 have hBk:∀ k,some mb=some k→B≤k:=fun k hk=>by injection hk with hk;rw [←hk];exact h.hm
 have hk:KI B w w':=KI.of_grown hg hBk h.hB (fun k cs fr hk=>hne k cs _ fr hk)
 have hkw:KW B d.own d.own w w':=KW.of_grown hg hBk h.hB (fun k cs fr hk=>hne k cs _ fr hk) (fun k cs fr hk=>hne k cs _ fr hk)
 refine⟨⟨h.row.grown hg (fun e=>h.ne_map (by injection e with e;exact e.symm)),h.hg,Nat.le_trans h.hB hg.size,h.locs.keep hk,h.stk.grown hg (fun b hb e=>h.stk.ne_map hmo1 hmo2 b hb (by injection e)),h.lvs.grown hg (fun b hb e=>h.lvs.ne_map hmo1 hmo2 b hb (by injection e)),h.lvl,fun i hi=>(h.lvi i hi).keep hk,h.hm,_,hm,fun k=>?_⟩,⟨hkw,fun k h0 _ h2 _ _=>hg.block k h0 (fun e=>h2 (by injection e)),fun k hk=>.inl hk⟩,hk⟩
 have h1:=(hf.keep hk) k
 rw [invAt_note]
 unfold zput
 by_cases hxk:x.at_=(k:Int)
 ·rw [if_pos hxk]
  obtain⟨A,c,e2,e3⟩:=hx
  exact⟨val,by rw [if_pos hxk.symm],A,c,e2,e3.keep hk⟩
 ·rw [if_neg hxk]
  cases hi:invAt st.inv k with
  | none=>rw [hi] at h1;show (if _ then _ else _)=_;rw [if_neg (fun e=>hxk e.symm)];exact h1
  | some y=>
   rw [hi] at h1
   obtain⟨v',e1,e2⟩:=h1
   exact⟨v',by rw [if_neg (fun e=>hxk e.symm)];exact e1,e2⟩
theorem KV.outer{W:World}(h:KV B g mb d d' w W)(hK:WK B g mb v W st d')(j:Nat)(x:Value){d2:WD}(h1:d2.own=d.own)(h2:d2.sown=d'.sown):KV B g mb d d2 w (W.setCell ⟨g,j,none⟩ x):=by
 have hs:=KW.setG hK j x none
 refine⟨⟨h.kw.ki.trans hs.ki,fun k cs fr hk hne=>?_,fun k hk=>.inl (by rw [←h1];exact hk)⟩,fun k h0 h3 h4 h5 h6=>(Below.heap_setCell W ⟨g,j,none⟩ x k h3).trans (h.keep k h0 h3 h4 h5 h6),fun k hk=>h.fs k (by rw [←h2];exact hk)⟩
 have e1:=h.kw.lv k cs fr hk hne
 exact (hs.lv k cs fr (e1.trans hk) (fun e=>by cases e)).trans e1
end
theorem uMapI:Tryz.prog.underlying 142=some (.map 3 50):=by kernel_rfl
def nextA(c:List Ins)(h:Hd)(lo hi height:Nat)(body:St→ER)(k pass:Nat)(hd:List Iv)(s7:St)(xs xe:Int):ER:=
 if s7.stk.length≠height then .bad hi 14
 else if withinL s7.locs hd then .ok { s7 with locs:=hd } xs xe
 else match h with
  | .given _=>.bad hi 23
  | .widen=>passA c h lo hi height body k (pass+1) (nextH c lo hi pass hd s7.locs) s7
theorem passA_succ(c:List Ins)(h:Hd)(lo hi height:Nat)(body:St→ER)(k pass:Nat)(hd:List Iv)(st:St):passA c h lo hi height body (k+1) pass hd st=(body { st with locs:=hd,lvs:=[] }).bind fun s7 xs xe=>nextA c h lo hi height body k pass hd s7 xs xe:=rfl
structure RepI (wB:World) (g mb:Nat) (v:WV) (d:WD) (w:World) (q:Nat) (A:Option Addr) (n c:Nat) (hd:List Iv) (wr:World) (st':St) (d':WD):Prop where
 wk:WK wB.heap.size g mb v wr st' d'
 kv:KV wB.heap.size g mb d d' w wr
 r8:rowV wr w.heap.size 151 #[.int .i64 0,.int .i64 0]
 r13:∃ x y,rowV wr q 151 #[.int .i64 x,.int .i64 y]
 iv:IvK wB.heap.size wr A n c hd
 out:LvsS wr wB.heap.size d.vA d.vn d.vc d.X
theorem rep_of(wB:World)(g mb:Nat)(v:WV)(p:Prg)(P:List Int)(n:Nat)(h:Hd)(N:Nat)(hC:CodeC wB g mb v p P n h N)(hk:PK wB v p P)(hP:P.length=p.code.length)(hn:p.locs=(n:Int))(hh:HdOk n h)(hE:EntC wB v p n h)(hA:AgnC wB v p n h):RepC wB g mb v p P n h N:=by
 intro a lo base st d w haN hf hpo h29 hpl hlen hb hW hs hba hmn
 obtain⟨w0,hw0⟩:∃ w0,w0=w.alloc (.cells #[.int .i64 0,.int .i64 0] 151):=⟨_,rfl⟩
 have g0:Below w.heap.size w w0:=by rw [hw0];exact balloc (Below.refl _ _) _
 have r8:rowV w0 w.heap.size 151 #[.int .i64 0,.int .i64 0]:=by rw [hw0];exact rowV.new w _ _
 obtain⟨F1,lb1,hf1,hen1,hcl1⟩:=hE
 obtain⟨F2,lb2,hf2,hen2,hcl2⟩:=hA
 have HW:=Lib.hid hW
 have HB:=Lib.hid hb
 have HK:=Lib.hid hk
 have HS:=Lib.hid hs
 have Hn:=Lib.hid hn
 have HC:=Lib.hid hC
 have Hf:=Lib.hid hf
 have Hpo:=Lib.hid hpo
 have H29:=Lib.hid h29
 have Hpl:=Lib.hid hpl
 have HP:=Lib.hid hP
 have Hlen:=Lib.hid hlen
 have Hmn:=Lib.hid hmn
 have HN:=Lib.hid haN
 have HH:=Lib.hid hh
 have HE1:=Lib.hid hcl1
 have HE2:=Lib.hid hcl2
 have Hen1:=Lib.hid hen1
 have Hen2:=Lib.hid hen2
 have Hf12:=Lib.hid (And.intro hf1 hf2)
 have hl1:lo+2+a.size≤1024:=by have:=hk.ok.len;omega
 have Hw0:=Lib.hid hw0
 have HW0:=Lib.hid (hW.below g0)
 have HR0:=Lib.hid (And.intro r8 g0)
 have HPop:=Lib.hid (popW_any wB.heap.size g mb v d st w0 HW0.out lo base [110] (by decide) hs.len (by omega))
 have hE:Hid (repA p h a lo base st=match popA st.stk base [110] with
  | .error x=>.bad lo x
  | .ok (rest,l)=>
   if 65536 < (gV l 0).iv.hi then .bad lo 18
   else match enterA h lo (gV l 0).iv.hi st.locs with
    | .error x=>.bad lo x
    | .ok (head,most)=>
     (passA p.code h lo (lo+1+a.size) rest.length (fun s0=>anaT p h a (lo+1) rest.length rest.length s0 0 0) PASSES 1 head { st with stk:=rest }).bind fun s1 xs xe=>
      .ok { s1 with locs:=s1.lvs.foldl joinL s1.locs,lvs:=st.lvs,inv:=noteI s1.inv ⟨(lo:Int),most,s1.locs⟩ } (capS (prodS (capS xs 1) most) 1) (capS (prodS xe most) 0)):=rfl
 have hzs:strB [110]=⟨#[110]⟩:=rfl
 rw [hzs] at HPop
 clear hW hb hk hs hn hC hf hpo h29 hpl hP hlen hmn haN hw0 g0 r8 hzs hh hcl1 hcl2 hf1 hf2 hen1 hen2
 go_enter Tryz.func110,Tryz.ntmps110
 go_wp2_with fail
 rw [←Hw0.out]
 refine HPop.out.mono ?_
 intro e w1 hr
 clear HPop
 cases hpop:popA st.stk base [110] with
 | error x=>
  rw [hpop] at hr hE
  obtain⟨rfl,hb1⟩:=hr
  refine⟨rfl,?_⟩
  rw [hE.out]
  exact⟨rfl,(HR0.out.2.mono HW.out.hB).trans hb1⟩
 | ok rl=>
  obtain⟨rest,l⟩:=rl
  rw [hpop] at hr hE
  obtain⟨A1,c1,rfl,hl1',hK1,hV1⟩:=hr
  obtain⟨hS1,hliv,hll,hrl⟩:=popA_rest HS.out hpop
  obtain⟨x0,hx0⟩:∃ x,l=[x]:=List.length_eq_one_iff.1 hll
  subst hx0
  obtain⟨ob,hob,-,hob2,hoc⟩:=hl1'.get (fun _=>rfl) (by decide) ⟨false,⟨0,0⟩⟩ (by decide)
  subst hob
  have x02:w1.cell? ⟨ob,2,none⟩=some (.int .i64 x0.iv.hi):=hoc 0 2 _ (by decide) rfl
  have hiv:=ivOk_iff.1 (hliv x0 (List.mem_cons_self ..))
  have hV01:KV wB.heap.size g mb d { d with sn:=rest.length } w w1:=(KV.of_below HR0.out.2 HW.out.hB).trans hV1
  have r8:=hV1.row HR0.out.1 (HW.out.fresh (Nat.le_refl _))
  have HK1:=Lib.hid hK1
  have HV1:=Lib.hid hV01
  have HS1:=Lib.hid hS1
  have HR1:=Lib.hid r8
  obtain⟨mo,hmo⟩:∃ m,m=x0.iv.hi:=⟨_,rfl⟩
  have hE2:Hid (repA p h a lo base st=if 65536 < mo then .bad lo 18
   else match enterA h lo mo st.locs with
    | .error x=>.bad lo x
    | .ok (head,most)=>
     (passA p.code h lo (lo+1+a.size) rest.length (fun s0=>anaT p h a (lo+1) rest.length rest.length s0 0 0) PASSES 1 head { st with stk:=rest }).bind fun s1 xs xe=>
      .ok { s1 with locs:=s1.lvs.foldl joinL s1.locs,lvs:=st.lvs,inv:=noteI s1.inv ⟨(lo:Int),most,s1.locs⟩ } (capS (prodS (capS xs 1) most) 1) (capS (prodS xe most) 0)):=by show _=_;rw [hE.out,hmo];rfl
  rw [←hmo] at x02 hiv
  have hmo0:0≤mo:=by omega
  have hmo1:mo≤4294967295:=by omega
  clear hoc hliv hll hrl hV1 hV01 r8 hK1 hS1 hpop hE hl1' hmo hiv
  by_cases hbig:65536 < mo
  ·have d0:decide (mo≤65536)=false:=by simp;omega
   have hE3:Hid (repA p h a lo base st=.bad lo 18):=by show _=_;rw [hE2.out,if_pos hbig]
   clear hbig
   go_wp2_with fail
   refine (demandW_bad _ _ _).mono ?_
   rintro e w2 ⟨rfl,hw2⟩
   subst hw2
   refine⟨rfl,?_⟩
   rw [hE3.out]
   exact⟨rfl,HV1.out.kw.ki.below⟩
  ·have d0:decide (mo≤65536)=true:=by simp;omega
   have hmo2:mo≤65536:=by omega
   have hE3:Hid (repA p h a lo base st=match enterA h lo mo st.locs with
    | .error x=>.bad lo x
    | .ok (head,most)=>
     (passA p.code h lo (lo+1+a.size) rest.length (fun s0=>anaT p h a (lo+1) rest.length rest.length s0 0 0) PASSES 1 head { st with stk:=rest }).bind fun s1 xs xe=>
      .ok { s1 with locs:=s1.lvs.foldl joinL s1.locs,lvs:=st.lvs,inv:=noteI s1.inv ⟨(lo:Int),most,s1.locs⟩ } (capS (prodS (capS xs 1) most) 1) (capS (prodS xe most) 0)):=by show _=_;rw [hE2.out,if_neg hbig]
   obtain⟨-,-,-,-,e4,-,e6,-,-,-,-⟩:=HK1.out.cells
   simp only [] at e6
   rw [Hf12.out.1] at e4
   have hln:d.ln=n:=HW.out.ln.trans HS.out.locs.1
   rw [hln] at e6
   have hloc1:IvK wB.heap.size w1 d.lA n d.lc st.locs:=by have:=HK1.out.locs;simp only [] at this;rw [hln] at this;exact this
   have HCe:=Lib.hid (fun q=>HE1.out (w1.drewN q) lo mo d.lA d.lc st.locs (bdrew (HB.out.trans HV1.out.kw.ki.below) q) (by have:=Hlen.out;omega) H29.out hmo0 hmo2 (hloc1.keep ((KI.refl _ _).drewN q)) HS.out.locs HK1.out.hB)
   have heg:=Hen1.out
   have Hln:=Lib.hid hln
   have hgl:=HK1.out.row.lt
   clear hbig hE2 hloc1 hln
   go_wp2_with fail
   refine (demandW_ok _ _ _).mono ?_
   rintro e w2 ⟨rfl,hw2⟩
   obtain rfl:=hw2.symm
   clear hw2
   go_upto_region 3 with fail
   unfold Enters at heg
   cases hen:enterA h lo mo st.locs with
   | error x=>
    rw [hen] at HCe
    have hE4:Hid (repA p h a lo base st=.bad lo x):=by show _=_;rw [hE3.out,hen]
    have HCe:Hid (∀ q,Calls Tryz.prog F1 (#[.int .i64 (lo:Int),.int .i64 mo,.slice d.lA n d.lc]++lb1) (w1.drewN q) fun e w'=>e=.panicked [{ v:=failW lo x,recovered:=false }]∧Below w1.heap.size w1 w'):=fun q=>(HCe.out q).mono fun e w' hh=>⟨hh.1,((Drawn.drewN w1 q).below _).trans hh.2⟩
    clear hen
    go_region_law (first | (go_simp;refine (HCe.out _).mono ?_;rintro e w4 ⟨rfl,hb4⟩;refine (fun (_:wpAny Tryz.prog .any #[] (fun _ _ _=>True) 0 #[] { tmps:=#[],defers:=[] } w4)=>⟨rfl,by rw [hE4.out];exact⟨rfl,HV1.out.kw.ki.below.trans (hb4.mono HK1.out.hB)⟩⟩) ?_))
    all_goals trivial
   | ok hm=>
    as_aux_lemma=>
     obtain⟨head,most⟩:=hm
     rw [hen] at HCe
     have HCe:Hid (∀ q,Calls Tryz.prog F1 (#[.int .i64 (lo:Int),.int .i64 mo,.slice d.lA n d.lc]++lb1) (w1.drewN q) fun e w'=>∃ A c,e=.returned (.tuple #[.slice A n c,.int .i64 most])∧IvK wB.heap.size w' A n c head∧Below w1.heap.size w1 w'):=fun q=>(HCe.out q).mono fun e w' hh=>by obtain⟨⟨A,c,h1,h2⟩,h3⟩:=hh;exact⟨A,c,h1,h2,((Drawn.drewN w1 q).below _).trans h3⟩
     have Hen:=Lib.hid hen
     clear hen
     have hgl1:=hgl
     go_region_held3 (fun W=>W.cell? ⟨g,4,none⟩=some (.func (.func F1) #[] lb1)∧W.cell? ⟨g,6,none⟩=some (.slice d.lA n d.lc))
      (first | go_keep | exact⟨v4,v6⟩)
      (first | (refine (HCe.out _).mono ?_;rintro e w4 ⟨A4,c4,rfl,hiv4,hb4⟩;have v4:=(hb4.cell (p:=⟨g,4,none⟩) hgl1).trans e4;have v6:=(hb4.cell (p:=⟨g,6,none⟩) hgl1).trans e6))
     rename_i hHeld
     have hK4:=HK1.out.below hb4
     have hV4:KV wB.heap.size g mb d { d with sn:=rest.length } w w4:=HV1.out.trans (KV.of_below (g:=g) (mb:=mb) hb4 HK1.out.hB)
     have r8:=HR1.out.below hb4 HR1.out.lt
     obtain⟨hpn,pb,poff,hpA,hpb,hpc⟩:=HK.out.part (HB.out.trans hV4.kw.ki.below) HP.out (lo:=lo) (by have:=Hlen.out;omega)
     rw [Hpl.out] at hpc
     obtain⟨-,-,-,e3,-,-,-,e7,-,e9,-⟩:=hK4.cells
     simp only [] at e7 e9
     rw [hpA] at e3
     obtain⟨pn,hpn'⟩:∃ x,x=v.pn:=⟨_,rfl⟩
     rw [←hpn'] at e3 hpn
     have hgl4:=hK4.row.lt
     have HK4:=Lib.hid hK4
     have HV4:=Lib.hid hV4
     have HR4:=Lib.hid r8
     have HI4:=Lib.hid hiv4
     clear hpn' hpA hK4 hV4 r8 hiv4 hb4 v4 v6 e4 e6 HCe
     go_upto_region 4 with fail
     go_quiet (fail)
     obtain⟨w5,hw5⟩:∃ w5,w5=(w4.drewN nq).alloc (.cells #[.int .i64 0,.int .i64 0] 151):=⟨_,rfl⟩
     have g5:Below w4.heap.size w4 w5:=by rw [hw5];exact balloc (bdrew (Below.refl _ _) nq) _
     have r13:rowV w5 w4.heap.size 151 #[.int .i64 0,.int .i64 0]:=by rw [hw5];exact rowV.new (w4.drewN nq) _ _
     have HI5:Hid (RepI wB g mb v d w w4.heap.size A4 n c4 head w5 { st with stk:=rest } { d with sn:=rest.length }):=
      ⟨HK4.out.below g5,HV4.out.trans (KV.of_below (g:=g) (mb:=mb) g5 HK4.out.hB),HR4.out.below g5 HR4.out.lt,⟨0,0,r13⟩,HI4.out.keep (KI.of_below g5 HK4.out.hB),HK4.out.lvs.below g5⟩
     have Hq4:Hid (w.heap.size < w4.heap.size∧wB.heap.size≤w4.heap.size):=⟨HR4.out.lt,HK4.out.hB⟩
     have Hw5:=Lib.hid hw5
     obtain⟨body,hbody⟩:∃ b:St→ER,b=fun s0=>anaT p h a (lo+1) rest.length rest.length s0 0 0:=⟨_,rfl⟩
     obtain⟨fin,hfin⟩:∃ f:St→Int→Int→ER,f=fun s1 xs xe=>.ok { s1 with locs:=s1.lvs.foldl joinL s1.locs,lvs:=st.lvs,inv:=noteI s1.inv ⟨(lo:Int),most,s1.locs⟩ } (capS (prodS (capS xs 1) most) 1) (capS (prodS xe most) 0):=⟨_,rfl⟩
     have hE5:Hid (repA p h a lo base st=(passA p.code h lo (lo+1+a.size) rest.length body PASSES 1 head { st with stk:=rest }).bind fin):=by show _=_;rw [hE3.out,Hen.out,hbody,hfin]
     have hent:=enterA_ok HH.out HS.out.locs ⟨hmo0,hmo2⟩ Hen.out
     have Hent:=Lib.hid hent
     have hbg:∀ s0,StOk n s0→GoodR n (UnH h n p.code lo (lo+1+a.size) s0) (body s0):=fun s0 hs0=>by
      rw [hbody]
      exact (anaT_good HK.out.ok Hn.out HH.out a (lo+1) rest.length rest.length s0 0 0 true Hf.out (by have:=Hlen.out;omega) hs0 (by omega) (by omega) (by unfold tooMany;omega)).mono fun st2 hu=>by
       cases h with
       | given r=>trivial
       | widen=>exact fun i hi hst=>hu i hi (stored_sub hst (by omega) (Nat.le_refl _))
     have hpg:=passA_good (height:=rest.length) hbg PASSES 1 head { st with stk:=rest } HS1.out hent.1 (fun _=>⟨by omega,by omega,by unfold PASSES;omega,fun h=>by omega⟩) (by unfold PASSES;omega)
     have Hbg:=Lib.hid hbg
     have Hpg:=Lib.hid hpg
     have Hbody:=Lib.hid hbody
     have Hfin:=Lib.hid hfin
     have hrest:rest.length≤32:=HS1.out.len
     have Hx0:Hid (x0=x0):=rfl
     clear hw5 g5 r13 HK4 HV4 HR4 HI4 hent hbg hpg hbody hfin hE3 HK1 HV1 HR1 x02 hob2 e3 e7 e9 hpc hpb hgl hgl1 hgl4 hpn hHeld
     go_wp2_with fail
     rw [←Hw5.out]
     go_loopw [9,14] (fun s9 s14 wr=>∃ (k pass:Nat) (A:Option Addr) (c:Nat) (hd:List Iv) (st':St) (d':WD),s9=.slice A n c∧s14=.int .i64 (pass:Int)∧Hid (k+pass=7∧1≤pass)∧Hid (passA p.code h lo (lo+1+a.size) rest.length body PASSES 1 head { st with stk:=rest }=passA p.code h lo (lo+1+a.size) rest.length body k pass hd st'∧StOk n st'∧LOk n hd∧d'.mn≤d.mn+(pass-1) * cT a)∧Hid (RepI wB g mb v d w w4.heap.size A n c hd wr st' d')) (fun _ s14 _=>7-(intOf s14).toNat)
     case atStart=>exact⟨6,1,A4,c4,head,{ st with stk:=rest },{ d with sn:=rest.length },rfl,rfl,Lib.hid ⟨rfl,Nat.le_refl _⟩,Lib.hid ⟨rfl,HS1.out,Hent.out.1,Nat.le_add_right _ _⟩,HI5⟩
     case round=>
      as_aux_lemma=>
       clear HI5
       obtain⟨k,pass,A,c,hd,st',d',rfl,rfl,Hkp,HQ,HI⟩:=hrel
       cases k with
       | zero=>
        have h1:=Hpg.out
        rw [HQ.out.1] at h1
        exact h1.elim
       | succ k=>
        have hkp1:k+1+pass=7:=Hkp.out.1
        have hkp2:1≤pass:=Hkp.out.2
        have hpass:pass≤6:=by omega
        have hmul:(pass-1) * cT a+cT a≤6 * cT a:=by
         have h1:(pass-1) * cT a+cT a=pass * cT a:=by
          obtain⟨j,rfl⟩:∃ j,pass=j+1:=⟨pass-1,by omega⟩
          simp [Nat.add_mul]
         rw [h1]
         exact Nat.mul_le_mul_right _ hpass
        obtain⟨w6,hw6⟩:∃ w6,w6=(wr.setCell ⟨g,6,none⟩ (.slice A n c)).setCell ⟨g,9,none⟩ (.slice none 0 0):=⟨_,rfl⟩
        obtain⟨hK6,hV6,hI6,hg6⟩:=HI.out.wk.heads HI.out.kv HI.out.iv hw6
        have r8:=HI.out.r8.grown hg6 (fun e=>(HI.out.wk.ne_box HI.out.r8 (by decide) (by decide) (by decide)).1 (by injection e))
        obtain⟨bx,by_,hbx⟩:=HI.out.r13
        have r13:=hbx.grown hg6 (fun e=>(HI.out.wk.ne_box hbx (by decide) (by decide) (by decide)).1 (by injection e))
        have hiv6:=HI.out.iv.keep hI6
        have hout6:LvsS w6 wB.heap.size d.vA d.vn d.vc d.X:=HI.out.out.grown hg6 (HI.out.out.ne_row HI.out.wk.row (by decide))
        have hS6:StOk n { st' with locs:=hd,lvs:=[] }:=⟨HQ.out.2.2.1,HQ.out.2.1.stk,HQ.out.2.1.len,HQ.out.2.1.hgt,fun l hl=>absurd hl (List.not_mem_nil),HQ.out.2.1.inv⟩
        have hmn6:d'.mn+cT a≤NOTES:=by have h1:=HQ.out.2.2.2;have h2:=Hmn.out;omega
        have HCd:=Lib.hid (HC.out a (lo+1) rest.length rest.length { st' with locs:=hd,lvs:=[] } { d' with lA:=A,ln:=n,lc:=c,vA:=none,vn:=0,vc:=0,X:=[] } w6 true HN.out Hf.out Hpo.out (by have:=Hlen.out;omega) (HB.out.trans hV6.kw.ki.below) hK6 hS6 hrest hrest hmn6 (Nat.zero_le _))
        have hgood:=Hbg.out { st' with locs:=hd,lvs:=[] } hS6
        have hpeq:Hid (passA p.code h lo (lo+1+a.size) rest.length body PASSES 1 head { st with stk:=rest }=(body { st' with locs:=hd,lvs:=[] }).bind fun s7 xs xe=>nextA p.code h lo (lo+1+a.size) rest.length body k pass hd s7 xs xe):=by
         show _=_
         rw [HQ.out.1,passA_succ]
        have hbe:Hid (body { st' with locs:=hd,lvs:=[] }=anaT p h a (lo+1) rest.length rest.length { st' with locs:=hd,lvs:=[] } 0 0):=by show _=_;rw [Hbody.out]
        have hgl6:=HI.out.wk.row.lt
        obtain⟨-,-,-,-,-,-,t6,-,-,t9,-⟩:=HI.out.wk.cells
        have f6:=HI.out.wk.frozen 6
        have f9:=HI.out.wk.frozen 9
        have HK6:=Lib.hid hK6
        have HV6:=Lib.hid hV6
        have HR6:Hid (rowV w6 w.heap.size 151 #[.int .i64 0,.int .i64 0]∧rowV w6 w4.heap.size 151 #[.int .i64 bx,.int .i64 by_]):=⟨r8,r13⟩
        have HO6:Hid (IvK wB.heap.size w6 A n c hd∧LvsS w6 wB.heap.size d.vA d.vn d.vc d.X):=⟨hiv6,hout6⟩
        have Hgood:=Lib.hid hgood
        have Hmn6:Hid (d'.mn+cT a≤d.mn+pass * cT a):=by
         show _≤_
         have h1:=HQ.out.2.2.2
         obtain⟨j,rfl⟩:∃ j,pass=j+1:=⟨pass-1,by omega⟩
         simp only [Nat.add_sub_cancel] at h1
         rw [Nat.add_mul]
         omega
        have Hhd:=Lib.hid HQ.out.2.2.1
        have Hw6:=Lib.hid hw6
        clear hmul hK6 hV6 hI6 hg6 r8 hbx r13 hiv6 hout6 hS6 hmn6 hgood hw6 HI HQ
        go_upto_region 9 with fail
        rw [←Hw6.out]
        clear t6 t9 f6 f9
        go_wp2_with fail
        refine HCd.out.mono ?_
        intro e w7 hr
        clear HCd
        cases hana:anaT p h a (lo+1) rest.length rest.length { st' with locs:=hd,lvs:=[] } 0 0 with
        | stuck=>rw [hana] at hr;exact hr.elim
        | bad q x=>
         rw [hana] at hr
         obtain⟨rfl,hb3⟩:=hr
         refine⟨rfl,?_⟩
         rw [hE5.out,hpeq.out,hbe.out,hana]
         exact⟨rfl,HV6.out.kw.ki.below.trans hb3⟩
        | ok s7 xs xe=>
         as_aux_lemma=>
          rw [hana] at hr
          obtain⟨rfl,d7,hK7,hV7,hm7⟩:=hr
          have hg:=Hgood.out
          rw [hbe.out,hana] at hg
          obtain⟨hS7,hxe,hxs,hxt,-⟩:=hg
          have r8:=hV7.row HR6.out.1 (HK6.out.ne_box HR6.out.1 (by decide) (by decide) (by decide))
          have r13:=hV7.row HR6.out.2 (HK6.out.ne_box HR6.out.2 (by decide) (by decide) (by decide))
          have hiv7:=HO6.out.1.keep hV7.kw.ki
          have hout7:LvsS w7 wB.heap.size d.vA d.vn d.vc d.X:=LvsS.keepKW HO6.out.2 hV7.kw
          obtain⟨w8,hw8⟩:∃ w8,w8=w7.setRow w4.heap.size #[.int .i64 xs,.int .i64 xe]:=⟨_,rfl⟩
          have g8:w7.grownBy w8 (some w4.heap.size):=by rw [hw8];exact grownBy_setRow3 _ _ _
          have hK8:=hK7.boxG r13 (by decide) (by decide) (by decide) (by decide) Hq4.out.2 g8
          have hV8:=(HV6.out.trans hV7).boxG (r:=w4.heap.size) (Nat.le_of_lt Hq4.out.1) HW.out.hB g8
          have r8':=r8.grown g8 (fun e=>by injection e with e;exact Nat.ne_of_lt Hq4.out.1 e)
          have r13':rowV w8 w4.heap.size 151 #[.int .i64 xs,.int .i64 xe]:=by rw [hw8];exact setRow_heap w7 w4.heap.size _ #[.int .i64 xs,.int .i64 xe] _ _ r13
          have hki8:KI wB.heap.size w7 w8:=KI.of_grown g8 (fun k hk=>by injection hk with hk;rw [←hk];exact Hq4.out.2) hK7.hB (fun k cs fr hk=>by injection hk with hk;rw [←hk];exact ne_of_cells r13 (by decide))
          have hiv8:=hiv7.keep hki8
          have hout8:LvsS w8 wB.heap.size d.vA d.vn d.vc d.X:=hout7.grown g8 (hout7.ne_row r13 (by decide))
          have hpe8:Hid (passA p.code h lo (lo+1+a.size) rest.length body PASSES 1 head { st with stk:=rest }=nextA p.code h lo (lo+1+a.size) rest.length body k pass hd s7 xs xe):=by show _=_;rw [hpeq.out,hbe.out,hana];rfl
          have Hr13:=Lib.hid r13
          have HI8:Hid (RepI wB g mb v d w w4.heap.size A n c hd w8 s7 d7∧rowV w8 w4.heap.size 151 #[.int .i64 xs,.int .i64 xe]):=⟨⟨hK8,hV8,r8',⟨xs,xe,r13'⟩,hiv8,hout8⟩,r13'⟩
          have Hlvn:Hid (s7.lvs.length≤a.size):=by
           show _≤_
           have h1:=anaT_lvs _ _ _ _ _ _ _ _ _ _ hana
           simp only [List.length_nil,Nat.zero_add] at h1
           exact h1
          have HS7:=Lib.hid hS7
          have Hx:Hid ((0≤xe∧xe≤xs)∧xs≤281474976710657):=by unfold tooMany at hxt;exact⟨⟨hxe,hxs⟩,hxt⟩
          have Hm7:Hid (d7.mn≤d'.mn+cT a):=hm7
          have Hw8:=Lib.hid hw8
          clear hana hpeq hbe hK7 hV7 hm7 hS7 hxe hxs hxt r8 r13 hiv7 hout7 hw8 g8 hK8 hV8 r8' r13' hki8 hiv8 hout8 HK6 HV6 HR6 HO6 Hgood
          go_upto_region 10 with (refine wpList_store_row rfl 151 (.tmp 13) (.tmp 75) rfl _ #[.int .i64 xs,.int .i64 xe] rfl rfl _ _ Hr13.out (hIbd _ _) rfl (hA2 _ _) ?_)
          rw [←Hw8.out]
          by_cases hlv:s7.stk.length=rest.length
          ·have HLv:=Lib.hid (levelW_ok wB.heap.size g mb v d7 s7 w8 HI8.out.1.wk (lo+1+a.size) rest.length hlv)
           have hln7:d7.ln=n:=HI8.out.1.wk.ln.trans HS7.out.locs.1
           have hn16:n≤16:=by have h1:=HK.out.ok.locs;have h4:=Hn.out;omega
           have hiv7:Ivs w8 d7.lA n d7.lc s7.locs:=by have h1:=HI8.out.1.wk.locs.1;rw [hln7] at h1;exact h1
           have HWi:=Lib.hid (withinW_any d7.lA A n d7.lc c s7.locs hd w8 hiv7 HI8.out.1.iv.1 (by omega))
           obtain⟨-,-,-,-,-,-,e6,-,-,-,-⟩:=HI8.out.1.wk.cells
           rw [hln7] at e6
           have Hlv:=Lib.hid hlv
           have Hln7:=Lib.hid (And.intro hln7 hn16)
           have hgl8:=HI8.out.1.wk.row.lt
           clear hlv hln7 hiv7
           cases hwl:withinL s7.locs hd with
           | true=>
            as_aux_lemma=>
             rw [hwl] at HWi
             have hE9:Hid (repA p h a lo base st=fin { s7 with locs:=hd } xs xe):=by show _=_;rw [hE5.out,hpe8.out];unfold nextA;rw [if_neg (by simpa using Hlv.out),if_pos hwl];rfl
             clear hwl
             go_wp2_with fail
             refine HLv.out.mono ?_
             rintro e w9 ⟨rfl,hw9⟩
             obtain rfl:=hw9.symm
             clear hw9 HLv
             go_wp2_with fail
             refine HWi.out.mono ?_
             rintro e w9 ⟨rfl,hb9⟩
             clear HWi e6
             have hK9:=HI8.out.1.wk.below hb9
             have hV9:=HI8.out.1.kv.trans (KV.of_below (g:=g) (mb:=mb) (d:=d7) hb9 HI8.out.1.wk.hB)
             have hr8:=HI8.out.1.r8.below hb9 HI8.out.1.r8.lt
             have hr13:=HI8.out.2.below hb9 HI8.out.2.lt
             have hiv9:=HI8.out.1.iv.keep (KI.of_below hb9 HI8.out.1.wk.hB)
             have hout9:=HI8.out.1.out.below hb9
             have e10:=hK9.cells.2.2.2.2.2.2.2.2.2.2
             have hgl9:=hK9.row.lt
             obtain⟨f,m1,m2⟩:=hK9.map
             have hmn9:d7.mn < maxLen:=by have h1:=Hm7.out;have h2:=Hmn6.out;have h3:=Hmn.out;have h4:pass * cT a≤6 * cT a:=Nat.mul_le_mul_right _ hpass;unfold NOTES at h3;unfold maxLen;omega
             have HCl:Hid (∀ q,Calls Tryz.prog 81 #[.slice A n c] (w9.drewN q) fun e w'=>∃ A2 c2,e=.returned (.slice A2 n c2)∧IvK wB.heap.size w' A2 n c2 hd∧Below w9.heap.size w9 w'):=fun q=>(cloneIv_any A n c hd (w9.drewN q) (hiv9.keep ((KI.refl _ _).drewN q)).1 (by have:=Hln7.out.2;omega)).mono fun e w' hh=>by obtain⟨A2,c2,h1,h2,h3⟩:=hh;exact⟨A2,c2,h1,IvK.of_own h2,((Drawn.drewN w9 q).below _).trans h3⟩
             have HM:=Lib.hid (And.intro m1 m2)
             have Hmn9:=Lib.hid hmn9
             have HK9:=Lib.hid hK9
             have HV9:=Lib.hid hV9
             have HR9:=Lib.hid (And.intro hr8 hr13)
             have HO9:=Lib.hid (And.intro hiv9 hout9)
             have hlwf:(Lit.int .i64 (lo:Int)).wf=true:=by simp [Lit.wf,IntKind.min,IntKind.max,IntKind.bits,IntKind.signed];omega
             have Hlwf:=Lib.hid hlwf
             have u10:=e10
             have Hne:Hid (some g≠some mb):=fun e=>HK9.out.ne_map (by injection e with e;exact e.symm)
             clear m1 m2 hmn9 hK9 hV9 hr8 hr13 hiv9 hout9 hlwf hb9 heg HI8
             go_upto_region 13 with fail
             go_region_held3 (fun W=>W.cell? ⟨g,10,none⟩=some (.map (some mb)))
              (first | go_keep | exact vX | exact v10)
              (first | (refine (HCl.out _).mono ?_;rintro e w10 ⟨A10,c10,rfl,hiv10,hb10⟩;have v10:=(hb10.cell (p:=⟨g,10,none⟩) hgl9).trans u10;obtain⟨wX,hrun,hmX,hgX⟩:=MapZ.step (t:=142) uInt uMapI (HM.out.1.same (hb10.block mb HM.out.1.lt)) Hmn9.out (lo:Int) Hlwf.out (.agg #[.int .i64 (lo:Int),.int .i64 most,.slice A10 n c10]);have vX:wX.cell? ⟨g,10,none⟩=some (.map (some mb)):=(World.cell?_of_block (a:=⟨g,10,none⟩) (hgX.block g (Nat.lt_of_lt_of_le hgl9 hb10.size) Hne.out)).trans v10))
             rename_i hHeld
             have hkA:=KI.of_below hb10 HK9.out.hB
             have hK10:=HK9.out.below hb10
             obtain⟨hKX,hVX,hIX⟩:=hK10.note hgX (x:=⟨(lo:Int),most,hd⟩) (by simp) hmX (HM.out.1.same (hb10.block mb HM.out.1.lt)) (HM.out.2.keep hkA) ⟨A10,c10,by rw [show hd.length=n from Hhd.out.1],by rw [show hd.length=n from Hhd.out.1];exact hiv10⟩
             have hVX':=(HV9.out.trans (KV.of_below (g:=g) (mb:=mb) hb10 HK9.out.hB)).trans hVX
             obtain⟨mo1,hmo1',hmo2'⟩:=HM.out.1.isMap
             have hnb:∀ {r t:Nat} {cs:Array Value},rowV w9 r t cs→r≠mb:=fun hr e=>by
              unfold rowV at hr
              rw [e,hmo1'] at hr
              injection hr with hr
              rw [hr] at hmo2'
              cases hmo2'
             have hr8X:=(HR9.out.1.below hb10 HR9.out.1.lt).grown hgX (fun e=>hnb HR9.out.1 (by injection e))
             have hr13X:=(HR9.out.2.below hb10 HR9.out.2.lt).grown hgX (fun e=>hnb HR9.out.2 (by injection e))
             have hivX:=(HO9.out.1.keep hkA).keep hIX
             have houtX:LvsS wX wB.heap.size d.vA d.vn d.vc d.X:=by
              have h1:LvsS w10 wB.heap.size d.vA d.vn d.vc d.X:=HO9.out.2.below hb10
              refine h1.grown hgX (fun b hb e=>h1.ne_map (hb10.block mb HM.out.1.lt ▸ hmo1') hmo2' b hb (by injection e))
             have hK11:=hKX.set 6 (.slice A n c) (d':={ d7 with lA:=A,ln:=n,lc:=c,mn:=d7.mn+1 }) (st':={ s7 with locs:=hd,inv:=noteI s7.inv ⟨(lo:Int),most,hd⟩ }) rfl hivX hKX.stk hKX.lvs hKX.lvl hKX.lvi rfl rfl
             have hV11:=hVX'.trans (KV.setG (d':={ d7 with lA:=A,ln:=n,lc:=c,mn:=d7.mn+1 }) hKX 6 (.slice A n c) rfl rfl)
             have g11:wX.grownBy (wX.setCell ⟨g,6,none⟩ (.slice A n c)) (some g):=grownBy.setCell' (World.grownBy.refl _ _) _
             have hr8Y:=hr8X.grown g11 (fun e=>(hKX.ne_box hr8X (by decide) (by decide) (by decide)).1 (by injection e))
             have hr13Y:=hr13X.grown g11 (fun e=>(hKX.ne_box hr13X (by decide) (by decide) (by decide)).1 (by injection e))
             have houtY:LvsS (wX.setCell ⟨g,6,none⟩ (.slice A n c)) wB.heap.size d.vA d.vn d.vc d.X:=houtX.grown g11 (houtX.ne_row hKX.row (by decide))
             obtain⟨-,-,-,-,-,-,t6,-,-,-,-⟩:=hKX.cells
             have f6:=hKX.frozen 6
             have hglX:=hKX.row.lt
             obtain⟨w11,hw11⟩:∃ w11,w11=wX.setCell ⟨g,6,none⟩ (.slice A n c):=⟨_,rfl⟩
             rw [←hw11] at hK11 hV11 hr8Y hr13Y houtY
             have HJ0:Hid (WK wB.heap.size g mb v w11 { s7 with locs:=hd,inv:=noteI s7.inv ⟨(lo:Int),most,hd⟩ } { d7 with lA:=A,ln:=n,lc:=c,mn:=d7.mn+1 }∧KV wB.heap.size g mb d { d7 with lA:=A,ln:=n,lc:=c,mn:=d7.mn+1 } w w11):=⟨hK11,hV11⟩
             have HJ1:Hid ((rowV w11 w.heap.size 151 #[.int .i64 0,.int .i64 0]∧rowV w11 w4.heap.size 151 #[.int .i64 xs,.int .i64 xe])∧LvsS w11 wB.heap.size d.vA d.vn d.vc d.X):=⟨⟨hr8Y,hr13Y⟩,houtY⟩
             have e9:=hK11.cells.2.2.2.2.2.2.2.2.2.1
             simp only [] at e9
             have hgl11:=hK11.row.lt
             have Hvn:Hid (d7.vn=s7.lvs.length∧d7.vn≤1024):=by
              have h1:d7.vn=s7.lvs.length:=hK11.vn
              exact⟨h1,by have h2:=Hlvn.out;have h3:=Hlen.out;have h4:=hl1;omega⟩
             have Hw11:=Lib.hid hw11
             clear hHeld hkA hK10 hKX hVX hIX hVX' mo1 hmo1' hmo2' hnb hr8X hr13X hivX houtX hK11 hV11 g11 hr8Y hr13Y houtY hw11 hiv10 hb10 v10 vX hrun hmX hgX e10 u10 HCl HM Hmn9
             go_upto_region 15 with fail
             rw [←Hw11.out]
             clear t6 f6
             obtain⟨vA,hvA⟩:∃ x,x=d7.vA:=⟨_,rfl⟩
             obtain⟨vn,hvn⟩:∃ x,x=d7.vn:=⟨_,rfl⟩
             rw [←hvA,←hvn] at e9
             have HvA:=Lib.hid (And.intro hvA hvn)
             have hvnb:vn≤1024:=by rw [hvn];exact Hvn.out.2
             clear hvA hvn
             go_wp2_with fail
             clear e9
             go_loopw [16,119] (fun _ s119 wr=>∃ (i:Nat) (A':Option Addr) (c':Nat),i≤vn∧s119=.int .i64 (i:Int)∧Hid (WK wB.heap.size g mb v wr { s7 with locs:=(s7.lvs.take i).foldl joinL hd,inv:=noteI s7.inv ⟨(lo:Int),most,hd⟩ } { d7 with lA:=A',ln:=n,lc:=c',mn:=d7.mn+1 }∧KV wB.heap.size g mb d { d7 with lA:=A',ln:=n,lc:=c',mn:=d7.mn+1 } w wr)∧Hid ((rowV wr w.heap.size 151 #[.int .i64 0,.int .i64 0]∧rowV wr w4.heap.size 151 #[.int .i64 xs,.int .i64 xe])∧LvsS wr wB.heap.size d.vA d.vn d.vc d.X)) (fun _ s119 _=>vn-(intOf s119).toNat)
             case atStart=>exact⟨0,A,c,Nat.zero_le _,rfl,HJ0,HJ1⟩
             case round=>
              as_aux_lemma=>
               clear HJ0 HJ1
               obtain⟨i,A',c',hi,rfl,HJ,HJ1⟩:=hrel
               by_cases hlt:i < vn
               ·have d0:decide ((i:Int) < (vn:Int))=true:=by simp;omega
                have d0':(0:Int)≤(i:Int):=by omega
                have hi7:i < d7.vn:=by rw [←HvA.out.2];exact hlt
                obtain⟨lb,hlb,-,hlb2,hoc⟩:=HJ.out.1.lvs.get (fun _=>rfl) (by decide) ⟨none,0,0⟩ (Nat.lt_of_le_of_lt (Nat.zero_le _) hi7)
                have c0:=hoc i 0 _ hi7 rfl
                have hlvi:=HJ.out.1.lvi i (by rw [HJ.out.1.lvl];show i < s7.lvs.length;rw [←Hvn.out.1];exact hi7)
                obtain⟨x,hx⟩:∃ x,x=d7.X.getD i ⟨none,0,0⟩:=⟨_,rfl⟩
                simp only [] at hlvi c0
                rw [←hx] at c0 hlvi
                have hmem:s7.lvs.getD i []∈s7.lvs:=by
                 have h1:i < s7.lvs.length:=by rw [←Hvn.out.1];exact hi7
                 rw [List.getD_eq_getElem?_getD,List.getElem?_eq_getElem h1]
                 exact List.getElem_mem h1
                have hll:=HS7.out.lvs _ hmem
                have hxn:x.n=n:=hlvi.1.1.symm.trans hll.1
                rw [hxn] at hlvi c0
                simp only [Nat.mul_one,Nat.add_zero] at c0
                obtain rfl:vA=some ⟨lb,0,none⟩:=HvA.out.1.trans hlb
                obtain⟨LA,hLA⟩:∃ y,y=x.A:=⟨_,rfl⟩
                obtain⟨LC,hLC⟩:∃ y,y=x.c:=⟨_,rfl⟩
                rw [←hLA,←hLC] at c0 hlvi
                have hfok:LOk n ((s7.lvs.take i).foldl joinL hd):=fold_ok _ _ Hhd.out (fun m hm=>HS7.out.lvs m (List.mem_of_mem_take hm))
                have HJn:=Lib.hid (joinW_any A' LA n c' LC ((s7.lvs.take i).foldl joinL hd) (s7.lvs.getD i []) wr (HJ.out.1.locs.1) hlvi.1 (by have:=Hln7.out.2;omega))
                have e6:=HJ.out.1.cells.2.2.2.2.2.2.1
                simp only [] at e6
                have hglr:=HJ.out.1.row.lt
                have hfs:Hid ((s7.lvs.take (i+1)).foldl joinL hd=joinL ((s7.lvs.take i).foldl joinL hd) (s7.lvs.getD i [])):=by
                 show _=_
                 have h1:i < s7.lvs.length:=by rw [←Hvn.out.1];exact hi7
                 rw [List.take_add_one,List.foldl_append,List.getElem?_eq_getElem h1,List.getD_eq_getElem?_getD,List.getElem?_eq_getElem h1]
                 rfl
                clear hoc hlvi hmem hll hxn hfok hx hLA hLC hlb hi7
                go_upto_region 18 with fail
                go_wp2_with fail
                refine HJn.out.mono ?_
                rintro e w6 ⟨A6,c6,rfl,ho6,hb6⟩
                clear e6 c0 HJn
                have hK6:=HJ.out.1.below hb6
                obtain⟨-,-,-,-,-,-,t6,-,-,-,-⟩:=hK6.cells
                simp only [] at t6
                have f6:=hK6.frozen 6
                have hgl6:=hK6.row.lt
                have hK7:=hK6.set 6 (.slice A6 n c6) (d':={ d7 with lA:=A6,ln:=n,lc:=c6,mn:=d7.mn+1 }) (st':={ s7 with locs:=(s7.lvs.take (i+1)).foldl joinL hd,inv:=noteI s7.inv ⟨(lo:Int),most,hd⟩ }) rfl (by rw [hfs.out];exact IvK.of_own ho6) hK6.stk hK6.lvs hK6.lvl hK6.lvi rfl rfl
                have hV7:KV wB.heap.size g mb d { d7 with lA:=A6,ln:=n,lc:=c6,mn:=d7.mn+1 } w (w6.setCell ⟨g,6,none⟩ (.slice A6 n c6)):=(HJ.out.2.trans (KV.of_below (g:=g) (mb:=mb) hb6 HJ.out.1.hB)).trans (KV.setG hK6 6 _ rfl rfl)
                have g7:w6.grownBy (w6.setCell ⟨g,6,none⟩ (.slice A6 n c6)) (some g):=grownBy.setCell' (World.grownBy.refl _ _) _
                have p8:=HJ1.out.1.1.below hb6 HJ1.out.1.1.lt
                have p13:=HJ1.out.1.2.below hb6 HJ1.out.1.2.lt
                have po:LvsS w6 wB.heap.size d.vA d.vn d.vc d.X:=HJ1.out.2.below hb6
                have q8:=p8.grown g7 (fun e=>(hK6.ne_box p8 (by decide) (by decide) (by decide)).1 (by injection e))
                have q13:=p13.grown g7 (fun e=>(hK6.ne_box p13 (by decide) (by decide) (by decide)).1 (by injection e))
                have qo:LvsS (w6.setCell ⟨g,6,none⟩ (.slice A6 n c6)) wB.heap.size d.vA d.vn d.vc d.X:=po.grown g7 (po.ne_row hK6.row (by decide))
                obtain⟨w7,hw7⟩:∃ w7,w7=w6.setCell ⟨g,6,none⟩ (.slice A6 n c6):=⟨_,rfl⟩
                rw [←hw7] at hK7 hV7 q8 q13 qo
                have HN0:=Lib.hid (And.intro hK7 hV7)
                have HN1:=Lib.hid (And.intro (And.intro q8 q13) qo)
                have Hw7:=Lib.hid hw7
                clear hK6 hK7 hV7 g7 p8 p13 po q8 q13 qo hw7 ho6 hb6
                go_wp2_with fail
                rw [←Hw7.out]
                go_roundw
                case rel=>exact⟨i+1,A6,c6,by omega,by go_num,HN0,HN1⟩
                case measure=>(simp [intOf]) <;> omega
               ·obtain rfl:i=vn:=by omega
                have d0:decide ((i:Int) < (i:Int))=false:=by simp
                have hK12:=HJ.out.1
                have hK13:=hK12.set 9 (.slice d.vA d.vn d.vc) (d':={ d7 with lA:=A',ln:=n,lc:=c',vA:=d.vA,vn:=d.vn,vc:=d.vc,X:=d.X,mn:=d7.mn+1 }) (st':={ s7 with locs:=(s7.lvs.take i).foldl joinL hd,lvs:=st.lvs,inv:=noteI s7.inv ⟨(lo:Int),most,hd⟩ }) rfl hK12.locs hK12.stk HJ1.out.2 HW.out.lvl (fun i hi=>(HW.out.lvi i hi).keep HJ.out.2.kw.ki) rfl rfl
                have hV13:KV wB.heap.size g mb d { d7 with lA:=A',ln:=n,lc:=c',vA:=d.vA,vn:=d.vn,vc:=d.vc,X:=d.X,mn:=d7.mn+1 } w (wr.setCell ⟨g,9,none⟩ (.slice d.vA d.vn d.vc)):=HJ.out.2.outer hK12 9 (.slice d.vA d.vn d.vc) rfl rfl
                have g13:wr.grownBy (wr.setCell ⟨g,9,none⟩ (.slice d.vA d.vn d.vc)) (some g):=grownBy.setCell' (World.grownBy.refl _ _) _
                have hr8:=HJ1.out.1.1.grown g13 (fun e=>(hK12.ne_box HJ1.out.1.1 (by decide) (by decide) (by decide)).1 (by injection e))
                have hr13:=HJ1.out.1.2.grown g13 (fun e=>(hK12.ne_box HJ1.out.1.2 (by decide) (by decide) (by decide)).1 (by injection e))
                have f9:=hK12.frozen 9
                have t9:=hK12.cells.2.2.2.2.2.2.2.2.2.1
                have hglr:=hK12.row.lt
                obtain⟨w13,hw13⟩:∃ w13,w13=wr.setCell ⟨g,9,none⟩ (.slice d.vA d.vn d.vc):=⟨_,rfl⟩
                rw [←hw13] at hK13 hV13 hr8 hr13
                have hfl:s7.lvs.take i=s7.lvs:=List.take_of_length_le (Nat.le_of_eq (Hvn.out.1.symm.trans HvA.out.2.symm))
                rw [hfl] at hK13
                obtain⟨b0,b1⟩:=two_cellsV hr13
                have hxx:=Hx.out
                have hent:=Hent.out.2.1
                have HTm:=Lib.hid (times_any xs xe most ⟨by omega,by omega⟩ ⟨by omega,by omega⟩ hent w13)
                have HK13:=Lib.hid (And.intro hK13 hV13)
                have HR13:=Lib.hid hr8
                have Hw13:=Lib.hid hw13
                clear hK12 hK13 hV13 g13 hr8 hr13 hfl hw13 hxx hent HJ HJ1
                go_upto_region 21 with fail
                rw [←Hw13.out]
                clear f9 t9
                go_wp2_with fail
                refine HTm.out.mono ?_
                rintro e w14 ⟨rfl,hb14⟩
                clear HTm b0 b1
                have hxx:=Hx.out
                have hent:=Hent.out.2.1
                have hcp:=capS_ok (a:=xs) (b:=0) (a':=1) (b':=0) (by omega) (by omega) (by omega) (by omega)
                have hxe1:xe≤capS xs 1:=by unfold capS tooMany;omega
                have hpr:=prodS_ok (x:=xe) (y:=capS xs 1) (n:=most) hxx.1.1 hxe1 hent.1
                have hpp:(0≤prodS (capS xs 1) most∧prodS (capS xs 1) most≤281474976710657)∧(0≤prodS xe most∧prodS xe most≤281474976710657):=by have h1:=hpr.2.2;unfold tooMany at h1;omega
                have HPl:=Lib.hid (plus_any (prodS (capS xs 1) most) (prodS xe most) 1 0 hpp.1 hpp.2 (by omega) (by omega) w14)
                obtain⟨P1,hP1⟩:∃ z,z=prodS (capS xs 1) most:=⟨_,rfl⟩
                obtain⟨P2,hP2⟩:∃ z,z=prodS xe most:=⟨_,rfl⟩
                rw [←hP1,←hP2] at HPl ⊢
                have HP12:=Lib.hid (And.intro hP1 hP2)
                clear hxx hent hcp hxe1 hpr hpp hP1 hP2
                go_wp2_with fail
                refine HPl.out.mono ?_
                rintro e w15 ⟨rfl,hb15⟩
                clear HPl
                have hb:=hb14.trans (hb15.mono hb14.size)
                have Hr15:=Lib.hid (HR13.out.below hb HR13.out.lt)
                have HK15:=Lib.hid (HK13.out.1.below hb)
                have HV15:=Lib.hid (HK13.out.2.trans (KV.of_below (g:=g) (mb:=mb) hb HK13.out.1.hB))
                clear hb14 hb15 hb
                go_wp2_with (refine wpList_store_row rfl 151 (.tmp 6) (.tmp 141) rfl _ #[.int .i64 (capS P1 1),.int .i64 (capS P2 0)] rfl rfl _ _ Hr15.out (hIbd _ _) rfl (hA2 _ _) ?_)
                obtain⟨k1,k2⟩:=two_cellsV (setRow_heap w15 w.heap.size _ #[.int .i64 (capS P1 1),.int .i64 (capS P2 0)] _ _ Hr15.out)
                refine bodyPost_ret (v:=.tuple #[.agg #[.int .i64 (capS P1 1),.int .i64 (capS P2 0)],.int .i64 ((lo+1+a.size:Nat):Int)]) (by simp [results,Tryz.results110,go_sem,k1,k2]) rfl ?_
                rw [hE9.out,Hfin.out,HP12.out.1,HP12.out.2]
                exact⟨rfl,_,HK15.out.boxG Hr15.out (by decide) (by decide) (by decide) (by decide) HW.out.hB (grownBy_setRow3 _ _ _),HV15.out.boxG (Nat.le_refl _) HW.out.hB (grownBy_setRow3 _ _ _),by have h1:=Hm7.out;have h2:=Hmn6.out;have h4:pass * cT a≤6 * cT a:=Nat.mul_le_mul_right _ hpass;show d7.mn+1≤_;omega⟩
           | false=>
            as_aux_lemma=>
             rw [hwl] at HWi
             go_wp2_with fail
             refine HLv.out.mono ?_
             rintro e w9 ⟨rfl,hw9⟩
             obtain rfl:=hw9.symm
             clear hw9 HLv
             go_wp2_with fail
             refine HWi.out.mono ?_
             rintro e w9 ⟨rfl,hb9⟩
             clear HWi e6
             have hK9:=HI8.out.1.wk.below hb9
             obtain⟨-,-,-,-,-,v5,v6,-,-,-,-⟩:=hK9.cells
             rw [Hf12.out.2] at v5
             rw [Hln7.out.1] at v6
             have hloc9:IvK wB.heap.size w9 d7.lA n d7.lc s7.locs:=by have h1:=hK9.locs;rw [Hln7.out.1] at h1;exact h1
             have hki9:=KI.of_below hb9 HI8.out.1.wk.hB
             have HA2:=Lib.hid (fun q=>HE2.out (w9.drewN q) lo (lo+1+a.size) pass A d7.lA c d7.lc hd s7.locs (bdrew (HB.out.trans (HI8.out.1.kv.kw.ki.below.trans (hb9.mono HI8.out.1.wk.hB))) q) (by omega) (by have:=Hlen.out;omega) (by omega) ((HI8.out.1.iv.keep hki9).keep ((KI.refl _ _).drewN q)) Hhd.out (hloc9.keep ((KI.refl _ _).drewN q)) HS7.out.locs hK9.hB)
             have hgl9:=hK9.row.lt
             have heg2:=Hen2.out
             unfold Enters at heg2
             have hbg9:Below wB.heap.size w w9:=HI8.out.1.kv.kw.ki.below.trans (hb9.mono HI8.out.1.wk.hB)
             have HK9:=Lib.hid (And.intro hK9 hbg9)
             have Hb9:=Lib.hid hb9
             have Hwl:=Lib.hid hwl
             clear hK9 hloc9 hki9 hb9 hbg9 hwl heg
             have ecast:((lo+1+a.size:Nat):Int)=(lo:Int)+1+(a.size:Int):=by omega
             cases h with
             | given r=>
              have HA2:Hid (∀ q,Calls Tryz.prog F2 (#[.int .i64 (lo:Int),.int .i64 ((lo:Int)+1+(a.size:Int)),.int .i64 (pass:Int),.slice A n c,.slice d7.lA n d7.lc]++lb2) (w9.drewN q) fun e w'=>e=.panicked [{ v:=failW (lo+1+a.size) 23,recovered:=false }]∧Below w9.heap.size w9 w'):=fun q=>by rw [←ecast];exact (HA2.out q).mono fun e w' hh=>⟨hh.1,((Drawn.drewN w9 q).below _).trans hh.2⟩
              have hE9:Hid (repA p (.given r) a lo base st=.bad (lo+1+a.size) 23):=by show _=_;rw [hE5.out,hpe8.out];unfold nextA;rw [if_neg (by simpa using Hlv.out),if_neg (by rw [Hwl.out];simp)];rfl
              go_upto_region 12 with fail
              refine wp_region_quiet_tail 13 (by kernel_rfl) (by kernel_rfl) ?_
              simp only [List.take_succ_cons,List.take_zero,List.drop_succ_cons,List.drop_zero]
              repeat (go_big_quiet_step (fail))
              refine wpQuiet_nil ?_
              intro _ hw'
              obtain⟨nr,hw''⟩:=hw'
              subst hw''
              go_wp2_with fail
              refine (HA2.out _).mono ?_
              rintro e w10 ⟨rfl,hb10⟩
              refine⟨rfl,?_⟩
              rw [hE9.out]
              exact⟨rfl,HK9.out.2.trans (hb10.mono HK9.out.1.hB)⟩
             | widen=>
              have HA2:Hid (∀ q,Calls Tryz.prog F2 (#[.int .i64 (lo:Int),.int .i64 ((lo:Int)+1+(a.size:Int)),.int .i64 (pass:Int),.slice A n c,.slice d7.lA n d7.lc]++lb2) (w9.drewN q) fun e w'=>∃ A' c',e=.returned (.slice A' n c')∧IvK wB.heap.size w' A' n c' (nextH p.code lo (lo+1+a.size) pass hd s7.locs)∧Below w9.heap.size w9 w'):=fun q=>by rw [←ecast];exact (HA2.out q).mono fun e w' hh=>by obtain⟨⟨A',c',h1,h2⟩,h3⟩:=hh;exact⟨A',c',h1,h2,((Drawn.drewN w9 q).below _).trans h3⟩
              have hE9:Hid (passA p.code .widen lo (lo+1+a.size) rest.length body PASSES 1 head { st with stk:=rest }=passA p.code .widen lo (lo+1+a.size) rest.length body k (pass+1) (nextH p.code lo (lo+1+a.size) pass hd s7.locs) s7):=by show _=_;rw [hpe8.out];unfold nextA;rw [if_neg (by simpa using Hlv.out),if_neg (by rw [Hwl.out];simp)]
              have u5:=v5
              have u6:=v6
              go_upto_region 12 with fail
              go_region_held3 (fun W=>W.cell? ⟨g,5,none⟩=some (.func (.func F2) #[] lb2)∧W.cell? ⟨g,6,none⟩=some (.slice d7.lA n d7.lc))
               (first | go_keep | exact⟨x5,x6⟩)
               (first | (refine (HA2.out _).mono ?_;rintro e w10 ⟨A10,c10,rfl,hiv10,hb10⟩;have x5:=(hb10.cell (p:=⟨g,5,none⟩) hgl9).trans u5;have x6:=(hb10.cell (p:=⟨g,6,none⟩) hgl9).trans u6))
              rename_i hHeld
              have hK10:=HK9.out.1.below hb10
              have hb910:=Hb9.out.trans (hb10.mono Hb9.out.size)
              have HI10:Hid (RepI wB g mb v d w w4.heap.size A10 n c10 (nextH p.code lo (lo+1+a.size) pass hd s7.locs) w10 s7 d7):=⟨hK10,HI8.out.1.kv.trans (KV.of_below (g:=g) (mb:=mb) hb910 HI8.out.1.wk.hB),HI8.out.1.r8.below hb910 HI8.out.1.r8.lt,⟨xs,xe,HI8.out.2.below hb910 HI8.out.2.lt⟩,hiv10,HI8.out.1.out.below hb910⟩
              clear hHeld hK10 hb910 hiv10 hb10 x5 x6 v5 v6 u5 u6 HA2
              go_wp2_with fail
              go_roundw
              case rel=>exact⟨k,pass+1,A10,c10,nextH p.code lo (lo+1+a.size) pass hd s7.locs,s7,d7,rfl,by go_num,Lib.hid ⟨by omega,by omega⟩,Lib.hid ⟨hE9.out,HS7.out,nextH_ok Hhd.out,by have h1:=Hm7.out;have h2:=Hmn6.out;simp only [Nat.add_sub_cancel];omega⟩,HI10⟩
              case measure=>(simp [intOf]) <;> omega
          ·have HLv:=Lib.hid (levelW_bad wB.heap.size g mb v d7 s7 w8 HI8.out.1.wk (lo+1+a.size) rest.length hlv)
           have heq:Hid (repA p h a lo base st=.bad (lo+1+a.size) 14):=by show _=_;rw [hE5.out,hpe8.out];unfold nextA;rw [if_pos (by simpa using hlv)];rfl
           clear hlv
           go_wp2_with fail
           refine HLv.out.mono ?_
           rintro e w9 ⟨rfl,hw9⟩
           obtain rfl:=hw9.symm
           refine⟨rfl,?_⟩
           rw [heq.out]
           exact⟨rfl,HI8.out.1.kv.kw.ki.below⟩
end Go.Proofs.YtpaplehcafeeaaaGreatDoor
