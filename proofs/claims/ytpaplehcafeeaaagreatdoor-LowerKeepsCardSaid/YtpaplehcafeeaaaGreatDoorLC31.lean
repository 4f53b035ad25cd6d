/- Xo Xs. -/
import Derived.Test.YtpaplehcafeeaaaGreatDoorLC30
import Derived.Test.YtpaplehcafeeaaaGreatDoorLC26
import Derived.Test.YtpaplehcafeeaaaGreatDoorLC27
import Derived.Deep.RegionHeld3
set_option maxRecDepth 100000
set_option maxHeartbeats 40000000
set_option linter.unusedVariables false
set_option linter.unusedSimpArgs false
set_option linter.unusedSectionVars false
namespace Go.Proofs.YtpaplehcafeeaaaGreatDoor
open Go.RowKit Go.Proofs
variable [Inhabited ArgB]
theorem choice_two(wB:World)(g mb:Nat)(v:WV)(p:Prg)(P:List Int)(n:Nat)(h:Hd)(N:Nat)(hC:CodeC wB g mb v p P n h N)(hk:PK wB v p P)(hP:P.length=p.code.length)(hn:p.locs=(n:Int))(hh:HdOk n h)(a dd:Tr)(lo base loop:Nat)(st:St)(d:WD)(w:World)(b:Bool)(haN:a.size < N)(hdN:dd.size < N)(hfd:Fit p.code b (lo+2+a.size) dd)(hpod:PartOk P (lo+2+a.size) dd)(hf:Fit p.code b (lo+1) a)(hpo:PartOk P (lo+1) a)(h31:oI p.code (lo+1+a.size)=28)(hpm:gi P (lo+1+a.size)=(lo+2+a.size+dd.size:Nat))(hpl:gi P lo=(lo+1+a.size:Nat))(hlen:lo+3+a.size+dd.size≤p.code.length)(hb:Below wB.heap.size wB w)(hW:WK wB.heap.size g mb v w st d)(hs:StOk n st)(hba:base≤32)(hlp:loop≤32)(hmn:d.mn+(cT a+cT dd)≤NOTES)(hlvs:st.lvs.length≤lo) :
  Calls Tryz.prog 109 #[.pointer (some ⟨g,0,none⟩),.int .i64 (lo:Int),.int .i64 (base:Int),.int .i64 (loop:Int)] w (BlkR wB.heap.size g mb v d w (cT a+cT dd) (lo+2+a.size+dd.size) (choA p h a (some dd) lo base loop st)):=by
 obtain⟨w0,hw0⟩:∃ w0,w0=w.alloc (.cells #[.int .i64 0,.int .i64 0] 151):=⟨_,rfl⟩
 have g0:Below w.heap.size w w0:=by rw [hw0];exact balloc (Below.refl _ _) _
 have r8:rowV w0 w.heap.size 151 #[.int .i64 0,.int .i64 0]:=by rw [hw0];exact rowV.new w _ _
 have HW:=Lib.hid hW
 have HB:=Lib.hid hb
 have HK:=Lib.hid hk
 have HS:=Lib.hid hs
 have Hn:=Lib.hid hn
 have HC:=Lib.hid hC
 have Hf:=Lib.hid hf
 have Hpo:=Lib.hid hpo
 have H31:=Lib.hid h31
 have Hpl:=Lib.hid hpl
 have HP:=Lib.hid hP
 have HdN:=Lib.hid hdN
 have Hfd:=Lib.hid hfd
 have Hpod:=Lib.hid hpod
 have Hpm:=Lib.hid hpm
 have Hlen:=Lib.hid hlen
 have Hmn:=Lib.hid hmn
 have Hlvs:=Lib.hid hlvs
 have HN:=Lib.hid haN
 have HH:=Lib.hid hh
 have hl1:lo+3+a.size+dd.size≤1024:=by have:=hk.ok.len;omega
 have Hw0:=Lib.hid hw0
 have HW0:=Lib.hid (hW.below g0)
 have HR0:=Lib.hid (And.intro r8 g0)
 have HPop:=Lib.hid (popW_any wB.heap.size g mb v d st w0 HW0.out lo base [116] (by decide) hs.len (by omega))
 have hE:Hid (choA p h a (some dd) lo base loop st=match popA st.stk base [116] with
  | .error x=>.bad lo x
  | .ok (rest,_)=>(anaT p h a (lo+1) rest.length loop { st with stk:=rest } 0 0).bind fun s1 xs xe=>
   if s1.stk.length≠rest.length then .bad (lo+1+a.size) 14
   else (anaT p h dd (lo+2+a.size) rest.length loop { s1 with locs:=st.locs } 0 0).bind fun s2 ys ye=>
    if s2.stk.length≠rest.length then .bad (lo+2+a.size+dd.size) 14
    else .ok { s2 with locs:=joinL s1.locs s2.locs } (capS (max xs ys) 1) (capS (max xe ye) 0)):=rfl
 have hzs:strB [116]=⟨#[116]⟩:=rfl
 rw [hzs] at HPop
 clear hW hb hk hs hn hC hf hpo h31 hpl hP hlen hmn haN hw0 g0 r8 hzs hh hlvs hdN hfd hpod hpm
 go_enter Tryz.func109,Tryz.ntmps109
 go_wp2_with fail
 rw [←Hw0.out]
 refine HPop.out.mono ?_
 intro e w1 hr
 clear HPop
 cases hpop:popA st.stk base [116] with
 | error x=>
  rw [hpop] at hr hE
  obtain⟨rfl,hb1⟩:=hr
  refine⟨rfl,?_⟩
  rw [hE.out]
  exact⟨rfl,(HR0.out.2.mono HW.out.hB).trans hb1⟩
 | ok rl=>
  obtain⟨rest,l⟩:=rl
  rw [hpop] at hr hE
  obtain⟨A1,c1,rfl,-,hK1,hV1⟩:=hr
  obtain⟨hS1,-,-,hrl⟩:=popA_rest HS.out hpop
  have hV01:KV wB.heap.size g mb d { d with sn:=rest.length } w w1:=(KV.of_below HR0.out.2 HW.out.hB).trans hV1
  have r8:=hV1.row HR0.out.1 (HW.out.fresh (Nat.le_refl _))
  have hb1:=HB.out.trans hV01.kw.ki.below
  obtain⟨hpn,pb,poff,hpA,hpb,hpc⟩:=HK.out.part hb1 HP.out (lo:=lo) (by have:=Hlen.out;omega)
  rw [Hpl.out] at hpc
  obtain⟨-,-,-,e3,-,-,e6,e7,-,-,-⟩:=hK1.cells
  have hrest:rest.length≤32:=hS1.len
  have HK1:=Lib.hid hK1
  have HV1:=Lib.hid hV01
  have HS1:=Lib.hid hS1
  have HR1:=Lib.hid r8
  have Hb1:=Lib.hid hb1
  have hgl:=hK1.row.lt
  simp only [] at e6 e7
  rw [hpA] at e3
  obtain⟨pn,hpn'⟩:∃ x,x=v.pn:=⟨_,rfl⟩
  rw [←hpn'] at e3 hpn
  clear hpn' hpA hK1 hV1 hV01 hS1 r8 hb1 hrl hpop
  go_upto_region 4 with fail
  go_quiet (fail)
  obtain⟨w2,hw2⟩:∃ w2,w2=w1.drewN nq:=⟨_,rfl⟩
  have HK2:Hid (WK wB.heap.size g mb v w2 { st with stk:=rest } { d with sn:=rest.length }):=by rw [hw2];exact HK1.out.drewN nq
  have HV2:Hid (KV wB.heap.size g mb d { d with sn:=rest.length } w w2):=by rw [hw2];exact HV1.out.drewN nq
  have HR2:Hid (rowV w2 w.heap.size 151 #[.int .i64 0,.int .i64 0]):=by rw [hw2];exact HR1.out
  rw [←hw2]
  clear hw2 HK1 HV1 HR1 e3 e6 e7 hpc hpb hgl Hb1
  have HCd:=Lib.hid (HC.out a (lo+1) rest.length loop { st with stk:=rest } { d with sn:=rest.length } w2 b HN.out Hf.out Hpo.out (by have:=Hlen.out;omega) (HB.out.trans HV2.out.kw.ki.below) HK2.out HS1.out hrest hlp (by have h1:=Hmn.out;show d.mn+cT a≤NOTES;omega) (Nat.le_succ_of_le Hlvs.out))
  go_wp2_with fail
  refine HCd.out.mono ?_
  intro e w3 hr
  clear HCd
  cases hana:anaT p h a (lo+1) rest.length loop { st with stk:=rest } 0 0 with
  | stuck=>rw [hana] at hr;exact hr.elim
  | bad q x=>
   rw [hana] at hr
   obtain⟨rfl,hb3⟩:=hr
   refine⟨rfl,?_⟩
   rw [hE.out,hana]
   exact⟨rfl,HV2.out.kw.ki.below.trans hb3⟩
  | ok s1 xs xe=>
   rw [hana] at hr
   obtain⟨rfl,d3,hK3,hV3,hm3⟩:=hr
   have hgood:=anaT_good HK.out.ok Hn.out HH.out a (lo+1) rest.length loop { st with stk:=rest } 0 0 b Hf.out (by have:=Hlen.out;omega) HS1.out (by omega) (by omega) (by unfold tooMany;omega)
   rw [hana] at hgood
   obtain⟨hS3,hxe,hxs,hxt,-⟩:=hgood
   have Hlv1:=Lib.hid (anaT_lvs a (lo+1) rest.length loop { st with stk:=rest } s1 0 0 xs xe hana)
   have r8:=hV3.row HR2.out (HK2.out.ne_box HR2.out (by decide) (by decide) (by decide))
   obtain⟨w4,hw4,g4,r14,r15,s4⟩:=two_boxes w3 xs xe 0 0
   have hE2:Hid (choA p h a (some dd) lo base loop st=if s1.stk.length≠rest.length then .bad (lo+1+a.size) 14 else (anaT p h dd (lo+2+a.size) rest.length loop { s1 with locs:=st.locs } 0 0).bind fun s2 ys ye=>
    if s2.stk.length≠rest.length then .bad (lo+2+a.size+dd.size) 14
    else .ok { s2 with locs:=joinL s1.locs s2.locs } (capS (max xs ys) 1) (capS (max xe ye) 0)):=by show _=_;rw [hE.out,hana];rfl
   have HK4:=Lib.hid (hK3.below g4)
   have HV4:=Lib.hid ((HV2.out.trans hV3).trans (KV.of_below (g:=g) (mb:=mb) (d:=d3) g4 hK3.hB))
   have q8:=r8.below g4 r8.lt
   have HR4:=Lib.hid (And.intro q8 (And.intro r14 r15))
   have HS3:=Lib.hid hS3
   have Hw4:=Lib.hid hw4
   have Hm3:=Lib.hid hm3
   have Hs4:=Lib.hid (And.intro (Nat.le_trans (Nat.le_of_lt r8.lt) (Nat.le_refl w3.heap.size)) r8.lt)
   unfold tooMany at hxt
   clear hana hK3 hV3 hm3 hS3 r8 hw4 g4 r14 r15 q8 hE s4
   by_cases hlv:s1.stk.length=rest.length
   ·have HLv:=Lib.hid (levelW_ok wB.heap.size g mb v d3 s1 w4 HK4.out (lo+1+a.size) rest.length hlv)
    have hE3:Hid (choA p h a (some dd) lo base loop st=(anaT p h dd (lo+2+a.size) rest.length loop { s1 with locs:=st.locs } 0 0).bind fun s2 ys ye=>
    if s2.stk.length≠rest.length then .bad (lo+2+a.size+dd.size) 14
    else .ok { s2 with locs:=joinL s1.locs s2.locs } (capS (max xs ys) 1) (capS (max xe ye) 0)):=by show _=_;rw [hE2.out,if_neg (by simpa using hlv)]
    have Hlv:=Lib.hid hlv
    clear hlv
    go_upto_region 6 with fail
    rw [←Hw4.out]
    go_wp2_with fail
    refine HLv.out.mono ?_
    rintro e w5 ⟨rfl,hw5⟩
    obtain rfl:=hw5.symm
    clear hw5 HLv
    have hln3:d3.ln=n:=HK4.out.ln.trans HS3.out.locs.1
    have hln:d.ln=n:=HW.out.ln.trans HS.out.locs.1
    have hn16:n≤16:=by have h1:=HK.out.ok.locs;have h4:=Hn.out;omega
    obtain⟨-,-,e2,-,-,-,e6,-,-,-,-⟩:=HK4.out.cells
    have f6:=HK4.out.frozen 6
    have hloc:IvK wB.heap.size w4 d.lA d.ln d.lc st.locs:=HW.out.locs.keep HV4.out.kw.ki
    have hK5:=HK4.out.set 6 (.slice d.lA d.ln d.lc) (d':={ d3 with lA:=d.lA,ln:=d.ln,lc:=d.lc }) (st':={ s1 with locs:=st.locs }) rfl hloc HK4.out.stk HK4.out.lvs HK4.out.lvl HK4.out.lvi rfl rfl
    have hV5:KV wB.heap.size g mb d { d3 with lA:=d.lA,ln:=d.ln,lc:=d.lc } w (w4.setCell ⟨g,6,none⟩ (.slice d.lA d.ln d.lc)):=HV4.out.trans (KV.setG HK4.out 6 _ rfl rfl)
    obtain⟨w5,hw5⟩:∃ w5,w5=w4.setCell ⟨g,6,none⟩ (.slice d.lA d.ln d.lc):=⟨_,rfl⟩
    have ngb:∀ {r:Nat} {cs:Array Value},rowV w4 r 151 cs→g≠r:=fun hr=>(HK4.out.ne_box hr (by decide) (by decide) (by decide)).1.symm
    have q8:=HR4.out.1.setFar (p:=⟨g,6,none⟩) (ngb HR4.out.1).symm (.slice d.lA d.ln d.lc)
    have q14:=HR4.out.2.1.setFar (p:=⟨g,6,none⟩) (ngb HR4.out.2.1).symm (.slice d.lA d.ln d.lc)
    have q15:=HR4.out.2.2.setFar (p:=⟨g,6,none⟩) (ngb HR4.out.2.2).symm (.slice d.lA d.ln d.lc)
    rw [←hw5] at hK5 hV5 q8 q14 q15
    have hloc3:IvK wB.heap.size w5 d3.lA d3.ln d3.lc s1.locs:=by rw [hw5];exact HK4.out.locs.keep (KW.setG HK4.out 6 _ none).ki
    obtain⟨cb,off,hcA,hcb,hx1,hx2⟩:=HK.out.ins (HB.out.trans hV5.kw.ki.below) (lo:=lo+1+a.size) (by have:=Hlen.out;omega)
    rw [H31.out] at hx1
    obtain⟨hpn,pb',poff',hpA,hpb,hpc⟩:=HK.out.part (HB.out.trans hV5.kw.ki.below) HP.out (lo:=lo+1+a.size) (by have:=Hlen.out;omega)
    rw [Hpm.out] at hpc
    have hcn:=HK.out.cn
    have hlo2:lo+1+a.size < v.cn:=by have:=Hlen.out;omega
    obtain⟨cn,hcn'⟩:∃ c,c=v.cn:=⟨_,rfl⟩
    rw [←hcn'] at hlo2
    obtain⟨pn2,hpn'⟩:∃ c,c=v.pn:=⟨_,rfl⟩
    rw [←hpn'] at hpn
    have e2':w5.cell? ⟨g,2,none⟩=some (.slice (some ⟨cb,off,none⟩) cn v.cc):=by rw [hcn',←hcA];exact hK5.cells.2.2.1
    have e3':w5.cell? ⟨g,3,none⟩=some (.slice (some ⟨pb',poff',none⟩) pn2 v.pc):=by rw [hpn',←hpA];exact hK5.cells.2.2.2.1
    rw [hln3] at e6
    rw [hln] at hw5
    have Hw5:=Lib.hid hw5
    have HK5:=Lib.hid hK5
    have HV5:=Lib.hid hV5
    have HR5:=Lib.hid (And.intro q8 (And.intro q14 q15))
    have HL3:=Lib.hid hloc3
    have HS5:Hid (StOk n { s1 with locs:=st.locs }):=⟨HS.out.locs,HS3.out.stk,HS3.out.len,HS3.out.hgt,HS3.out.lvs,HS3.out.inv⟩
    have hcd2:=HC.out dd (lo+2+a.size) rest.length loop { s1 with locs:=st.locs } { d3 with lA:=d.lA,ln:=d.ln,lc:=d.lc } w5 b HdN.out Hfd.out Hpod.out (by have:=Hlen.out;omega) (HB.out.trans HV5.out.kw.ki.below) HK5.out HS5.out hrest hlp (by have h1:=Hmn.out;have h2:d3.mn≤d.mn+cT a:=Hm3.out;show d3.mn+cT dd≤NOTES;omega) (by have h1:s1.lvs.length≤st.lvs.length+a.size:=Hlv1.out;have h2:=Hlvs.out;show s1.lvs.length≤_;omega)
    rw [show ((lo+2+a.size:Nat):Int)=(lo:Int)+1+(a.size:Int)+1 by omega] at hcd2
    have HCd2:=Lib.hid hcd2
    have Hln3:=Lib.hid (And.intro hln hln3)
    have hgl:=hK5.row.lt
    clear hloc hK5 hV5 ngb q8 q14 q15 hloc3 hx2 hcn hcn' hw5 hln3 HS1 hcd2 hpn' hpA hcA
    rw [hln]
    clear hln
    go_upto_region 9 with fail
    rw [←Hw5.out]
    clear e2 e6 f6
    go_wp2_with fail
    refine HCd2.out.mono ?_
    intro e w6 hr
    clear HCd2 e2' e3' hx1 hpc
    cases hana:anaT p h dd (lo+2+a.size) rest.length loop { s1 with locs:=st.locs } 0 0 with
    | stuck=>rw [hana] at hr;exact hr.elim
    | bad q x=>
     rw [hana] at hr
     obtain⟨rfl,hb3⟩:=hr
     refine⟨rfl,?_⟩
     rw [hE3.out,hana]
     exact⟨rfl,HV5.out.kw.ki.below.trans hb3⟩
    | ok s2 ys ye=>
     rw [hana] at hr
     obtain⟨rfl,d6,hK6,hV6,hm6⟩:=hr
     have hgood:=anaT_good HK.out.ok Hn.out HH.out dd (lo+2+a.size) rest.length loop { s1 with locs:=st.locs } 0 0 b Hfd.out (by have:=Hlen.out;omega) HS5.out (by omega) (by omega) (by unfold tooMany;omega)
     rw [hana] at hgood
     obtain⟨hS6,hye,hys,hyt,-⟩:=hgood
     have hE4:Hid (choA p h a (some dd) lo base loop st=if s2.stk.length≠rest.length then .bad (lo+2+a.size+dd.size) 14 else .ok { s2 with locs:=joinL s1.locs s2.locs } (capS (max xs ys) 1) (capS (max xe ye) 0)):=by show _=_;rw [hE3.out,hana];rfl
     have o8:=hV6.row HR5.out.1 (HK5.out.ne_box HR5.out.1 (by decide) (by decide) (by decide))
     have o14:=hV6.row HR5.out.2.1 (HK5.out.ne_box HR5.out.2.1 (by decide) (by decide) (by decide))
     have o15:=hV6.row HR5.out.2.2 (HK5.out.ne_box HR5.out.2.2 (by decide) (by decide) (by decide))
     have Ho15:=Lib.hid o15
     have hb15:wB.heap.size≤w3.heap.size+1:=Nat.le_trans HW.out.hB (Nat.le_trans Hs4.out.1 (Nat.le_succ _))
     have hne8:w.heap.size≠w3.heap.size+1:=by have:=Hs4.out.2;omega
     obtain⟨wj,hwj⟩:∃ wj,wj=w6.setRow (w3.heap.size+1) #[.int .i64 ys,.int .i64 ye]:=⟨_,rfl⟩
     have gj:w6.grownBy wj (some (w3.heap.size+1)):=by rw [hwj];exact grownBy_setRow3 _ _ _
     have hKj:=hK6.boxG o15 (by decide) (by decide) (by decide) (by decide) hb15 gj
     have hVj:=(HV5.out.trans hV6).boxG (r:=w3.heap.size+1) (Nat.le_trans Hs4.out.1 (Nat.le_succ _)) HW.out.hB gj
     have j8:rowV wj w.heap.size 151 #[.int .i64 0,.int .i64 0]:=(gj.block _ o8.lt (fun e=>hne8 (by injection e))).trans o8
     have j14:rowV wj w3.heap.size 151 #[.int .i64 xs,.int .i64 xe]:=(gj.block _ o14.lt (fun e=>by injection e;omega)).trans o14
     have j15:rowV wj (w3.heap.size+1) 151 #[.int .i64 ys,.int .i64 ye]:=by rw [hwj];exact setRow_heap w6 (w3.heap.size+1) _ #[.int .i64 ys,.int .i64 ye] _ _ o15
     have hLj:IvK wB.heap.size wj d3.lA d3.ln d3.lc s1.locs:=(HL3.out.keep hV6.kw.ki).keep (KI.of_grown gj (fun k hk=>by injection hk with hk;rw [←hk];exact hb15) hK6.hB (fun k cs fr hk=>by injection hk with hk;rw [←hk];exact ne_of_cells (show w6.heap[w3.heap.size+1]?=_ from o15) (by decide)))
     have hln6:d6.ln=n:=hKj.ln.trans hS6.locs.1
     unfold tooMany at hyt
     have Hwj:=Lib.hid hwj
     have HK5:=Lib.hid hKj
     have HV5:=Lib.hid hVj
     have HR5:=Lib.hid (And.intro j8 (And.intro j14 j15))
     have Hm6:Hid (d6.mn≤d.mn+(cT a+cT dd)):=by show _≤_;have h2:d3.mn≤d.mn+cT a:=Hm3.out;have h3:d6.mn≤d3.mn+cT dd:=hm6;omega
     have HJ:=Lib.hid (joinW_any d3.lA d6.lA n d3.lc d6.lc s1.locs s2.locs wj (by have:=hLj.1;rw [Hln3.out.2] at this;exact this) (by have:=hKj.locs.1;rw [hln6] at this;exact this) (by omega))
     have Hln:=Lib.hid (And.intro hln6 hln6)
     obtain⟨-,-,-,-,-,-,e6',-,-,-,-⟩:=hKj.cells
     rw [hln6] at e6'
     have hgl:=hKj.row.lt
     clear hana hK6 hV6 hm6 o8 o14 o15 hwj gj hKj hVj j8 j14 j15 hLj hln6 hb15 hne8
     by_cases hlv:s2.stk.length=rest.length
     ·have HLv:=Lib.hid (levelW_ok wB.heap.size g mb v d6 s2 wj HK5.out (lo+2+a.size+dd.size) rest.length hlv)
      have hE5:Hid (choA p h a (some dd) lo base loop st=.ok { s2 with locs:=joinL s1.locs s2.locs } (capS (max xs ys) 1) (capS (max xe ye) 0)):=by show _=_;rw [hE4.out,if_neg (by simpa using hlv)]
      clear hlv
      go_wp2_with (refine wpList_store_row rfl 151 (.tmp 15) (.tmp 82) rfl _ #[.int .i64 ys,.int .i64 ye] rfl rfl _ _ Ho15.out (hIbd _ _) rfl (hA2 _ _) ?_)
      rw [←Hwj.out]
      refine HLv.out.mono ?_
      rintro e wk ⟨rfl,hwk⟩
      obtain rfl:=hwk.symm
      clear hwk HLv
      go_wp2_with fail
      refine HJ.out.mono ?_
      rintro e w6 ⟨A6,c6,rfl,ho6,hb6⟩
      have hx1:=trivial
      have e2':=trivial
      have hK6:=HK5.out.below hb6
      obtain⟨-,-,-,-,-,-,t6,-,-,-,-⟩:=hK6.cells
      try simp only [] at t6
      rw [Hln.out.1] at t6
      have f6:=hK6.frozen 6
      have hK7:=hK6.set 6 (.slice A6 n c6) (d':={ d6 with lA:=A6,ln:=n,lc:=c6 }) (st':={ s2 with locs:=joinL s1.locs s2.locs }) rfl (IvK.of_own ho6) hK6.stk hK6.lvs hK6.lvl hK6.lvi rfl rfl
      have hV7:KV wB.heap.size g mb d { d6 with lA:=A6,ln:=n,lc:=c6 } w (w6.setCell ⟨g,6,none⟩ (.slice A6 n c6)):=(HV5.out.trans (KV.of_below (g:=g) (mb:=mb) hb6 HK5.out.hB)).trans (KV.setG hK6 6 _ rfl rfl)
      have ngb:∀ {r:Nat} {cs:Array Value},rowV w6 r 151 cs→g≠r:=fun hr=>(hK6.ne_box hr (by decide) (by decide) (by decide)).1.symm
      have p8:=HR5.out.1.below hb6 HR5.out.1.lt
      have p14:=HR5.out.2.1.below hb6 HR5.out.2.1.lt
      have p15:=HR5.out.2.2.below hb6 HR5.out.2.2.lt
      have q8:=p8.setFar (p:=⟨g,6,none⟩) (ngb p8).symm (.slice A6 n c6)
      have q14:=p14.setFar (p:=⟨g,6,none⟩) (ngb p14).symm (.slice A6 n c6)
      have q15:=p15.setFar (p:=⟨g,6,none⟩) (ngb p15).symm (.slice A6 n c6)
      obtain⟨w7,hw7⟩:∃ w7,w7=w6.setCell ⟨g,6,none⟩ (.slice A6 n c6):=⟨_,rfl⟩
      rw [←hw7] at hK7 hV7 q8 q14 q15
      obtain⟨b0,b1⟩:=two_cellsV q14
      obtain⟨c0,c1'⟩:=two_cellsV q15
      obtain⟨m1,hm1⟩:∃ m1,m1=max xs ys:=⟨_,rfl⟩
      obtain⟨m2,hm2⟩:∃ m2,m2=max xe ye:=⟨_,rfl⟩
      obtain⟨w8,hw8⟩:∃ w8,w8=w7.alloc (.cells #[.int .i64 m1,.int .i64 m2] 151):=⟨_,rfl⟩
      have hb8:Below w7.heap.size w7 w8:=by rw [hw8];exact balloc (Below.refl _ _) _
      have r17:rowV w8 w7.heap.size 151 #[.int .i64 m1,.int .i64 m2]:=by rw [hw8];exact rowV.new w7 _ _
      obtain⟨u0,u1⟩:=two_cellsV r17
      have HK8:=Lib.hid (hK7.below hb8)
      have HV8:=Lib.hid (hV7.trans (KV.of_below (g:=g) (mb:=mb) hb8 hK7.hB))
      have HR8:=Lib.hid (q8.below hb8 q8.lt)
      have hmb:(0≤m1∧m1≤281474976710657)∧(0≤m2∧m2≤281474976710657):=by omega
      have HPl:=Lib.hid (plus_any m1 m2 1 0 hmb.1 hmb.2 (by omega) (by omega) w8)
      have Hw7:=Lib.hid hw7
      have Hw8:=Lib.hid hw8
      have Hm12:=Lib.hid (And.intro hm1 hm2)
      rw [hm1,hm2] at hw8
      have Hw8':=Lib.hid hw8
      have hgl6:=hK6.row.lt
      clear hK6 hK7 hV7 ngb p8 p14 p15 q8 q14 q15 hw7 hw8 hb8 r17 ho6 hb6 hm1 hm2 hmb hx1 e2' e6'
      go_upto_region 14 with fail
      rw [←Hw7.out]
      clear t6 f6
      go_upto_region 15 with fail
      rw [←Hw8'.out]
      clear b0 b1 c0 c1'
      go_wp2_with fail
      refine HPl.out.mono ?_
      rintro e w9 ⟨rfl,hb9⟩
      have Hr9:=Lib.hid (HR8.out.below hb9 HR8.out.lt)
      have HK9:=Lib.hid (HK8.out.below hb9)
      have HV9:=Lib.hid (HV8.out.trans (KV.of_below (g:=g) (mb:=mb) hb9 HK8.out.hB))
      clear hb9
      go_wp2_with (refine wpList_store_row rfl 151 (.tmp 8) (.tmp 109) rfl _ #[.int .i64 (capS m1 1),.int .i64 (capS m2 0)] rfl rfl _ _ Hr9.out (hIbd _ _) rfl (hA2 _ _) ?_)
      obtain⟨k1,k2⟩:=two_cellsV (setRow_heap w9 w.heap.size _ #[.int .i64 (capS m1 1),.int .i64 (capS m2 0)] _ _ Hr9.out)
      refine bodyPost_ret (v:=.tuple #[.agg #[.int .i64 (capS m1 1),.int .i64 (capS m2 0)],.int .i64 ((lo+2+a.size+dd.size:Nat):Int)]) (by simp [results,Tryz.results109,go_sem,k1,k2]) rfl ?_
      rw [hE5.out,←Hm12.out.1,←Hm12.out.2]
      exact⟨rfl,_,HK9.out.boxG Hr9.out (by decide) (by decide) (by decide) (by decide) HW.out.hB (grownBy_setRow3 _ _ _),HV9.out.boxG (Nat.le_refl _) HW.out.hB (grownBy_setRow3 _ _ _),Hm6.out⟩
     ·have HLv:=Lib.hid (levelW_bad wB.heap.size g mb v d6 s2 wj HK5.out (lo+2+a.size+dd.size) rest.length hlv)
      have hE5:Hid (choA p h a (some dd) lo base loop st=.bad (lo+2+a.size+dd.size) 14):=by show _=_;rw [hE4.out,if_pos (by simpa using hlv)]
      clear hlv
      go_wp2_with (refine wpList_store_row rfl 151 (.tmp 15) (.tmp 82) rfl _ #[.int .i64 ys,.int .i64 ye] rfl rfl _ _ Ho15.out (hIbd _ _) rfl (hA2 _ _) ?_)
      rw [←Hwj.out]
      refine HLv.out.mono ?_
      rintro e wk ⟨rfl,hwk⟩
      obtain rfl:=hwk.symm
      refine⟨rfl,?_⟩
      rw [hE5.out]
      exact⟨rfl,HV5.out.kw.ki.below⟩
   ·have HLv:=Lib.hid (levelW_bad wB.heap.size g mb v d3 s1 w4 HK4.out (lo+1+a.size) rest.length hlv)
    have hE3:Hid (choA p h a (some dd) lo base loop st=.bad (lo+1+a.size) 14):=by show _=_;rw [hE2.out,if_pos (by simpa using hlv)]
    clear hlv
    go_upto_region 6 with fail
    rw [←Hw4.out]
    go_wp2_with fail
    refine HLv.out.mono ?_
    rintro e w5 ⟨rfl,hw5⟩
    obtain rfl:=hw5.symm
    refine⟨rfl,?_⟩
    rw [hE3.out]
    exact⟨rfl,HV4.out.kw.ki.below⟩
end Go.Proofs.YtpaplehcafeeaaaGreatDoor
namespace Go.Proofs.YtpaplehcafeeaaaGreatDoor
open Go.RowKit Go.Proofs
variable [Inhabited ArgB]
theorem stored_any{c:List Ins}{lo hi i:Nat}:stored c lo hi i=anyIn ((c.drop lo).take (hi-lo)) ⟨2,(i:Int)⟩ (hi-lo):=by
 unfold stored anyIn
 rw [List.take_take,Nat.min_self]
 congr 1
 funext y
 obtain⟨o,a⟩:=y
 simp only [Ins.mk.injEq]
 exact decide_eq_decide.2 ⟨fun h=>⟨h.1.symm,h.2.symm⟩,fun h=>⟨h.1.symm,h.2.symm⟩⟩
theorem cutIns_lh(A:Option Addr)(n c:Nat)(l h:Int)(h0:0≤l)(hlh:l≤h)(hc:h≤c)(W:World):(Instr.slice 23 (.slice A n c) (some (.int .i64 l)) (some (.int .i64 h)) none).run Tryz.prog W=.ok (.slice (if c=l.toNat then A else A.map (·.add (l.toNat * 2))) (h.toNat-l.toNat) (c-l.toNat)) W:=by
 rw [run_slice_lh W _ A n c (show Tryz.prog.underlying 23=some (.slice (Tryz.prog.elem 23)) by kernel_rfl) .i64 .i64 l h h0 hlh hc,show Tryz.prog.elem 23=44 by kernel_rfl,show (sizeOf 44).run Tryz.prog W=.ok 2 W by kernel_rfl]
 simp only [Result.andThen,sliced]
theorem Codes.sub{w:World}{A:Option Addr}{n c:Nat}{l:List Ins}(h:Codes w A n c l){lo hi:Nat}(h1:lo≤hi)(h2:hi≤n):Codes w (if c=lo then A else A.map (·.add (lo * 2))) (hi-lo) (c-lo) ((l.drop lo).take (hi-lo)):=by
 refine⟨by rw [List.length_take,List.length_drop,h.1];omega,by have:=h.2.1;omega,fun x hx=>h.2.2.1 x (List.mem_of_mem_drop (List.mem_of_mem_take hx)),fun hn=>?_⟩
 obtain⟨b,off,rfl,hlt,hc⟩:=h.2.2.2 (by omega)
 have hcn:=h.2.1
 rw [if_neg (by omega)]
 refine⟨b,off+lo * 2,by rw [Option.map_some,addr_add],hlt,fun i hi2=>?_⟩
 have e:gI ((l.drop lo).take (hi-lo)) i=gI l (lo+i):=by
  simp [gI,List.getD_eq_getElem?_getD,hi2,List.getElem?_drop]
 have h3:=hc (lo+i) (by omega)
 dsimp only at h3 ⊢
 rw [e,show off+lo * 2+i * 2=off+(lo+i) * 2 by omega]
 exact h3
theorem entC_widen(wB:World)(v:WV)(p:Prg)(n:Nat)(hf:v.f1=.func (.func 79) #[] #[]):EntC wB v p n .widen:=by
 refine⟨79,#[],hf,enters_of Tryz.func79 (by kernel_rfl) rfl,fun w lo most A c locs hb hlo h29 h0 h1 hiv hlk hB=>?_⟩
 show Calls Tryz.prog 79 #[.int .i64 (lo:Int),.int .i64 most,.slice A n c] w _
 go_enter Tryz.func79,Tryz.ntmps79
 go_wp2_with fail
 refine bodyPost_ret (v:=.tuple #[.slice A n c,.int .i64 most]) (by simp [results,Tryz.results79,go_sem]) rfl ?_
 exact⟨⟨A,c,rfl,hiv⟩,Below.refl _ _⟩
def nextK(c:List Ins)(lo hi pass:Nat)(head fin:List Iv)(k:Nat):List Iv:=(nextH c lo hi pass head fin).take k++head.drop k
def nextV(c:List Ins)(lo hi pass:Nat)(head fin:List Iv)(i:Nat):Iv:=if pass < 3 then ivWiden (gL head i) (ivJoin (gL head i) (gL fin i)) else if stored c lo hi i then ivFull else gL head i
theorem nextH_get(c:List Ins)(lo hi pass:Nat)(head fin:List Iv){i:Nat}(h:i < head.length):(nextH c lo hi pass head fin)[i]'(by rw [nextH_length];exact h)=nextV c lo hi pass head fin i:=by
 simp [nextH,nextV]
theorem nextK_step{c:List Ins}{lo hi pass:Nat}{head fin:List Iv}{k:Nat}(h:k < head.length):(nextK c lo hi pass head fin k).set k (nextV c lo hi pass head fin k)=nextK c lo hi pass head fin (k+1):=by
 have hl:=nextH_length c lo hi pass head fin
 unfold nextK
 have h1:((nextH c lo hi pass head fin).take k).length=k:=by rw [List.length_take];omega
 rw [List.set_append_right _ _ (by omega),h1,Nat.sub_self,List.drop_eq_getElem_cons h,List.set_cons_zero,List.take_succ_eq_append_getElem (by omega:k < (nextH c lo hi pass head fin).length),nextH_get c lo hi pass head fin h,List.append_assoc,List.singleton_append]
theorem nextK_gL{c:List Ins}{lo hi pass:Nat}{head fin:List Iv}{k:Nat}(h:k < head.length):gL (nextK c lo hi pass head fin k) k=gL head k:=by
 have hl:=nextH_length c lo hi pass head fin
 unfold nextK gL
 rw [List.getD_eq_getElem?_getD,List.getD_eq_getElem?_getD,List.getElem?_append_right (by rw [List.length_take];omega),List.getElem?_drop]
 congr 2
 rw [List.length_take];omega
theorem next_mid{w wr w2:World}{ob n c k:Nat}{L:List Iv}(h:OwnS encIv 2 wr w.heap.size 148 (some ⟨ob,0,none⟩) n c L)(hb:Below w.heap.size w wr)(hb2:Below wr.heap.size wr w2)(hk:k < n) :
  w2.cell? ⟨ob,k * 2,none⟩=some (.int .i64 (gL L k).lo)∧w2.cell? ⟨ob,k * 2+1,none⟩=some (.int .i64 (gL L k).hi)∧w2.frozen? ⟨ob,k * 2,none⟩=false∧w2.frozen? ⟨ob,k * 2+1,none⟩=false∧Hid (OwnS encIv 2 w2 w.heap.size 148 (some ⟨ob,0,none⟩) n c L∧Below w.heap.size w w2):=by
 have ho2:=OwnS.below h hb2
 obtain⟨g2,hg2,-,-,hc2⟩:=ho2.get (fun _=>rfl) (by decide) ⟨0,0⟩ (by omega)
 injection hg2 with hg2
 injection hg2 with hg2
 subst hg2
 exact⟨hc2 k 0 _ hk rfl,hc2 k 1 _ hk rfl,World.ownsRow.frozenAt ho2 (k * 2),World.ownsRow.frozenAt ho2 (k * 2+1),Lib.hid ⟨ho2,hb.trans (hb2.mono hb.size)⟩⟩
theorem agnC_widen(wB:World)(v:WV)(p:Prg)(P:List Int)(n:Nat)(hk:PK wB v p P)(hn:n≤16)(pb:Nat)(hf:v.f2=.func (.func 80) #[] #[.pointer (some ⟨pb,0,none⟩)])(hpr:rowV wB pb 25 #[.slice v.aA v.an v.ac,.int .i64 v.L,.slice v.cA v.cn v.cc]):AgnC wB v p n .widen:=by
 refine⟨80,#[.pointer (some ⟨pb,0,none⟩)],hf,enters_of Tryz.func80 (by kernel_rfl) rfl,fun w lo hi pass A D c c' head fin hb hlh hhi hpass hhd hlk hfn hlf hB=>?_⟩
 show Calls Tryz.prog 80 #[.int .i64 (lo:Int),.int .i64 (hi:Int),.int .i64 (pass:Int),.slice A n c,.slice D n c',.pointer (some ⟨pb,0,none⟩)] w fun e w'=>(∃ A c',e=.returned (.slice A n c')∧IvK wB.heap.size w' A n c' (nextH p.code lo hi pass head fin))∧Below w.heap.size w w'
 have hcl:=cloneIv_any A n c head w hhd.1 (by omega)
 have hcn:=hk.cn
 have hcc:=hk.code.2.1
 have hlen:=hk.ok.len
 have x2:w.cell? ⟨pb,2,none⟩=some (.slice v.cA v.cn v.cc):=(hb.cell (p:=⟨pb,2,none⟩) hpr.lt).trans (cell_rowV hpr rfl)
 have hpl:pb < w.heap.size:=Nat.lt_of_lt_of_le hpr.lt hb.size
 have r5:=cutIns_lh v.cA v.cn v.cc (lo:Int) (hi:Int) (by omega) (by omega) (by omega)
 have hsub:=(hk.code.below hb).sub hlh (hi:=hi) (by omega)
 simp only [Int.toNat_natCast] at r5
 obtain⟨sA,hsA⟩:∃ a,a=(if v.cc=lo then v.cA else v.cA.map (·.add (lo * 2))):=⟨_,rfl⟩
 rw [←hsA] at r5 hsub
 obtain⟨m,hm⟩:∃ m,m=hi-lo:=⟨_,rfl⟩
 have hst:∀ i:Nat,stored p.code lo hi i=anyIn ((p.code.drop lo).take m) ⟨2,(i:Int)⟩ m:=fun i=>by rw [stored_any,hm]
 rw [←hm] at r5 hsub
 obtain⟨cn,hcn'⟩:∃ x,x=v.cn:=⟨_,rfl⟩
 obtain⟨cc,hcc'⟩:∃ x,x=v.cc:=⟨_,rfl⟩
 rw [←hcn',←hcc'] at r5 x2
 rw [←hcc'] at hsub
 obtain⟨sc,hsc⟩:∃ x,x=cc-lo:=⟨_,rfl⟩
 rw [←hsc] at r5 hsub
 have hm2:m≤2000:=by omega
 have HCT:Hid (∀ (i:Nat) W,Below w.heap.size w W→Calls Tryz.prog 82 #[.slice sA m sc,.agg #[.int .i64 2,.int .u32 (i:Int)]] W fun e w'=>e=.returned (.bool (stored p.code lo hi i))∧Below W.heap.size W w'):=fun i W hW=>by
  have h1:=containsIns_any sA m sc _ ⟨2,(i:Int)⟩ W (hsub.below hW) hm2
  rw [←hst] at h1
  exact h1
 have HCl:=Lib.hid hcl
 have HX:=Lib.hid hhd
 have HY:=Lib.hid hfn
 have HL:=Lib.hid (And.intro hlk.1 hlf.1)
 have HB:=Lib.hid hB
 clear hcl hhd hfn hlk hlf hcn' hcc' hsc hsub hst hm hsA hcn hcc hlen hpr hk hb hf hB hhi hm2
 go_enter Tryz.func80,Tryz.ntmps80
 go_wp2_with fail
 refine HCl.out.mono ?_
 rintro e w1 ⟨A2,c2,rfl,ho1,hb1⟩
 have HO1:Hid (OwnS encIv 2 w1 w.heap.size 148 A2 n c2 (nextK p.code lo hi pass head fin 0)∧Below w.heap.size w w1):=⟨by unfold nextK;rw [List.take_zero,List.nil_append,List.drop_zero];exact ho1,hb1⟩
 clear ho1 hb1 HCl
 go_wp2_with fail
 go_loopw [13,14,19,31] (fun _ _ i _ wr=>∃ k:Nat,k≤n∧i=.int .i64 (k:Int)∧Hid (OwnS encIv 2 wr w.heap.size 148 A2 n c2 (nextK p.code lo hi pass head fin k)∧Below w.heap.size w wr)) (fun _ _ i _ _=>n-(intOf i).toNat)
 case atStart=>exact⟨0,Nat.zero_le _,rfl,HO1⟩
 case round=>
  clear HO1
  obtain⟨k,hk,rfl,HR⟩:=hrel
  by_cases hlt:k < n
  ·have d0:decide ((k:Int) < (n:Int))=true:=by simp;omega
   have d0':decide (k < n)=true:=by simp;omega
   have ew:IntKind.u32.wrap (k:Int)=k:=by simp [IntKind.wrap,IntKind.bits,IntKind.signed];omega
   have y2:=(HR.out.2.cell (p:=⟨pb,2,none⟩) hpl).trans x2
   have HC:=Lib.hid (HCT.out k wr HR.out.2)
   have hsp:Hid (nextK p.code lo hi pass head fin (k+1)=(nextK p.code lo hi pass head fin k).set k (nextV p.code lo hi pass head fin k)):=(nextK_step (by rw [HL.out.1];exact hlt)).symm
   obtain⟨b,hsb⟩:∃ b,b=stored p.code lo hi k:=⟨_,rfl⟩
   rw [←hsb] at HC
   by_cases hp3:pass < 3
   ·have d3:decide ((pass:Int) < 3)=true:=by simp;omega
    have hnv:Hid (nextV p.code lo hi pass head fin k=ivWiden (gL head k) (ivJoin (gL head k) (gL fin k))):=by show _=_;unfold nextV;rw [if_pos hp3]
    clear hsb
    go_wp2_with fail
    refine HC.out.mono ?_
    rintro e w2 ⟨rfl,hb2⟩
    have hb2':Below w.heap.size w w2:=HR.out.2.trans (hb2.mono HR.out.2.size)
    obtain⟨ab,ao,rfl,ha1,ha2⟩:=HX.out.1.2.2 (by omega)
    obtain⟨db,do',rfl,hd1,hd2⟩:=HY.out.1.2.2 (by omega)
    have a1:w2.cell? ⟨ab,ao+k * 2,none⟩=some (.int .i64 (gL head k).lo):=(hb2'.cell (p:=⟨ab,ao+k * 2,none⟩) ha1).trans (ha2 k hlt).1
    have a2:w2.cell? ⟨ab,ao+k * 2+1,none⟩=some (.int .i64 (gL head k).hi):=(hb2'.cell (p:=⟨ab,ao+k * 2+1,none⟩) ha1).trans (ha2 k hlt).2
    have b1:w2.cell? ⟨db,do'+k * 2,none⟩=some (.int .i64 (gL fin k).lo):=(hb2'.cell (p:=⟨db,do'+k * 2,none⟩) hd1).trans (hd2 k hlt).1
    have b2:w2.cell? ⟨db,do'+k * 2+1,none⟩=some (.int .i64 (gL fin k).hi):=(hb2'.cell (p:=⟨db,do'+k * 2+1,none⟩) hd1).trans (hd2 k hlt).2
    have HO2:=Lib.hid (And.intro (HR.out.1.below hb2) hb2')
    obtain⟨ob,rfl,hob1,hob2,hoc⟩:=HO2.out.1.get (fun _=>rfl) (by decide) ⟨0,0⟩ (by omega)
    have hnab:Hid (some ab≠some ob):=fun e=>by injection e with e;omega
    have hndb:Hid (some db≠some ob):=fun e=>by injection e with e;omega
    have hal:ab < w2.heap.size:=Nat.lt_of_lt_of_le ha1 hb2'.size
    have hdl:db < w2.heap.size:=Nat.lt_of_lt_of_le hd1 hb2'.size
    clear ha2 hd2 hoc hb2 hb2' HC HCT y2 x2 r5 ew
    have HJ:=Lib.hid (join_any (gL head k) (gL fin k))
    have HWd:=Lib.hid (widen_any (gL head k) (ivJoin (gL head k) (gL fin k)))
    obtain⟨⟨zl,zh⟩,hz⟩:∃ z,z=ivJoin (gL head k) (gL fin k):=⟨_,rfl⟩
    rw [←hz] at HJ HWd hnv
    obtain⟨⟨ul,uh⟩,hu⟩:∃ z,z=ivWiden (gL head k) ⟨zl,zh⟩:=⟨_,rfl⟩
    rw [←hu] at HWd hnv
    obtain⟨⟨xl,xh⟩,hx⟩:∃ x,x=gL head k:=⟨_,rfl⟩
    obtain⟨⟨yl,yh⟩,hy⟩:∃ y,y=gL fin k:=⟨_,rfl⟩
    rw [←hx] at HJ HWd a1 a2
    rw [←hy] at HJ b1 b2
    clear hx hy hz hu
    dsimp only at HJ HWd a1 a2 b1 b2
    go_wp2_with fail
    go_region_held3 (fun W=>W.cell? ⟨ab,ao+k * 2,none⟩=some (.int .i64 xl)∧W.cell? ⟨ab,ao+k * 2+1,none⟩=some (.int .i64 xh)∧W.cell? ⟨db,do'+k * 2,none⟩=some (.int .i64 yl)∧W.cell? ⟨db,do'+k * 2+1,none⟩=some (.int .i64 yh))
     (first | go_keep | exact⟨s1,s2,s3,s4⟩ | exact⟨t1,t2,t3,t4⟩ | exact⟨q1,q2,q3,q4⟩)
     (first
      | (go_at_call 84;refine (HJ.out _).mono ?_;rintro e w3 ⟨rfl,hb3⟩;have s1:=(hb3.cell (p:=⟨ab,ao+k * 2,none⟩) hal).trans a1;have s2:=(hb3.cell (p:=⟨ab,ao+k * 2+1,none⟩) hal).trans a2;have s3:=(hb3.cell (p:=⟨db,do'+k * 2,none⟩) hdl).trans b1;have s4:=(hb3.cell (p:=⟨db,do'+k * 2+1,none⟩) hdl).trans b2)
      | (go_at_call 83;refine (HWd.out _).mono ?_;rintro e w4 ⟨rfl,hb4⟩;have hb34:=hb3.trans (hb4.mono hb3.size);have t1:=(hb34.cell (p:=⟨ab,ao+k * 2,none⟩) hal).trans a1;have t2:=(hb34.cell (p:=⟨ab,ao+k * 2+1,none⟩) hal).trans a2;have t3:=(hb34.cell (p:=⟨db,do'+k * 2,none⟩) hdl).trans b1;have t4:=(hb34.cell (p:=⟨db,do'+k * 2+1,none⟩) hdl).trans b2;obtain⟨y0,y1,f0,f1,HO4⟩:=join_mid HO2.out.1 HO2.out.2 hb34 hlt;have hsz:=hb34.size;have hgq:=(HO4.out.1.setIv k hlt ⟨ul,uh⟩).2;have q1:=(World.cell?_of_block (a:=⟨ab,ao+k * 2,none⟩) (hgq.block ab (Nat.lt_of_lt_of_le hal hsz) hnab.out)).trans t1;have q2:=(World.cell?_of_block (a:=⟨ab,ao+k * 2+1,none⟩) (hgq.block ab (Nat.lt_of_lt_of_le hal hsz) hnab.out)).trans t2;have q3:=(World.cell?_of_block (a:=⟨db,do'+k * 2,none⟩) (hgq.block db (Nat.lt_of_lt_of_le hdl hsz) hndb.out)).trans t3;have q4:=(World.cell?_of_block (a:=⟨db,do'+k * 2+1,none⟩) (hgq.block db (Nat.lt_of_lt_of_le hdl hsz) hndb.out)).trans t4))
    all_goals
     obtain⟨ho3,hg3⟩:=HO4.out.1.setIv k hlt ⟨ul,uh⟩
     have hb5:Below w.heap.size w ((w4.setCell ⟨ob,k * 2,none⟩ (.int .i64 ul)).setCell ⟨ob,k * 2+1,none⟩ (.int .i64 uh)):=HO4.out.2.grown hg3 HO4.out.2.size (fun k hk=>by injection hk with hk;rw [←hk];exact hob1)
     have HN:Hid (OwnS encIv 2 ((w4.setCell ⟨ob,k * 2,none⟩ (.int .i64 ul)).setCell ⟨ob,k * 2+1,none⟩ (.int .i64 uh)) w.heap.size 148 (some ⟨ob,0,none⟩) n c2 (nextK p.code lo hi pass head fin (k+1))∧Below w.heap.size w ((w4.setCell ⟨ob,k * 2,none⟩ (.int .i64 ul)).setCell ⟨ob,k * 2+1,none⟩ (.int .i64 uh))):=⟨by rw [hsp.out,hnv.out];exact ho3,hb5⟩
     clear ho3 hg3 hb5
     go_wp2_with fail
     go_roundw
     case rel=>exact⟨k+1,by omega,by go_num,HN⟩
     case measure=>(simp [intOf]) <;> omega
   ·have d3:decide ((pass:Int) < 3)=false:=by simp;omega
    cases b with
    | false=>
     have hnv:Hid (nextV p.code lo hi pass head fin k=gL (nextK p.code lo hi pass head fin k) k):=by show _=_;unfold nextV;rw [if_neg hp3,←hsb,if_neg (by decide),nextK_gL (by rw [HL.out.1];exact hlt)]
     clear hsb
     go_wp2_with fail
     refine HC.out.mono ?_
     rintro e w2 ⟨rfl,hb2⟩
     have hset:(nextK p.code lo hi pass head fin k).set k (gL (nextK p.code lo hi pass head fin k) k)=nextK p.code lo hi pass head fin k:=by
      rw [gL_get (by have:=HR.out.1.length (fun _=>rfl) (by decide);omega)]
      exact List.set_getElem_self _
     have HN:Hid (OwnS encIv 2 w2 w.heap.size 148 A2 n c2 (nextK p.code lo hi pass head fin (k+1))∧Below w.heap.size w w2):=⟨by rw [hsp.out,hnv.out,hset];exact HR.out.1.below hb2,HR.out.2.trans (hb2.mono HR.out.2.size)⟩
     clear hset hb2
     go_wp2_with fail
     go_roundw
     case rel=>exact⟨k+1,by omega,by go_num,HN⟩
     case measure=>(simp [intOf]) <;> omega
    | true=>
     have hnv:Hid (nextV p.code lo hi pass head fin k=⟨0,4294967295⟩):=by show _=_;unfold nextV;rw [if_neg hp3,←hsb,if_pos rfl];rfl
     clear hsb
     go_wp2_with fail
     refine HC.out.mono ?_
     rintro e w2 ⟨rfl,hb2⟩
     have HO2:=Lib.hid (And.intro (HR.out.1.below hb2) (HR.out.2.trans (hb2.mono HR.out.2.size)))
     obtain⟨ob,rfl,hob1,hob2,hoc⟩:=HO2.out.1.get (fun _=>rfl) (by decide) ⟨0,0⟩ (by omega)
     clear hoc hb2 HC HCT y2 x2 r5 ew
     go_wp2_with fail
     refine (full_any _).mono ?_
     rintro e w4 ⟨rfl,hb4⟩
     obtain⟨y0,y1,f0,f1,HO4⟩:=next_mid HO2.out.1 HO2.out.2 hb4 hlt
     clear hb4
     go_upto_region 10 with fail
     all_goals
      obtain⟨ho3,hg3⟩:=HO4.out.1.setIv k hlt ⟨0,4294967295⟩
      have hb5:Below w.heap.size w ((w4.setCell ⟨ob,k * 2,none⟩ (.int .i64 0)).setCell ⟨ob,k * 2+1,none⟩ (.int .i64 4294967295)):=HO4.out.2.grown hg3 HO4.out.2.size (fun k hk=>by injection hk with hk;rw [←hk];exact hob1)
      have HN:Hid (OwnS encIv 2 ((w4.setCell ⟨ob,k * 2,none⟩ (.int .i64 0)).setCell ⟨ob,k * 2+1,none⟩ (.int .i64 4294967295)) w.heap.size 148 (some ⟨ob,0,none⟩) n c2 (nextK p.code lo hi pass head fin (k+1))∧Below w.heap.size w ((w4.setCell ⟨ob,k * 2,none⟩ (.int .i64 0)).setCell ⟨ob,k * 2+1,none⟩ (.int .i64 4294967295))):=⟨by rw [hsp.out,hnv.out];exact ho3,hb5⟩
      clear ho3 hg3 hb5
      go_wp2_with fail
      go_roundw
      case rel=>exact⟨k+1,by omega,by go_num,HN⟩
      case measure=>(simp [intOf]) <;> omega
  ·obtain rfl:k=n:=by omega
   have d0:decide ((k:Int) < (k:Int))=false:=by simp
   go_wp2_with fail
   go_ret
   refine⟨⟨A2,c2,rfl,?_⟩,HR.out.2⟩
   have h1:=HR.out.1
   unfold nextK at h1
   rw [List.take_of_length_le (by rw [nextH_length,HL.out.1];exact Nat.le_refl _),List.drop_of_length_le (by rw [HL.out.1];exact Nat.le_refl _),List.append_nil] at h1
   exact IvK.of_own h1
end Go.Proofs.YtpaplehcafeeaaaGreatDoor
