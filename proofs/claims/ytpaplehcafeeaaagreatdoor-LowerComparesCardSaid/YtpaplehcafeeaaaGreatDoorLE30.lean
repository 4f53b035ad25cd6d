/- Xm Xn Xo Xt Vy. -/
import Derived.Test.YtpaplehcafeeaaaGreatDoorLE29
import Derived.Test.YtpaplehcafeeaaaGreatDoorLE27
import Derived.Deep.RegionHeld3
set_option maxRecDepth 100000
set_option maxHeartbeats 40000000
set_option linter.unusedVariables false
set_option linter.unusedSimpArgs false
set_option linter.unusedSectionVars false
namespace Go.Proofs.YtpaplehcafeeaaaGreatDoor
open Go.RowKit Go.Proofs
variable [Inhabited ArgB]
def choA(p:Prg)(h:Hd)(a:Tr)(dd:Option Tr)(lo base loop:Nat)(st:St):ER:=
 match popA st.stk base [116] with
 | .error x=>.bad lo x
 | .ok (rest,_)=>(anaT p h a (lo+1) rest.length loop { st with stk:=rest } 0 0).bind fun s1 xs xe=>
  if s1.stk.length≠rest.length then .bad (lo+1+a.size) 14
  else match dd with
   | none=>.ok { s1 with locs:=joinL s1.locs st.locs } (capS (max xs 0) 1) (capS (max xe 0) 0)
   | some d=>(anaT p h d (lo+2+a.size) rest.length loop { s1 with locs:=st.locs } 0 0).bind fun s2 ys ye=>
    if s2.stk.length≠rest.length then .bad (lo+2+a.size+d.size) 14
    else .ok { s2 with locs:=joinL s1.locs s2.locs } (capS (max xs ys) 1) (capS (max xe ye) 0)
def repA(p:Prg)(h:Hd)(a:Tr)(lo base:Nat)(st:St):ER:=
 match popA st.stk base [110] with
 | .error x=>.bad lo x
 | .ok (rest,l)=>
  if 65536 < (gV l 0).iv.hi then .bad lo 18
  else match enterA h lo (gV l 0).iv.hi st.locs with
   | .error x=>.bad lo x
   | .ok (head,most)=>
    (passA p.code h lo (lo+1+a.size) rest.length (fun s0=>anaT p h a (lo+1) rest.length rest.length s0 0 0) PASSES 1 head { st with stk:=rest }).bind fun s1 xs xe=>
     .ok { s1 with locs:=s1.lvs.foldl joinL s1.locs,lvs:=st.lvs,inv:=noteI s1.inv ⟨(lo:Int),most,s1.locs⟩ } (capS (prodS (capS xs 1) most) 1) (capS (prodS xe most) 0)
theorem ER.bind_assoc(x:ER)(f g:St→Int→Int→ER):(x.bind f).bind g=x.bind fun st s e=>(f st s e).bind g:=by cases x <;> rfl
theorem anaT_ift(p:Prg)(h:Hd)(a r:Tr)(lo base loop:Nat)(st:St)(s e:Int):anaT p h (.ift a r) lo base loop st s e=(choA p h a none lo base loop st).bind fun st' s' e'=>anaT p h r (lo+2+a.size) base loop st' (capS s s') (capS e e'):=by
 unfold choA
 conv=>lhs;unfold anaT
 cases popA st.stk base [116] with
 | error x=>rfl
 | ok rl=>
  obtain⟨rest,l⟩:=rl
  simp only []
  rw [ER.bind_assoc]
  congr 1
  funext s1 xs xe
  split <;> rfl
theorem anaT_ife(p:Prg)(h:Hd)(a d r:Tr)(lo base loop:Nat)(st:St)(s e:Int):anaT p h (.ife a d r) lo base loop st s e=(choA p h a (some d) lo base loop st).bind fun st' s' e'=>anaT p h r (lo+3+a.size+d.size) base loop st' (capS s s') (capS e e'):=by
 unfold choA
 conv=>lhs;unfold anaT
 cases popA st.stk base [116] with
 | error x=>rfl
 | ok rl=>
  obtain⟨rest,l⟩:=rl
  simp only []
  rw [ER.bind_assoc]
  congr 1
  funext s1 xs xe
  split
  ·rfl
  ·rw [ER.bind_assoc]
   congr 1
   funext s2 ys ye
   split <;> rfl
theorem anaT_lp(p:Prg)(h:Hd)(a r:Tr)(lo base loop:Nat)(st:St)(s e:Int):anaT p h (.lp a r) lo base loop st s e=(repA p h a lo base st).bind fun st' s' e'=>anaT p h r (lo+2+a.size) base loop st' (capS s s') (capS e e'):=by
 unfold repA
 conv=>lhs;unfold anaT
 cases popA st.stk base [110] with
 | error x=>rfl
 | ok rl=>
  obtain⟨rest,l⟩:=rl
  simp only []
  split
  ·rfl
  ·cases enterA h lo (gV l 0).iv.hi st.locs with
   | error x=>rfl
   | ok hm=>
    obtain⟨head,most⟩:=hm
    simp only []
    rw [ER.bind_assoc]
    rfl
theorem pushA_lvs{lo:Nat}{st st':St}{l:List Vl}{e s' e':Int}(h:pushA lo st l e=.ok st' s' e'):st'.lvs=st.lvs:=(pushA_hgt h).2.2.2.2
theorem plA_lvs{p:Prg}{lo base:Nat}{st st':St}{s e:Int}(h:plA p lo base st=.ok st' s e):st'.lvs=st.lvs:=by
 unfold plA at h
 cases hp:popA st.stk base (opX (oI p.code lo)).pops with
 | error x=>rw [hp] at h;cases h
 | ok rl=>
  obtain⟨rest,l⟩:=rl
  rw [hp] at h
  simp only [] at h
  generalize oI p.code lo=op at h
  by_cases ho0:op=0
  ·rw [if_pos ho0] at h;exact pushA_lvs (st:={ st with stk:=rest }) h
  rw [if_neg ho0] at h
  by_cases ho1:op=1
  ·rw [if_pos ho1] at h;exact pushA_lvs (st:={ st with stk:=rest }) h
  rw [if_neg ho1] at h
  by_cases ho2:op=2
  ·rw [if_pos ho2] at h;injection h with h1;rw [←h1]
  rw [if_neg ho2] at h
  by_cases ho3:op=3
  ·rw [if_pos ho3] at h
   split at h
   ·cases h
   ·exact pushA_lvs (st:={ st with stk:=rest }) h
  rw [if_neg ho3] at h
  by_cases ho4:op=4
  ·rw [if_pos ho4] at h
   split at h
   ·cases h
   ·injection h with h1;rw [←h1]
  rw [if_neg ho4] at h
  by_cases ho5:op=5
  ·rw [if_pos ho5] at h;exact pushA_lvs (st:={ st with stk:=rest }) h
  rw [if_neg ho5] at h
  by_cases ho7:op=7
  ·rw [if_pos ho7] at h;exact pushA_lvs (st:={ st with stk:=rest }) h
  rw [if_neg ho7] at h
  by_cases ho6:op=6∨op=35
  ·rw [if_pos ho6] at h;injection h with h1;rw [←h1]
  rw [if_neg ho6] at h
  by_cases ho34:op=34
  ·rw [if_pos ho34] at h;injection h with h1;rw [←h1]
  rw [if_neg ho34] at h
  by_cases ho32:op=32
  ·rw [if_pos ho32] at h;exact pushA_lvs (st:={ st with stk:=rest }) h
  rw [if_neg ho32] at h
  by_cases ho26:op=26
  ·rw [if_pos ho26] at h;exact pushA_lvs (st:={ st with stk:=rest }) h
  rw [if_neg ho26] at h
  by_cases hot:(opX op).pushes=[116]
  ·rw [if_pos hot] at h;exact pushA_lvs (st:={ st with stk:=rest }) h
  rw [if_neg hot] at h
  cases ha:apI op (gV l 0).iv (gV l 1).iv with
  | none=>rw [ha] at h;cases h
  | some x=>rw [ha] at h;exact pushA_lvs (st:={ st with stk:=rest }) h
theorem anaT_lvs{p:Prg}{h:Hd}:∀ (t:Tr) (lo base loop:Nat) (st st':St) (s e s' e':Int),anaT p h t lo base loop st s e=.ok st' s' e'→st'.lvs.length≤st.lvs.length+t.size:=by
 intro t
 induction t with
 | nil=>intro lo base loop st st' s e s' e' hr;cases hr;exact Nat.le_refl _
 | ins r ih=>
  intro lo base loop st st' s e s' e' hr
  rw [anaT_ins] at hr
  obtain⟨s1,x,y,h1,h2⟩:=ER.bind_ok hr
  have h3:=ih _ _ _ _ _ _ _ _ _ h2
  have h4:s1.lvs.length≤st.lvs.length+1:=by
   unfold insA at h1
   by_cases h30:oI p.code lo=30
   ·rw [if_pos h30] at h1
    cases hp:popA st.stk base [116] with
    | error x=>rw [hp] at h1;cases h1
    | ok rl=>
     obtain⟨rest,l⟩:=rl
     rw [hp] at h1
     simp only [] at h1
     split at h1
     ·cases h1
     ·injection h1 with h1 _ _
      subst h1
      simp
   ·rw [if_neg h30] at h1;rw [plA_lvs h1];omega
  simp only [Tr.size]
  omega
 | ift a r iha ih=>
  intro lo base loop st st' s e s' e' hr
  unfold anaT at hr
  cases hp:popA st.stk base [116] with
  | error x=>rw [hp] at hr;cases hr
  | ok rl=>
   obtain⟨rest,l⟩:=rl
   rw [hp] at hr
   simp only [] at hr
   obtain⟨s1,x,y,h1,h2⟩:=ER.bind_ok hr
   have h3:=iha _ _ _ _ _ _ _ _ _ h1
   split at h2
   ·cases h2
   ·have h4:=ih _ _ _ _ _ _ _ _ _ h2
    simp only [Tr.size] at h3 h4 ⊢
    omega
 | ife a d r iha ihd ih=>
  intro lo base loop st st' s e s' e' hr
  unfold anaT at hr
  cases hp:popA st.stk base [116] with
  | error x=>rw [hp] at hr;cases hr
  | ok rl=>
   obtain⟨rest,l⟩:=rl
   rw [hp] at hr
   simp only [] at hr
   obtain⟨s1,x,y,h1,h2⟩:=ER.bind_ok hr
   have h3:=iha _ _ _ _ _ _ _ _ _ h1
   split at h2
   ·cases h2
   ·obtain⟨s2,x2,y2,h5,h6⟩:=ER.bind_ok h2
    have h7:=ihd _ _ _ _ _ _ _ _ _ h5
    split at h6
    ·cases h6
    ·have h4:=ih _ _ _ _ _ _ _ _ _ h6
     simp only [Tr.size] at h3 h4 h7 ⊢
     omega
 | lp a r iha ih=>
  intro lo base loop st st' s e s' e' hr
  unfold anaT at hr
  cases hp:popA st.stk base [110] with
  | error x=>rw [hp] at hr;cases hr
  | ok rl=>
   obtain⟨rest,l⟩:=rl
   rw [hp] at hr
   simp only [] at hr
   split at hr
   ·cases hr
   ·split at hr
    ·cases hr
    ·obtain⟨s1,x,y,h1,h2⟩:=ER.bind_ok hr
     have h4:=ih _ _ _ _ _ _ _ _ _ h2
     simp only [Tr.size] at h4 ⊢
     omega
def cT:Tr→Nat
 | .nil=>0
 | .ins r=>cT r
 | .ift a r=>cT a+cT r
 | .ife a d r=>cT a+cT d+cT r
 | .lp a r=>6 * cT a+1+cT r
theorem cT_le:∀ t:Tr,cT t≤t.size * 7 ^ t.dep:=by
 intro t
 induction t with
 | nil=>exact Nat.le_refl _
 | ins r ih=>
  simp only [cT,Tr.size,Tr.dep]
  have:r.size * 7 ^ r.dep≤(r.size+1) * 7 ^ r.dep:=Nat.mul_le_mul_right _ (by omega)
  omega
 | ift a r iha ih=>
  simp only [cT,Tr.size,Tr.dep]
  have h1:a.size * 7 ^ a.dep≤a.size * 7 ^ (max (a.dep+1) r.dep):=Nat.mul_le_mul_left _ (Nat.pow_le_pow_right (by omega) (by omega))
  have h2:r.size * 7 ^ r.dep≤r.size * 7 ^ (max (a.dep+1) r.dep):=Nat.mul_le_mul_left _ (Nat.pow_le_pow_right (by omega) (by omega))
  rw [Nat.add_mul,Nat.add_mul]
  omega
 | ife a d r iha ihd ih=>
  simp only [cT,Tr.size,Tr.dep]
  have h1:a.size * 7 ^ a.dep≤a.size * 7 ^ (max (max a.dep d.dep+1) r.dep):=Nat.mul_le_mul_left _ (Nat.pow_le_pow_right (by omega) (by omega))
  have h3:d.size * 7 ^ d.dep≤d.size * 7 ^ (max (max a.dep d.dep+1) r.dep):=Nat.mul_le_mul_left _ (Nat.pow_le_pow_right (by omega) (by omega))
  have h2:r.size * 7 ^ r.dep≤r.size * 7 ^ (max (max a.dep d.dep+1) r.dep):=Nat.mul_le_mul_left _ (Nat.pow_le_pow_right (by omega) (by omega))
  rw [Nat.add_mul,Nat.add_mul,Nat.add_mul]
  omega
 | lp a r iha ih=>
  simp only [cT,Tr.size,Tr.dep]
  have h1:7 * (a.size * 7 ^ a.dep)≤a.size * 7 ^ (max (a.dep+1) r.dep):=by
   have h3:7 ^ (a.dep+1)≤7 ^ (max (a.dep+1) r.dep):=Nat.pow_le_pow_right (by omega) (by omega)
   have h4:a.size * 7 ^ (a.dep+1)≤a.size * 7 ^ (max (a.dep+1) r.dep):=Nat.mul_le_mul_left _ h3
   rw [Nat.pow_succ] at h4
   have h5:a.size * (7 ^ a.dep * 7)=7 * (a.size * 7 ^ a.dep):=by rw [←Nat.mul_assoc,Nat.mul_comm]
   omega
  have h2:r.size * 7 ^ r.dep≤r.size * 7 ^ (max (a.dep+1) r.dep):=Nat.mul_le_mul_left _ (Nat.pow_le_pow_right (by omega) (by omega))
  have h6:1≤7 ^ (max (a.dep+1) r.dep):=Nat.pow_pos (by omega)
  rw [Nat.add_mul,Nat.add_mul]
  omega
def NOTES:Nat:=1000000000000
def CodeC(wB:World)(g mb:Nat)(v:WV)(p:Prg)(P:List Int)(n:Nat)(h:Hd)(N:Nat):Prop:=∀ (t:Tr) (lo base loop:Nat) (st:St) (d:WD) (w:World) (b:Bool),t.size < N→Fit p.code b lo t→PartOk P lo t→lo+t.size≤p.code.length→Below wB.heap.size wB w→WK wB.heap.size g mb v w st d→StOk n st→base≤32→loop≤32→d.mn+cT t≤NOTES→st.lvs.length≤lo →
 Calls Tryz.prog 77 #[.pointer (some ⟨g,0,none⟩),.int .i64 (lo:Int),.int .i64 ((lo+t.size:Nat):Int),.int .i64 (base:Int),.int .i64 (loop:Int)] w (AnaR wB.heap.size g mb v d w (cT t) (anaT p h t lo base loop st 0 0))
def BlkR(B g mb:Nat)(v:WV)(d:WD)(w:World)(N hi:Nat)(r:ER)(e:Ending)(w':World):Prop:=match r with
 | .bad a x=>e=.panicked [{ v:=failW a x,recovered:=false }]∧Below B w w'
 | .ok st' s x=>e=.returned (.tuple #[.agg #[.int .i64 s,.int .i64 x],.int .i64 (hi:Int)])∧∃ d',WK B g mb v w' st' d'∧KV B g mb d d' w w'∧d'.mn≤d.mn+N
 | .stuck=>False
end Go.Proofs.YtpaplehcafeeaaaGreatDoor
namespace Go.Proofs.YtpaplehcafeeaaaGreatDoor
open Go.RowKit Go.Proofs
variable [Inhabited ArgB]
theorem PK.part{wB w:World}{v:WV}{p:Prg}{P:List Int}(h:PK wB v p P)(hb:Below wB.heap.size wB w)(hP:P.length=p.code.length){lo:Nat}(hlo:lo < p.code.length):lo < v.pn∧∃ pb poff,v.pA=some ⟨pb,poff,none⟩∧pb < w.heap.size∧w.cell? ⟨pb,poff+lo,none⟩=some (.int .i64 (gi P lo)):=by
 have h1:=h.prt.1
 obtain⟨pb,poff,h2,h3,h4⟩:=(h.prt.below hb).get (k:=lo) (by omega)
 exact⟨by omega,pb,poff,h2,h3,h4 lo (by omega)⟩
theorem two_boxes(w:World)(a b c d:Int):∃ w2,w2=(w.alloc (.cells #[.int .i64 a,.int .i64 b] 151)).alloc (.cells #[.int .i64 c,.int .i64 d] 151)∧Below w.heap.size w w2∧rowV w2 w.heap.size 151 #[.int .i64 a,.int .i64 b]∧rowV w2 (w.heap.size+1) 151 #[.int .i64 c,.int .i64 d]∧w2.heap.size=w.heap.size+1+1:=by
 have r1:=rowV.new w 151 #[.int .i64 a,.int .i64 b]
 have r2:=rowV.new (w.alloc (.cells #[.int .i64 a,.int .i64 b] 151)) 151 #[.int .i64 c,.int .i64 d]
 have k1:=balloc (Below.refl _ (w.alloc (.cells #[.int .i64 a,.int .i64 b] 151))) (.cells #[.int .i64 c,.int .i64 d] 151)
 have e1:(w.alloc (.cells #[.int .i64 a,.int .i64 b] 151)).heap.size=w.heap.size+1:=by simp
 rw [e1] at r2
 exact⟨_,rfl,balloc (balloc (Below.refl _ _) _) _,r1.below k1 r1.lt,r2,by simp⟩
theorem choice_one(wB:World)(g mb:Nat)(v:WV)(p:Prg)(P:List Int)(n:Nat)(h:Hd)(N:Nat)(hC:CodeC wB g mb v p P n h N)(hk:PK wB v p P)(hP:P.length=p.code.length)(hn:p.locs=(n:Int))(hh:HdOk n h)(a:Tr)(lo base loop:Nat)(st:St)(d:WD)(w:World)(b:Bool)(haN:a.size < N)(hf:Fit p.code b (lo+1) a)(hpo:PartOk P (lo+1) a)(h31:oI p.code (lo+1+a.size)=31)(hpl:gi P lo=(lo+1+a.size:Nat))(hlen:lo+2+a.size≤p.code.length)(hb:Below wB.heap.size wB w)(hW:WK wB.heap.size g mb v w st d)(hs:StOk n st)(hba:base≤32)(hlp:loop≤32)(hmn:d.mn+cT a≤NOTES)(hlvs:st.lvs.length≤lo) :
  Calls Tryz.prog 109 #[.pointer (some ⟨g,0,none⟩),.int .i64 (lo:Int),.int .i64 (base:Int),.int .i64 (loop:Int)] w (BlkR wB.heap.size g mb v d w (cT a) (lo+1+a.size) (choA p h a none lo base loop st)):=by
 obtain⟨w0,hw0⟩:∃ w0,w0=w.alloc (.cells #[.int .i64 0,.int .i64 0] 151):=⟨_,rfl⟩
 have g0:Below w.heap.size w w0:=by rw [hw0];exact balloc (Below.refl _ _) _
 have r8:rowV w0 w.heap.size 151 #[.int .i64 0,.int .i64 0]:=by rw [hw0];exact rowV.new w _ _
 have HW:=Lib.hid hW
 have HB:=Lib.hid hb
 have HK:=Lib.hid hk
 have HS:=Lib.hid hs
 have Hn:=Lib.hid hn
 have HC:=Lib.hid hC
 have Hf:=Lib.hid hf
 have Hpo:=Lib.hid hpo
 have H31:=Lib.hid h31
 have Hpl:=Lib.hid hpl
 have HP:=Lib.hid hP
 have Hlen:=Lib.hid hlen
 have Hmn:=Lib.hid hmn
 have Hlvs:=Lib.hid hlvs
 have HN:=Lib.hid haN
 have HH:=Lib.hid hh
 have hl1:lo+2+a.size≤1024:=by have:=hk.ok.len;omega
 have Hw0:=Lib.hid hw0
 have HW0:=Lib.hid (hW.below g0)
 have HR0:=Lib.hid (And.intro r8 g0)
 have HPop:=Lib.hid (popW_any wB.heap.size g mb v d st w0 HW0.out lo base [116] (by decide) hs.len (by omega))
 have hE:Hid (choA p h a none lo base loop st=match popA st.stk base [116] with
  | .error x=>.bad lo x
  | .ok (rest,_)=>(anaT p h a (lo+1) rest.length loop { st with stk:=rest } 0 0).bind fun s1 xs xe=>
   if s1.stk.length≠rest.length then .bad (lo+1+a.size) 14
   else .ok { s1 with locs:=joinL s1.locs st.locs } (capS (max xs 0) 1) (capS (max xe 0) 0)):=rfl
 have hzs:strB [116]=⟨#[116]⟩:=rfl
 rw [hzs] at HPop
 clear hW hb hk hs hn hC hf hpo h31 hpl hP hlen hmn haN hw0 g0 r8 hzs hh hlvs
 go_enter Tryz.func109,Tryz.ntmps109
 go_wp2_with fail
 rw [←Hw0.out]
 refine HPop.out.mono ?_
 intro e w1 hr
 clear HPop
 cases hpop:popA st.stk base [116] with
 | error x=>
  rw [hpop] at hr hE
  obtain⟨rfl,hb1⟩:=hr
  refine⟨rfl,?_⟩
  rw [hE.out]
  exact⟨rfl,(HR0.out.2.mono HW.out.hB).trans hb1⟩
 | ok rl=>
  obtain⟨rest,l⟩:=rl
  rw [hpop] at hr hE
  obtain⟨A1,c1,rfl,-,hK1,hV1⟩:=hr
  obtain⟨hS1,-,-,hrl⟩:=popA_rest HS.out hpop
  have hV01:KV wB.heap.size g mb d { d with sn:=rest.length } w w1:=(KV.of_below HR0.out.2 HW.out.hB).trans hV1
  have r8:=hV1.row HR0.out.1 (HW.out.fresh (Nat.le_refl _))
  have hb1:=HB.out.trans hV01.kw.ki.below
  obtain⟨hpn,pb,poff,hpA,hpb,hpc⟩:=HK.out.part hb1 HP.out (lo:=lo) (by have:=Hlen.out;omega)
  rw [Hpl.out] at hpc
  obtain⟨-,-,-,e3,-,-,e6,e7,-,-,-⟩:=hK1.cells
  have hrest:rest.length≤32:=hS1.len
  have HK1:=Lib.hid hK1
  have HV1:=Lib.hid hV01
  have HS1:=Lib.hid hS1
  have HR1:=Lib.hid r8
  have Hb1:=Lib.hid hb1
  have hgl:=hK1.row.lt
  simp only [] at e6 e7
  rw [hpA] at e3
  obtain⟨pn,hpn'⟩:∃ x,x=v.pn:=⟨_,rfl⟩
  rw [←hpn'] at e3 hpn
  clear hpn' hpA hK1 hV1 hV01 hS1 r8 hb1 hrl hpop
  go_upto_region 4 with fail
  go_quiet (fail)
  obtain⟨w2,hw2⟩:∃ w2,w2=w1.drewN nq:=⟨_,rfl⟩
  have HK2:Hid (WK wB.heap.size g mb v w2 { st with stk:=rest } { d with sn:=rest.length }):=by rw [hw2];exact HK1.out.drewN nq
  have HV2:Hid (KV wB.heap.size g mb d { d with sn:=rest.length } w w2):=by rw [hw2];exact HV1.out.drewN nq
  have HR2:Hid (rowV w2 w.heap.size 151 #[.int .i64 0,.int .i64 0]):=by rw [hw2];exact HR1.out
  rw [←hw2]
  clear hw2 HK1 HV1 HR1 e3 e6 e7 hpc hpb hgl Hb1
  have HCd:=Lib.hid (HC.out a (lo+1) rest.length loop { st with stk:=rest } { d with sn:=rest.length } w2 b HN.out Hf.out Hpo.out (by have:=Hlen.out;omega) (HB.out.trans HV2.out.kw.ki.below) HK2.out HS1.out hrest hlp Hmn.out (Nat.le_succ_of_le Hlvs.out))
  go_wp2_with fail
  refine HCd.out.mono ?_
  intro e w3 hr
  clear HCd
  cases hana:anaT p h a (lo+1) rest.length loop { st with stk:=rest } 0 0 with
  | stuck=>rw [hana] at hr;exact hr.elim
  | bad q x=>
   rw [hana] at hr
   obtain⟨rfl,hb3⟩:=hr
   refine⟨rfl,?_⟩
   rw [hE.out,hana]
   exact⟨rfl,HV2.out.kw.ki.below.trans hb3⟩
  | ok s1 xs xe=>
   rw [hana] at hr
   obtain⟨rfl,d3,hK3,hV3,hm3⟩:=hr
   have hgood:=anaT_good HK.out.ok Hn.out HH.out a (lo+1) rest.length loop { st with stk:=rest } 0 0 b Hf.out (by have:=Hlen.out;omega) HS1.out (by omega) (by omega) (by unfold tooMany;omega)
   rw [hana] at hgood
   obtain⟨hS3,hxe,hxs,hxt,-⟩:=hgood
   have r8:=hV3.row HR2.out (HK2.out.ne_box HR2.out (by decide) (by decide) (by decide))
   obtain⟨w4,hw4,g4,r14,r15,s4⟩:=two_boxes w3 xs xe 0 0
   have hE2:Hid (choA p h a none lo base loop st=if s1.stk.length≠rest.length then .bad (lo+1+a.size) 14 else .ok { s1 with locs:=joinL s1.locs st.locs } (capS (max xs 0) 1) (capS (max xe 0) 0)):=by show _=_;rw [hE.out,hana];rfl
   have HK4:=Lib.hid (hK3.below g4)
   have HV4:=Lib.hid ((HV2.out.trans hV3).trans (KV.of_below (g:=g) (mb:=mb) (d:=d3) g4 hK3.hB))
   have q8:=r8.below g4 r8.lt
   have HR4:=Lib.hid (And.intro q8 (And.intro r14 r15))
   have HS3:=Lib.hid hS3
   have Hw4:=Lib.hid hw4
   have Hm3:=Lib.hid hm3
   have Hs4:=Lib.hid (And.intro (Nat.le_trans (Nat.le_of_lt r8.lt) (Nat.le_refl w3.heap.size)) r8.lt)
   unfold tooMany at hxt
   clear hana hK3 hV3 hm3 hS3 r8 hw4 g4 r14 r15 q8 hE s4
   by_cases hlv:s1.stk.length=rest.length
   ·have HLv:=Lib.hid (levelW_ok wB.heap.size g mb v d3 s1 w4 HK4.out (lo+1+a.size) rest.length hlv)
    have hE3:Hid (choA p h a none lo base loop st=.ok { s1 with locs:=joinL s1.locs st.locs } (capS (max xs 0) 1) (capS (max xe 0) 0)):=by show _=_;rw [hE2.out,if_neg (by simpa using hlv)]
    have Hlv:=Lib.hid hlv
    clear hlv
    go_upto_region 6 with fail
    rw [←Hw4.out]
    go_wp2_with fail
    refine HLv.out.mono ?_
    rintro e w5 ⟨rfl,hw5⟩
    obtain rfl:=hw5.symm
    clear hw5 HLv
    have hln3:d3.ln=n:=HK4.out.ln.trans HS3.out.locs.1
    have hln:d.ln=n:=HW.out.ln.trans HS.out.locs.1
    have hn16:n≤16:=by have h1:=HK.out.ok.locs;have h4:=Hn.out;omega
    obtain⟨-,-,e2,-,-,-,e6,-,-,-,-⟩:=HK4.out.cells
    have f6:=HK4.out.frozen 6
    have hloc:IvK wB.heap.size w4 d.lA d.ln d.lc st.locs:=HW.out.locs.keep HV4.out.kw.ki
    have hK5:=HK4.out.set 6 (.slice d.lA d.ln d.lc) (d':={ d3 with lA:=d.lA,ln:=d.ln,lc:=d.lc }) (st':={ s1 with locs:=st.locs }) rfl hloc HK4.out.stk HK4.out.lvs HK4.out.lvl HK4.out.lvi rfl rfl
    have hV5:KV wB.heap.size g mb d { d3 with lA:=d.lA,ln:=d.ln,lc:=d.lc } w (w4.setCell ⟨g,6,none⟩ (.slice d.lA d.ln d.lc)):=HV4.out.trans (KV.setG HK4.out 6 _ rfl rfl)
    obtain⟨w5,hw5⟩:∃ w5,w5=w4.setCell ⟨g,6,none⟩ (.slice d.lA d.ln d.lc):=⟨_,rfl⟩
    have ngb:∀ {r:Nat} {cs:Array Value},rowV w4 r 151 cs→g≠r:=fun hr=>(HK4.out.ne_box hr (by decide) (by decide) (by decide)).1.symm
    have q8:=HR4.out.1.setFar (p:=⟨g,6,none⟩) (ngb HR4.out.1).symm (.slice d.lA d.ln d.lc)
    have q14:=HR4.out.2.1.setFar (p:=⟨g,6,none⟩) (ngb HR4.out.2.1).symm (.slice d.lA d.ln d.lc)
    have q15:=HR4.out.2.2.setFar (p:=⟨g,6,none⟩) (ngb HR4.out.2.2).symm (.slice d.lA d.ln d.lc)
    rw [←hw5] at hK5 hV5 q8 q14 q15
    have hloc3:IvK wB.heap.size w5 d3.lA d3.ln d3.lc s1.locs:=by rw [hw5];exact HK4.out.locs.keep (KW.setG HK4.out 6 _ none).ki
    have HJ:=Lib.hid (joinW_any d3.lA d.lA n d3.lc d.lc s1.locs st.locs w5 (by have:=hloc3.1;rw [hln3] at this;exact this) (by have:=hK5.locs.1;simp only [] at this;rw [hln] at this;exact this) (by omega))
    obtain⟨cb,off,hcA,hcb,hx1,hx2⟩:=HK.out.ins (HB.out.trans hV5.kw.ki.below) (lo:=lo+1+a.size) (by have:=Hlen.out;omega)
    rw [H31.out] at hx1
    have hcn:=HK.out.cn
    have hlo2:lo+1+a.size < v.cn:=by have:=Hlen.out;omega
    obtain⟨cn,hcn'⟩:∃ c,c=v.cn:=⟨_,rfl⟩
    rw [←hcn'] at hlo2
    have e2':w5.cell? ⟨g,2,none⟩=some (.slice (some ⟨cb,off,none⟩) cn v.cc):=by rw [hcn',←hcA];exact hK5.cells.2.2.1
    have e6':w5.cell? ⟨g,6,none⟩=some (.slice d.lA n d.lc):=by rw [←hln];exact hK5.cells.2.2.2.2.2.2.1
    rw [hln3] at e6
    rw [hln] at hw5
    have Hw5:=Lib.hid hw5
    have HK5:=Lib.hid hK5
    have HV5:=Lib.hid hV5
    have HR5:=Lib.hid (And.intro q8 (And.intro q14 q15))
    have Hln:=Lib.hid (And.intro hln hln3)
    have hgl:=hK5.row.lt
    clear hloc hK5 hV5 ngb q8 q14 q15 hloc3 hx2 hcn hcn' hw5 hln3 HS1
    rw [hln]
    clear hln
    go_upto_region 9 with fail
    rw [←Hw5.out]
    clear e2 e6 f6
    go_wp2_with fail
    refine HJ.out.mono ?_
    rintro e w6 ⟨A6,c6,rfl,ho6,hb6⟩
    have hK6:=HK5.out.below hb6
    obtain⟨-,-,-,-,-,-,t6,-,-,-,-⟩:=hK6.cells
    simp only [] at t6
    rw [Hln.out.1] at t6
    have f6:=hK6.frozen 6
    have hK7:=hK6.set 6 (.slice A6 n c6) (d':={ d3 with lA:=A6,ln:=n,lc:=c6 }) (st':={ s1 with locs:=joinL s1.locs st.locs }) rfl (IvK.of_own ho6) hK6.stk hK6.lvs hK6.lvl hK6.lvi rfl rfl
    have hV7:KV wB.heap.size g mb d { d3 with lA:=A6,ln:=n,lc:=c6 } w (w6.setCell ⟨g,6,none⟩ (.slice A6 n c6)):=(HV5.out.trans (KV.of_below (g:=g) (mb:=mb) hb6 HK5.out.hB)).trans (KV.setG hK6 6 _ rfl rfl)
    have ngb:∀ {r:Nat} {cs:Array Value},rowV w6 r 151 cs→g≠r:=fun hr=>(hK6.ne_box hr (by decide) (by decide) (by decide)).1.symm
    have p8:=HR5.out.1.below hb6 HR5.out.1.lt
    have p14:=HR5.out.2.1.below hb6 HR5.out.2.1.lt
    have p15:=HR5.out.2.2.below hb6 HR5.out.2.2.lt
    have q8:=p8.setFar (p:=⟨g,6,none⟩) (ngb p8).symm (.slice A6 n c6)
    have q14:=p14.setFar (p:=⟨g,6,none⟩) (ngb p14).symm (.slice A6 n c6)
    have q15:=p15.setFar (p:=⟨g,6,none⟩) (ngb p15).symm (.slice A6 n c6)
    obtain⟨w7,hw7⟩:∃ w7,w7=w6.setCell ⟨g,6,none⟩ (.slice A6 n c6):=⟨_,rfl⟩
    rw [←hw7] at hK7 hV7 q8 q14 q15
    obtain⟨b0,b1⟩:=two_cellsV q14
    obtain⟨c0,c1'⟩:=two_cellsV q15
    obtain⟨m1,hm1⟩:∃ m1,m1=max xs 0:=⟨_,rfl⟩
    obtain⟨m2,hm2⟩:∃ m2,m2=max xe 0:=⟨_,rfl⟩
    obtain⟨w8,hw8⟩:∃ w8,w8=w7.alloc (.cells #[.int .i64 m1,.int .i64 m2] 151):=⟨_,rfl⟩
    have hb8:Below w7.heap.size w7 w8:=by rw [hw8];exact balloc (Below.refl _ _) _
    have r17:rowV w8 w7.heap.size 151 #[.int .i64 m1,.int .i64 m2]:=by rw [hw8];exact rowV.new w7 _ _
    obtain⟨u0,u1⟩:=two_cellsV r17
    have HK8:=Lib.hid (hK7.below hb8)
    have HV8:=Lib.hid (hV7.trans (KV.of_below (g:=g) (mb:=mb) hb8 hK7.hB))
    have HR8:=Lib.hid (q8.below hb8 q8.lt)
    have hmb:(0≤m1∧m1≤281474976710657)∧(0≤m2∧m2≤281474976710657):=by omega
    have HPl:=Lib.hid (plus_any m1 m2 1 0 hmb.1 hmb.2 (by omega) (by omega) w8)
    have Hw7:=Lib.hid hw7
    have Hw8:=Lib.hid hw8
    have Hm12:=Lib.hid (And.intro hm1 hm2)
    rw [hm1,hm2] at hw8
    have Hw8':=Lib.hid hw8
    have hgl6:=hK6.row.lt
    clear hK6 hK7 hV7 ngb p8 p14 p15 q8 q14 q15 hw7 hw8 hb8 r17 ho6 hb6 hm1 hm2 hmb hx1 e2' e6'
    go_upto_region 14 with fail
    rw [←Hw7.out]
    clear t6 f6
    go_upto_region 15 with fail
    rw [←Hw8'.out]
    clear b0 b1 c0 c1'
    go_wp2_with fail
    refine HPl.out.mono ?_
    rintro e w9 ⟨rfl,hb9⟩
    have Hr9:=Lib.hid (HR8.out.below hb9 HR8.out.lt)
    have HK9:=Lib.hid (HK8.out.below hb9)
    have HV9:=Lib.hid (HV8.out.trans (KV.of_below (g:=g) (mb:=mb) hb9 HK8.out.hB))
    clear hb9
    go_wp2_with (refine wpList_store_row rfl 151 (.tmp 8) (.tmp 109) rfl _ #[.int .i64 (capS m1 1),.int .i64 (capS m2 0)] rfl rfl _ _ Hr9.out (hIbd _ _) rfl (hA2 _ _) ?_)
    obtain⟨k1,k2⟩:=two_cellsV (setRow_heap w9 w.heap.size _ #[.int .i64 (capS m1 1),.int .i64 (capS m2 0)] _ _ Hr9.out)
    refine bodyPost_ret (v:=.tuple #[.agg #[.int .i64 (capS m1 1),.int .i64 (capS m2 0)],.int .i64 ((lo+1+a.size:Nat):Int)]) (by simp [results,Tryz.results109,go_sem,k1,k2]) rfl ?_
    rw [hE3.out,←Hm12.out.1,←Hm12.out.2]
    exact⟨rfl,_,HK9.out.boxG Hr9.out (by decide) (by decide) (by decide) (by decide) HW.out.hB (grownBy_setRow3 _ _ _),HV9.out.boxG (Nat.le_refl _) HW.out.hB (grownBy_setRow3 _ _ _),Hm3.out⟩
   ·have HLv:=Lib.hid (levelW_bad wB.heap.size g mb v d3 s1 w4 HK4.out (lo+1+a.size) rest.length hlv)
    have hE3:Hid (choA p h a none lo base loop st=.bad (lo+1+a.size) 14):=by show _=_;rw [hE2.out,if_pos (by simpa using hlv)]
    clear hlv
    go_upto_region 6 with fail
    rw [←Hw4.out]
    go_wp2_with fail
    refine HLv.out.mono ?_
    rintro e w5 ⟨rfl,hw5⟩
    obtain rfl:=hw5.symm
    refine⟨rfl,?_⟩
    rw [hE3.out]
    exact⟨rfl,HV4.out.kw.ki.below⟩
end Go.Proofs.YtpaplehcafeeaaaGreatDoor
namespace Go.Proofs.YtpaplehcafeeaaaGreatDoor
open Go.RowKit Go.Proofs
variable [Inhabited ArgB]
theorem choice_two(wB:World)(g mb:Nat)(v:WV)(p:Prg)(P:List Int)(n:Nat)(h:Hd)(N:Nat)(hC:CodeC wB g mb v p P n h N)(hk:PK wB v p P)(hP:P.length=p.code.length)(hn:p.locs=(n:Int))(hh:HdOk n h)(a dd:Tr)(lo base loop:Nat)(st:St)(d:WD)(w:World)(b:Bool)(haN:a.size < N)(hdN:dd.size < N)(hfd:Fit p.code b (lo+2+a.size) dd)(hpod:PartOk P (lo+2+a.size) dd)(hf:Fit p.code b (lo+1) a)(hpo:PartOk P (lo+1) a)(h31:oI p.code (lo+1+a.size)=28)(hpm:gi P (lo+1+a.size)=(lo+2+a.size+dd.size:Nat))(hpl:gi P lo=(lo+1+a.size:Nat))(hlen:lo+3+a.size+dd.size≤p.code.length)(hb:Below wB.heap.size wB w)(hW:WK wB.heap.size g mb v w st d)(hs:StOk n st)(hba:base≤32)(hlp:loop≤32)(hmn:d.mn+(cT a+cT dd)≤NOTES)(hlvs:st.lvs.length≤lo) :
  Calls Tryz.prog 109 #[.pointer (some ⟨g,0,none⟩),.int .i64 (lo:Int),.int .i64 (base:Int),.int .i64 (loop:Int)] w (BlkR wB.heap.size g mb v d w (cT a+cT dd) (lo+2+a.size+dd.size) (choA p h a (some dd) lo base loop st)):=by
 obtain⟨w0,hw0⟩:∃ w0,w0=w.alloc (.cells #[.int .i64 0,.int .i64 0] 151):=⟨_,rfl⟩
 have g0:Below w.heap.size w w0:=by rw [hw0];exact balloc (Below.refl _ _) _
 have r8:rowV w0 w.heap.size 151 #[.int .i64 0,.int .i64 0]:=by rw [hw0];exact rowV.new w _ _
 have HW:=Lib.hid hW
 have HB:=Lib.hid hb
 have HK:=Lib.hid hk
 have HS:=Lib.hid hs
 have Hn:=Lib.hid hn
 have HC:=Lib.hid hC
 have Hf:=Lib.hid hf
 have Hpo:=Lib.hid hpo
 have H31:=Lib.hid h31
 have Hpl:=Lib.hid hpl
 have HP:=Lib.hid hP
 have HdN:=Lib.hid hdN
 have Hfd:=Lib.hid hfd
 have Hpod:=Lib.hid hpod
 have Hpm:=Lib.hid hpm
 have Hlen:=Lib.hid hlen
 have Hmn:=Lib.hid hmn
 have Hlvs:=Lib.hid hlvs
 have HN:=Lib.hid haN
 have HH:=Lib.hid hh
 have hl1:lo+3+a.size+dd.size≤1024:=by have:=hk.ok.len;omega
 have Hw0:=Lib.hid hw0
 have HW0:=Lib.hid (hW.below g0)
 have HR0:=Lib.hid (And.intro r8 g0)
 have HPop:=Lib.hid (popW_any wB.heap.size g mb v d st w0 HW0.out lo base [116] (by decide) hs.len (by omega))
 have hE:Hid (choA p h a (some dd) lo base loop st=match popA st.stk base [116] with
  | .error x=>.bad lo x
  | .ok (rest,_)=>(anaT p h a (lo+1) rest.length loop { st with stk:=rest } 0 0).bind fun s1 xs xe=>
   if s1.stk.length≠rest.length then .bad (lo+1+a.size) 14
   else (anaT p h dd (lo+2+a.size) rest.length loop { s1 with locs:=st.locs } 0 0).bind fun s2 ys ye=>
    if s2.stk.length≠rest.length then .bad (lo+2+a.size+dd.size) 14
    else .ok { s2 with locs:=joinL s1.locs s2.locs } (capS (max xs ys) 1) (capS (max xe ye) 0)):=rfl
 have hzs:strB [116]=⟨#[116]⟩:=rfl
 rw [hzs] at HPop
 clear hW hb hk hs hn hC hf hpo h31 hpl hP hlen hmn haN hw0 g0 r8 hzs hh hlvs hdN hfd hpod hpm
 go_enter Tryz.func109,Tryz.ntmps109
 go_wp2_with fail
 rw [←Hw0.out]
 refine HPop.out.mono ?_
 intro e w1 hr
 clear HPop
 cases hpop:popA st.stk base [116] with
 | error x=>
  rw [hpop] at hr hE
  obtain⟨rfl,hb1⟩:=hr
  refine⟨rfl,?_⟩
  rw [hE.out]
  exact⟨rfl,(HR0.out.2.mono HW.out.hB).trans hb1⟩
 | ok rl=>
  obtain⟨rest,l⟩:=rl
  rw [hpop] at hr hE
  obtain⟨A1,c1,rfl,-,hK1,hV1⟩:=hr
  obtain⟨hS1,-,-,hrl⟩:=popA_rest HS.out hpop
  have hV01:KV wB.heap.size g mb d { d with sn:=rest.length } w w1:=(KV.of_below HR0.out.2 HW.out.hB).trans hV1
  have r8:=hV1.row HR0.out.1 (HW.out.fresh (Nat.le_refl _))
  have hb1:=HB.out.trans hV01.kw.ki.below
  obtain⟨hpn,pb,poff,hpA,hpb,hpc⟩:=HK.out.part hb1 HP.out (lo:=lo) (by have:=Hlen.out;omega)
  rw [Hpl.out] at hpc
  obtain⟨-,-,-,e3,-,-,e6,e7,-,-,-⟩:=hK1.cells
  have hrest:rest.length≤32:=hS1.len
  have HK1:=Lib.hid hK1
  have HV1:=Lib.hid hV01
  have HS1:=Lib.hid hS1
  have HR1:=Lib.hid r8
  have Hb1:=Lib.hid hb1
  have hgl:=hK1.row.lt
  simp only [] at e6 e7
  rw [hpA] at e3
  obtain⟨pn,hpn'⟩:∃ x,x=v.pn:=⟨_,rfl⟩
  rw [←hpn'] at e3 hpn
  clear hpn' hpA hK1 hV1 hV01 hS1 r8 hb1 hrl hpop
  go_upto_region 4 with fail
  go_quiet (fail)
  obtain⟨w2,hw2⟩:∃ w2,w2=w1.drewN nq:=⟨_,rfl⟩
  have HK2:Hid (WK wB.heap.size g mb v w2 { st with stk:=rest } { d with sn:=rest.length }):=by rw [hw2];exact HK1.out.drewN nq
  have HV2:Hid (KV wB.heap.size g mb d { d with sn:=rest.length } w w2):=by rw [hw2];exact HV1.out.drewN nq
  have HR2:Hid (rowV w2 w.heap.size 151 #[.int .i64 0,.int .i64 0]):=by rw [hw2];exact HR1.out
  rw [←hw2]
  clear hw2 HK1 HV1 HR1 e3 e6 e7 hpc hpb hgl Hb1
  have HCd:=Lib.hid (HC.out a (lo+1) rest.length loop { st with stk:=rest } { d with sn:=rest.length } w2 b HN.out Hf.out Hpo.out (by have:=Hlen.out;omega) (HB.out.trans HV2.out.kw.ki.below) HK2.out HS1.out hrest hlp (by have h1:=Hmn.out;show d.mn+cT a≤NOTES;omega) (Nat.le_succ_of_le Hlvs.out))
  go_wp2_with fail
  refine HCd.out.mono ?_
  intro e w3 hr
  clear HCd
  cases hana:anaT p h a (lo+1) rest.length loop { st with stk:=rest } 0 0 with
  | stuck=>rw [hana] at hr;exact hr.elim
  | bad q x=>
   rw [hana] at hr
   obtain⟨rfl,hb3⟩:=hr
   refine⟨rfl,?_⟩
   rw [hE.out,hana]
   exact⟨rfl,HV2.out.kw.ki.below.trans hb3⟩
  | ok s1 xs xe=>
   rw [hana] at hr
   obtain⟨rfl,d3,hK3,hV3,hm3⟩:=hr
   have hgood:=anaT_good HK.out.ok Hn.out HH.out a (lo+1) rest.length loop { st with stk:=rest } 0 0 b Hf.out (by have:=Hlen.out;omega) HS1.out (by omega) (by omega) (by unfold tooMany;omega)
   rw [hana] at hgood
   obtain⟨hS3,hxe,hxs,hxt,-⟩:=hgood
   have Hlv1:=Lib.hid (anaT_lvs a (lo+1) rest.length loop { st with stk:=rest } s1 0 0 xs xe hana)
   have r8:=hV3.row HR2.out (HK2.out.ne_box HR2.out (by decide) (by decide) (by decide))
   obtain⟨w4,hw4,g4,r14,r15,s4⟩:=two_boxes w3 xs xe 0 0
   have hE2:Hid (choA p h a (some dd) lo base loop st=if s1.stk.length≠rest.length then .bad (lo+1+a.size) 14 else (anaT p h dd (lo+2+a.size) rest.length loop { s1 with locs:=st.locs } 0 0).bind fun s2 ys ye=>
    if s2.stk.length≠rest.length then .bad (lo+2+a.size+dd.size) 14
    else .ok { s2 with locs:=joinL s1.locs s2.locs } (capS (max xs ys) 1) (capS (max xe ye) 0)):=by show _=_;rw [hE.out,hana];rfl
   have HK4:=Lib.hid (hK3.below g4)
   have HV4:=Lib.hid ((HV2.out.trans hV3).trans (KV.of_below (g:=g) (mb:=mb) (d:=d3) g4 hK3.hB))
   have q8:=r8.below g4 r8.lt
   have HR4:=Lib.hid (And.intro q8 (And.intro r14 r15))
   have HS3:=Lib.hid hS3
   have Hw4:=Lib.hid hw4
   have Hm3:=Lib.hid hm3
   have Hs4:=Lib.hid (And.intro (Nat.le_trans (Nat.le_of_lt r8.lt) (Nat.le_refl w3.heap.size)) r8.lt)
   unfold tooMany at hxt
   clear hana hK3 hV3 hm3 hS3 r8 hw4 g4 r14 r15 q8 hE s4
   by_cases hlv:s1.stk.length=rest.length
   ·have HLv:=Lib.hid (levelW_ok wB.heap.size g mb v d3 s1 w4 HK4.out (lo+1+a.size) rest.length hlv)
    have hE3:Hid (choA p h a (some dd) lo base loop st=(anaT p h dd (lo+2+a.size) rest.length loop { s1 with locs:=st.locs } 0 0).bind fun s2 ys ye=>
    if s2.stk.length≠rest.length then .bad (lo+2+a.size+dd.size) 14
    else .ok { s2 with locs:=joinL s1.locs s2.locs } (capS (max xs ys) 1) (capS (max xe ye) 0)):=by show _=_;rw [hE2.out,if_neg (by simpa using hlv)]
    have Hlv:=Lib.hid hlv
    clear hlv
    go_upto_region 6 with fail
    rw [←Hw4.out]
    go_wp2_with fail
    refine HLv.out.mono ?_
    rintro e w5 ⟨rfl,hw5⟩
    obtain rfl:=hw5.symm
    clear hw5 HLv
    have hln3:d3.ln=n:=HK4.out.ln.trans HS3.out.locs.1
    have hln:d.ln=n:=HW.out.ln.trans HS.out.locs.1
    have hn16:n≤16:=by have h1:=HK.out.ok.locs;have h4:=Hn.out;omega
    obtain⟨-,-,e2,-,-,-,e6,-,-,-,-⟩:=HK4.out.cells
    have f6:=HK4.out.frozen 6
    have hloc:IvK wB.heap.size w4 d.lA d.ln d.lc st.locs:=HW.out.locs.keep HV4.out.kw.ki
    have hK5:=HK4.out.set 6 (.slice d.lA d.ln d.lc) (d':={ d3 with lA:=d.lA,ln:=d.ln,lc:=d.lc }) (st':={ s1 with locs:=st.locs }) rfl hloc HK4.out.stk HK4.out.lvs HK4.out.lvl HK4.out.lvi rfl rfl
    have hV5:KV wB.heap.size g mb d { d3 with lA:=d.lA,ln:=d.ln,lc:=d.lc } w (w4.setCell ⟨g,6,none⟩ (.slice d.lA d.ln d.lc)):=HV4.out.trans (KV.setG HK4.out 6 _ rfl rfl)
    obtain⟨w5,hw5⟩:∃ w5,w5=w4.setCell ⟨g,6,none⟩ (.slice d.lA d.ln d.lc):=⟨_,rfl⟩
    have ngb:∀ {r:Nat} {cs:Array Value},rowV w4 r 151 cs→g≠r:=fun hr=>(HK4.out.ne_box hr (by decide) (by decide) (by decide)).1.symm
    have q8:=HR4.out.1.setFar (p:=⟨g,6,none⟩) (ngb HR4.out.1).symm (.slice d.lA d.ln d.lc)
    have q14:=HR4.out.2.1.setFar (p:=⟨g,6,none⟩) (ngb HR4.out.2.1).symm (.slice d.lA d.ln d.lc)
    have q15:=HR4.out.2.2.setFar (p:=⟨g,6,none⟩) (ngb HR4.out.2.2).symm (.slice d.lA d.ln d.lc)
    rw [←hw5] at hK5 hV5 q8 q14 q15
    have hloc3:IvK wB.heap.size w5 d3.lA d3.ln d3.lc s1.locs:=by rw [hw5];exact HK4.out.locs.keep (KW.setG HK4.out 6 _ none).ki
    obtain⟨cb,off,hcA,hcb,hx1,hx2⟩:=HK.out.ins (HB.out.trans hV5.kw.ki.below) (lo:=lo+1+a.size) (by have:=Hlen.out;omega)
    rw [H31.out] at hx1
    obtain⟨hpn,pb',poff',hpA,hpb,hpc⟩:=HK.out.part (HB.out.trans hV5.kw.ki.below) HP.out (lo:=lo+1+a.size) (by have:=Hlen.out;omega)
    rw [Hpm.out] at hpc
    have hcn:=HK.out.cn
    have hlo2:lo+1+a.size < v.cn:=by have:=Hlen.out;omega
    obtain⟨cn,hcn'⟩:∃ c,c=v.cn:=⟨_,rfl⟩
    rw [←hcn'] at hlo2
    obtain⟨pn2,hpn'⟩:∃ c,c=v.pn:=⟨_,rfl⟩
    rw [←hpn'] at hpn
    have e2':w5.cell? ⟨g,2,none⟩=some (.slice (some ⟨cb,off,none⟩) cn v.cc):=by rw [hcn',←hcA];exact hK5.cells.2.2.1
    have e3':w5.cell? ⟨g,3,none⟩=some (.slice (some ⟨pb',poff',none⟩) pn2 v.pc):=by rw [hpn',←hpA];exact hK5.cells.2.2.2.1
    rw [hln3] at e6
    rw [hln] at hw5
    have Hw5:=Lib.hid hw5
    have HK5:=Lib.hid hK5
    have HV5:=Lib.hid hV5
    have HR5:=Lib.hid (And.intro q8 (And.intro q14 q15))
    have HL3:=Lib.hid hloc3
    have HS5:Hid (StOk n { s1 with locs:=st.locs }):=⟨HS.out.locs,HS3.out.stk,HS3.out.len,HS3.out.hgt,HS3.out.lvs,HS3.out.inv⟩
    have hcd2:=HC.out dd (lo+2+a.size) rest.length loop { s1 with locs:=st.locs } { d3 with lA:=d.lA,ln:=d.ln,lc:=d.lc } w5 b HdN.out Hfd.out Hpod.out (by have:=Hlen.out;omega) (HB.out.trans HV5.out.kw.ki.below) HK5.out HS5.out hrest hlp (by have h1:=Hmn.out;have h2:d3.mn≤d.mn+cT a:=Hm3.out;show d3.mn+cT dd≤NOTES;omega) (by have h1:s1.lvs.length≤st.lvs.length+a.size:=Hlv1.out;have h2:=Hlvs.out;show s1.lvs.length≤_;omega)
    rw [show ((lo+2+a.size:Nat):Int)=(lo:Int)+1+(a.size:Int)+1 by omega] at hcd2
    have HCd2:=Lib.hid hcd2
    have Hln3:=Lib.hid (And.intro hln hln3)
    have hgl:=hK5.row.lt
    clear hloc hK5 hV5 ngb q8 q14 q15 hloc3 hx2 hcn hcn' hw5 hln3 HS1 hcd2 hpn' hpA hcA
    rw [hln]
    clear hln
    go_upto_region 9 with fail
    rw [←Hw5.out]
    clear e2 e6 f6
    go_wp2_with fail
    refine HCd2.out.mono ?_
    intro e w6 hr
    clear HCd2 e2' e3' hx1 hpc
    cases hana:anaT p h dd (lo+2+a.size) rest.length loop { s1 with locs:=st.locs } 0 0 with
    | stuck=>rw [hana] at hr;exact hr.elim
    | bad q x=>
     rw [hana] at hr
     obtain⟨rfl,hb3⟩:=hr
     refine⟨rfl,?_⟩
     rw [hE3.out,hana]
     exact⟨rfl,HV5.out.kw.ki.below.trans hb3⟩
    | ok s2 ys ye=>
     rw [hana] at hr
     obtain⟨rfl,d6,hK6,hV6,hm6⟩:=hr
     have hgood:=anaT_good HK.out.ok Hn.out HH.out dd (lo+2+a.size) rest.length loop { s1 with locs:=st.locs } 0 0 b Hfd.out (by have:=Hlen.out;omega) HS5.out (by omega) (by omega) (by unfold tooMany;omega)
     rw [hana] at hgood
     obtain⟨hS6,hye,hys,hyt,-⟩:=hgood
     have hE4:Hid (choA p h a (some dd) lo base loop st=if s2.stk.length≠rest.length then .bad (lo+2+a.size+dd.size) 14 else .ok { s2 with locs:=joinL s1.locs s2.locs } (capS (max xs ys) 1) (capS (max xe ye) 0)):=by show _=_;rw [hE3.out,hana];rfl
     have o8:=hV6.row HR5.out.1 (HK5.out.ne_box HR5.out.1 (by decide) (by decide) (by decide))
     have o14:=hV6.row HR5.out.2.1 (HK5.out.ne_box HR5.out.2.1 (by decide) (by decide) (by decide))
     have o15:=hV6.row HR5.out.2.2 (HK5.out.ne_box HR5.out.2.2 (by decide) (by decide) (by decide))
     have Ho15:=Lib.hid o15
     have hb15:wB.heap.size≤w3.heap.size+1:=Nat.le_trans HW.out.hB (Nat.le_trans Hs4.out.1 (Nat.le_succ _))
     have hne8:w.heap.size≠w3.heap.size+1:=by have:=Hs4.out.2;omega
     obtain⟨wj,hwj⟩:∃ wj,wj=w6.setRow (w3.heap.size+1) #[.int .i64 ys,.int .i64 ye]:=⟨_,rfl⟩
     have gj:w6.grownBy wj (some (w3.heap.size+1)):=by rw [hwj];exact grownBy_setRow3 _ _ _
     have hKj:=hK6.boxG o15 (by decide) (by decide) (by decide) (by decide) hb15 gj
     have hVj:=(HV5.out.trans hV6).boxG (r:=w3.heap.size+1) (Nat.le_trans Hs4.out.1 (Nat.le_succ _)) HW.out.hB gj
     have j8:rowV wj w.heap.size 151 #[.int .i64 0,.int .i64 0]:=(gj.block _ o8.lt (fun e=>hne8 (by injection e))).trans o8
     have j14:rowV wj w3.heap.size 151 #[.int .i64 xs,.int .i64 xe]:=(gj.block _ o14.lt (fun e=>by injection e;omega)).trans o14
     have j15:rowV wj (w3.heap.size+1) 151 #[.int .i64 ys,.int .i64 ye]:=by rw [hwj];exact setRow_heap w6 (w3.heap.size+1) _ #[.int .i64 ys,.int .i64 ye] _ _ o15
     have hLj:IvK wB.heap.size wj d3.lA d3.ln d3.lc s1.locs:=(HL3.out.keep hV6.kw.ki).keep (KI.of_grown gj (fun k hk=>by injection hk with hk;rw [←hk];exact hb15) hK6.hB (fun k cs fr hk=>by injection hk with hk;rw [←hk];exact ne_of_cells (show w6.heap[w3.heap.size+1]?=_ from o15) (by decide)))
     have hln6:d6.ln=n:=hKj.ln.trans hS6.locs.1
     unfold tooMany at hyt
     have Hwj:=Lib.hid hwj
     have HK5:=Lib.hid hKj
     have HV5:=Lib.hid hVj
     have HR5:=Lib.hid (And.intro j8 (And.intro j14 j15))
     have Hm6:Hid (d6.mn≤d.mn+(cT a+cT dd)):=by show _≤_;have h2:d3.mn≤d.mn+cT a:=Hm3.out;have h3:d6.mn≤d3.mn+cT dd:=hm6;omega
     have HJ:=Lib.hid (joinW_any d3.lA d6.lA n d3.lc d6.lc s1.locs s2.locs wj (by have:=hLj.1;rw [Hln3.out.2] at this;exact this) (by have:=hKj.locs.1;rw [hln6] at this;exact this) (by omega))
     have Hln:=Lib.hid (And.intro hln6 hln6)
     obtain⟨-,-,-,-,-,-,e6',-,-,-,-⟩:=hKj.cells
     rw [hln6] at e6'
     have hgl:=hKj.row.lt
     clear hana hK6 hV6 hm6 o8 o14 o15 hwj gj hKj hVj j8 j14 j15 hLj hln6 hb15 hne8
     by_cases hlv:s2.stk.length=rest.length
     ·have HLv:=Lib.hid (levelW_ok wB.heap.size g mb v d6 s2 wj HK5.out (lo+2+a.size+dd.size) rest.length hlv)
      have hE5:Hid (choA p h a (some dd) lo base loop st=.ok { s2 with locs:=joinL s1.locs s2.locs } (capS (max xs ys) 1) (capS (max xe ye) 0)):=by show _=_;rw [hE4.out,if_neg (by simpa using hlv)]
      clear hlv
      go_wp2_with (refine wpList_store_row rfl 151 (.tmp 15) (.tmp 82) rfl _ #[.int .i64 ys,.int .i64 ye] rfl rfl _ _ Ho15.out (hIbd _ _) rfl (hA2 _ _) ?_)
      rw [←Hwj.out]
      refine HLv.out.mono ?_
      rintro e wk ⟨rfl,hwk⟩
      obtain rfl:=hwk.symm
      clear hwk HLv
      go_wp2_with fail
      refine HJ.out.mono ?_
      rintro e w6 ⟨A6,c6,rfl,ho6,hb6⟩
      have hx1:=trivial
      have e2':=trivial
      have hK6:=HK5.out.below hb6
      obtain⟨-,-,-,-,-,-,t6,-,-,-,-⟩:=hK6.cells
      try simp only [] at t6
      rw [Hln.out.1] at t6
      have f6:=hK6.frozen 6
      have hK7:=hK6.set 6 (.slice A6 n c6) (d':={ d6 with lA:=A6,ln:=n,lc:=c6 }) (st':={ s2 with locs:=joinL s1.locs s2.locs }) rfl (IvK.of_own ho6) hK6.stk hK6.lvs hK6.lvl hK6.lvi rfl rfl
      have hV7:KV wB.heap.size g mb d { d6 with lA:=A6,ln:=n,lc:=c6 } w (w6.setCell ⟨g,6,none⟩ (.slice A6 n c6)):=(HV5.out.trans (KV.of_below (g:=g) (mb:=mb) hb6 HK5.out.hB)).trans (KV.setG hK6 6 _ rfl rfl)
      have ngb:∀ {r:Nat} {cs:Array Value},rowV w6 r 151 cs→g≠r:=fun hr=>(hK6.ne_box hr (by decide) (by decide) (by decide)).1.symm
      have p8:=HR5.out.1.below hb6 HR5.out.1.lt
      have p14:=HR5.out.2.1.below hb6 HR5.out.2.1.lt
      have p15:=HR5.out.2.2.below hb6 HR5.out.2.2.lt
      have q8:=p8.setFar (p:=⟨g,6,none⟩) (ngb p8).symm (.slice A6 n c6)
      have q14:=p14.setFar (p:=⟨g,6,none⟩) (ngb p14).symm (.slice A6 n c6)
      have q15:=p15.setFar (p:=⟨g,6,none⟩) (ngb p15).symm (.slice A6 n c6)
      obtain⟨w7,hw7⟩:∃ w7,w7=w6.setCell ⟨g,6,none⟩ (.slice A6 n c6):=⟨_,rfl⟩
      rw [←hw7] at hK7 hV7 q8 q14 q15
      obtain⟨b0,b1⟩:=two_cellsV q14
      obtain⟨c0,c1'⟩:=two_cellsV q15
      obtain⟨m1,hm1⟩:∃ m1,m1=max xs ys:=⟨_,rfl⟩
      obtain⟨m2,hm2⟩:∃ m2,m2=max xe ye:=⟨_,rfl⟩
      obtain⟨w8,hw8⟩:∃ w8,w8=w7.alloc (.cells #[.int .i64 m1,.int .i64 m2] 151):=⟨_,rfl⟩
      have hb8:Below w7.heap.size w7 w8:=by rw [hw8];exact balloc (Below.refl _ _) _
      have r17:rowV w8 w7.heap.size 151 #[.int .i64 m1,.int .i64 m2]:=by rw [hw8];exact rowV.new w7 _ _
      obtain⟨u0,u1⟩:=two_cellsV r17
      have HK8:=Lib.hid (hK7.below hb8)
      have HV8:=Lib.hid (hV7.trans (KV.of_below (g:=g) (mb:=mb) hb8 hK7.hB))
      have HR8:=Lib.hid (q8.below hb8 q8.lt)
      have hmb:(0≤m1∧m1≤281474976710657)∧(0≤m2∧m2≤281474976710657):=by omega
      have HPl:=Lib.hid (plus_any m1 m2 1 0 hmb.1 hmb.2 (by omega) (by omega) w8)
      have Hw7:=Lib.hid hw7
      have Hw8:=Lib.hid hw8
      have Hm12:=Lib.hid (And.intro hm1 hm2)
      rw [hm1,hm2] at hw8
      have Hw8':=Lib.hid hw8
      have hgl6:=hK6.row.lt
      clear hK6 hK7 hV7 ngb p8 p14 p15 q8 q14 q15 hw7 hw8 hb8 r17 ho6 hb6 hm1 hm2 hmb hx1 e2' e6'
      go_upto_region 14 with fail
      rw [←Hw7.out]
      clear t6 f6
      go_upto_region 15 with fail
      rw [←Hw8'.out]
      clear b0 b1 c0 c1'
      go_wp2_with fail
      refine HPl.out.mono ?_
      rintro e w9 ⟨rfl,hb9⟩
      have Hr9:=Lib.hid (HR8.out.below hb9 HR8.out.lt)
      have HK9:=Lib.hid (HK8.out.below hb9)
      have HV9:=Lib.hid (HV8.out.trans (KV.of_below (g:=g) (mb:=mb) hb9 HK8.out.hB))
      clear hb9
      go_wp2_with (refine wpList_store_row rfl 151 (.tmp 8) (.tmp 109) rfl _ #[.int .i64 (capS m1 1),.int .i64 (capS m2 0)] rfl rfl _ _ Hr9.out (hIbd _ _) rfl (hA2 _ _) ?_)
      obtain⟨k1,k2⟩:=two_cellsV (setRow_heap w9 w.heap.size _ #[.int .i64 (capS m1 1),.int .i64 (capS m2 0)] _ _ Hr9.out)
      refine bodyPost_ret (v:=.tuple #[.agg #[.int .i64 (capS m1 1),.int .i64 (capS m2 0)],.int .i64 ((lo+2+a.size+dd.size:Nat):Int)]) (by simp [results,Tryz.results109,go_sem,k1,k2]) rfl ?_
      rw [hE5.out,←Hm12.out.1,←Hm12.out.2]
      exact⟨rfl,_,HK9.out.boxG Hr9.out (by decide) (by decide) (by decide) (by decide) HW.out.hB (grownBy_setRow3 _ _ _),HV9.out.boxG (Nat.le_refl _) HW.out.hB (grownBy_setRow3 _ _ _),Hm6.out⟩
     ·have HLv:=Lib.hid (levelW_bad wB.heap.size g mb v d6 s2 wj HK5.out (lo+2+a.size+dd.size) rest.length hlv)
      have hE5:Hid (choA p h a (some dd) lo base loop st=.bad (lo+2+a.size+dd.size) 14):=by show _=_;rw [hE4.out,if_pos (by simpa using hlv)]
      clear hlv
      go_wp2_with (refine wpList_store_row rfl 151 (.tmp 15) (.tmp 82) rfl _ #[.int .i64 ys,.int .i64 ye] rfl rfl _ _ Ho15.out (hIbd _ _) rfl (hA2 _ _) ?_)
      rw [←Hwj.out]
      refine HLv.out.mono ?_
      rintro e wk ⟨rfl,hwk⟩
      obtain rfl:=hwk.symm
      refine⟨rfl,?_⟩
      rw [hE5.out]
      exact⟨rfl,HV5.out.kw.ki.below⟩
   ·have HLv:=Lib.hid (levelW_bad wB.heap.size g mb v d3 s1 w4 HK4.out (lo+1+a.size) rest.length hlv)
    have hE3:Hid (choA p h a (some dd) lo base loop st=.bad (lo+1+a.size) 14):=by show _=_;rw [hE2.out,if_pos (by simpa using hlv)]
    clear hlv
    go_upto_region 6 with fail
    rw [←Hw4.out]
    go_wp2_with fail
    refine HLv.out.mono ?_
    rintro e w5 ⟨rfl,hw5⟩
    obtain rfl:=hw5.symm
    refine⟨rfl,?_⟩
    rw [hE3.out]
    exact⟨rfl,HV4.out.kw.ki.below⟩
end Go.Proofs.YtpaplehcafeeaaaGreatDoor
namespace Go.Proofs.YtpaplehcafeeaaaGreatDoor
open Go.RowKit Go.Proofs
variable [Inhabited ArgB]
def gN(l:List Inv)(k:Nat):Inv:=l.getD k ⟨0,0,[]⟩
def Invs(w:World)(A:Option Addr)(n c:Nat)(l:List Inv):Prop:=l.length=n∧n≤c∧(0 < n→∃ b off,A=some ⟨b,off,none⟩∧b < w.heap.size∧∀ i,i < n→w.cell? ⟨b,off+i * 3,none⟩=some (.int .i64 (gN l i).at_)∧w.cell? ⟨b,off+i * 3+1,none⟩=some (.int .i64 (gN l i).most)∧∃ A' c',w.cell? ⟨b,off+i * 3+2,none⟩=some (.slice A' (gN l i).locs.length c')∧Ivs w A' (gN l i).locs.length c' (gN l i).locs)
theorem Invs.below{w w':World}{A:Option Addr}{n c:Nat}{l:List Inv}(h:Invs w A n c l)(hb:Below w.heap.size w w'):Invs w' A n c l:=⟨h.1,h.2.1,fun hn=>by
 obtain⟨b,off,rfl,hlt,hc⟩:=h.2.2 hn
 refine⟨b,off,rfl,Nat.lt_of_lt_of_le hlt hb.size,fun i hi=>?_⟩
 obtain⟨h1,h2,A',c',h3,h4⟩:=hc i hi
 exact⟨(hb.cell (p:=⟨b,off+i * 3,none⟩) hlt).trans h1,(hb.cell (p:=⟨b,off+i * 3+1,none⟩) hlt).trans h2,A',c',(hb.cell (p:=⟨b,off+i * 3+2,none⟩) hlt).trans h3,h4.below hb⟩⟩
theorem Invs.get{w:World}{A:Option Addr}{n c:Nat}{l:List Inv}(h:Invs w A n c l){k:Nat}(hk:k < n):∃ b off,A=some ⟨b,off,none⟩∧b < w.heap.size∧w.cell? ⟨b,off+k * 3,none⟩=some (.int .i64 (gN l k).at_)∧w.cell? ⟨b,off+k * 3+1,none⟩=some (.int .i64 (gN l k).most)∧∃ A' c',w.cell? ⟨b,off+k * 3+2,none⟩=some (.slice A' (gN l k).locs.length c')∧Ivs w A' (gN l k).locs.length c' (gN l k).locs:=by
 obtain⟨b,off,rfl,hlt,hc⟩:=h.2.2 (by omega)
 exact⟨b,off,rfl,hlt,hc k hk⟩
end Go.Proofs.YtpaplehcafeeaaaGreatDoor
namespace Go.Proofs.YtpaplehcafeeaaaGreatDoor
open Go.RowKit Go.Proofs
def encBo(x:Bool):List Value:=[.bool x]
theorem encBo_one(x:Bool):∀ u∈encBo x,u.oneCell'=true:=by
 intro u hu
 simp only [encBo,List.mem_singleton] at hu
 rw [hu];rfl
theorem uBo:Tryz.prog.underlying 51=some (.slice 4):=by kernel_rfl
theorem infoBo:(Tryz.prog.info? 4).map (fun i=>(i.zero,i.size,i.bytes))=some (some (.bool false),1,1):=by kernel_rfl
theorem shallow_any(A:Option Addr)(n cc:Nat)(c:List Ins)(w:World)(hc:Codes w A n cc c)(hn:n≤1000000) :
  Calls Tryz.prog 25 #[.slice A n cc] w fun e w'=>(∃ b,e=.returned (.bool b))∧Below w.heap.size w w':=by
 have HC:=Lib.hid hc
 clear hc
 go_enter Tryz.func25,Tryz.ntmps25
 go_wp2_with fail
 go_loopw [3,4,5,6] (fun o l i _ wr=>∃ (k:Nat) (L:Int) (A':Option Addr) (m' c':Nat) (bs:List Bool),k≤n∧i=.int .i64 (k:Int)∧l=.int .i64 L∧(-(k:Int)≤L∧L≤k)∧o=.slice A' m' c'∧m'≤k∧Hid (OwnS encBo 1 wr w.heap.size 4 A' m' c' bs∧Below w.heap.size w wr)) (fun _ _ i _ _=>n-(intOf i).toNat)
 case atStart=>exact⟨0,0,none,0,0,[],Nat.zero_le _,rfl,rfl,by omega,rfl,Nat.le_refl _,Lib.hid ⟨OwnS.nil _ _ _ _ _,Below.refl _ _⟩⟩
 case round=>
  obtain⟨k,L,A',m',c',bs,hk,rfl,rfl,hL,rfl,hm,HR⟩:=hrel
  by_cases hlt:k < n
  ·have d0:decide ((k:Int) < (n:Int))=true:=by simp;omega
   have d0':decide (k < n)=true:=by simp;omega
   by_cases h3:L≤3
   ·have d3:decide (L≤3)=true:=decide_eq_true h3
    obtain⟨cb,off,rfl,hcb,hcell⟩:=HC.out.get hlt
    have x0:wr.cell? ⟨cb,off+k * 2,none⟩=some (.int .i64 (oI c k)):=(HR.out.2.cell (p:=⟨cb,off+k * 2,none⟩) hcb).trans (hcell k hlt).1
    clear hcell
    obtain⟨op,hop⟩:∃ op,op=oI c k:=⟨_,rfl⟩
    rw [←hop] at x0
    clear hop
    have HB:=Lib.hid HR.out.2.size
    have hml:=Lib.hid (show m'+1≤maxLen∧(m'+1) * 1≤140737488355328 by unfold maxLen;omega)
    by_cases h29:op=29
    ·subst h29
     go_wp2_with (at_builtin;refine wpList_pushT (enc:=encBo) rfl (.tmp 24) (.tmp 25) rfl uBo infoBo encBo_one rfl (fun _=>rfl) (by decide) rfl HR.out.1 HB.out true _ rfl rfl hml.out.1 hml.out.2 ?_;intro A8 c8 w8 ho8 hb8 hg8 hf8)
     have HN:=Lib.hid (And.intro ho8 (HR.out.2.trans hb8))
     clear ho8 hb8 hg8 hf8
     go_roundw
     case rel=>exact⟨k+1,L+1,A8,m'+1,c8,_,by omega,by go_num,rfl,by omega,rfl,by omega,HN⟩
     case measure=>(simp [intOf]) <;> omega
    have q29:(op==29)=false:=by simpa using h29
    by_cases h27:op=27
    ·subst h27
     go_wp2_with (at_builtin;refine wpList_pushT (enc:=encBo) rfl (.tmp 31) (.tmp 32) rfl uBo infoBo encBo_one rfl (fun _=>rfl) (by decide) rfl HR.out.1 HB.out false _ rfl rfl hml.out.1 hml.out.2 ?_;intro A8 c8 w8 ho8 hb8 hg8 hf8)
     have HN:=Lib.hid (And.intro ho8 (HR.out.2.trans hb8))
     clear ho8 hb8 hg8 hf8
     go_roundw
     case rel=>exact⟨k+1,L,A8,m'+1,c8,_,by omega,by go_num,rfl,by omega,rfl,by omega,HN⟩
     case measure=>(simp [intOf]) <;> omega
    have q27:(op==27)=false:=by simpa using h27
    by_cases h31:op=31
    ·subst h31
     by_cases hm0:0 < m'
     ·obtain⟨j,rfl⟩:∃ j,m'=j+1:=⟨m'-1,by omega⟩
      obtain⟨ob,rfl,hob1,hob2,hoc⟩:=HR.out.1.get (fun _=>rfl) (by decide) false (by omega)
      have y0:wr.cell? ⟨ob,j,none⟩=some (.bool (bs.getD j false)):=by have:=hoc j 0 _ (by omega) rfl;rw [show j * 1+0=j by omega] at this;exact this
      clear hoc
      obtain⟨z,hz⟩:∃ z,z=bs.getD j false:=⟨_,rfl⟩
      rw [←hz] at y0
      clear hz
      have hcut:=Lib.hid (HR.out.1.cut (fun _=>rfl) (by decide) (k:=j) (by omega))
      have hjc:j+1≤c':=HR.out.1.cap
      have hj1:((j:Int)+1-1)=(j:Int):=by omega
      have dj:decide ((0:Int)≤(j:Int))=true:=decide_eq_true (by omega)
      cases z with
      | true=>
       go_wp2_with fail
       go_roundw
       case rel=>exact⟨k+1,L-1,some ⟨ob,0,none⟩,j,c',bs.take j,by omega,by go_num,by go_num,by omega,rfl,by omega,Lib.hid ⟨hcut.out,HR.out.2⟩⟩
       case measure=>(simp [intOf]) <;> omega
      | false=>
       go_wp2_with fail
       go_roundw
       case rel=>exact⟨k+1,L,some ⟨ob,0,none⟩,j,c',bs.take j,by omega,by go_num,rfl,by omega,rfl,by omega,Lib.hid ⟨hcut.out,HR.out.2⟩⟩
       case measure=>(simp [intOf]) <;> omega
     ·obtain rfl:m'=0:=by omega
      go_wp2_with fail
      go_roundw
      case rel=>exact⟨k+1,L,A',0,c',bs,by omega,by go_num,rfl,by omega,rfl,by omega,HR⟩
      case measure=>(simp [intOf]) <;> omega
    have q31:(op==31)=false:=by simpa using h31
    go_wp2_with fail
    go_roundw
    case rel=>exact⟨k+1,L,A',m',c',bs,by omega,by go_num,rfl,by omega,rfl,by omega,HR⟩
    case measure=>(simp [intOf]) <;> omega
   ·have d3:decide (L≤3)=false:=decide_eq_false h3
    go_wp2_with fail
    go_ret
    first | exact⟨⟨_,rfl⟩,HR.out.2⟩ | exact⟨.inl rfl,HR.out.2⟩ | exact⟨.inr rfl,HR.out.2⟩
  ·have d0:decide ((k:Int) < (n:Int))=false:=by simp;omega
   have d0':decide (k < n)=false:=by simp;omega
   go_wp2_with fail
   go_ret
   first | exact⟨⟨_,rfl⟩,HR.out.2⟩ | exact⟨.inl rfl,HR.out.2⟩ | exact⟨.inr rfl,HR.out.2⟩
end Go.Proofs.YtpaplehcafeeaaaGreatDoor
