/- Xx Ke Kf Ma Md. -/
import Derived.Test.YtpaplehcafeeaaaGreatDoorLE34
import Derived.Test.YtpaplehcafeeaaaGreatDoorLE35
import Derived.Test.YtpaplehcafeeaaaGreatDoorLE28
import Derived.Deep.CutBlock
import Derived.Deep.DeepCutAuto
import Derived.Test.YtpaplehcafeeaaaGreatDoorLE30
set_option maxRecDepth 100000
set_option maxHeartbeats 40000000
set_option linter.unusedVariables false
set_option linter.unusedSimpArgs false
set_option linter.unusedSectionVars false
namespace Go.Proofs.YtpaplehcafeeaaaGreatDoor
open Go.RowKit Go.Proofs
instance argNone : Inhabited ArgB := ⟨⟨fun _ => False⟩⟩
theorem run_store_fn{P:Program}{w:World}{a:Addr}{m:Mode}(f:Fn)(x y:Array Value):(store a (.func f x y) m).run P w=Go.stored P w a (.func f x y) m:=run_store P w a _ m rfl
attribute [local go_sem] run_store_fn
theorem widening_any(aA cA:Option Addr)(an ac cn cc:Nat)(L:Int)(w:World):Calls Tryz.prog 40 #[.agg #[.slice aA an ac,.int .i64 L,.slice cA cn cc]] w fun e w'=>e=.returned (.agg #[.func (.func 79) #[] #[],.func (.func 80) #[] #[.pointer (some ⟨w.heap.size,0,none⟩)]])∧rowV w' w.heap.size 25 #[.slice aA an ac,.int .i64 L,.slice cA cn cc]∧Below w.heap.size w w':=by
 have hmf:∀ (fn:Fn) (first cap:Array Value) (w:World),(Instr.makeFunc fn first cap).run Tryz.prog w=.ok (.func fn first cap) w:=fun _ _ _ _=>rfl
 obtain⟨wa,hwa⟩:∃ x,x=w.alloc (.cells #[.slice aA an ac,.int .i64 L,.slice cA cn cc] 25):=⟨_,rfl⟩
 have ka:Below w.heap.size w wa:=by rw [hwa];exact balloc (Below.refl _ _) _
 have ra:rowV wa w.heap.size 25 #[.slice aA an ac,.int .i64 L,.slice cA cn cc]:=by rw [hwa];exact rowV.new w _ _
 have Hwa:=Lib.hid hwa
 have HA:=Lib.hid (And.intro ra ka)
 clear hwa ka ra
 go_enter Tryz.func40,Tryz.ntmps40
 go_wp2_with fail
 rw [←Hwa.out]
 have hsz:wa.heap.size=w.heap.size+1:=by rw [Hwa.out];simp
 have k2:=balloc (Below.refl wa.heap.size wa) (.cells #[.func (.func 79) #[] #[],.func (.func 80) #[] #[.pointer (some ⟨w.heap.size,0,none⟩)]] 93)
 refine bodyPost_ret (v:=.agg #[.func (.func 79) #[] #[],.func (.func 80) #[] #[.pointer (some ⟨w.heap.size,0,none⟩)]]) ?_ rfl ⟨rfl,HA.out.1.below k2 HA.out.1.lt,HA.out.2.trans (k2.mono HA.out.2.size)⟩
 have r2:=rowV.new wa 93 #[.func (.func 79) #[] #[],.func (.func 80) #[] #[.pointer (some ⟨w.heap.size,0,none⟩)]]
 rw [hsz] at r2
 obtain⟨y0,y1⟩:=two_cellsV r2
 simp [results,Tryz.results40,go_sem,y0,y1]
theorem whole_stuck{p:Prg}{h:Hd}{t:Tr}{n:Nat}(hok:PrgOk p)(hn:p.locs=(n:Int))(hh:HdOk n h)(ht:parse p.code=.ok t p.code.length):whole p h t≠.stuck:=by
 obtain⟨-,-,fk3,fk4,-⟩:=parse_ok ht
 have hg:=anaT_good hok hn hh t 0 0 0 (st0 p) 0 0 false fk3 (by rw [fk4,Nat.zero_add];exact Nat.le_refl _) (st0_ok hok hn) (by omega) (by omega) (by unfold tooMany;omega)
 unfold whole
 cases ha:anaT p h t 0 0 0 (st0 p) 0 0 with
 | stuck=>rw [ha] at hg;exact hg.elim
 | bad a x=>intro e;cases e
 | ok st s e=>
  simp only []
  split
  ·intro e;cases e
  ·intro e;cases e
theorem whole_bad{p:Prg}{h:Hd}{t:Tr}{a:Nat}{x:Int}(hh:HdAll p.code h)(ht:parse p.code=.ok t p.code.length)(hw:whole p h t=.bad a x):a≤p.code.length∧0 < x:=by
 obtain⟨-,-,fk3,fk4,-⟩:=parse_ok ht
 unfold whole at hw
 cases ha:anaT p h t 0 0 0 (st0 p) 0 0 with
 | stuck=>rw [ha] at hw;cases hw
 | bad a' x'=>
  rw [ha] at hw
  injection hw with h1 h2
  subst h1 h2
  obtain⟨h3,h4⟩:=anaT_bad hh t 0 0 0 (st0 p) 0 0 false a' x' fk3 (by rw [fk4,Nat.zero_add];exact Nat.le_refl _) ha
  exact⟨by rw [←fk4];omega,h4⟩
 | ok st s e=>
  rw [ha] at hw
  simp only [] at hw
  split at hw
  ·injection hw with h1 h2
   subst h1 h2
   exact⟨Nat.le_refl _,by decide⟩
  ·cases hw
def RepT(w:World)(rb:Nat)(rp:Rp):Prop:=∃ A n c,rowV w rb 39 #[.int .i64 rp.steps,.int .i64 rp.emits,.int .i64 rp.hgt,.slice A n c]∧InvT w A n c rp.inv
def verO(r:RR):Option (Int × Int):=match r with
 | .bad a x=>some ((a:Int),x)
 | .ok rp=>if 281474976710656 < rp.steps then some (0,18) else none
 | .stuck=>none
def RRRep(rb:Nat)(r:RR)(w:World):Prop:=match r with
 | .ok rp=>RepT w rb rp
 | _=>True
theorem anaWid_any(w:World)(aA cA:Option Addr)(an ac cn cc:Nat)(L:Int)(p:Prg)(hp:Progs w aA an ac L cA cn cc p)(hok:PrgOk p)(t:Tr)(ht:parse p.code=.ok t p.code.length)(pb:Nat)(hr:rowV w pb 25 #[.slice aA an ac,.int .i64 L,.slice cA cn cc]) :
  Calls Tryz.prog 39 #[.agg #[.slice aA an ac,.int .i64 L,.slice cA cn cc],.agg #[.func (.func 79) #[] #[],.func (.func 80) #[] #[.pointer (some ⟨pb,0,none⟩)]]] w (WhoR w (whole p .widen t)):=by
 have hl:=hok.locs
 refine analyseW_any w aA cA an ac cn cc L p p.locs.toNat hp hok (by omega) t ht .widen trivial _ _ (fun wB v _ h=>entC_widen wB v p _ h) (fun wB v P hb h e1 e2 e3 e4 e5 e6 e7 hk=>agnC_widen wB v p P _ hk (by omega) pb h ?_)
 rw [e1,e2,e3,e4,e5,e6,e7]
 exact hr.below hb hr.lt
theorem verify1_any(B0:Nat)(w:World)(pb rb bx:Nat)(aA cA:Option Addr)(an ac cn cc:Nat)(L:Int)(p:Prg)(hp:Progs w aA an ac L cA cn cc p)(hok:PrgOk p)(t:Tr)(ht:parse p.code=.ok t p.code.length)
  (hpr:rowV w pb 25 #[.slice aA an ac,.int .i64 L,.slice cA cn cc]) (z0 z1 z2 z3:Value) (hrr:rowV w rb 39 #[z0,z1,z2,z3]) (hB:B0≤rb) (hb0:rowV w bx 3 #[.int .i64 0]) (hb1:rowV w (bx+1) 31 #[.int .i64 0]) :
  Calls Tryz.prog 38 #[.pointer (some ⟨pb,0,none⟩),.pointer (some ⟨rb,0,none⟩)] w (ActR B0 w bx (RRRep rb (whole p .widen t)) (verO (whole p .widen t))):=by
 have HP:=Lib.hid hp
 have HO:=Lib.hid hok
 have Ht:=Lib.hid ht
 obtain⟨c0,c1,c2⟩:=three_cellsV hpr
 have hwd:∀ q,Calls Tryz.prog 40 #[.agg #[.slice aA an ac,.int .i64 L,.slice cA cn cc]] (w.drewN q) fun e w'=>e=.returned (.agg #[.func (.func 79) #[] #[],.func (.func 80) #[] #[.pointer (some ⟨w.heap.size,0,none⟩)]])∧rowV w' w.heap.size 25 #[.slice aA an ac,.int .i64 L,.slice cA cn cc]∧Below w.heap.size w w':=fun q=>(widening_any aA cA an ac cn cc L (w.drewN q)).mono fun e w' h=>⟨h.1,h.2.1,((Drawn.drewN w q).below _).trans h.2.2⟩
 have hpl:=hpr.lt
 have hrl:=hrr.lt
 have HR:=Lib.hid (And.intro hpr (And.intro hrr (And.intro hb0 hb1)))
 have HB:=Lib.hid hB
 clear hp hok ht hb0 hb1 hB hpr
 have hAn:Hid (∀ (w2:World) (q:Nat),Below w.heap.size w w2→rowV w2 w.heap.size 25 #[.slice aA an ac,.int .i64 L,.slice cA cn cc]→Calls Tryz.prog 39 #[.agg #[.slice aA an ac,.int .i64 L,.slice cA cn cc],.agg #[.func (.func 79) #[] #[],.func (.func 80) #[] #[.pointer (some ⟨w.heap.size,0,none⟩)]]] (w2.drewN q) (WhoR (w2.drewN q) (whole p .widen t))):=fun w2 q hb hr=>
  anaWid_any (w2.drewN q) aA cA an ac cn cc L p (HP.out.below (bdrew hb q)) HO.out t Ht.out w.heap.size hr
 cases hwh:whole p .widen t with
 | stuck=>exact absurd hwh (whole_stuck (n:=p.locs.toNat) HO.out (by have:=HO.out.locs;omega) trivial Ht.out)
 | bad a x=>
  have HAo:Hid (∀ (w2:World) (q:Nat),Below w.heap.size w w2→rowV w2 w.heap.size 25 #[.slice aA an ac,.int .i64 L,.slice cA cn cc]→Calls Tryz.prog 39 #[.agg #[.slice aA an ac,.int .i64 L,.slice cA cn cc],.agg #[.func (.func 79) #[] #[],.func (.func 80) #[] #[.pointer (some ⟨w.heap.size,0,none⟩)]]] (w2.drewN q) fun e w'=>e=.panicked [{ v:=failW a x,recovered:=false }]∧Below w2.heap.size w2 w'):=fun w2 q hb hr=>(hAn.out w2 q hb hr).mono fun e w' h=>by
   rw [hwh] at h
   exact⟨h.1,((Drawn.drewN w2 q).below _).trans h.2⟩
  clear hAn hwh
  go_enter Tryz.func38,Tryz.ntmps38
  go_upto_region 0 with fail
  go_region_law (first | (go_simp;refine (hwd _).mono ?_;rintro e w2 ⟨rfl,hr2,hb2⟩;have v0:=(hb2.cell (p:=⟨pb,0,none⟩) hpl).trans c0;have v1:=(hb2.cell (p:=⟨pb,1,none⟩) hpl).trans c1;have v2:=(hb2.cell (p:=⟨pb,2,none⟩) hpl).trans c2) | (go_simp;refine (HAo.out w2 _ hb2 hr2).mono ?_;rintro e w3 ⟨rfl,hb23⟩;refine (fun (_:wpAny Tryz.prog .any #[] (fun _ _ _=>True) 0 #[] { tmps:=#[],defers:=[] } w3)=>⟨rfl,⟨rfl,by have hb3:=hb2.trans (hb23.mono hb2.size);exact⟨hb3.mono (Nat.le_trans HB.out (Nat.le_of_lt hrl)),HR.out.2.2.1.below hb3 HR.out.2.2.1.lt,HR.out.2.2.2.below hb3 HR.out.2.2.2.lt⟩⟩⟩) ?_) | (go_simp;refine (HAo.out w2 0 hb2 hr2).mono ?_;rintro e w3 ⟨rfl,hb23⟩;refine (fun (_:wpAny Tryz.prog .any #[] (fun _ _ _=>True) 0 #[] { tmps:=#[],defers:=[] } w3)=>⟨rfl,⟨rfl,by have hb3:=hb2.trans (hb23.mono hb2.size);exact⟨hb3.mono (Nat.le_trans HB.out (Nat.le_of_lt hrl)),HR.out.2.2.1.below hb3 HR.out.2.2.1.lt,HR.out.2.2.2.below hb3 HR.out.2.2.2.lt⟩⟩⟩) ?_))
  all_goals trivial
 | ok rp=>
  have HAo:Hid (∀ (w2:World) (q:Nat),Below w.heap.size w w2→rowV w2 w.heap.size 25 #[.slice aA an ac,.int .i64 L,.slice cA cn cc]→Calls Tryz.prog 39 #[.agg #[.slice aA an ac,.int .i64 L,.slice cA cn cc],.agg #[.func (.func 79) #[] #[],.func (.func 80) #[] #[.pointer (some ⟨w.heap.size,0,none⟩)]]] (w2.drewN q) fun e w'=>∃ A n c,e=.returned (.agg #[.int .i64 rp.steps,.int .i64 rp.emits,.int .i64 rp.hgt,.slice A n c])∧InvT w' A n c rp.inv∧Below w2.heap.size w2 w'):=fun w2 q hb hr=>(hAn.out w2 q hb hr).mono fun e w' h=>by
   rw [hwh] at h
   obtain⟨⟨A,n,c,h1,h2⟩,h3⟩:=h
   exact⟨A,n,c,h1,h2 (fun b hq=>hq),((Drawn.drewN w2 q).below _).trans h3⟩
  obtain⟨⟨rs,re,rh,ri⟩,hrp⟩:∃ x,x=rp:=⟨_,rfl⟩
  rw [←hrp] at HAo ⊢
  simp only [] at HAo
  have hne:Hid (pb≠rb):=fun e=>by
   have h1:=HR.out.1
   have h2:=hrr
   unfold rowV at h1 h2
   rw [e,h2] at h1
   injection h1 with h1
   injection h1 with _ h1 _
   exact absurd h1 (by decide)
  clear hAn hwh hrp
  go_enter Tryz.func38,Tryz.ntmps38
  go_upto_region 0 with fail
  go_region_held3 (fun W=>W.cell? ⟨pb,0,none⟩=some (.slice aA an ac)∧W.cell? ⟨pb,1,none⟩=some (.int .i64 L)∧W.cell? ⟨pb,2,none⟩=some (.slice cA cn cc))
   (first | go_keep | exact⟨v0,v1,v2⟩ | exact⟨u0,u1,u2⟩ | exact⟨q0,q1,q2⟩)
   (first
    | (go_at_call 40;refine (hwd _).mono ?_;rintro e w2 ⟨rfl,hr2,hb2⟩;have v0:=(hb2.cell (p:=⟨pb,0,none⟩) hpl).trans c0;have v1:=(hb2.cell (p:=⟨pb,1,none⟩) hpl).trans c1;have v2:=(hb2.cell (p:=⟨pb,2,none⟩) hpl).trans c2)
    | (go_at_call 39;refine (HAo.out w2 0 hb2 hr2).mono ?_;rintro e w3 ⟨A3,n3,c3,rfl,hinv3,hb23⟩;have hb3:=hb2.trans (hb23.mono hb2.size);have u0:=(hb3.cell (p:=⟨pb,0,none⟩) hpl).trans c0;have u1:=(hb3.cell (p:=⟨pb,1,none⟩) hpl).trans c1;have u2:=(hb3.cell (p:=⟨pb,2,none⟩) hpl).trans c2;have r3:=hrr.below hb3 hrl;obtain⟨t0,t1,t2,t3⟩:=four_cellsV r3;have f0:=frozen_rowV' r3 0;have f1:=frozen_rowV' r3 1;have f2:=frozen_rowV' r3 2;have f3:=frozen_rowV' r3 3;have gR:w3.grownBy ((((w3.setCell ⟨rb,0,none⟩ (.int .i64 rs)).setCell ⟨rb,1,none⟩ (.int .i64 re)).setCell ⟨rb,2,none⟩ (.int .i64 rh)).setCell ⟨rb,3,none⟩ (.slice A3 n3 c3)) (some rb):=grownBy.setCell' (grownBy.setCell' (grownBy.setCell' (grownBy.setCell' (World.grownBy.refl _ _) _) _) _) _;have hpl3:=Nat.lt_of_lt_of_le hpl hb3.size;have q0:=(World.cell?_of_block (a:=⟨pb,0,none⟩) (gR.block pb hpl3 (fun e=>hne.out (by injection e)))).trans u0;have q1:=(World.cell?_of_block (a:=⟨pb,1,none⟩) (gR.block pb hpl3 (fun e=>hne.out (by injection e)))).trans u1;have q2:=(World.cell?_of_block (a:=⟨pb,2,none⟩) (gR.block pb hpl3 (fun e=>hne.out (by injection e)))).trans u2))
  rename_i hHeld
  have hneb:Hid (bx≠rb∧bx+1≠rb):=⟨fun e=>by
   have h1:=HR.out.2.2.1
   have h2:=hrr
   unfold rowV at h1 h2
   rw [e,h2] at h1
   injection h1 with h1
   injection h1 with _ h1 _
   exact absurd h1 (by decide),fun e=>by
   have h1:=HR.out.2.2.2
   have h2:=hrr
   unfold rowV at h1 h2
   rw [e,h2] at h1
   injection h1 with h1
   injection h1 with _ h1 _
   exact absurd h1 (by decide)⟩
  have r4:=(((r3.set 0 (.int .i64 rs)).set 1 (.int .i64 re)).set 2 (.int .i64 rh)).set 3 (.slice A3 n3 c3)
  have hinv4:=hinv3.grown gR r3 (by decide) (by decide)
  have hb4:=(hb3.mono (Nat.le_trans HB.out (Nat.le_of_lt hrl))).grown gR (Nat.le_trans (Nat.le_trans HB.out (Nat.le_of_lt hrl)) hb3.size) (fun k hk=>by injection hk with hk;rw [←hk];exact HB.out)
  have d0:=(HR.out.2.2.1.below hb3 HR.out.2.2.1.lt).grown gR (fun e=>hneb.out.1 (by injection e))
  have d1:=(HR.out.2.2.2.below hb3 HR.out.2.2.2.lt).grown gR (fun e=>hneb.out.2 (by injection e))
  obtain⟨w4,hw4⟩:∃ x,x=(((w3.setCell ⟨rb,0,none⟩ (.int .i64 rs)).setCell ⟨rb,1,none⟩ (.int .i64 re)).setCell ⟨rb,2,none⟩ (.int .i64 rh)).setCell ⟨rb,3,none⟩ (.slice A3 n3 c3):=⟨_,rfl⟩
  rw [←hw4] at r4 hinv4 hb4 d0 d1 ⊢
  obtain⟨s0,s1,s2,s3⟩:=four_cellsV r4
  have HN:Hid (RepT w4 rb ⟨rs,re,rh,ri⟩∧Below B0 w w4∧rowV w4 bx 3 #[.int .i64 0]∧rowV w4 (bx+1) 31 #[.int .i64 0]):=⟨⟨A3,n3,c3,r4,hinv4⟩,hb4,d0,d1⟩
  clear hHeld hneb r4 hinv4 hb4 d0 d1 hw4 gR hpl3 q0 q1 q2 t0 t1 t2 t3 f0 f1 f2 f3 r3 u0 u1 u2 hb3 hb23 hinv3 v0 v1 v2 hr2 hb2 hwd c0 c1 c2
  by_cases hbig:281474976710656 < rs
  ·have e0:decide (rs≤281474976710656)=false:=by simp;omega
   have hv:Hid (verO (.ok ⟨rs,re,rh,ri⟩)=some (0,18)):=by show (if _ then _ else _)=_;rw [if_pos hbig]
   clear hbig
   go_wp2_with fail
   refine (demandW_bad _ _ _).mono ?_
   rintro e w5 ⟨rfl,hw5⟩
   subst hw5
   refine⟨rfl,?_⟩
   rw [hv.out]
   exact⟨rfl,HN.out.2⟩
  ·have e0:decide (rs≤281474976710656)=true:=by simp;omega
   have hv:Hid (verO (.ok ⟨rs,re,rh,ri⟩)=none):=by show (if _ then _ else _)=_;rw [if_neg hbig]
   clear hbig
   go_wp2_with fail
   refine (demandW_ok _ _ _).mono ?_
   rintro e w5 ⟨rfl,hw5⟩
   obtain rfl:=hw5.symm
   go_wp2_with fail
   refine bodyPost_ret (v:=.tuple #[]) (by simp [results,Tryz.results38,go_sem]) rfl ?_
   rw [hv.out]
   exact⟨⟨rfl,HN.out.1⟩,HN.out.2⟩
def VerR(w:World)(r:RR)(e:Ending)(w':World):Prop:=match r with
 | .stuck=>False
 | .bad a x=>e=.returned (.tuple #[.agg #[.int .i64 0,.int .i64 0,.int .i64 0,.slice none 0 0],.int .i64 (a:Int),.int .i64 x])∧Below w.heap.size w w'
 | .ok rp=>(∃ A n c,e=.returned (.tuple #[.agg #[.int .i64 rp.steps,.int .i64 rp.emits,.int .i64 rp.hgt,.slice A n c],.int .i64 0,.int .i64 0])∧InvT w' A n c rp.inv)∧Below w.heap.size w w'
theorem rep4{w:World}{R:Nat}{z0 z1 z2 z3:Value}(h:rowV w R 39 #[z0,z1,z2,z3])(a b c d:Value):∃ W,W=(((w.setCell ⟨R,0,none⟩ a).setCell ⟨R,1,none⟩ b).setCell ⟨R,2,none⟩ c).setCell ⟨R,3,none⟩ d∧rowV W R 39 #[a,b,c,d]∧w.grownBy W (some R):=
 ⟨_,rfl,(((h.set 0 a).set 1 b).set 2 c).set 3 d,grownBy.setCell' (grownBy.setCell' (grownBy.setCell' (grownBy.setCell' (World.grownBy.refl _ _) _) _) _) _⟩
theorem ver_boxes(w:World)(aA cA:Option Addr)(an ac cn cc:Nat)(L:Int):∃ w1,w1=(w.alloc (.cells #[.slice aA an ac,.int .i64 L,.slice cA cn cc] 25)).alloc (.cells #[.int .i64 0,.int .i64 0,.int .i64 0,.slice none 0 0] 39)∧Below w.heap.size w w1∧rowV w1 w.heap.size 25 #[.slice aA an ac,.int .i64 L,.slice cA cn cc]∧rowV w1 (w.heap.size+1) 39 #[.int .i64 0,.int .i64 0,.int .i64 0,.slice none 0 0]∧w1.heap.size=w.heap.size+1+1:=by
 have r1:=rowV.new w 25 #[.slice aA an ac,.int .i64 L,.slice cA cn cc]
 have e1:(w.alloc (.cells #[.slice aA an ac,.int .i64 L,.slice cA cn cc] 25)).heap.size=w.heap.size+1:=by simp
 obtain⟨wa,hwa⟩:∃ x,x=w.alloc (.cells #[.slice aA an ac,.int .i64 L,.slice cA cn cc] 25):=⟨_,rfl⟩
 have k1:Below w.heap.size w wa:=by rw [hwa];exact balloc (Below.refl _ _) _
 rw [←hwa] at r1 e1 ⊢
 have r3:=rowV.new wa 39 #[.int .i64 0,.int .i64 0,.int .i64 0,.slice none 0 0]
 have k3:Below wa.heap.size wa (wa.alloc (.cells #[.int .i64 0,.int .i64 0,.int .i64 0,.slice none 0 0] 39)):=balloc (Below.refl _ _) _
 rw [e1] at r3
 exact⟨_,rfl,k1.trans (k3.mono k1.size),r1.below k3 r1.lt,r3,by simp [e1]⟩
theorem verifyW_any(A A':Option Addr)(n c n' c':Nat)(L:Int)(p:Prg)(w:World)(hx:Progs w A n c L A' n' c' p) :
  Calls Tryz.prog 15 #[.agg #[.slice A n c,.int .i64 L,.slice A' n' c']] w (VerR w (verP p)):=by
 obtain⟨w0,hw0,g0,r0,rr0,s0⟩:=ver_boxes w A A' n c n' c' L
 have H1:=Lib.hid (checkW_any A A' n c n' c' L p w0 (hx.below g0))
 have hwf:Hid (∀ x∈p.code,0≤x.arg∧x.arg < 4294967296):=fun x h=>⟨(hx.code.2.2.1 x h).1,(hx.code.2.2.1 x h).2.1⟩
 have HX:=Lib.hid (hx.below g0)
 have HG:=Lib.hid (And.intro r0 (And.intro rr0 g0))
 have Hw0:=Lib.hid hw0
 have Hs0:=Lib.hid s0
 obtain⟨c0,c1,c2⟩:=three_cellsV r0
 have hE:Hid (verP p=if (chkP p).2≠0 then .bad (chkP p).1 (chkP p).2
  else match whole p .widen (treeOf p) with
  | .ok r=>if 281474976710656 < r.steps then .bad 0 18 else .ok r
  | x=>x):=rfl
 clear hx g0 r0 rr0 hw0 s0
 obtain⟨ka,ke,hke⟩:∃ a e,chkP p=(a,e):=⟨_,_,rfl⟩
 rw [hke] at H1 hE
 simp only [] at hE
 have hmf:∀ (fn:Fn) (first cap:Array Value) (w:World),(Instr.makeFunc fn first cap).run Tryz.prog w=.ok (.func fn first cap) w:=fun _ _ _ _=>rfl
 go_enter Tryz.func15,Tryz.ntmps15
 go_upto_region 1 with fail
 rw [←Hw0.out]
 go_wp2_with fail
 refine H1.out.mono ?_
 intro e w1 hr
 obtain⟨rfl,hb1⟩:=hr
 have r1:=HG.out.1.below hb1 HG.out.1.lt
 have rr1:=HG.out.2.1.below hb1 HG.out.2.1.lt
 have g1:=HG.out.2.2.trans (hb1.mono HG.out.2.2.size)
 have hx1:=HX.out.below hb1
 clear H1 c0 c1 c2
 by_cases hf:ke=0
 rotate_left 1
 ·have d1:(ke != 0)=true:=by simpa using hf
  have hE2:Hid (verP p=.bad ka ke):=by show _=_;rw [hE.out,if_pos hf]
  obtain⟨t0,t1,t2,t3⟩:=four_cellsV rr1
  have f0:=frozen_rowV' rr1 0
  have f1:=frozen_rowV' rr1 1
  have f2:=frozen_rowV' rr1 2
  have f3:=frozen_rowV' rr1 3
  have HR:=Lib.hid (And.intro rr1 g1)
  clear hf hke r1 rr1 g1 hx1 hb1
  go_wp2_with fail
  obtain⟨W,hW,rW,gW⟩:=rep4 HR.out.1 (.int .i64 0) (.int .i64 0) (.int .i64 0) (.slice none 0 0)
  rw [←hW]
  obtain⟨b0,b1,b2,b3⟩:=four_cellsV rW
  refine bodyPost_ret (v:=.tuple #[.agg #[.int .i64 0,.int .i64 0,.int .i64 0,.slice none 0 0],.int .i64 (ka:Int),.int .i64 ke]) (by simp [results,Tryz.results15,go_sem,b0,b1,b2,b3]) rfl ?_
  rw [hE2.out]
  exact⟨rfl,HR.out.2.grown gW HR.out.2.size (fun k hk=>by injection hk with hk;omega)⟩
 ·subst hf
  obtain⟨hok,hfe,t,ht,htr⟩:=prgOk_of hwf.out (by rw [hke])
  have hE2:Hid (verP p=match whole p .widen t with
   | .ok r=>if 281474976710656 < r.steps then .bad 0 18 else .ok r
   | x=>x):=by show _=_;rw [hE.out,if_neg (by decide),htr]
  obtain⟨w2,hw2⟩:∃ x,x=w1.alloc (.cells #[.int .i64 0,.int .i64 0,.int .i64 0,.slice none 0 0] 39):=⟨_,rfl⟩
  have k2:Below w1.heap.size w1 w2:=by rw [hw2];exact balloc (Below.refl _ _) _
  have rb2:rowV w2 w1.heap.size 39 #[.int .i64 0,.int .i64 0,.int .i64 0,.slice none 0 0]:=by rw [hw2];exact rowV.new w1 _ _
  have hx2:=hx1.below k2
  have r2:=r1.below k2 r1.lt
  have HGu:=Lib.hid (guarded_any w1.heap.size 38 w.heap.size w1.heap.size (verO (whole p .widen t)) (RRRep w1.heap.size (whole p .widen t)) w2 k2.size (enters_of Tryz.func38 (by kernel_rfl) rfl)
   (fun w3 hb3 hs3 hi0 hi1=>verify1_any w1.heap.size w3 w.heap.size w1.heap.size w2.heap.size A A' n c n' c' L p (hx2.below hb3) hok t ht (r2.below hb3 r2.lt) _ _ _ _ (rb2.below hb3 rb2.lt) (Nat.le_refl _) hi0 hi1))
  have HR1:=Lib.hid (And.intro rr1 (And.intro g1 k2))
  have Hw2:=Lib.hid hw2
  have hst:=whole_stuck (n:=p.locs.toNat) (h:=.widen) hok (by have:=hok.locs;omega) trivial ht
  have hbd:∀ a x,whole p .widen t=.bad a x→a≤p.code.length∧0 < x:=fun a x hw=>whole_bad (h:=.widen) trivial ht hw
  clear hke r1 rr1 g1 hx1 hb1 hok hfe ht htr hw2 k2 rb2 hx2 r2 hE
  go_wp2_with fail
  rw [←Hw2.out]
  refine HGu.out.mono ?_
  intro e w3 hr
  clear HGu
  cases hwh:whole p .widen t with
  | stuck=>exact absurd hwh hst
  | bad a x=>
   rw [hwh] at hr hE2
   obtain⟨hr,hb3⟩:=hr
   have hr:e=.returned (.tuple #[.int .i64 (a:Int),.int .i64 x]):=hr
   subst hr
   have hb13:Below w1.heap.size w1 w3:=HR1.out.2.2.trans hb3
   have rr3:=HR1.out.1.below hb13 HR1.out.1.lt
   have g3:=HR1.out.2.1.trans (hb13.mono HR1.out.2.1.size)
   have hx0:x≠0:=by have:=(hbd a x hwh).2;omega
   have d1:(x != 0)=true:=by simpa using hx0
   obtain⟨t0,t1,t2,t3⟩:=four_cellsV rr3
   have f0:=frozen_rowV' rr3 0
   have f1:=frozen_rowV' rr3 1
   have f2:=frozen_rowV' rr3 2
   have f3:=frozen_rowV' rr3 3
   have HR:=Lib.hid (And.intro rr3 g3)
   clear rr3 g3 hb13 hb3 hwh hst hx0 hbd
   go_wp2_with fail
   obtain⟨W,hW,rW,gW⟩:=rep4 HR.out.1 (.int .i64 0) (.int .i64 0) (.int .i64 0) (.slice none 0 0)
   rw [←hW]
   obtain⟨b0,b1,b2,b3⟩:=four_cellsV rW
   refine bodyPost_ret (v:=.tuple #[.agg #[.int .i64 0,.int .i64 0,.int .i64 0,.slice none 0 0],.int .i64 (a:Int),.int .i64 x]) (by simp [results,Tryz.results15,go_sem,b0,b1,b2,b3]) rfl ?_
   rw [hE2.out]
   exact⟨rfl,HR.out.2.grown gW HR.out.2.size (fun k hk=>by injection hk with hk;omega)⟩
  | ok rp=>
   rw [hwh] at hr hE2
   obtain⟨hr,hb3⟩:=hr
   by_cases hbig:281474976710656 < rp.steps
   ·have hv:verO (.ok rp)=some (0,18):=by show (if _ then _ else _)=_;rw [if_pos hbig]
    have hE3:Hid (verP p=.bad 0 18):=by show _=_;rw [hE2.out];show (if _ then _ else _)=_;rw [if_pos hbig]
    rw [hv] at hr
    have hr:e=.returned (.tuple #[.int .i64 0,.int .i64 18]):=hr
    subst hr
    have hb13:Below w1.heap.size w1 w3:=HR1.out.2.2.trans hb3
    have rr3:=HR1.out.1.below hb13 HR1.out.1.lt
    have g3:=HR1.out.2.1.trans (hb13.mono HR1.out.2.1.size)
    obtain⟨t0,t1,t2,t3⟩:=four_cellsV rr3
    have f0:=frozen_rowV' rr3 0
    have f1:=frozen_rowV' rr3 1
    have f2:=frozen_rowV' rr3 2
    have f3:=frozen_rowV' rr3 3
    have HR:=Lib.hid (And.intro rr3 g3)
    clear rr3 g3 hb13 hb3 hwh hst hbd hbig hv hE2
    go_wp2_with fail
    obtain⟨W,hW,rW,gW⟩:=rep4 HR.out.1 (.int .i64 0) (.int .i64 0) (.int .i64 0) (.slice none 0 0)
    rw [←hW]
    obtain⟨b0,b1,b2,b3⟩:=four_cellsV rW
    refine bodyPost_ret (v:=.tuple #[.agg #[.int .i64 0,.int .i64 0,.int .i64 0,.slice none 0 0],.int .i64 0,.int .i64 18]) (by simp [results,Tryz.results15,go_sem,b0,b1,b2,b3]) rfl ?_
    rw [hE3.out]
    exact⟨rfl,HR.out.2.grown gW HR.out.2.size (fun k hk=>by injection hk with hk;omega)⟩
   ·have hv:verO (.ok rp)=none:=by show (if _ then _ else _)=_;rw [if_neg hbig]
    have hE3:Hid (verP p=.ok rp):=by show _=_;rw [hE2.out];show (if _ then _ else _)=_;rw [if_neg hbig]
    rw [hv] at hr
    obtain⟨hr,A9,n9,c9,hrow,hinv⟩:=hr
    subst hr
    have hb13:Below w1.heap.size w1 w3:=HR1.out.2.2.trans hb3
    have rr3:=HR1.out.1.below hb13 HR1.out.1.lt
    have g3:=HR1.out.2.1.trans (hb13.mono HR1.out.2.1.size)
    obtain⟨⟨rs,re,rh,ri⟩,hrp⟩:∃ x,x=rp:=⟨_,rfl⟩
    rw [←hrp] at hrow hinv hE3
    simp only [] at hrow hinv
    obtain⟨s0,s1,s2,s3⟩:=four_cellsV hrow
    obtain⟨t0,t1,t2,t3⟩:=four_cellsV rr3
    have f0:=frozen_rowV' rr3 0
    have f1:=frozen_rowV' rr3 1
    have f2:=frozen_rowV' rr3 2
    have f3:=frozen_rowV' rr3 3
    have HR:=Lib.hid (And.intro rr3 (And.intro g3 hinv))
    clear rr3 g3 hb13 hb3 hwh hst hbd hbig hv hE2 hrow hinv hrp
    go_wp2_with fail
    obtain⟨W,hW,rW,gW⟩:=rep4 HR.out.1 (.int .i64 rs) (.int .i64 re) (.int .i64 rh) (.slice A9 n9 c9)
    rw [←hW]
    obtain⟨b0,b1,b2,b3⟩:=four_cellsV rW
    refine bodyPost_ret (v:=.tuple #[.agg #[.int .i64 rs,.int .i64 re,.int .i64 rh,.slice A9 n9 c9],.int .i64 0,.int .i64 0]) (by simp [results,Tryz.results15,go_sem,b0,b1,b2,b3]) rfl ?_
    rw [hE3.out]
    exact⟨⟨A9,n9,c9,rfl,HR.out.2.2.grown gW HR.out.1 (by decide) (by decide)⟩,HR.out.2.1.grown gW HR.out.2.1.size (fun k hk=>by injection hk with hk;omega)⟩
end Go.Proofs.YtpaplehcafeeaaaGreatDoor
namespace Go.Proofs.YtpaplehcafeeaaaGreatDoor
open Go.RowKit Go.Proofs
def gR(l:List RI)(k:Nat):RI:=l.getD k ⟨0,0,0,0,0⟩
def RIs(w:World)(A:Option Addr)(n c:Nat)(l:List RI):Prop:=l.length=n∧n≤c∧(0 < n→∃ b off,A=some ⟨b,off,none⟩∧b < w.heap.size∧∀ i,i < n →
 w.cell? ⟨b,off+i * 5,none⟩=some (.int .i64 (gR l i).op)∧w.cell? ⟨b,off+i * 5+1,none⟩=some (.int .i64 (gR l i).dst)∧w.cell? ⟨b,off+i * 5+2,none⟩=some (.int .i64 (gR l i).a)∧w.cell? ⟨b,off+i * 5+3,none⟩=some (.int .i64 (gR l i).b)∧w.cell? ⟨b,off+i * 5+4,none⟩=some (.int .u32 (gR l i).arg))
theorem RIs.below{w w':World}{A:Option Addr}{n c:Nat}{l:List RI}(h:RIs w A n c l)(hb:Below w.heap.size w w'):RIs w' A n c l:=⟨h.1,h.2.1,fun hn=>by
 obtain⟨b,off,rfl,h1,h2⟩:=h.2.2 hn
 refine⟨b,off,rfl,Nat.lt_of_lt_of_le h1 hb.size,fun i hi=>?_⟩
 obtain⟨k0,k1,k2,k3,k4⟩:=h2 i hi
 exact⟨(hb.cell (p:=⟨b,off+i * 5,none⟩) h1).trans k0,(hb.cell (p:=⟨b,off+i * 5+1,none⟩) h1).trans k1,(hb.cell (p:=⟨b,off+i * 5+2,none⟩) h1).trans k2,(hb.cell (p:=⟨b,off+i * 5+3,none⟩) h1).trans k3,(hb.cell (p:=⟨b,off+i * 5+4,none⟩) h1).trans k4⟩⟩
theorem OwnS.ris{w:World}{B:Nat}{A:Option Addr}{n c:Nat}{l:List RI}(h:OwnS encRI 5 w B 47 A n c l):RIs w A n c l:=by
 refine⟨h.length (fun _=>rfl) (by decide),h.cap,fun hn=>?_⟩
 obtain⟨b,hA,_,hlt,hc⟩:=h.get (fun _=>rfl) (by decide) (⟨0,0,0,0,0⟩:RI) hn
 refine⟨b,0,hA,hlt,fun i hi=>?_⟩
 rw [Nat.zero_add]
 exact⟨hc i 0 _ hi rfl,hc i 1 _ hi rfl,hc i 2 _ hi rfl,hc i 3 _ hi rfl,hc i 4 _ hi rfl⟩
theorem flat_ar(l:List Arr)(j:Nat)(u:Value)(h:(l.flatMap encAr)[j]?=some u):∃ i,i < l.length∧((j=i * 2∧u=.bool (gA l i).word)∨(j=i * 2+1∧u=.int .i64 (gA l i).size)):=by
 have hl:=flat_length (enc:=encAr) (sz:=2) (fun _=>rfl) l
 have hj:=(List.getElem?_eq_some_iff.1 h).1
 rw [hl] at hj
 refine⟨j / 2,by omega,?_⟩
 have h3:j % 2=0∨j % 2=1:=by omega
 rcases h3 with h2 | h2
 ·left
  have h3:=flat_get (enc:=encAr) (sz:=2) (fun _=>rfl) ⟨false,0⟩ l (j / 2) 0 (by omega) (by omega)
  rw [show j / 2 * 2+0=j by omega,h] at h3
  exact⟨by omega,by injection h3⟩
 ·right
  have h3:=flat_get (enc:=encAr) (sz:=2) (fun _=>rfl) ⟨false,0⟩ l (j / 2) 1 (by omega) (by omega)
  rw [show j / 2 * 2+1=j by omega,h] at h3
  exact⟨by omega,by injection h3⟩
theorem Arrs.src{w:World}{A:Option Addr}{n c:Nat}{l:List Arr}(h:Arrs w A n c l):SrcS encAr w A n l:=⟨h.1,fun hm=>by
 obtain⟨b,off,rfl,h1,h2⟩:=h.2.2.2 hm
 refine⟨b,off,rfl,h1,fun j u hu=>?_⟩
 obtain⟨i,hi,hc⟩:=flat_ar l j u hu
 rw [h.1] at hi
 rcases hc with ⟨rfl,rfl⟩ | ⟨rfl,rfl⟩
 ·exact (h2 i hi).1
 ·exact (h2 i hi).2⟩
theorem cloneAr_any(A:Option Addr)(n c:Nat)(l:List Arr)(w:World)(hx:Arrs w A n c l)(hn:n≤1000) :
  Calls Tryz.prog 32 #[.slice A n c] w fun e w'=>∃ A2 c2,e=.returned (.slice A2 n c2)∧(∀ W:World,(∀ k o,w.heap.size≤k→w'.heap[k]?=some o→W.heap[k]?=some o)→Arrs W A2 n c2 l)∧Below w.heap.size w w':=by
 have q22:∀ (w:World) (a:Option Addr) (n c n' c':Nat),(binOp .eql 22 (.slice a n c) (.slice none n' c')).run Tryz.prog w=.ok (.bool a.isNone) w:=fun w a n c n' c'=>Lib.run_eql_slice_nil w _ _ a n c n' c' uAr
 cases A with
 | none=>
  have h0:n=0:=by
   rcases Nat.eq_zero_or_pos n with h | h
   ·exact h
   ·obtain⟨b,off,e,-⟩:=hx.2.2.2 h;cases e
  subst h0
  have hl:l=[]:=List.eq_nil_of_length_eq_zero hx.1
  subst hl
  have HX:Hid (∀ W:World,Arrs W none 0 0 []):=fun W=>⟨rfl,Nat.le_refl _,(fun x h=>by cases h),fun h=>absurd h (Nat.not_lt_zero _)⟩
  clear hx
  go_enter Tryz.func32,Tryz.ntmps32
  go_wp2_with fail
  go_ret
  exact⟨none,0,rfl,fun W _=>HX.out W,Below.refl _ _⟩
 | some ad=>
  obtain⟨W5,hW5⟩:∃ z,z=w.alloc (.cells #[] 65):=⟨_,rfl⟩
  have k5:Below w.heap.size w W5:=by rw [hW5];exact balloc (Below.refl _ _) _
  have ho5:OwnS encAr 2 W5 w.heap.size 65 (some ⟨w.heap.size,0,none⟩) 0 0 []:=by rw [hW5];exact OwnS.lit [] #[] rfl (fun _=>rfl) (Nat.le_refl _) (Nat.zero_le _)
  have hsr5:=(hx.below k5).src
  have HO5:=Lib.hid (And.intro ho5 (And.intro hsr5 k5))
  have HW5:=Lib.hid hW5
  have hml:=Lib.hid (show (0+n≤maxLen∧(0+n) * 16≤140737488355328) by unfold maxLen;omega)
  have Hwf:=Lib.hid hx.2.2.1
  clear k5 ho5 hsr5 hW5 hx
  go_enter Tryz.func32,Tryz.ntmps32
  go_wp2_with (at_builtin;rw [←HW5.out];refine wpList_appS (enc:=encAr) rfl (.tmp 5) (.tmp 6) rfl uAr infoAr encAr_one rfl (fun _=>rfl) (by decide) rfl HO5.out.1 HO5.out.2.2.size (some ad) n c l HO5.out.2.1 rfl hml.out.1 hml.out.2 ?_;intro A6 c6 w6 ho6 hb6 hg6 hf6;rw [Nat.zero_add] at ho6 ⊢)
  go_ret
  exact⟨A6,c6,rfl,fun W hW=>(ho6.keep (fun g o h1 h2 _=>hW g o h1 h2)).toArrs Hwf.out,HO5.out.2.2.trans hb6⟩
structure LJ (B g mb M tb sb:Nat) (spare:Int) (nm:Nat) (f:Int→Option Value) (w0 w:World) (next:Int) (out:List RI) (bs:List Int) (d:TD):Prop where
 tk:TK B g mb spare w next out bs d
 cap:CapT w tb sb g
 sp:MapZ Tryz.prog 3 .i64 w M 6 (spF tb sb)
 mo:MapZ Tryz.prog 3 .i64 w mb nm f
 below:Below B w0 w
section
variable {B g mb M tb sb : Nat} {spare : Int} {nm : Nat} {f : Int → Option Value} {w0 w w1 : World} {next next' : Int} {out out' : List RI} {bs bs' : List Int} {d d' : TD}
theorem LJ.step(h:LJ B g mb M tb sb spare nm f w0 w next out bs d)(ht:TK B g mb spare w1 next' out' bs' d')(hk:KT B g d d' w w1):LJ B g mb M tb sb spare nm f w0 w1 next' out' bs' d':=by
 obtain⟨o1,a1,a2⟩:=h.sp.isMap
 obtain⟨o2,b1,b2⟩:=h.mo.isMap
 obtain⟨x1,x2,x3⟩:=h.tk.ne_map a1 a2
 obtain⟨y1,y2,y3⟩:=h.tk.ne_map b1 b2
 exact⟨ht,h.cap.keep h.tk hk,h.sp.same (hk.keep M h.sp.lt x1 x2 x3),h.mo.same (hk.keep mb h.mo.lt y1 y2 y3),h.below.trans hk.below⟩
theorem LJ.far(h:LJ B g mb M tb sb spare nm f w0 w next out bs d)(hb:Below w.heap.size w w1):LJ B g mb M tb sb spare nm f w0 w1 next out bs d:=h.step (h.tk.below hb) (KT.of_below hb h.tk.hB)
def spec(op:Int):Bool:=decide (op=1∨op=2∨op=5∨op=6∨op=7∨op=29)
theorem sp_none{op:Int}(h:spec op=false):spF tb sb op=none:=by
 unfold spec at h
 rw [decide_eq_false_iff_not] at h
 unfold spF zput
 repeat rw [if_neg (by omega)]
theorem sp_some{op:Int}(h:spec op=true)(hj:LJ B g mb M tb sb spare nm f w0 w next out bs d)(hn:-3000≤next∧next≤3000)(hl:out.length≤3900)(arg:Int)(ha:0≤arg∧arg < 4294967296)(k:Nat)(hk:k≤4000)(m:Int)(hm:0≤m∧m≤65536)(hf:(f (k:Int)).getD (.int .i64 0)=.int .i64 m) :
  ∃ F lb,spF tb sb op=some (.func (.func F) #[] lb)∧Enters Tryz.prog F∧Calls Tryz.prog F (#[.int .u32 arg,.int .i64 (k:Int)]++lb) w (TR B g mb spare d w next (out++lowI next spare m ⟨op,arg⟩) bs):=by
 unfold spec at h
 rw [decide_eq_true_eq] at h
 rcases h with rfl | rfl | rfl | rfl | rfl | rfl
 ·exact⟨_,_,rfl,enters_of Tryz.func55 (by kernel_rfl) rfl,load23_any B g mb spare next w out bs d hj.tk tb sb hj.cap hn hl arg ha k⟩
 ·exact⟨_,_,rfl,enters_of Tryz.func57 (by kernel_rfl) rfl,store23_any B g mb spare next w out bs d hj.tk tb sb hj.cap hn hl arg ha k⟩
 ·exact⟨_,_,rfl,enters_of Tryz.func58 (by kernel_rfl) rfl,dup23_any B g mb spare next w out bs d hj.tk tb sb hj.cap hn hl arg k⟩
 ·refine⟨_,_,rfl,enters_of Tryz.func59 (by kernel_rfl) rfl,?_⟩
  rw [show lowI next spare m ⟨6,arg⟩=[] from rfl,List.append_nil]
  exact drop23_any B g mb spare next w out bs d hj.tk arg k
 ·exact⟨_,_,rfl,enters_of Tryz.func60 (by kernel_rfl) rfl,swap23_any B g mb spare next w out bs d hj.tk tb sb hj.cap hn hl arg k⟩
 ·exact⟨_,_,rfl,enters_of Tryz.func61 (by kernel_rfl) rfl,loop23_any B g mb spare next w out bs d hj.tk tb sb hj.cap hn hl arg k (by omega) m hm nm f hj.mo hf⟩
theorem lowI_same{op:Int}(h:spec op=false)(next spare m arg:Int):lowI next spare m ⟨op,arg⟩=[⟨op,if shTo op then next-popsN op else -1,if shA op then next-popsN op else -1,if shB op then next-popsN op+1 else -1,arg⟩]:=by
 unfold spec at h
 rw [decide_eq_false_iff_not] at h
 unfold lowI
 simp only []
 rw [if_neg (by omega),if_neg (by omega),if_neg (by omega),if_neg (by omega),if_neg (by omega),if_neg (by omega)]
end
def LowR(w:World)(p:Prg)(e:Ending)(w':World):Prop:=Below w.heap.size w w'∧match verP p with
 | .stuck=>False
 | .bad a x=>e=.returned (.tuple #[.agg #[.slice none 0 0,.int .i64 0,.int .i64 0,.slice none 0 0],.int .i64 x])
 | .ok r=>∃ A n c A' n' c',e=.returned (.tuple #[.agg #[.slice A n c,.int .i64 (p.locs+r.hgt+1),.int .i64 0,.slice A' n' c'],.int .i64 0])∧Arrs w' A n c p.arrs∧RIs w' A' n' c' (lowP p r).code
theorem gN_in{l:List Inv}{k:Nat}(hk:k < l.length):gN l k∈l:=by
 unfold gN
 rw [List.getD_eq_getElem?_getD,List.getElem?_eq_getElem hk]
 exact List.getElem_mem _
theorem zF(W:World):(zeroValue 76).run Tryz.prog W=.ok .nilFunc W:=by kernel_rfl
def LJat(p:Prg)(ri:List Inv)(spare:Int)(B M tb nm:Nat)(w2:World)(k:Nat)(wr:World)(d:TD):Prop:=LJ B (B+1) B M tb (tb+1) spare nm (mapM (fun _=>none) ri) w2 wr (lowS p.code k 0 p.locs []).1 (lowC p.code spare (mostAt ri) k 0 p.locs []) (lowS p.code k 0 p.locs []).2.reverse d
theorem row4{w:World}{R:Nat}{t:TypeId}{z0 z1 z2 z3:Value}(h:rowV w R t #[z0,z1,z2,z3])(a b c d:Value):∃ W,W=(((w.setCell ⟨R,0,none⟩ a).setCell ⟨R,1,none⟩ b).setCell ⟨R,2,none⟩ c).setCell ⟨R,3,none⟩ d∧rowV W R t #[a,b,c,d]∧w.grownBy W (some R):=
 ⟨_,rfl,(((h.set 0 a).set 1 b).set 2 c).set 3 d,grownBy.setCell' (grownBy.setCell' (grownBy.setCell' (grownBy.setCell' (World.grownBy.refl _ _) _) _) _) _⟩
theorem low_boxes(w:World)(aA cA:Option Addr)(an ac cn cc:Nat)(L:Int):∃ w1,w1=(w.alloc (.cells #[.slice aA an ac,.int .i64 L,.slice cA cn cc] 25)).alloc (.cells #[.slice none 0 0,.int .i64 0,.int .i64 0,.slice none 0 0] 30)∧Below w.heap.size w w1∧rowV w1 w.heap.size 25 #[.slice aA an ac,.int .i64 L,.slice cA cn cc]∧rowV w1 (w.heap.size+1) 30 #[.slice none 0 0,.int .i64 0,.int .i64 0,.slice none 0 0]∧w1.heap.size=w.heap.size+1+1:=by
 have r1:=rowV.new w 25 #[.slice aA an ac,.int .i64 L,.slice cA cn cc]
 have e1:(w.alloc (.cells #[.slice aA an ac,.int .i64 L,.slice cA cn cc] 25)).heap.size=w.heap.size+1:=by simp
 obtain⟨wa,hwa⟩:∃ x,x=w.alloc (.cells #[.slice aA an ac,.int .i64 L,.slice cA cn cc] 25):=⟨_,rfl⟩
 have k1:Below w.heap.size w wa:=by rw [hwa];exact balloc (Below.refl _ _) _
 rw [←hwa] at r1 e1 ⊢
 have r3:=rowV.new wa 30 #[.slice none 0 0,.int .i64 0,.int .i64 0,.slice none 0 0]
 have k3:Below wa.heap.size wa (wa.alloc (.cells #[.slice none 0 0,.int .i64 0,.int .i64 0,.slice none 0 0] 30)):=balloc (Below.refl _ _) _
 rw [e1] at r3
 exact⟨_,rfl,k1.trans (k3.mono k1.size),r1.below k3 r1.lt,r3,by simp [e1]⟩
theorem low_begin(w:World)(rs re rh L:Int)(D:Option Addr)(m dc:Nat):∃ w1,w1=((w.alloc (.cells #[.int .i64 rs,.int .i64 re,.int .i64 rh,.slice D m dc] 39)).alloc (.map #[] 0)).alloc (.cells #[.slice none 0 0,.int .i64 L,.int .i64 (L+rh),.slice none 0 0,.map (some (w.heap.size+1))] 71)∧Below w.heap.size w w1∧rowV w1 w.heap.size 39 #[.int .i64 rs,.int .i64 re,.int .i64 rh,.slice D m dc]∧MapZ Tryz.prog 3 .i64 w1 (w.heap.size+1) 0 (mapM (fun _=>none) [])∧rowV w1 (w.heap.size+1+1) 71 (rowT L (L+rh) (w.heap.size+1) ⟨none,0,0,none,0,0⟩)∧w1.heap.size=w.heap.size+1+1+1:=by
 have r1:=rowV.new w 39 #[.int .i64 rs,.int .i64 re,.int .i64 rh,.slice D m dc]
 have e1:(w.alloc (.cells #[.int .i64 rs,.int .i64 re,.int .i64 rh,.slice D m dc] 39)).heap.size=w.heap.size+1:=by simp
 obtain⟨wa,hwa⟩:∃ x,x=w.alloc (.cells #[.int .i64 rs,.int .i64 re,.int .i64 rh,.slice D m dc] 39):=⟨_,rfl⟩
 have k1:Below w.heap.size w wa:=by rw [hwa];exact balloc (Below.refl _ _) _
 rw [←hwa] at r1 e1 ⊢
 have m2:MapZ Tryz.prog 3 .i64 (wa.alloc (.map #[] 0)) wa.heap.size 0 (fun _=>none):=MapZ.made wa
 have k2:Below wa.heap.size wa (wa.alloc (.map #[] 0)):=balloc (Below.refl _ _) _
 have e2:(wa.alloc (.map #[] 0)).heap.size=w.heap.size+1+1:=by simp [e1]
 obtain⟨wb,hwb⟩:∃ x,x=wa.alloc (.map #[] 0):=⟨_,rfl⟩
 rw [←hwb] at m2 k2 e2 ⊢
 rw [e1] at m2
 have r3:=rowV.new wb 71 #[.slice none 0 0,.int .i64 L,.int .i64 (L+rh),.slice none 0 0,.map (some (w.heap.size+1))]
 have k3:Below wb.heap.size wb (wb.alloc (.cells #[.slice none 0 0,.int .i64 L,.int .i64 (L+rh),.slice none 0 0,.map (some (w.heap.size+1))] 71)):=balloc (Below.refl _ _) _
 rw [e2] at r3
 exact⟨_,rfl,(k1.trans (k2.mono k1.size)).trans (k3.mono (Nat.le_trans k1.size k2.size)),(r1.below k2 r1.lt).below k3 (r1.below k2 r1.lt).lt,m2.same (k3.block _ m2.lt),r3,by simp [e2]⟩
theorem lower_any(A A':Option Addr)(n c n' c':Nat)(L:Int)(p:Prg)(w:World)(hx:Progs w A n c L A' n' c' p) :
  Calls Tryz.prog 12 #[.agg #[.slice A n c,.int .i64 L,.slice A' n' c']] w (LowR w p):=by
 obtain⟨w0,hw0,g0,r0,rc0,s0⟩:=low_boxes w A A' n c n' c' L
 have HV:=Lib.hid (verifyW_any A A' n c n' c' L p w0 (hx.below g0))
 have hwf:Hid (∀ x∈p.code,0≤x.arg∧x.arg < 4294967296):=fun x h=>⟨(hx.code.2.2.1 x h).1,(hx.code.2.2.1 x h).2.1⟩
 have HX:=Lib.hid hx
 have HG:=Lib.hid (And.intro r0 (And.intro rc0 g0))
 have Hw0:=Lib.hid hw0
 have hLp:=hx.locs
 subst hLp
 obtain⟨c0,c1,c2⟩:=three_cellsV r0
 clear hx g0 r0 rc0 hw0 s0
 go_enter Tryz.func12,Tryz.ntmps12
 go_upto_region 1 with fail
 rw [←Hw0.out]
 go_wp2_with fail
 refine HV.out.mono ?_
 intro e w1 hr
 clear HV
 cases hv:verP p with
 | stuck=>rw [hv] at hr;exact hr.elim
 | bad a x=>
  rw [hv] at hr
  obtain⟨rfl,hb1⟩:=hr
  obtain⟨-,hx0⟩:=verP_bad hwf.out (formE_nn p) hv
  obtain⟨w2,hw2⟩:∃ z,z=w1.alloc (.cells #[.int .i64 0,.int .i64 0,.int .i64 0,.slice none 0 0] 39):=⟨_,rfl⟩
  have k2:Below w1.heap.size w1 w2:=by rw [hw2];exact balloc (Below.refl _ _) _
  have rc1:=HG.out.2.1.below hb1 HG.out.2.1.lt
  have rc2:=rc1.below k2 rc1.lt
  have g1:=HG.out.2.2.trans (hb1.mono HG.out.2.2.size)
  have g2:=g1.trans (k2.mono g1.size)
  obtain⟨t0,t1,t2,t3⟩:=four_cellsV rc2
  have f0:=frozen_rowV' rc2 0
  have f1:=frozen_rowV' rc2 1
  have f2:=frozen_rowV' rc2 2
  have f3:=frozen_rowV' rc2 3
  have d1:(x != 0)=true:=by simp;omega
  have Hv:=Lib.hid hv
  have HR:=Lib.hid (And.intro rc2 g2)
  have Hw2:=Lib.hid hw2
  clear hb1 hw2 k2 rc1 rc2 g1 g2 c0 c1 c2 hv
  go_upto_region 2 with fail
  rw [←Hw2.out]
  go_wp2_with fail
  obtain⟨W,hW,rW,gW⟩:=row4 HR.out.1 (.slice none 0 0) (.int .i64 0) (.int .i64 0) (.slice none 0 0)
  rw [←hW]
  obtain⟨b0,b1,b2,b3⟩:=four_cellsV rW
  refine bodyPost_ret (v:=.tuple #[.agg #[.slice none 0 0,.int .i64 0,.int .i64 0,.slice none 0 0],.int .i64 x]) (by simp [results,Tryz.results12,go_sem,b0,b1,b2,b3]) rfl ?_
  refine⟨HR.out.2.grown gW HR.out.2.size (fun k hk=>by injection hk with hk;omega),?_⟩
  rw [Hv.out]
 | ok rp=>
  rw [hv] at hr
  obtain⟨⟨D,m,d,rfl,hinv⟩,hb1⟩:=hr
  have HLW:=Lib.hid (lowW_of hwf.out hv)
  have hlen:p.code.length≤1024:=HLW.out.ok.len
  have hcl:p.code.length=n':=HX.out.code.1
  have hlocs:=HLW.out.ok.locs
  have hhgt:=HLW.out.hgt
  obtain⟨⟨rs,re,rh,ri⟩,hrp⟩:∃ z,z=rp:=⟨_,rfl⟩
  rw [←hrp] at HLW hinv hhgt
  rw [←hrp]
  simp only [] at hinv hhgt
  obtain⟨spare,hsp⟩:∃ z,z=p.locs+rh:=⟨_,rfl⟩
  obtain⟨w2,hw2,k2,rr2,m2,rt2,s2⟩:=low_begin w1 rs re rh p.locs D m d
  have g1:=HG.out.2.2.trans (hb1.mono HG.out.2.2.size)
  have g2:=g1.trans (k2.mono g1.size)
  have rp1:=HG.out.1.below hb1 HG.out.1.lt
  have rc2:=(HG.out.2.1.below hb1 HG.out.2.1.lt).below k2 (HG.out.2.1.below hb1 HG.out.2.1.lt).lt
  have rp2:=rp1.below k2 rp1.lt
  have hl1:=rp1.lt
  have hrm:ri.length=m:=hinv.1
  have hri:=HLW.out.len
  simp only [] at hri
  have hm1024:m≤1024:=by omega
  have hmk:∀ W:World,(Instr.makeMap 69 none).run Tryz.prog W=.ok (.map (some W.heap.size)) (W.alloc (.map #[] 0)):=fun W=>run_makeMap_plain W _
  obtain⟨c0,c1,c2⟩:=three_cellsV rp1
  rw [←hsp] at rt2
  have H2:=Lib.hid (And.intro rp2 (And.intro rc2 (And.intro g2 (And.intro k2 g1))))
  have R2:=Lib.hid (And.intro rr2 (And.intro m2 rt2))
  have Hi:=Lib.hid hinv.invs
  have Hw2:=Lib.hid hw2
  have Hsp:=Lib.hid hsp
  have Hrp:=Lib.hid hrp
  have Hv:=Lib.hid hv
  have Hrm:=Lib.hid hrm
  have Hcl:=Lib.hid (And.intro hcl hlen)
  have bsp:0≤spare∧spare≤100:=by omega
  have hs2:w2.heap.size=w1.heap.size+1+1+1:=s2
  obtain⟨y0,y1,y2,y3⟩:=four_cellsV rr2
  clear hinv hb1 hw2 k2 rr2 m2 rt2 s2 g1 g2 rp1 rc2 rp2 hsp hrp hrm hcl hri
  go_upto_region 5 with fail
  rw [←Hw2.out]
  clear c0 c1 c2
  go_upto_region 6 with fail
  go_loopw [9,41] (fun _ i wr=>∃ k:Nat,k≤m∧i=.int .i64 (k:Int)∧Hid (rowV wr (w1.heap.size+1+1) 71 (rowT p.locs spare (w1.heap.size+1) ⟨none,0,0,none,0,0⟩)∧MapZ Tryz.prog 3 .i64 wr (w1.heap.size+1) k (mapM (fun _=>none) (ri.take k))∧Below (w1.heap.size+1) w2 wr)) (fun _ i _=>m-(intOf i).toNat)
  case atStart=>exact⟨0,Nat.zero_le _,rfl,R2.out.2.2,R2.out.2.1,Below.refl _ _⟩
  case round=>
   obtain⟨k,hk,rfl,HR⟩:=hrel
   obtain⟨wo,rfl⟩:∃ wo,wo=wr:=⟨_,rfl⟩
   by_cases hlt:k < m
   ·have dk:decide ((k:Int) < (m:Int))=true:=by simp;omega
    have dk':decide (k < m)=true:=by simp;omega
    have hbk:Below w1.heap.size w1 wo:=H2.out.2.2.2.1.trans (HR.out.2.2.mono (Nat.le_succ _))
    obtain⟨b,off,rfl,hb,x0,x1,A2,c2',x2,hiv⟩:=(Hi.out.below hbk).get hlt
    have hat:=HLW.out.inv _ (gN_in (l:=ri) (k:=k) (by have:=Hrm.out;omega))
    have hz:Hid (mapM (fun _=>none) (ri.take (k+1))=zput (mapM (fun _=>none) (ri.take k)) (gN ri k).at_ (.int .i64 (gN ri k).most)):=mapM_take (by have:=Hrm.out;omega)
    obtain⟨⟨xa,xm,xl⟩,hxx⟩:∃ z,z=gN ri k:=⟨_,rfl⟩
    rw [←hxx] at x0 x1 x2 hiv hat hz
    simp only [] at x0 x1 x2 hiv hat hz
    obtain⟨Ln,hL⟩:∃ L,L=xl.length:=⟨_,rfl⟩
    rw [←hL] at x2
    clear hxx hL hiv
    go_upto_region 8 with fail
    obtain⟨W1,hW1⟩:∃ z,z=wo.alloc (.cells #[.int .i64 xa,.int .i64 xm,.slice A2 Ln c2'] 50):=⟨_,rfl⟩
    rw [←hW1]
    have kW:Below wo.heap.size wo W1:=by rw [hW1];exact balloc (Below.refl _ _) _
    have rW:rowV W1 wo.heap.size 50 #[.int .i64 xa,.int .i64 xm,.slice A2 Ln c2']:=by rw [hW1];exact rowV.new wo _ _
    obtain⟨p0,p1,p2⟩:=three_cellsV rW
    have rT:=HR.out.1.below kW HR.out.1.lt
    have t4:W1.cell? ⟨w1.heap.size+1+1,4,none⟩=some (.map (some (w1.heap.size+1))):=cell_rowV rT (j:=4) rfl
    have hgl:=rT.lt
    have l6:=rW.lt
    have mk1:MapZ Tryz.prog 3 .i64 W1.drew (w1.heap.size+1) k (mapM (fun _=>none) (ri.take k)):=HR.out.2.1.same (kW.block _ HR.out.2.1.lt)
    obtain⟨W3,hrun,m3,g3⟩:=mk1.step uInt uMi (by unfold maxLen;omega) xa (by simp [Lit.wf,IntKind.min,IntKind.max,IntKind.bits,IntKind.signed];omega) (.int .i64 xm)
    rw [←hz.out] at m3
    have g3':W1.grownBy W3 (some (w1.heap.size+1)):=grownBy.trans' (grownBy.drewN' (World.grownBy.refl W1 _) 1) g3
    have HN:=Lib.hid (show rowV W3 (w1.heap.size+1+1) 71 (rowT p.locs spare (w1.heap.size+1) ⟨none,0,0,none,0,0⟩)∧MapZ Tryz.prog 3 .i64 W3 (w1.heap.size+1) (k+1) (mapM (fun _=>none) (ri.take (k+1)))∧Below (w1.heap.size+1) w2 W3 from
     ⟨rT.grown g3' (fun e=>by injection e with e;omega),m3,(HR.out.2.2.trans (kW.mono (by have:=HR.out.2.1.lt;omega))).grown g3' (by have:=hgl;omega) (fun k hk=>by injection hk with hk;omega)⟩)
    clear hW1 kW rW rT mk1 m3 g3 g3' x0 x1 x2 hat hz hb hbk y0 y1 y2 y3
    go_region
    go_wp2_with fail
    go_roundw
    case rel=>exact⟨k+1,by omega,by go_num,HN⟩
    case measure=>(simp [intOf]) <;> omega
   ·obtain rfl:k=m:=by omega
    have dk:decide ((k:Int) < (k:Int))=false:=by simp
    have hsa:=special_any (w1.heap.size+1+1) wo
    have hb2:=HR.out.2.2
    have htk:ri.take k=ri:=List.take_of_length_le (by rw [Hrm.out];exact Nat.le_refl _)
    have HR':=Lib.hid (And.intro HR.out.1 (And.intro (by have:=HR.out.2.1;rw [htk] at this;exact this) hb2))
    have hsw:w1.heap.size+1+1 < wo.heap.size:=HR.out.1.lt
    clear HR htk hb2 y0 y1 y2 y3
    go_wp2_with fail
    refine hsa.mono ?_
    rintro e w4 ⟨rfl,hsp4,hcp4,hb4⟩
    have hLJ:LJat p ri spare (w1.heap.size+1) (wo.heap.size+1+1) wo.heap.size k w2 0 w4 ⟨none,0,0,none,0,0⟩:=
     ⟨⟨HR'.out.1.below hb4 HR'.out.1.lt,Nat.le_succ _,by have:=hb4.size;omega,OwnS.nil _ _ _ _ _,OwnS.nil _ _ _ _ _⟩,hcp4,hsp4,HR'.out.2.1.same (hb4.block _ HR'.out.2.1.lt),HR'.out.2.2.trans (hb4.mono (by omega))⟩
    have rp4:=(H2.out.1.below hLJ.below (by omega))
    obtain⟨c0,c1,c2⟩:=three_cellsV rp4
    have HLJ:=Lib.hid hLJ
    clear hLJ hsp4 hcp4 hb4 rp4 hsa HR'
    obtain⟨M,hM⟩:∃ z,z=wo.heap.size+1+1:=⟨_,rfl⟩
    obtain⟨tb,htb⟩:∃ z,z=wo.heap.size:=⟨_,rfl⟩
    rw [←hM,←htb] at HLJ
    go_upto_region 12 with fail
    rw [←hM]
    clear hM htb
    go_loopw [11,12,13,14,15,16,17,59] (fun _ _ _ _ _ _ _ i wr=>∃ (j:Nat) (dd:TD),j≤n'∧i=.int .i64 (j:Int)∧Hid (LJat p ri spare (w1.heap.size+1) M tb k w2 j wr dd)) (fun _ _ _ _ _ _ _ i _=>n'-(intOf i).toNat)
    case atStart=>exact⟨0,_,Nat.zero_le _,rfl,HLJ⟩
    case round=>
     clear HLJ c0 c1 c2 dk
     obtain⟨j,dd,hj,rfl,HJ⟩:=hrel
     obtain⟨wz,rfl⟩:∃ wz,wz=wr:=⟨_,rfl⟩
     have HJ:Hid (LJ (w1.heap.size+1) (w1.heap.size+1+1) (w1.heap.size+1) M tb (tb+1) spare k (mapM (fun _=>none) ri) w2 wz (lowS p.code j 0 p.locs []).1 (lowC p.code spare (mostAt ri) j 0 p.locs []) (lowS p.code j 0 p.locs []).2.reverse dd):=HJ
     have hbw:Below w.heap.size w wz:=H2.out.2.2.1.trans (HJ.out.below.mono (by omega))
     by_cases hjn:j < n'
     ·have ej:decide ((j:Int) < (n':Int))=true:=by simp;omega
      have ej':decide (j < n')=true:=by simp;omega
      have hjl:j < p.code.length:=by rw [Hcl.out.1];exact hjn
      have hj1024:j < 1024:=Nat.lt_of_lt_of_le hjl Hcl.out.2
      obtain⟨cb,off,rfl,hcb,hcell⟩:=(HX.out.code.below hbw).get hjn
      obtain⟨z0,z1⟩:=hcell j hjn
      obtain⟨i0,i1,i2,i3⟩:=HLW.out.ok.ins j hjl
      have hbd:=(HLW.out.bd j (Nat.le_of_lt hjl)).1
      have hbas:=HLW.out.bas j hjl
      have hmo:=HLW.out.most j
      have hmf:=mostAt_eq ri j HLW.out.ats
      have hol:(lowC p.code spare (mostAt ri) j 0 p.locs []).length≤3072:=by rw [lowC_len];have:=cntC_le3 p.code j 0;omega
      have hbl:=lowS_len p.code p.locs j
      have hS:=lowS_snoc p.code j p.locs []
      have hC:=lowC_snoc p.code spare (mostAt ri) j p.locs []
      rw [lowN_fol] at hS
      obtain⟨op,hop⟩:∃ z,z=oI p.code j:=⟨_,rfl⟩
      obtain⟨ar,har⟩:∃ z,z=(gI p.code j).arg:=⟨_,rfl⟩
      have hgi:gI p.code j=⟨op,ar⟩:=by rw [hop,har];rfl
      rw [hgi] at z0 z1 hC
      rw [←hop] at i0 i1 hbas hS
      rw [←har] at i2 i3
      simp only [] at z0 z1
      obtain⟨nx,hnx⟩:∃ z,z=(lowS p.code j 0 p.locs []).1:=⟨_,rfl⟩
      obtain⟨bb,hbb⟩:∃ z,z=(lowS p.code j 0 p.locs []).2:=⟨_,rfl⟩
      obtain⟨ot,hot⟩:∃ z,z=lowC p.code spare (mostAt ri) j 0 p.locs []:=⟨_,rfl⟩
      rw [←hnx,←hbb,←hot] at HJ
      rw [←hnx] at hbd hS hC
      rw [←hbb] at hbas hbl hS
      rw [←hot] at hol hC
      obtain⟨mm,hmm⟩:∃ z,z=mostAt ri j:=⟨_,rfl⟩
      rw [←hmm] at hmo hmf hC
      obtain⟨t1,t2⟩:=two_of i0 i1
      obtain⟨pN,hpN⟩:∃ z,z=popsN op:=⟨_,rfl⟩
      obtain⟨qN,hqN⟩:∃ z,z=pushsN op:=⟨_,rfl⟩
      obtain⟨s1,hs1⟩:∃ z,z=strB (opX op).pops:=⟨_,rfl⟩
      obtain⟨s2,hs2⟩:∃ z,z=strB (opX op).pushes:=⟨_,rfl⟩
      have hz1:s1.size=pN:=by rw [hs1,hpN];simp [strB,popsN,ByteArray.size]
      have hz2:s2.size=qN:=by rw [hs2,hqN];simp [strB,pushsN,ByteArray.size]
      obtain⟨W1,hW1⟩:∃ z,z=wz.alloc (.cells #[.int .i64 op,.int .u32 ar] 44):=⟨_,rfl⟩
      have kW:Below wz.heap.size wz W1:=by rw [hW1];exact balloc (Below.refl _ _) _
      have rW:rowV W1 wz.heap.size 44 #[.int .i64 op,.int .u32 ar]:=by rw [hW1];exact rowV.new wz _ _
      have HE:=effect_any op W1
      rw [←hs1,←hs2] at HE
      have HE:=Lib.hid HE
      have J1:=Lib.hid (HJ.out.far kW)
      have hwf:(Lit.int .i64 op).wf=true:=by simp [Lit.wf,IntKind.min,IntKind.max,IntKind.bits,IntKind.signed];omega
      rw [←hpN] at hS t1
      rw [←hqN] at hS t2
      have HpN:=Lib.hid hpN
      have HS:=Lib.hid hS
      have HC:=Lib.hid hC
      have HW1:=Lib.hid hW1
      have Hbas:=Lib.hid hbas
      have Hmo:=Lib.hid (And.intro hmo hmf)
      have Hol:=Lib.hid (And.intro hol hbl)
      obtain⟨c0,c1⟩:=two_cellsV rW
      have HRW:=Lib.hid rW
      have l1:=rW.lt
      clear hcell hgi hop har hnx hbb hot hmm hpN hqN hs1 hs2 kW rW hW1 hS hC hmf hol hbl hbas HJ hcb hbw
      go_upto_region 14 with fail
      rw [←HW1.out]
      clear HW1 z0 z1
      go_wp2_with fail
      refine HE.out.mono ?_
      rintro e w5 ⟨rfl,hb5⟩
      have hJ5:=J1.out.far hb5
      have r5:=HRW.out.below hb5 HRW.out.lt
      have hlk:=MapZ.look uInt uMf (zF w5) hJ5.sp op hwf
      have J5:=Lib.hid hJ5
      have R5:=Lib.hid r5
      have hgl:=hJ5.tk.row.lt
      obtain⟨c0,c1⟩:=two_cellsV r5
      have l5:=r5.lt
      clear hb5 HE J1 HRW l1
      obtain⟨X,hX⟩:∃ X,X=lowI nx spare mm ⟨op,ar⟩:=⟨_,rfl⟩
      rw [←hX] at HC
      cases hspec:spec op
      focus
       have hcall:=same23_any (w1.heap.size+1) (w1.heap.size+1+1) (w1.heap.size+1) spare nx w5 ot bb.reverse dd J5.out.tk (by omega) (by have:=Hol.out;omega) op ar ⟨i0,i1⟩ pN t1
       rw [HpN.out,←lowI_same hspec nx spare mm ar,←hX,←HpN.out] at hcall
       rw [sp_none hspec] at hlk
       simp only [Option.getD_none,Option.isSome_none] at hlk
       have HC6:=Lib.hid hcall
       clear r5 hJ5 hspec hcall
       go_wp2_with fail
       refine HC6.out.mono ?_
      rotate_left 1
      focus
       obtain⟨F,lb,hF,hen,hcall⟩:=sp_some hspec J5.out (by omega) (by have:=Hol.out;omega) ar ⟨i2,i3⟩ j (by omega) mm hmo Hmo.out.2
       rw [←hX] at hcall
       rw [hF] at hlk
       simp only [Option.getD_some,Option.isSome_some] at hlk
       have HC6:=Lib.hid hcall
       unfold Enters at hen
       clear r5 hJ5 hspec hF hcall
       go_wp2_with fail
       refine HC6.out.mono ?_
      all_goals
       rintro e w6 ⟨rfl,d6,h6,k6⟩
       have J6:=J5.out.step h6 k6
       have r6:=k6.row R5.out (J5.out.tk.ne R5.out (by decide) (by decide) (by decide))
       obtain⟨-,e1,-,-,-⟩:=h6.cells
       have f1:=h6.frozen 1
       have hgl:=h6.row.lt
       have P7:=h6.setN (nx+((qN:Int)-pN))
       obtain⟨w7,hw7⟩:∃ z,z=w6.setCell ⟨w1.heap.size+1+1,1,none⟩ (.int .i64 (nx+((qN:Int)-pN))):=⟨_,rfl⟩
       rw [←hw7] at P7
       have J7:=J6.step P7.1 P7.2
       have r7:=P7.2.row r6 (h6.ne r6 (by decide) (by decide) (by decide))
       have HF:=Lib.hid (follow23_any _ _ _ _ _ w7 _ bb _ P7.1 (by have:=Hol.out;omega) op Hbas.out)
       rw [HS.out.symm,←HC.out] at HF
       have Hw7:=Lib.hid hw7
       have J7:=Lib.hid J7
       obtain⟨c0,c1⟩:=two_cellsV r7
       have l7:=r7.lt
       clear hlk HC6 h6 k6 J6 r6 P7 hw7 r7 l5
       go_upto_region 20 with fail
       rw [←Hw7.out]
       clear Hw7 e1 f1
       go_wp2_with fail
       refine HF.out.mono ?_
       rintro e w8 ⟨rfl,d8,h8,k8⟩
       have J8:Hid (LJat p ri spare (w1.heap.size+1) M tb k w2 (j+1) w8 d8):=J7.out.step h8 k8
       clear h8 k8 HF J7 c0 c1 l7
       go_wp2_with fail
       go_roundw
       case rel=>exact⟨j+1,d8,by omega,by go_num,J8⟩
       case measure=>(simp [intOf]) <;> omega
     ·obtain rfl:j=n':=by omega
      have ej:decide ((j:Int) < (j:Int))=false:=by simp
      have har:=HX.out.arrs.below hbw
      have hn8:n≤8:=by have h1:=HLW.out.ok.arrs.1;have h2:=HX.out.arrs.1;omega
      have hCl:=cloneAr_any A n c p.arrs wz.drew (har.below ((Below.refl _ wz).trans ((Drawn.drewN wz 1).below _))) (by omega)
      have rp:=H2.out.1.below HJ.out.below (by have:=H2.out.1.lt;omega)
      have rc:=H2.out.2.1.below HJ.out.below (by omega)
      obtain⟨e0,e1,e2,e3,e4⟩:=HJ.out.tk.cells
      have hgl:=HJ.out.tk.row.lt
      obtain⟨c0,c1,c2⟩:=three_cellsV rp
      have l0:=rp.lt
      have l1:=rc.lt
      have RC:=Lib.hid (And.intro rc hbw)
      have HCl:=Lib.hid hCl
      have hnb:¬ w.heap.size=w1.heap.size+1:=by omega
      have hnb':¬ w1.heap.size+1=w.heap.size:=by omega
      have b0:0≤spare:=bsp.1
      have b1:spare≤100:=bsp.2
      clear rp rc har hCl hbw c1 c2 e1 e3 e4
      go_wp2_with fail
      go_region_held3 (fun W=>W.cell? ⟨w.heap.size,0,none⟩=some (.slice A n c)∧W.cell? ⟨w1.heap.size+1+1,2,none⟩=some (.int .i64 spare)∧W.cell? ⟨w1.heap.size+1+1,0,none⟩=some (.slice dd.oA dd.on dd.oc))
       (first | go_keep | exact zc | exact z2 | exact z0)
       (first | (go_at_call 32;refine HCl.out.mono ?_;rintro e w5 ⟨A5,c5,rfl,ha5,hb5'⟩;have hb5:Below wz.heap.size wz w5:=((Below.refl _ wz).trans ((Drawn.drewN wz 1).below _)).trans hb5';have zc:=(hb5.cell (p:=⟨w.heap.size,0,none⟩) l0).trans c0;have z2:=(hb5.cell (p:=⟨w1.heap.size+1+1,2,none⟩) hgl).trans e2;have z0:=(hb5.cell (p:=⟨w1.heap.size+1+1,0,none⟩) hgl).trans e0;have rc5:=RC.out.1.below hb5 l1;have q0:=cell_rowV rc5 (j:=0) rfl;have q1:=cell_rowV rc5 (j:=1) rfl;have q2:=cell_rowV rc5 (j:=2) rfl;have q3:=cell_rowV rc5 (j:=3) rfl;have f0:=frozen_rowV' rc5 0;have f1:=frozen_rowV' rc5 1;have f2:=frozen_rowV' rc5 2;have f3:=frozen_rowV' rc5 3;have RC5:=Lib.hid (And.intro rc5 (And.intro (RC.out.2.trans (hb5.mono RC.out.2.size)) (And.intro ha5 (HJ.out.far hb5))));clear rc5 ha5 hb5' hb5))
      rename_i hHeld
      obtain⟨W,hW,rW,gW⟩:=row4 RC5.out.1 (.slice A5 n c5) (.int .i64 (IntKind.i64.wrap (spare+1))) (.int .i64 0) (.slice dd.oA dd.on dd.oc)
      rw [←hW]
      rw [show IntKind.i64.wrap (spare+1)=spare+1 from by simp [IntKind.wrap,IntKind.bits,IntKind.signed];omega] at rW
      have bW:=RC5.out.2.1.grown gW RC5.out.2.1.size (fun k hk=>by injection hk with hk;omega)
      have aW:=RC5.out.2.2.1 W (fun k o h1 h2=>(gW.block k (lt_of_heap h2) (fun e=>by injection e with e;have h1:wz.heap.size≤k:=h1;omega)).trans h2)
      have oW:=(RC5.out.2.2.2.tk.out.grown gW (fun b hb e=>by injection e with e;have:=(RC5.out.2.2.2.tk.out.blk hb).2.1;omega)).ris
      clear hHeld hW f0 f1 f2 f3 q0 q1 q2 q3 z0 z2 zc c0 e0 e2
      obtain⟨b0',b1',b2',b3'⟩:=four_cellsV rW
      go_wp2_with fail
      refine bodyPost_ret (v:=.tuple #[.agg #[.slice A5 n c5,.int .i64 (spare+1),.int .i64 0,.slice dd.oA dd.on dd.oc],.int .i64 0]) (by simp [results,Tryz.results12,go_sem,b0',b1',b2',b3']) rfl ?_
      refine⟨bW,?_⟩
      rw [Hv.out,←Hrp.out]
      have hlp:(lowP p ⟨rs,re,rh,ri⟩).code=lowC p.code spare (mostAt ri) j 0 p.locs []:=by unfold lowP;rw [Hsp.out,←Hcl.out.1]
      refine⟨A5,n,c5,dd.oA,dd.on,dd.oc,?_,aW,?_⟩
      ·show _=Ending.returned (Value.tuple #[.agg #[.slice A5 n c5,.int .i64 (p.locs+rh+1),.int .i64 0,.slice dd.oA dd.on dd.oc],.int .i64 0])
       rw [←Hsp.out]
      ·rw [hlp]
       exact oW

def FewR(n n':Nat)(w:World)(e:Ending)(w':World):Prop:=(∃ b,e=.returned (.bool b)∧(b=true→n≤20∧n'≤200))∧Below w.heap.size w w'
theorem few15_any(A A':Option Addr)(n c n' c':Nat)(L:Int)(p:Prg)(w:World)(hx:Progs w A n c L A' n' c' p) :
  Calls Tryz.prog 10 #[.agg #[.slice A n c,.int .i64 L,.slice A' n' c']] w (FewR n n' w):=by
 obtain⟨w0,hw0⟩:∃ w0,w0=w.alloc (.cells #[.slice A n c,.int .i64 L,.slice A' n' c'] 25):=⟨_,rfl⟩
 have g0:Below w.heap.size w w0:=by rw [hw0];exact balloc (Below.refl _ _) _
 have r0:rowV w0 w.heap.size 25 #[.slice A n c,.int .i64 L,.slice A' n' c']:=by rw [hw0];exact rowV.new w _ _
 have HX:=Lib.hid (hx.below g0)
 have HG:=Lib.hid (And.intro r0 g0)
 have Hw0:=Lib.hid hw0
 obtain⟨c0,c1,c2⟩:=three_cellsV r0
 clear hx g0 r0 hw0
 by_cases h1:20 < n
 ·have d1:decide ((20:Int) < (n:Int))=true:=by simp;omega
  have d1':decide (20 < n)=true:=by simp;omega
  go_enter Tryz.func10,Tryz.ntmps10
  go_upto_region 1 with fail
  rw [←Hw0.out]
  go_wp2_with fail
  go_ret
  exact⟨⟨false,rfl,fun h=>by cases h⟩,HG.out.2⟩
 have d1:decide ((20:Int) < (n:Int))=false:=by simp;omega
 have d1':decide (20 < n)=false:=by simp;omega
 by_cases h2:200 < n'
 ·have d2:decide ((200:Int) < (n':Int))=true:=by simp;omega
  have d2':decide (200 < n')=true:=by simp;omega
  go_enter Tryz.func10,Tryz.ntmps10
  go_upto_region 1 with fail
  rw [←Hw0.out]
  go_wp2_with fail
  go_ret
  exact⟨⟨false,rfl,fun h=>by cases h⟩,HG.out.2⟩
 have d2:decide ((200:Int) < (n':Int))=false:=by simp;omega
 have d2':decide (200 < n')=false:=by simp;omega
 have HS:=Lib.hid (shallow_any A' n' c' p.code w0 HX.out.code (by omega))
 go_enter Tryz.func10,Tryz.ntmps10
 go_upto_region 1 with fail
 rw [←Hw0.out]
 go_wp2_with fail
 refine HS.out.mono ?_
 rintro e w1 ⟨⟨b,rfl⟩,hb1⟩
 have r1:=HG.out.1.below hb1 HG.out.1.lt
 have HR1:=Lib.hid (And.intro r1 (And.intro (HG.out.2.trans (hb1.mono HG.out.2.size)) (HX.out.arrs.below hb1)))
 clear HS hb1 r1 c0 c1 c2
 obtain⟨c0,c1,c2⟩:=three_cellsV HR1.out.1
 cases b with
 | false=>
  go_wp2_with fail
  go_ret
  exact⟨⟨false,rfl,fun h=>by cases h⟩,HR1.out.2.1⟩
 | true=>
  go_wp2_with fail
  go_loop [3] (fun i=>∃ k:Nat,k≤n∧i=.int .i64 (k:Int)) (fun i=>n-(intOf i).toNat)
  case atStart=>exact⟨0,Nat.zero_le _,rfl⟩
  case round=>
   obtain⟨k,hk,rfl⟩:=hrel
   by_cases hlt:k < n
   ·have dk:decide ((k:Int) < (n:Int))=true:=by simp;omega
    have dk':decide (k < n)=true:=by simp;omega
    obtain⟨cb,off,rfl,hcb,hcell⟩:=HR1.out.2.2.get hlt
    have x0:=(hcell k hlt).1
    have x1:=(hcell k hlt).2
    clear hcell
    obtain⟨sz,hsz⟩:∃ z,z=(gA p.arrs k).size:=⟨_,rfl⟩
    rw [←hsz] at x1
    clear hsz
    by_cases h3:300 < sz
    ·have e1:decide ((300:Int) < sz)=true:=decide_eq_true h3
     by_cases h4:sz≤65536
     ·have e2:decide (sz≤(65536:Int))=true:=decide_eq_true h4
      go_wp2_with fail
      go_ret
      exact⟨⟨false,rfl,fun h=>by cases h⟩,HR1.out.2.1⟩
     ·have e2:decide (sz≤(65536:Int))=false:=decide_eq_false h4
      go_wp2_with fail
      go_round
      case rel=>exact⟨k+1,by omega,by go_num⟩
      case measure=>(simp [intOf]) <;> omega
    ·have e1:decide ((300:Int) < sz)=false:=decide_eq_false h3
     go_wp2_with fail
     go_round
     case rel=>exact⟨k+1,by omega,by go_num⟩
     case measure=>(simp [intOf]) <;> omega
   ·obtain rfl:k=n:=by omega
    have dk:decide ((k:Int) < (k:Int))=false:=by simp
    go_wp2_with fail
    go_ret
    exact⟨⟨true,rfl,fun _=>⟨by omega,by omega⟩⟩,HR1.out.2.1⟩
end Go.Proofs.YtpaplehcafeeaaaGreatDoor
