/- Xx Ma Mb. -/
import Derived.Test.YtepoclhdklgnhaaGreatDoorRC48
import Derived.Test.YtepoclhdklgnhaaGreatDoorRC29
import Derived.Test.YtepoclhdklgnhaaGreatDoorRC28
set_option maxRecDepth 100000
set_option maxHeartbeats 40000000
set_option linter.unusedVariables false
set_option linter.unusedSimpArgs false
set_option linter.unusedSectionVars false
namespace Go.Proofs.YtepoclhdklgnhaaGreatDoor
open Go.RowKit Go.Proofs
instance argNone : Inhabited ArgB := ⟨⟨fun _ => False⟩⟩
theorem run_store_fn{P:Program}{w:World}{a:Addr}{m:Mode}(f:Fn)(x y:Array Value):(store a (.func f x y) m).run P w=Go.stored P w a (.func f x y) m:=run_store P w a _ m rfl
attribute [local go_sem] run_store_fn
theorem widening_any(aA cA:Option Addr)(an ac cn cc:Nat)(L:Int)(w:World):Calls Tryz.prog 33 #[.agg #[.slice aA an ac,.int .i64 L,.slice cA cn cc]] w fun e w'=>e=.returned (.agg #[.func (.func 58) #[] #[],.func (.func 59) #[] #[.pointer (some ⟨w.heap.size,0,none⟩)]])∧rowV w' w.heap.size 25 #[.slice aA an ac,.int .i64 L,.slice cA cn cc]∧Below w.heap.size w w':=by
 have hmf:∀ (fn:Fn) (first cap:Array Value) (w:World),(Instr.makeFunc fn first cap).run Tryz.prog w=.ok (.func fn first cap) w:=fun _ _ _ _=>rfl
 obtain⟨wa,hwa⟩:∃ x,x=w.alloc (.cells #[.slice aA an ac,.int .i64 L,.slice cA cn cc] 25):=⟨_,rfl⟩
 have ka:Below w.heap.size w wa:=by rw [hwa];exact balloc (Below.refl _ _) _
 have ra:rowV wa w.heap.size 25 #[.slice aA an ac,.int .i64 L,.slice cA cn cc]:=by rw [hwa];exact rowV.new w _ _
 have Hwa:=Lib.hid hwa
 have HA:=Lib.hid (And.intro ra ka)
 clear hwa ka ra
 go_enter Tryz.func33,Tryz.ntmps33
 go_wp2_with fail
 rw [←Hwa.out]
 have hsz:wa.heap.size=w.heap.size+1:=by rw [Hwa.out];simp
 have k2:=balloc (Below.refl wa.heap.size wa) (.cells #[.func (.func 58) #[] #[],.func (.func 59) #[] #[.pointer (some ⟨w.heap.size,0,none⟩)]] 83)
 refine bodyPost_ret (v:=.agg #[.func (.func 58) #[] #[],.func (.func 59) #[] #[.pointer (some ⟨w.heap.size,0,none⟩)]]) ?_ rfl ⟨rfl,HA.out.1.below k2 HA.out.1.lt,HA.out.2.trans (k2.mono HA.out.2.size)⟩
 have r2:=rowV.new wa 83 #[.func (.func 58) #[] #[],.func (.func 59) #[] #[.pointer (some ⟨w.heap.size,0,none⟩)]]
 rw [hsz] at r2
 obtain⟨y0,y1⟩:=two_cellsV r2
 simp [results,Tryz.results33,go_sem,y0,y1]
theorem whole_stuck{p:Prg}{h:Hd}{t:Tr}{n:Nat}(hok:PrgOk p)(hn:p.locs=(n:Int))(hh:HdOk n h)(ht:parse p.code=.ok t p.code.length):whole p h t≠.stuck:=by
 obtain⟨-,-,fk3,fk4,-⟩:=parse_ok ht
 have hg:=anaT_good hok hn hh t 0 0 0 (st0 p) 0 0 false fk3 (by rw [fk4,Nat.zero_add];exact Nat.le_refl _) (st0_ok hok hn) (by omega) (by omega) (by unfold tooMany;omega)
 unfold whole
 cases ha:anaT p h t 0 0 0 (st0 p) 0 0 with
 | stuck=>rw [ha] at hg;exact hg.elim
 | bad a x=>intro e;cases e
 | ok st s e=>
  simp only []
  split
  ·intro e;cases e
  ·intro e;cases e
theorem whole_bad{p:Prg}{h:Hd}{t:Tr}{a:Nat}{x:Int}(hh:HdAll p.code h)(ht:parse p.code=.ok t p.code.length)(hw:whole p h t=.bad a x):a≤p.code.length∧0 < x:=by
 obtain⟨-,-,fk3,fk4,-⟩:=parse_ok ht
 unfold whole at hw
 cases ha:anaT p h t 0 0 0 (st0 p) 0 0 with
 | stuck=>rw [ha] at hw;cases hw
 | bad a' x'=>
  rw [ha] at hw
  injection hw with h1 h2
  subst h1 h2
  obtain⟨h3,h4⟩:=anaT_bad hh t 0 0 0 (st0 p) 0 0 false a' x' fk3 (by rw [fk4,Nat.zero_add];exact Nat.le_refl _) ha
  exact⟨by rw [←fk4];omega,h4⟩
 | ok st s e=>
  rw [ha] at hw
  simp only [] at hw
  split at hw
  ·injection hw with h1 h2
   subst h1 h2
   exact⟨Nat.le_refl _,by decide⟩
  ·cases hw
def RepT(w:World)(rb:Nat)(rp:Rp):Prop:=∃ A n c,rowV w rb 35 #[.int .i64 rp.steps,.int .i64 rp.emits,.int .i64 rp.hgt,.slice A n c]∧InvT w A n c rp.inv
def verO(r:RR):Option (Int × Int):=match r with
 | .bad a x=>some ((a:Int),x)
 | .ok rp=>if 281474976710656 < rp.steps then some (0,18) else none
 | .stuck=>none
def RRRep(rb:Nat)(r:RR)(w:World):Prop:=match r with
 | .ok rp=>RepT w rb rp
 | _=>True
theorem anaWid_any(w:World)(aA cA:Option Addr)(an ac cn cc:Nat)(L:Int)(p:Prg)(hp:Progs w aA an ac L cA cn cc p)(hok:PrgOk p)(t:Tr)(ht:parse p.code=.ok t p.code.length)(pb:Nat)(hr:rowV w pb 25 #[.slice aA an ac,.int .i64 L,.slice cA cn cc]) :
  Calls Tryz.prog 32 #[.agg #[.slice aA an ac,.int .i64 L,.slice cA cn cc],.agg #[.func (.func 58) #[] #[],.func (.func 59) #[] #[.pointer (some ⟨pb,0,none⟩)]]] w (WhoR w (whole p .widen t)):=by
 have hl:=hok.locs
 refine analyseW_any w aA cA an ac cn cc L p p.locs.toNat hp hok (by omega) t ht .widen trivial _ _ (fun wB v _ h=>entC_widen wB v p _ h) (fun wB v P hb h e1 e2 e3 e4 e5 e6 e7 hk=>agnC_widen wB v p P _ hk (by omega) pb h ?_)
 rw [e1,e2,e3,e4,e5,e6,e7]
 exact hr.below hb hr.lt
theorem verify1_any(B0:Nat)(w:World)(pb rb bx:Nat)(aA cA:Option Addr)(an ac cn cc:Nat)(L:Int)(p:Prg)(hp:Progs w aA an ac L cA cn cc p)(hok:PrgOk p)(t:Tr)(ht:parse p.code=.ok t p.code.length)
  (hpr:rowV w pb 25 #[.slice aA an ac,.int .i64 L,.slice cA cn cc]) (z0 z1 z2 z3:Value) (hrr:rowV w rb 35 #[z0,z1,z2,z3]) (hB:B0≤rb) (hb0:rowV w bx 3 #[.int .i64 0]) (hb1:rowV w (bx+1) 28 #[.int .i64 0]) :
  Calls Tryz.prog 31 #[.pointer (some ⟨pb,0,none⟩),.pointer (some ⟨rb,0,none⟩)] w (ActR B0 w bx (RRRep rb (whole p .widen t)) (verO (whole p .widen t))):=by
 have HP:=Lib.hid hp
 have HO:=Lib.hid hok
 have Ht:=Lib.hid ht
 obtain⟨c0,c1,c2⟩:=three_cellsV hpr
 have hwd:∀ q,Calls Tryz.prog 33 #[.agg #[.slice aA an ac,.int .i64 L,.slice cA cn cc]] (w.drewN q) fun e w'=>e=.returned (.agg #[.func (.func 58) #[] #[],.func (.func 59) #[] #[.pointer (some ⟨w.heap.size,0,none⟩)]])∧rowV w' w.heap.size 25 #[.slice aA an ac,.int .i64 L,.slice cA cn cc]∧Below w.heap.size w w':=fun q=>(widening_any aA cA an ac cn cc L (w.drewN q)).mono fun e w' h=>⟨h.1,h.2.1,((Drawn.drewN w q).below _).trans h.2.2⟩
 have hpl:=hpr.lt
 have hrl:=hrr.lt
 have HR:=Lib.hid (And.intro hpr (And.intro hrr (And.intro hb0 hb1)))
 have HB:=Lib.hid hB
 clear hp hok ht hb0 hb1 hB hpr
 have hAn:Hid (∀ (w2:World) (q:Nat),Below w.heap.size w w2→rowV w2 w.heap.size 25 #[.slice aA an ac,.int .i64 L,.slice cA cn cc]→Calls Tryz.prog 32 #[.agg #[.slice aA an ac,.int .i64 L,.slice cA cn cc],.agg #[.func (.func 58) #[] #[],.func (.func 59) #[] #[.pointer (some ⟨w.heap.size,0,none⟩)]]] (w2.drewN q) (WhoR (w2.drewN q) (whole p .widen t))):=fun w2 q hb hr=>
  anaWid_any (w2.drewN q) aA cA an ac cn cc L p (HP.out.below (bdrew hb q)) HO.out t Ht.out w.heap.size hr
 cases hwh:whole p .widen t with
 | stuck=>exact absurd hwh (whole_stuck (n:=p.locs.toNat) HO.out (by have:=HO.out.locs;omega) trivial Ht.out)
 | bad a x=>
  have HAo:Hid (∀ (w2:World) (q:Nat),Below w.heap.size w w2→rowV w2 w.heap.size 25 #[.slice aA an ac,.int .i64 L,.slice cA cn cc]→Calls Tryz.prog 32 #[.agg #[.slice aA an ac,.int .i64 L,.slice cA cn cc],.agg #[.func (.func 58) #[] #[],.func (.func 59) #[] #[.pointer (some ⟨w.heap.size,0,none⟩)]]] (w2.drewN q) fun e w'=>e=.panicked [{ v:=failW a x,recovered:=false }]∧Below w2.heap.size w2 w'):=fun w2 q hb hr=>(hAn.out w2 q hb hr).mono fun e w' h=>by
   rw [hwh] at h
   exact⟨h.1,((Drawn.drewN w2 q).below _).trans h.2⟩
  clear hAn hwh
  go_enter Tryz.func31,Tryz.ntmps31
  go_upto_region 0 with fail
  go_region_law (first | (go_simp;refine (hwd _).mono ?_;rintro e w2 ⟨rfl,hr2,hb2⟩;have v0:=(hb2.cell (p:=⟨pb,0,none⟩) hpl).trans c0;have v1:=(hb2.cell (p:=⟨pb,1,none⟩) hpl).trans c1;have v2:=(hb2.cell (p:=⟨pb,2,none⟩) hpl).trans c2) | (go_simp;refine (HAo.out w2 _ hb2 hr2).mono ?_;rintro e w3 ⟨rfl,hb23⟩;refine (fun (_:wpAny Tryz.prog .any #[] (fun _ _ _=>True) 0 #[] { tmps:=#[],defers:=[] } w3)=>⟨rfl,⟨rfl,by have hb3:=hb2.trans (hb23.mono hb2.size);exact⟨hb3.mono (Nat.le_trans HB.out (Nat.le_of_lt hrl)),HR.out.2.2.1.below hb3 HR.out.2.2.1.lt,HR.out.2.2.2.below hb3 HR.out.2.2.2.lt⟩⟩⟩) ?_) | (go_simp;refine (HAo.out w2 0 hb2 hr2).mono ?_;rintro e w3 ⟨rfl,hb23⟩;refine (fun (_:wpAny Tryz.prog .any #[] (fun _ _ _=>True) 0 #[] { tmps:=#[],defers:=[] } w3)=>⟨rfl,⟨rfl,by have hb3:=hb2.trans (hb23.mono hb2.size);exact⟨hb3.mono (Nat.le_trans HB.out (Nat.le_of_lt hrl)),HR.out.2.2.1.below hb3 HR.out.2.2.1.lt,HR.out.2.2.2.below hb3 HR.out.2.2.2.lt⟩⟩⟩) ?_))
  all_goals trivial
 | ok rp=>
  have HAo:Hid (∀ (w2:World) (q:Nat),Below w.heap.size w w2→rowV w2 w.heap.size 25 #[.slice aA an ac,.int .i64 L,.slice cA cn cc]→Calls Tryz.prog 32 #[.agg #[.slice aA an ac,.int .i64 L,.slice cA cn cc],.agg #[.func (.func 58) #[] #[],.func (.func 59) #[] #[.pointer (some ⟨w.heap.size,0,none⟩)]]] (w2.drewN q) fun e w'=>∃ A n c,e=.returned (.agg #[.int .i64 rp.steps,.int .i64 rp.emits,.int .i64 rp.hgt,.slice A n c])∧InvT w' A n c rp.inv∧Below w2.heap.size w2 w'):=fun w2 q hb hr=>(hAn.out w2 q hb hr).mono fun e w' h=>by
   rw [hwh] at h
   obtain⟨⟨A,n,c,h1,h2⟩,h3⟩:=h
   exact⟨A,n,c,h1,h2 (fun b hq=>hq),((Drawn.drewN w2 q).below _).trans h3⟩
  obtain⟨⟨rs,re,rh,ri⟩,hrp⟩:∃ x,x=rp:=⟨_,rfl⟩
  rw [←hrp] at HAo ⊢
  simp only [] at HAo
  have hne:Hid (pb≠rb):=fun e=>by
   have h1:=HR.out.1
   have h2:=hrr
   unfold rowV at h1 h2
   rw [e,h2] at h1
   injection h1 with h1
   injection h1 with _ h1 _
   exact absurd h1 (by decide)
  clear hAn hwh hrp
  go_enter Tryz.func31,Tryz.ntmps31
  go_upto_region 0 with fail
  go_region_held3 (fun W=>W.cell? ⟨pb,0,none⟩=some (.slice aA an ac)∧W.cell? ⟨pb,1,none⟩=some (.int .i64 L)∧W.cell? ⟨pb,2,none⟩=some (.slice cA cn cc))
   (first | go_keep | exact⟨v0,v1,v2⟩ | exact⟨u0,u1,u2⟩ | exact⟨q0,q1,q2⟩)
   (first
    | (go_at_call 33;refine (hwd _).mono ?_;rintro e w2 ⟨rfl,hr2,hb2⟩;have v0:=(hb2.cell (p:=⟨pb,0,none⟩) hpl).trans c0;have v1:=(hb2.cell (p:=⟨pb,1,none⟩) hpl).trans c1;have v2:=(hb2.cell (p:=⟨pb,2,none⟩) hpl).trans c2)
    | (go_at_call 32;refine (HAo.out w2 0 hb2 hr2).mono ?_;rintro e w3 ⟨A3,n3,c3,rfl,hinv3,hb23⟩;have hb3:=hb2.trans (hb23.mono hb2.size);have u0:=(hb3.cell (p:=⟨pb,0,none⟩) hpl).trans c0;have u1:=(hb3.cell (p:=⟨pb,1,none⟩) hpl).trans c1;have u2:=(hb3.cell (p:=⟨pb,2,none⟩) hpl).trans c2;have r3:=hrr.below hb3 hrl;obtain⟨t0,t1,t2,t3⟩:=four_cellsV r3;have f0:=frozen_rowV' r3 0;have f1:=frozen_rowV' r3 1;have f2:=frozen_rowV' r3 2;have f3:=frozen_rowV' r3 3;have gR:w3.grownBy ((((w3.setCell ⟨rb,0,none⟩ (.int .i64 rs)).setCell ⟨rb,1,none⟩ (.int .i64 re)).setCell ⟨rb,2,none⟩ (.int .i64 rh)).setCell ⟨rb,3,none⟩ (.slice A3 n3 c3)) (some rb):=grownBy.setCell' (grownBy.setCell' (grownBy.setCell' (grownBy.setCell' (World.grownBy.refl _ _) _) _) _) _;have hpl3:=Nat.lt_of_lt_of_le hpl hb3.size;have q0:=(World.cell?_of_block (a:=⟨pb,0,none⟩) (gR.block pb hpl3 (fun e=>hne.out (by injection e)))).trans u0;have q1:=(World.cell?_of_block (a:=⟨pb,1,none⟩) (gR.block pb hpl3 (fun e=>hne.out (by injection e)))).trans u1;have q2:=(World.cell?_of_block (a:=⟨pb,2,none⟩) (gR.block pb hpl3 (fun e=>hne.out (by injection e)))).trans u2))
  rename_i hHeld
  have hneb:Hid (bx≠rb∧bx+1≠rb):=⟨fun e=>by
   have h1:=HR.out.2.2.1
   have h2:=hrr
   unfold rowV at h1 h2
   rw [e,h2] at h1
   injection h1 with h1
   injection h1 with _ h1 _
   exact absurd h1 (by decide),fun e=>by
   have h1:=HR.out.2.2.2
   have h2:=hrr
   unfold rowV at h1 h2
   rw [e,h2] at h1
   injection h1 with h1
   injection h1 with _ h1 _
   exact absurd h1 (by decide)⟩
  have r4:=(((r3.set 0 (.int .i64 rs)).set 1 (.int .i64 re)).set 2 (.int .i64 rh)).set 3 (.slice A3 n3 c3)
  have hinv4:=hinv3.grown gR r3 (by decide) (by decide)
  have hb4:=(hb3.mono (Nat.le_trans HB.out (Nat.le_of_lt hrl))).grown gR (Nat.le_trans (Nat.le_trans HB.out (Nat.le_of_lt hrl)) hb3.size) (fun k hk=>by injection hk with hk;rw [←hk];exact HB.out)
  have d0:=(HR.out.2.2.1.below hb3 HR.out.2.2.1.lt).grown gR (fun e=>hneb.out.1 (by injection e))
  have d1:=(HR.out.2.2.2.below hb3 HR.out.2.2.2.lt).grown gR (fun e=>hneb.out.2 (by injection e))
  obtain⟨w4,hw4⟩:∃ x,x=(((w3.setCell ⟨rb,0,none⟩ (.int .i64 rs)).setCell ⟨rb,1,none⟩ (.int .i64 re)).setCell ⟨rb,2,none⟩ (.int .i64 rh)).setCell ⟨rb,3,none⟩ (.slice A3 n3 c3):=⟨_,rfl⟩
  rw [←hw4] at r4 hinv4 hb4 d0 d1 ⊢
  obtain⟨s0,s1,s2,s3⟩:=four_cellsV r4
  have HN:Hid (RepT w4 rb ⟨rs,re,rh,ri⟩∧Below B0 w w4∧rowV w4 bx 3 #[.int .i64 0]∧rowV w4 (bx+1) 28 #[.int .i64 0]):=⟨⟨A3,n3,c3,r4,hinv4⟩,hb4,d0,d1⟩
  clear hHeld hneb r4 hinv4 hb4 d0 d1 hw4 gR hpl3 q0 q1 q2 t0 t1 t2 t3 f0 f1 f2 f3 r3 u0 u1 u2 hb3 hb23 hinv3 v0 v1 v2 hr2 hb2 hwd c0 c1 c2
  by_cases hbig:281474976710656 < rs
  ·have e0:decide (rs≤281474976710656)=false:=by simp;omega
   have hv:Hid (verO (.ok ⟨rs,re,rh,ri⟩)=some (0,18)):=by show (if _ then _ else _)=_;rw [if_pos hbig]
   clear hbig
   go_wp2_with fail
   refine (demandW_bad _ _ _).mono ?_
   rintro e w5 ⟨rfl,hw5⟩
   subst hw5
   refine⟨rfl,?_⟩
   rw [hv.out]
   exact⟨rfl,HN.out.2⟩
  ·have e0:decide (rs≤281474976710656)=true:=by simp;omega
   have hv:Hid (verO (.ok ⟨rs,re,rh,ri⟩)=none):=by show (if _ then _ else _)=_;rw [if_neg hbig]
   clear hbig
   go_wp2_with fail
   refine (demandW_ok _ _ _).mono ?_
   rintro e w5 ⟨rfl,hw5⟩
   obtain rfl:=hw5.symm
   go_wp2_with fail
   refine bodyPost_ret (v:=.tuple #[]) (by simp [results,Tryz.results31,go_sem]) rfl ?_
   rw [hv.out]
   exact⟨⟨rfl,HN.out.1⟩,HN.out.2⟩
def VerR(w:World)(r:RR)(e:Ending)(w':World):Prop:=match r with
 | .stuck=>False
 | .bad a x=>e=.returned (.tuple #[.agg #[.int .i64 0,.int .i64 0,.int .i64 0,.slice none 0 0],.int .i64 (a:Int),.int .i64 x])∧Below w.heap.size w w'
 | .ok rp=>(∃ A n c,e=.returned (.tuple #[.agg #[.int .i64 rp.steps,.int .i64 rp.emits,.int .i64 rp.hgt,.slice A n c],.int .i64 0,.int .i64 0])∧InvT w' A n c rp.inv)∧Below w.heap.size w w'
theorem rep4{w:World}{R:Nat}{z0 z1 z2 z3:Value}(h:rowV w R 35 #[z0,z1,z2,z3])(a b c d:Value):∃ W,W=(((w.setCell ⟨R,0,none⟩ a).setCell ⟨R,1,none⟩ b).setCell ⟨R,2,none⟩ c).setCell ⟨R,3,none⟩ d∧rowV W R 35 #[a,b,c,d]∧w.grownBy W (some R):=
 ⟨_,rfl,(((h.set 0 a).set 1 b).set 2 c).set 3 d,grownBy.setCell' (grownBy.setCell' (grownBy.setCell' (grownBy.setCell' (World.grownBy.refl _ _) _) _) _) _⟩
theorem ver_boxes(w:World)(aA cA:Option Addr)(an ac cn cc:Nat)(L:Int):∃ w1,w1=(w.alloc (.cells #[.slice aA an ac,.int .i64 L,.slice cA cn cc] 25)).alloc (.cells #[.int .i64 0,.int .i64 0,.int .i64 0,.slice none 0 0] 35)∧Below w.heap.size w w1∧rowV w1 w.heap.size 25 #[.slice aA an ac,.int .i64 L,.slice cA cn cc]∧rowV w1 (w.heap.size+1) 35 #[.int .i64 0,.int .i64 0,.int .i64 0,.slice none 0 0]∧w1.heap.size=w.heap.size+1+1:=by
 have r1:=rowV.new w 25 #[.slice aA an ac,.int .i64 L,.slice cA cn cc]
 have e1:(w.alloc (.cells #[.slice aA an ac,.int .i64 L,.slice cA cn cc] 25)).heap.size=w.heap.size+1:=by simp
 obtain⟨wa,hwa⟩:∃ x,x=w.alloc (.cells #[.slice aA an ac,.int .i64 L,.slice cA cn cc] 25):=⟨_,rfl⟩
 have k1:Below w.heap.size w wa:=by rw [hwa];exact balloc (Below.refl _ _) _
 rw [←hwa] at r1 e1 ⊢
 have r3:=rowV.new wa 35 #[.int .i64 0,.int .i64 0,.int .i64 0,.slice none 0 0]
 have k3:Below wa.heap.size wa (wa.alloc (.cells #[.int .i64 0,.int .i64 0,.int .i64 0,.slice none 0 0] 35)):=balloc (Below.refl _ _) _
 rw [e1] at r3
 exact⟨_,rfl,k1.trans (k3.mono k1.size),r1.below k3 r1.lt,r3,by simp [e1]⟩
theorem verifyW_any(A A':Option Addr)(n c n' c':Nat)(L:Int)(p:Prg)(w:World)(hx:Progs w A n c L A' n' c' p) :
  Calls Tryz.prog 14 #[.agg #[.slice A n c,.int .i64 L,.slice A' n' c']] w (VerR w (verP p)):=by
 obtain⟨w0,hw0,g0,r0,rr0,s0⟩:=ver_boxes w A A' n c n' c' L
 have H1:=Lib.hid (checkW_any A A' n c n' c' L p w0 (hx.below g0))
 have hwf:Hid (∀ x∈p.code,0≤x.arg∧x.arg < 4294967296):=fun x h=>⟨(hx.code.2.2.1 x h).1,(hx.code.2.2.1 x h).2.1⟩
 have HX:=Lib.hid (hx.below g0)
 have HG:=Lib.hid (And.intro r0 (And.intro rr0 g0))
 have Hw0:=Lib.hid hw0
 have Hs0:=Lib.hid s0
 obtain⟨c0,c1,c2⟩:=three_cellsV r0
 have hE:Hid (verP p=if (chkP p).2≠0 then .bad (chkP p).1 (chkP p).2
  else match whole p .widen (treeOf p) with
  | .ok r=>if 281474976710656 < r.steps then .bad 0 18 else .ok r
  | x=>x):=rfl
 clear hx g0 r0 rr0 hw0 s0
 obtain⟨ka,ke,hke⟩:∃ a e,chkP p=(a,e):=⟨_,_,rfl⟩
 rw [hke] at H1 hE
 simp only [] at hE
 have hmf:∀ (fn:Fn) (first cap:Array Value) (w:World),(Instr.makeFunc fn first cap).run Tryz.prog w=.ok (.func fn first cap) w:=fun _ _ _ _=>rfl
 go_enter Tryz.func14,Tryz.ntmps14
 go_upto_region 1 with fail
 rw [←Hw0.out]
 go_wp2_with fail
 refine H1.out.mono ?_
 intro e w1 hr
 obtain⟨rfl,hb1⟩:=hr
 have r1:=HG.out.1.below hb1 HG.out.1.lt
 have rr1:=HG.out.2.1.below hb1 HG.out.2.1.lt
 have g1:=HG.out.2.2.trans (hb1.mono HG.out.2.2.size)
 have hx1:=HX.out.below hb1
 clear H1 c0 c1 c2
 by_cases hf:ke=0
 rotate_left 1
 ·have d1:(ke != 0)=true:=by simpa using hf
  have hE2:Hid (verP p=.bad ka ke):=by show _=_;rw [hE.out,if_pos hf]
  obtain⟨t0,t1,t2,t3⟩:=four_cellsV rr1
  have f0:=frozen_rowV' rr1 0
  have f1:=frozen_rowV' rr1 1
  have f2:=frozen_rowV' rr1 2
  have f3:=frozen_rowV' rr1 3
  have HR:=Lib.hid (And.intro rr1 g1)
  clear hf hke r1 rr1 g1 hx1 hb1
  go_wp2_with fail
  obtain⟨W,hW,rW,gW⟩:=rep4 HR.out.1 (.int .i64 0) (.int .i64 0) (.int .i64 0) (.slice none 0 0)
  rw [←hW]
  obtain⟨b0,b1,b2,b3⟩:=four_cellsV rW
  refine bodyPost_ret (v:=.tuple #[.agg #[.int .i64 0,.int .i64 0,.int .i64 0,.slice none 0 0],.int .i64 (ka:Int),.int .i64 ke]) (by simp [results,Tryz.results14,go_sem,b0,b1,b2,b3]) rfl ?_
  rw [hE2.out]
  exact⟨rfl,HR.out.2.grown gW HR.out.2.size (fun k hk=>by injection hk with hk;omega)⟩
 ·subst hf
  obtain⟨hok,hfe,t,ht,htr⟩:=prgOk_of hwf.out (by rw [hke])
  have hE2:Hid (verP p=match whole p .widen t with
   | .ok r=>if 281474976710656 < r.steps then .bad 0 18 else .ok r
   | x=>x):=by show _=_;rw [hE.out,if_neg (by decide),htr]
  obtain⟨w2,hw2⟩:∃ x,x=w1.alloc (.cells #[.int .i64 0,.int .i64 0,.int .i64 0,.slice none 0 0] 35):=⟨_,rfl⟩
  have k2:Below w1.heap.size w1 w2:=by rw [hw2];exact balloc (Below.refl _ _) _
  have rb2:rowV w2 w1.heap.size 35 #[.int .i64 0,.int .i64 0,.int .i64 0,.slice none 0 0]:=by rw [hw2];exact rowV.new w1 _ _
  have hx2:=hx1.below k2
  have r2:=r1.below k2 r1.lt
  have HGu:=Lib.hid (guarded_any w1.heap.size 31 w.heap.size w1.heap.size (verO (whole p .widen t)) (RRRep w1.heap.size (whole p .widen t)) w2 k2.size (enters_of Tryz.func31 (by kernel_rfl) rfl)
   (fun w3 hb3 hs3 hi0 hi1=>verify1_any w1.heap.size w3 w.heap.size w1.heap.size w2.heap.size A A' n c n' c' L p (hx2.below hb3) hok t ht (r2.below hb3 r2.lt) _ _ _ _ (rb2.below hb3 rb2.lt) (Nat.le_refl _) hi0 hi1))
  have HR1:=Lib.hid (And.intro rr1 (And.intro g1 k2))
  have Hw2:=Lib.hid hw2
  have hst:=whole_stuck (n:=p.locs.toNat) (h:=.widen) hok (by have:=hok.locs;omega) trivial ht
  have hbd:∀ a x,whole p .widen t=.bad a x→a≤p.code.length∧0 < x:=fun a x hw=>whole_bad (h:=.widen) trivial ht hw
  clear hke r1 rr1 g1 hx1 hb1 hok hfe ht htr hw2 k2 rb2 hx2 r2 hE
  go_wp2_with fail
  rw [←Hw2.out]
  refine HGu.out.mono ?_
  intro e w3 hr
  clear HGu
  cases hwh:whole p .widen t with
  | stuck=>exact absurd hwh hst
  | bad a x=>
   rw [hwh] at hr hE2
   obtain⟨hr,hb3⟩:=hr
   have hr:e=.returned (.tuple #[.int .i64 (a:Int),.int .i64 x]):=hr
   subst hr
   have hb13:Below w1.heap.size w1 w3:=HR1.out.2.2.trans hb3
   have rr3:=HR1.out.1.below hb13 HR1.out.1.lt
   have g3:=HR1.out.2.1.trans (hb13.mono HR1.out.2.1.size)
   have hx0:x≠0:=by have:=(hbd a x hwh).2;omega
   have d1:(x != 0)=true:=by simpa using hx0
   obtain⟨t0,t1,t2,t3⟩:=four_cellsV rr3
   have f0:=frozen_rowV' rr3 0
   have f1:=frozen_rowV' rr3 1
   have f2:=frozen_rowV' rr3 2
   have f3:=frozen_rowV' rr3 3
   have HR:=Lib.hid (And.intro rr3 g3)
   clear rr3 g3 hb13 hb3 hwh hst hx0 hbd
   go_wp2_with fail
   obtain⟨W,hW,rW,gW⟩:=rep4 HR.out.1 (.int .i64 0) (.int .i64 0) (.int .i64 0) (.slice none 0 0)
   rw [←hW]
   obtain⟨b0,b1,b2,b3⟩:=four_cellsV rW
   refine bodyPost_ret (v:=.tuple #[.agg #[.int .i64 0,.int .i64 0,.int .i64 0,.slice none 0 0],.int .i64 (a:Int),.int .i64 x]) (by simp [results,Tryz.results14,go_sem,b0,b1,b2,b3]) rfl ?_
   rw [hE2.out]
   exact⟨rfl,HR.out.2.grown gW HR.out.2.size (fun k hk=>by injection hk with hk;omega)⟩
  | ok rp=>
   rw [hwh] at hr hE2
   obtain⟨hr,hb3⟩:=hr
   by_cases hbig:281474976710656 < rp.steps
   ·have hv:verO (.ok rp)=some (0,18):=by show (if _ then _ else _)=_;rw [if_pos hbig]
    have hE3:Hid (verP p=.bad 0 18):=by show _=_;rw [hE2.out];show (if _ then _ else _)=_;rw [if_pos hbig]
    rw [hv] at hr
    have hr:e=.returned (.tuple #[.int .i64 0,.int .i64 18]):=hr
    subst hr
    have hb13:Below w1.heap.size w1 w3:=HR1.out.2.2.trans hb3
    have rr3:=HR1.out.1.below hb13 HR1.out.1.lt
    have g3:=HR1.out.2.1.trans (hb13.mono HR1.out.2.1.size)
    obtain⟨t0,t1,t2,t3⟩:=four_cellsV rr3
    have f0:=frozen_rowV' rr3 0
    have f1:=frozen_rowV' rr3 1
    have f2:=frozen_rowV' rr3 2
    have f3:=frozen_rowV' rr3 3
    have HR:=Lib.hid (And.intro rr3 g3)
    clear rr3 g3 hb13 hb3 hwh hst hbd hbig hv hE2
    go_wp2_with fail
    obtain⟨W,hW,rW,gW⟩:=rep4 HR.out.1 (.int .i64 0) (.int .i64 0) (.int .i64 0) (.slice none 0 0)
    rw [←hW]
    obtain⟨b0,b1,b2,b3⟩:=four_cellsV rW
    refine bodyPost_ret (v:=.tuple #[.agg #[.int .i64 0,.int .i64 0,.int .i64 0,.slice none 0 0],.int .i64 0,.int .i64 18]) (by simp [results,Tryz.results14,go_sem,b0,b1,b2,b3]) rfl ?_
    rw [hE3.out]
    exact⟨rfl,HR.out.2.grown gW HR.out.2.size (fun k hk=>by injection hk with hk;omega)⟩
   ·have hv:verO (.ok rp)=none:=by show (if _ then _ else _)=_;rw [if_neg hbig]
    have hE3:Hid (verP p=.ok rp):=by show _=_;rw [hE2.out];show (if _ then _ else _)=_;rw [if_neg hbig]
    rw [hv] at hr
    obtain⟨hr,A9,n9,c9,hrow,hinv⟩:=hr
    subst hr
    have hb13:Below w1.heap.size w1 w3:=HR1.out.2.2.trans hb3
    have rr3:=HR1.out.1.below hb13 HR1.out.1.lt
    have g3:=HR1.out.2.1.trans (hb13.mono HR1.out.2.1.size)
    obtain⟨⟨rs,re,rh,ri⟩,hrp⟩:∃ x,x=rp:=⟨_,rfl⟩
    rw [←hrp] at hrow hinv hE3
    simp only [] at hrow hinv
    obtain⟨s0,s1,s2,s3⟩:=four_cellsV hrow
    obtain⟨t0,t1,t2,t3⟩:=four_cellsV rr3
    have f0:=frozen_rowV' rr3 0
    have f1:=frozen_rowV' rr3 1
    have f2:=frozen_rowV' rr3 2
    have f3:=frozen_rowV' rr3 3
    have HR:=Lib.hid (And.intro rr3 (And.intro g3 hinv))
    clear rr3 g3 hb13 hb3 hwh hst hbd hbig hv hE2 hrow hinv hrp
    go_wp2_with fail
    obtain⟨W,hW,rW,gW⟩:=rep4 HR.out.1 (.int .i64 rs) (.int .i64 re) (.int .i64 rh) (.slice A9 n9 c9)
    rw [←hW]
    obtain⟨b0,b1,b2,b3⟩:=four_cellsV rW
    refine bodyPost_ret (v:=.tuple #[.agg #[.int .i64 rs,.int .i64 re,.int .i64 rh,.slice A9 n9 c9],.int .i64 0,.int .i64 0]) (by simp [results,Tryz.results14,go_sem,b0,b1,b2,b3]) rfl ?_
    rw [hE3.out]
    exact⟨⟨A9,n9,c9,rfl,HR.out.2.2.grown gW HR.out.1 (by decide) (by decide)⟩,HR.out.2.1.grown gW HR.out.2.1.size (fun k hk=>by injection hk with hk;omega)⟩
end Go.Proofs.YtepoclhdklgnhaaGreatDoor
namespace Go.Proofs.YtepoclhdklgnhaaGreatDoor
open Go.RowKit Go.Proofs
def forO(p:Prg)(l:List Inv):Option (Int × Int):=if (l.map fun x=>x.at_)≠loopsI p.code then some (0,23) else if (formR p l).2≠0 then some (((formR p l).1:Int),(formR p l).2) else none
def OutR(w:World)(o:Option (Int × Int))(e:Ending)(w':World):Prop:=(match o with
 | none=>e=.returned (.tuple #[])
 | some ax=>e=.panicked [{ v:=failW ax.1 ax.2,recovered:=false }])∧Below w.heap.size w w'
theorem formR_drop{p:Prg}{l:List Inv}{k:Nat}(hk:k < l.length):formR p (l.drop k)=if (gN l k).most < 0∨65536 < (gN l k).most∨((gN l k).locs.length:Int)≠p.locs∨(gN l k).locs.any (fun y=>decide (ivE y≠0)) then ((gN l k).at_.toNat,3) else formR p (l.drop (k+1)):=by
 rw [List.drop_eq_getElem_cons hk]
 have e:gN l k=l[k]:=by unfold gN;rw [List.getD_eq_getElem?_getD,List.getElem?_eq_getElem hk];rfl
 rw [e]
 rfl
theorem wrong_all(l:List Iv):wrongK l l.length=l.any fun y=>decide (ivE y≠0):=by
 unfold wrongK
 rw [List.take_length]
 congr 1
 funext y
 by_cases h:ivE y=0
 ·rw [h];rfl
 ·simp [h]
theorem for_boxes(w:World)(aA cA iA:Option Addr)(an ac cn cc inn ic:Nat)(L s e h:Int):∃ w1,w1=(w.alloc (.cells #[.slice aA an ac,.int .i64 L,.slice cA cn cc] 25)).alloc (.cells #[.int .i64 s,.int .i64 e,.int .i64 h,.slice iA inn ic] 35)∧Below w.heap.size w w1∧rowV w1 w.heap.size 25 #[.slice aA an ac,.int .i64 L,.slice cA cn cc]∧rowV w1 (w.heap.size+1) 35 #[.int .i64 s,.int .i64 e,.int .i64 h,.slice iA inn ic]∧w1.heap.size=w.heap.size+1+1:=by
 have r1:=rowV.new w 25 #[.slice aA an ac,.int .i64 L,.slice cA cn cc]
 have e1:(w.alloc (.cells #[.slice aA an ac,.int .i64 L,.slice cA cn cc] 25)).heap.size=w.heap.size+1:=by simp
 obtain⟨wa,hwa⟩:∃ x,x=w.alloc (.cells #[.slice aA an ac,.int .i64 L,.slice cA cn cc] 25):=⟨_,rfl⟩
 have k1:Below w.heap.size w wa:=by rw [hwa];exact balloc (Below.refl _ _) _
 rw [←hwa] at r1 e1 ⊢
 have r3:=rowV.new wa 35 #[.int .i64 s,.int .i64 e,.int .i64 h,.slice iA inn ic]
 have k3:Below wa.heap.size wa (wa.alloc (.cells #[.int .i64 s,.int .i64 e,.int .i64 h,.slice iA inn ic] 35)):=balloc (Below.refl _ _) _
 rw [e1] at r3
 exact⟨_,rfl,k1.trans (k3.mono k1.size),r1.below k3 r1.lt,r3,by simp [e1]⟩
theorem loops_nonneg{c:List Ins}:∀ z∈loopsI c,0≤z:=by
 intro z hz
 unfold loopsI at hz
 obtain⟨k,-,rfl⟩:=List.mem_map.1 hz
 exact Int.natCast_nonneg _
theorem OwnS.intsZ{w:World}{B:Nat}{A:Option Addr}{n c:Nat}{zs:List Int}(h:OwnS encZ 1 w B 3 A n c zs):Ints w A n c zs:=by
 refine⟨h.length (fun _=>rfl) (by decide),h.cap,fun hn=>?_⟩
 obtain⟨g,rfl,h1,h2,h3⟩:=h.get (fun _=>rfl) (by decide) 0 hn
 refine⟨g,0,rfl,h2,fun i hi=>?_⟩
 have h4:=h3 i 0 _ hi rfl
 rw [Nat.mul_one,Nat.add_zero] at h4
 rw [Nat.zero_add]
 exact h4
theorem formedW_any(A A' D:Option Addr)(n c n' c' m d:Nat)(L s e0 h0:Int)(p:Prg)(l:List Inv)(w:World)(hx:Progs w A n c L A' n' c' p)(hok:PrgOk p)(t:Tr)(ht:parse p.code=.ok t p.code.length)(hl:Invs w D m d l)(hm:m≤1000)(hll:∀ x∈l,x.locs.length≤1000) :
  Calls Tryz.prog 38 #[.agg #[.slice A n c,.int .i64 L,.slice A' n' c'],.agg #[.int .i64 s,.int .i64 e0,.int .i64 h0,.slice D m d]] w (OutR w (forO p l)):=by
 obtain⟨w0,hw0,g0,r0,rr0,s0⟩:=for_boxes w A A' D n c n' c' m d L s e0 h0
 have hcl:=hx.code.1
 have hlen:=hok.len
 have HLp:=loopsW_any A' n' c' p.code w0 (hx.code.below g0) (by omega)
 have hpe:(parE p.code).2=0:=by unfold parE;rw [if_neg (by omega),ht]
 rw [hpe] at HLp
 have HLp:=Lib.hid HLp
 have HX:=Lib.hid (hl.below g0)
 have HG:=Lib.hid (And.intro r0 (And.intro rr0 g0))
 have Hw0:=Lib.hid hw0
 have HLL:=Lib.hid hll
 have HL:=Lib.hid hx.locs
 have hloc:=hok.locs
 have hlp:(loopsI p.code).length≤1024:=by
  unfold loopsI loopsOf
  rw [List.length_map]
  exact Nat.le_trans (List.length_filter_le _ _) (by rw [List.length_range];exact hlen)
 have hlpn:=@loops_nonneg p.code
 obtain⟨Z,hZ⟩:∃ Z,Z=loopsI p.code:=⟨_,rfl⟩
 have hE:Hid (forO p l=if (l.map fun x=>x.at_)≠Z then some (0,23) else if (formR p l).2≠0 then some (((formR p l).1:Int),(formR p l).2) else none):=by show _=_;rw [hZ];rfl
 rw [←hZ] at HLp hlp hlpn
 have Hn:=Lib.hid hlpn
 obtain⟨c0,c1,c2⟩:=three_cellsV r0
 clear hx hok ht hl hll g0 r0 rr0 hw0 s0 hpe hZ hlpn hlen hcl
 go_enter Tryz.func38,Tryz.ntmps38
 go_upto_region 1 with fail
 rw [←Hw0.out]
 go_wp2_with fail
 refine HLp.out.mono ?_
 rintro e w1 ⟨A5,n5,c5,rfl,hb1,ho1⟩
 have hz1:=(ho1 trivial).intsZ
 have r1:=HG.out.1.below hb1 HG.out.1.lt
 have rr1:=HG.out.2.1.below hb1 HG.out.2.1.lt
 have g1:=HG.out.2.2.trans (hb1.mono HG.out.2.2.size)
 have hx1:=HX.out.below hb1
 have HEq:=Lib.hid (equalInv_any A5 D n5 c5 m d Z l w1 hz1 hx1 (by rw [←hz1.1];omega) hm)
 have q3:=(four_cellsV rr1).2.2.2
 have HR1:=Lib.hid (And.intro r1 (And.intro rr1 (And.intro g1 hx1)))
 clear HLp ho1 hz1 r1 rr1 g1 hx1 hb1 c0 c1 c2
 go_wp2_with fail
 refine (demandW_ok _ _ _).mono ?_
 rintro e w2 ⟨rfl,hw2⟩
 obtain rfl:=hw2.symm
 clear hw2
 go_wp2_with fail
 refine HEq.out.mono ?_
 rintro e w3 ⟨rfl,hb3⟩
 have r3:=HR1.out.1.below hb3 HR1.out.1.lt
 have rr3:=HR1.out.2.1.below hb3 HR1.out.2.1.lt
 have HR3:=Lib.hid (And.intro r3 (And.intro rr3 (And.intro (HR1.out.2.2.1.trans (hb3.mono HR1.out.2.2.1.size)) (HR1.out.2.2.2.below hb3))))
 clear q3 HEq hb3 r3 rr3 HR1
 by_cases hq:Z=l.map fun x=>x.at_
 rotate_left 1
 ·have hqd:decide (Z=l.map fun x=>x.at_)=false:=decide_eq_false hq
  have hE2:Hid (forO p l=some (0,23)):=by show _=_;rw [hE.out,if_pos (fun e=>hq e.symm)]
  rw [hqd]
  clear hq hqd
  go_wp2_with fail
  refine (demandW_bad _ _ _).mono ?_
  rintro e w4 ⟨rfl,hw4⟩
  subst hw4
  refine⟨rfl,?_⟩
  rw [hE2.out]
  exact⟨rfl,HR3.out.2.2.1⟩
 have hqd:decide (Z=l.map fun x=>x.at_)=true:=decide_eq_true hq
 have hE2:Hid (forO p l=if (formR p l).2≠0 then some (((formR p l).1:Int),(formR p l).2) else none):=by show _=_;rw [hE.out,if_neg (fun e=>e hq.symm)]
 have hnn:Hid (∀ k,k < l.length→0≤(gN l k).at_):=fun k hk=>by
  refine Hn.out _ ?_
  rw [hq]
  refine List.mem_map.2 ⟨gN l k,?_,rfl⟩
  unfold gN;rw [List.getD_eq_getElem?_getD,List.getElem?_eq_getElem hk];exact List.getElem_mem hk
 rw [hqd]
 clear hq hqd hlp
 have q3:=(four_cellsV HR3.out.2.1).2.2.2
 go_wp2_with fail
 refine (demandW_ok _ _ _).mono ?_
 rintro e w4 ⟨rfl,hw4⟩
 obtain rfl:=hw4.symm
 clear hw4
 go_wp2_with fail
 clear q3
 go_loopw [7,8,27] (fun _ _ i wr=>∃ k:Nat,k≤m∧i=.int .i64 (k:Int)∧Hid (formR p (l.drop k)=formR p l)∧Hid (Below w3.heap.size w3 wr)) (fun _ _ i _=>m-(intOf i).toNat)
 case atStart=>exact⟨0,Nat.zero_le _,rfl,rfl,Lib.hid (Below.refl _ _)⟩
 case round=>
  obtain⟨k,hk,rfl,HF,HB⟩:=hrel
  by_cases hlt:k < m
  ·have dk:decide ((k:Int) < (m:Int))=true:=by simp;omega
   have dk':decide (k < m)=true:=by simp;omega
   have hkl:k < l.length:=by rw [HR3.out.2.2.2.1];exact hlt
   obtain⟨b,off,rfl,hb,c0,c1,A2,c2',c2,hiv⟩:=(HR3.out.2.2.2.below HB.out).get hlt
   have hdr:Hid (formR p l=if (gN l k).most < 0∨65536 < (gN l k).most∨((gN l k).locs.length:Int)≠p.locs∨(gN l k).locs.any (fun y=>decide (ivE y≠0)) then ((gN l k).at_.toNat,3) else formR p (l.drop (k+1))):=by show _=_;rw [←HF.out];exact formR_drop hkl
   have hx1000:(gN l k).locs.length≤1000:=HLL.out _ (by unfold gN;rw [List.getD_eq_getElem?_getD,List.getElem?_eq_getElem hkl];exact List.getElem_mem hkl)
   have hxn:=hnn.out k hkl
   obtain⟨⟨xa,xm,xl⟩,hxx⟩:∃ z,z=gN l k:=⟨_,rfl⟩
   rw [←hxx] at c0 c1 c2 hiv hdr hx1000 hxn
   simp only [] at c0 c1 c2 hiv hdr hx1000 hxn
   rw [←wrong_all] at hdr
   obtain⟨Ln,hL⟩:∃ L,L=xl.length:=⟨_,rfl⟩
   rw [←hL] at c2 hiv hdr hx1000
   obtain⟨w5,hw5⟩:∃ w5,w5=wr.alloc (.cells #[.int .i64 xa,.int .i64 xm,.slice A2 Ln c2'] 50):=⟨_,rfl⟩
   have g5:Below wr.heap.size wr w5:=by rw [hw5];exact balloc (Below.refl _ _) _
   have r5:rowV w5 wr.heap.size 50 #[.int .i64 xa,.int .i64 xm,.slice A2 Ln c2']:=by rw [hw5];exact rowV.new wr _ _
   have HC:=Lib.hid (containsIv_any A2 Ln c2' xl w5 (hiv.below g5) hx1000)
   obtain⟨y0,y1,y2⟩:=three_cellsV r5
   obtain⟨bw,hbw⟩:∃ z,z=wrongK xl Ln:=⟨_,rfl⟩
   rw [←hbw] at HC hdr
   have HR5:=Lib.hid (And.intro r5 (HB.out.trans (g5.mono HB.out.size)))
   have Hw5:=Lib.hid hw5
   clear hw5 g5 r5 hiv hL hbw hxx hkl hx1000
   go_upto_region 7 with fail
   rw [←Hw5.out]
   clear c0 c1 c2
   go_wp2_with fail
   refine HC.out.mono ?_
   rintro e w6 ⟨rfl,hb6⟩
   have r6:=HR5.out.1.below hb6 HR5.out.1.lt
   have hb36:=HR5.out.2.trans (hb6.mono HR5.out.2.size)
   have rp6:=HR3.out.1.below hb36 HR3.out.1.lt
   obtain⟨y0,y1,y2⟩:=three_cellsV r6
   obtain⟨p0,p1,p2⟩:=three_cellsV rp6
   have HN:Hid (Below w.heap.size w w6∧Below w3.heap.size w3 w6):=⟨HR3.out.2.2.1.trans (hb36.mono HR3.out.2.2.1.size),hb36⟩
   clear HC hb6 r6 hb36 rp6
   have HBad:Hid ((xm < 0∨65536 < xm∨(Ln:Int)≠p.locs∨bw=true)→forO p l=some (xa,3)):=fun hh=>by
    have h1:formR p l=(xa.toNat,3):=by rw [hdr.out,if_pos hh]
    rw [hE2.out,h1,if_pos (show (3:Int)≠0 by decide)]
    simp only []
    rw [Int.toNat_of_nonneg hxn]
   rw [←HL.out] at HBad hdr
   by_cases h1:xm < 0
   ·have d1:decide (0≤xm)=false:=by simp;omega
    have d1':decide (xm < 0)=true:=decide_eq_true h1
    have hEq:=Lib.hid (HBad.out (.inl h1))
    clear h1 hdr HBad hxn
    go_wp2_with fail
    refine (demandW_bad _ _ _).mono ?_
    rintro e w7 ⟨rfl,hw7⟩
    subst hw7
    refine⟨rfl,?_⟩
    rw [hEq.out]
    exact⟨rfl,HN.out.1⟩
   have d1:decide (0≤xm)=true:=by simp;omega
   by_cases h2:65536 < xm
   ·have d2:decide (xm≤65536)=false:=by simp;omega
    have hEq:=Lib.hid (HBad.out (.inr (.inl h2)))
    clear h1 h2 hdr HBad hxn
    go_wp2_with fail
    refine (demandW_bad _ _ _).mono ?_
    rintro e w7 ⟨rfl,hw7⟩
    subst hw7
    refine⟨rfl,?_⟩
    rw [hEq.out]
    exact⟨rfl,HN.out.1⟩
   have d2:decide (xm≤65536)=true:=by simp;omega
   by_cases h3:(Ln:Int)=L
   rotate_left 1
   ·have d3:((Ln:Int)==L)=false:=by simpa using h3
    have hEq:=Lib.hid (HBad.out (.inr (.inr (.inl h3))))
    clear h1 h2 h3 hdr HBad hxn
    go_wp2_with fail
    refine (demandW_bad _ _ _).mono ?_
    rintro e w7 ⟨rfl,hw7⟩
    subst hw7
    refine⟨rfl,?_⟩
    rw [hEq.out]
    exact⟨rfl,HN.out.1⟩
   have d3:((Ln:Int)==L)=true:=by simpa using h3
   cases bw with
   | true=>
    have hEq:=Lib.hid (HBad.out (.inr (.inr (.inr rfl))))
    clear h1 h2 h3 hdr HBad hxn
    go_wp2_with fail
    refine (demandW_bad _ _ _).mono ?_
    rintro e w7 ⟨rfl,hw7⟩
    subst hw7
    refine⟨rfl,?_⟩
    rw [hEq.out]
    exact⟨rfl,HN.out.1⟩
   | false=>
    have HF2:Hid (formR p (l.drop (k+1))=formR p l):=by
     show _=_
     rw [hdr.out,if_neg]
     rintro (h | h | h | h)
     ·exact h1 h
     ·exact h2 h
     ·exact h h3
     ·cases h
    clear h1 h2 h3 hdr HBad hxn
    go_wp2_with fail
    refine (demandW_ok _ _ _).mono ?_
    rintro e w7 ⟨rfl,hw7⟩
    obtain rfl:=hw7.symm
    clear hw7
    have HN2:=Lib.hid HN.out.2
    go_wp2_with fail
    go_roundw
    case rel=>exact⟨k+1,by omega,by go_num,HF2,HN2⟩
    case measure=>(simp [intOf]) <;> omega
  ·obtain rfl:k=m:=by omega
   have dk:decide ((k:Int) < (k:Int))=false:=by simp
   have hEq:Hid (forO p l=none):=by
    show _=_
    have h1:formR p l=(0,0):=by rw [←HF.out,List.drop_of_length_le (by rw [HR3.out.2.2.2.1];exact Nat.le_refl _)];rfl
    rw [hE2.out,h1]
    rfl
   go_wp2_with fail
   refine bodyPost_ret (v:=.tuple #[]) (by simp [results,Tryz.results38,go_sem]) rfl ?_
   rw [hEq.out]
   exact⟨rfl,HR3.out.2.2.1.trans (HB.out.mono HR3.out.2.2.1.size)⟩
end Go.Proofs.YtepoclhdklgnhaaGreatDoor
namespace Go.Proofs.YtepoclhdklgnhaaGreatDoor
open Go.RowKit Go.Proofs
attribute [local go_sem] run_store_fn
@[reducible] def argAll:Inhabited ArgB:=⟨⟨fun _=>True⟩⟩
theorem given_any(s e0 h0:Int)(D:Option Addr)(m d:Nat)(w:World):Calls Tryz.prog 39 #[.agg #[.int .i64 s,.int .i64 e0,.int .i64 h0,.slice D m d]] w fun e w'=>e=.returned (.agg #[.func (.func 75) #[] #[.pointer (some ⟨w.heap.size,0,none⟩)],.func (.func 79) #[] #[]])∧rowV w' w.heap.size 35 #[.int .i64 s,.int .i64 e0,.int .i64 h0,.slice D m d]∧Below w.heap.size w w':=by
 have hmf:∀ (fn:Fn) (first cap:Array Value) (w:World),(Instr.makeFunc fn first cap).run Tryz.prog w=.ok (.func fn first cap) w:=fun _ _ _ _=>rfl
 obtain⟨wa,hwa⟩:∃ x,x=w.alloc (.cells #[.int .i64 s,.int .i64 e0,.int .i64 h0,.slice D m d] 35):=⟨_,rfl⟩
 have ka:Below w.heap.size w wa:=by rw [hwa];exact balloc (Below.refl _ _) _
 have ra:rowV wa w.heap.size 35 #[.int .i64 s,.int .i64 e0,.int .i64 h0,.slice D m d]:=by rw [hwa];exact rowV.new w _ _
 have Hwa:=Lib.hid hwa
 have HA:=Lib.hid (And.intro ra ka)
 clear hwa ka ra
 go_enter Tryz.func39,Tryz.ntmps39
 go_wp2_with fail
 rw [←Hwa.out]
 have hsz:wa.heap.size=w.heap.size+1:=by rw [Hwa.out];simp
 have k2:=balloc (Below.refl wa.heap.size wa) (.cells #[.func (.func 75) #[] #[.pointer (some ⟨w.heap.size,0,none⟩)],.func (.func 79) #[] #[]] 83)
 refine bodyPost_ret (v:=.agg #[.func (.func 75) #[] #[.pointer (some ⟨w.heap.size,0,none⟩)],.func (.func 79) #[] #[]]) ?_ rfl ⟨rfl,HA.out.1.below k2 HA.out.1.lt,HA.out.2.trans (k2.mono HA.out.2.size)⟩
 have r2:=rowV.new wa 83 #[.func (.func 75) #[] #[.pointer (some ⟨w.heap.size,0,none⟩)],.func (.func 79) #[] #[]]
 rw [hsz] at r2
 obtain⟨y0,y1⟩:=two_cellsV r2
 simp [results,Tryz.results39,go_sem,y0,y1]
theorem anaGiv_any(w:World)(aA cA D:Option Addr)(an ac cn cc m d:Nat)(L s e0 h0:Int)(p:Prg)(l:List Inv)(hp:Progs w aA an ac L cA cn cc p)(hok:PrgOk p)(t:Tr)(ht:parse p.code=.ok t p.code.length)(hl:Invs w D m d l)(hm:m≤1000)(hh:HdOk p.locs.toNat (.given l))(hall:HdAll p.code (.given l))(rb:Nat)(hr:rowV w rb 35 #[.int .i64 s,.int .i64 e0,.int .i64 h0,.slice D m d]) :
  Calls Tryz.prog 32 #[.agg #[.slice aA an ac,.int .i64 L,.slice cA cn cc],.agg #[.func (.func 75) #[] #[.pointer (some ⟨rb,0,none⟩)],.func (.func 79) #[] #[]]] w (@WhoR argAll w (whole p (.given l) t)):=by
 have hl2:=hok.locs
 exact @analyseW_any argAll w aA cA an ac cn cc L p p.locs.toNat hp hok (by omega) t ht (.given l) hh _ _
  (fun wB v hb h=>@entC_given argAll w wB v p _ l D m d hl hb (fun _ _=>trivial) hm hh (by omega) hall rb s e0 h0 h (hr.below hb hr.lt))
  (fun wB v P hb h _ _ _ _ _ _ _ hk=>@agnC_given argAll wB v p _ l h)
theorem forO_none{p:Prg}{l:List Inv}(h:forO p l=none):(l.map fun x=>x.at_)=loopsI p.code∧(formR p l).2=0:=by
 unfold forO at h
 by_cases h1:(l.map fun x=>x.at_)=loopsI p.code
 ·rw [if_neg (fun e=>e h1)] at h
  by_cases h2:(formR p l).2=0
  ·exact⟨h1,h2⟩
  ·rw [if_pos h2] at h;cases h
 ·rw [if_pos h1] at h;cases h
theorem formR_ok{p:Prg}:∀ {l:List Inv},(formR p l).2=0→∀ x∈l,0≤x.most∧x.most≤65536∧(x.locs.length:Int)=p.locs∧∀ y∈x.locs,ivE y=0:=by
 intro l
 induction l with
 | nil=>intro _ x hx;cases hx
 | cons z l ih=>
  intro h x hx
  unfold formR at h
  split at h
  ·cases h
  ·rename_i hz
   rcases List.mem_cons.1 hx with rfl | hx
   ·have h4:¬ x.locs.any (fun y=>decide (ivE y≠0))=true:=fun e=>hz (.inr (.inr (.inr e)))
    refine⟨by omega,by omega,Decidable.not_not.1 fun e=>hz (.inr (.inr (.inl e))),fun y hy=>Decidable.not_not.1 fun e=>h4 ?_⟩
    rw [List.any_eq_true]
    exact⟨y,hy,decide_eq_true e⟩
   ·exact ih h x hx
theorem ivE_ok{x:Iv}(h:ivE x=0):ivOk x=true:=by
 unfold ivE at h
 unfold ivOk
 split at h
 ·cases h
 ·split at h
  ·cases h
  ·exact decide_eq_true (by omega)
theorem hd_of{p:Prg}{l:List Inv}(hok:PrgOk p)(h:forO p l=none):HdOk p.locs.toNat (.given l)∧HdAll p.code (.given l):=by
 obtain⟨h1,h2⟩:=forO_none h
 refine⟨fun x hx=>?_,fun k hk h29=>?_⟩
 ·obtain⟨a,b,c,d⟩:=formR_ok h2 x hx
  exact⟨⟨by omega,fun y hy=>ivE_ok (d y hy)⟩,a,b⟩
 ·have h3:(k:Int)∈loopsI p.code:=by
   unfold loopsI loopsOf
   exact List.mem_map.2 ⟨k,List.mem_filter.2 ⟨List.mem_range.2 hk,decide_eq_true h29⟩,rfl⟩
  rw [←h1] at h3
  obtain⟨x,hx,e⟩:=List.mem_map.1 h3
  unfold invAt
  rw [List.find?_isSome]
  exact⟨x,hx,decide_eq_true e⟩
def conO(p:Prg)(r:Rp)(t:Tr):Option (Int × Int):=match forO p r.inv with
 | some ax=>some ax
 | none=>match whole p (.given r.inv) t with
   | .bad a x=>some ((a:Int),x)
   | .stuck=>none
   | .ok l=>if l.steps≤r.steps∧l.emits≤r.emits∧l.hgt≤r.hgt∧r.steps≤281474976710656 then none else some (0,18)
def outV(o:Option (Int × Int)):Int × Int:=match o with
 | none=>(0,0)
 | some ax=>ax
theorem conP_of{p:Prg}{r:Rp}{t:Tr}(hc:(chkP p).2=0)(htr:treeOf p=t):outV (conO p r t)=(((conP p r).1:Int),(conP p r).2):=by
 have hcp:conP p r=if (r.inv.map fun x=>x.at_)≠loopsI p.code then (0,23)
  else if (formR p r.inv).2≠0 then formR p r.inv
  else match whole p (.given r.inv) t with
   | .bad a e=>(a,e)
   | .stuck=>(0,0)
   | .ok l=>if l.steps≤r.steps∧l.emits≤r.emits∧l.hgt≤r.hgt∧r.steps≤281474976710656 then (0,0) else (0,18):=by
  have h0:¬ (chkP p).2≠0:=fun e=>e hc
  unfold conP
  rw [if_neg h0,htr]
  rfl
 by_cases h1:(r.inv.map fun x=>x.at_)=loopsI p.code
 ·have n1:¬ (r.inv.map fun x=>x.at_)≠loopsI p.code:=fun e=>e h1
  rw [if_neg n1] at hcp
  by_cases h2:(formR p r.inv).2=0
  ·have n2:¬ (formR p r.inv).2≠0:=fun e=>e h2
   rw [if_neg n2] at hcp
   have hf:forO p r.inv=none:=by unfold forO;rw [if_neg n1,if_neg n2]
   unfold conO
   rw [hf,hcp]
   cases whole p (.given r.inv) t with
   | bad a x=>rfl
   | stuck=>rfl
   | ok l=>
    simp only []
    split
    ·rfl
    ·rfl
  ·rw [if_pos h2] at hcp
   have hf:forO p r.inv=some (((formR p r.inv).1:Int),(formR p r.inv).2):=by unfold forO;rw [if_neg n1,if_pos h2]
   unfold conO
   rw [hf,hcp]
   rfl
 ·rw [if_pos h1] at hcp
  have hf:forO p r.inv=some (0,23):=by unfold forO;rw [if_pos h1]
  unfold conO
  rw [hf,hcp]
  rfl
theorem confirm1_any(B0:Nat)(w:World)(pb rb bx:Nat)(aA cA D:Option Addr)(an ac cn cc m d:Nat)(L:Int)(p:Prg)(r:Rp)(hp:Progs w aA an ac L cA cn cc p)(hok:PrgOk p)(t:Tr)(ht:parse p.code=.ok t p.code.length)
  (hl:Invs w D m d r.inv) (hm:m≤1000) (hll:∀ x∈r.inv,x.locs.length≤1000)
  (hpr:rowV w pb 25 #[.slice aA an ac,.int .i64 L,.slice cA cn cc]) (hrr:rowV w rb 35 #[.int .i64 r.steps,.int .i64 r.emits,.int .i64 r.hgt,.slice D m d]) (hB:B0≤w.heap.size) (hb0:rowV w bx 3 #[.int .i64 0]) (hb1:rowV w (bx+1) 28 #[.int .i64 0]) :
  Calls Tryz.prog 37 #[.pointer (some ⟨pb,0,none⟩),.pointer (some ⟨rb,0,none⟩)] w (ActR B0 w bx (fun _=>True) (conO p r t)):=by
 obtain⟨⟨rs,re,rh,ri⟩,hrp⟩:∃ x,x=r:=⟨_,rfl⟩
 rw [←hrp] at hrr hl hll ⊢
 simp only [] at hrr hl hll
 clear hrp
 have HFo:=Lib.hid (formedW_any aA cA D an ac cn cc m d L rs re rh p ri w hp hok t ht hl hm hll)
 obtain⟨c0,c1,c2⟩:=three_cellsV hpr
 obtain⟨x0,x1,x2,x3⟩:=four_cellsV hrr
 have hE:Hid (conO p ⟨rs,re,rh,ri⟩ t=match forO p ri with
  | some ax=>some ax
  | none=>match whole p (.given ri) t with
    | .bad a x=>some ((a:Int),x)
    | .stuck=>none
    | .ok l=>if l.steps≤rs∧l.emits≤re∧l.hgt≤rh∧rs≤281474976710656 then none else some (0,18)):=rfl
 have HP:=Lib.hid hp
 have HO:=Lib.hid hok
 have Ht:=Lib.hid ht
 have HL:=Lib.hid hl
 have HR:=Lib.hid (And.intro hpr (And.intro hrr (And.intro hb0 hb1)))
 have HB:=Lib.hid hB
 clear hp hok ht hl hll hpr hrr hb0 hb1 hB
 cases hfo:forO p ri with
 | some ax=>
  obtain⟨a,x⟩:=ax
  rw [hfo] at HFo hE
  clear hfo
  go_enter Tryz.func37,Tryz.ntmps37
  go_wp2_with fail
  refine HFo.out.mono ?_
  intro e w1 hr
  obtain⟨hr,hb1⟩:=hr
  have hr:e=.panicked [{ v:=failW a x,recovered:=false }]:=hr
  subst hr
  refine⟨rfl,?_⟩
  rw [hE.out]
  exact⟨rfl,hb1.mono HB.out,HR.out.2.2.1.below hb1 HR.out.2.2.1.lt,HR.out.2.2.2.below hb1 HR.out.2.2.2.lt⟩
 | none=>
  rw [hfo] at HFo hE
  obtain⟨hh,hall⟩:=hd_of HO.out hfo
  have hAn:Hid (∀ (w2:World) (q:Nat) (gb:Nat),Below w.heap.size w w2→rowV w2 gb 35 #[.int .i64 rs,.int .i64 re,.int .i64 rh,.slice D m d]→Calls Tryz.prog 32 #[.agg #[.slice aA an ac,.int .i64 L,.slice cA cn cc],.agg #[.func (.func 75) #[] #[.pointer (some ⟨gb,0,none⟩)],.func (.func 79) #[] #[]]] (w2.drewN q) (@WhoR argAll (w2.drewN q) (whole p (.given ri) t))):=fun w2 q gb hb hr=>
   anaGiv_any (w2.drewN q) aA cA D an ac cn cc m d L rs re rh p ri (HP.out.below (bdrew hb q)) HO.out t Ht.out (HL.out.below (bdrew hb q)) hm hh hall gb hr
  have hst:=whole_stuck (n:=p.locs.toNat) (h:=.given ri) HO.out (by have:=HO.out.locs;omega) hh Ht.out
  clear hfo hh hall
  go_enter Tryz.func37,Tryz.ntmps37
  go_wp2_with fail
  refine HFo.out.mono ?_
  intro e w1 hr
  obtain⟨hr,hb1⟩:=hr
  have hr:e=.returned (.tuple #[]):=hr
  subst hr
  have hpl:=HR.out.1.lt
  have hrl:=HR.out.2.1.lt
  have c0:=(hb1.cell (p:=⟨pb,0,none⟩) hpl).trans c0
  have c1:=(hb1.cell (p:=⟨pb,1,none⟩) hpl).trans c1
  have c2:=(hb1.cell (p:=⟨pb,2,none⟩) hpl).trans c2
  have x0:=(hb1.cell (p:=⟨rb,0,none⟩) hrl).trans x0
  have x1:=(hb1.cell (p:=⟨rb,1,none⟩) hrl).trans x1
  have x2:=(hb1.cell (p:=⟨rb,2,none⟩) hrl).trans x2
  have x3:=(hb1.cell (p:=⟨rb,3,none⟩) hrl).trans x3
  have HB1:=Lib.hid hb1
  have hgG:∀ W:World,Calls Tryz.prog 39 #[.agg #[.int .i64 rs,.int .i64 re,.int .i64 rh,.slice D m d]] W fun e w'=>e=.returned (.agg #[.func (.func 75) #[] #[.pointer (some ⟨W.heap.size,0,none⟩)],.func (.func 79) #[] #[]])∧rowV w' W.heap.size 35 #[.int .i64 rs,.int .i64 re,.int .i64 rh,.slice D m d]∧Below W.heap.size W w':=fun W=>given_any rs re rh D m d W
  have hpl1:=Nat.lt_of_lt_of_le hpl hb1.size
  have hrl1:=Nat.lt_of_lt_of_le hrl hb1.size
  have ka:=balloc (Below.refl w1.heap.size w1) (.cells #[.int .i64 0,.int .i64 0,.int .i64 0,.slice none 0 0] 35)
  have c0a:=(ka.cell (p:=⟨pb,0,none⟩) hpl1).trans c0
  have c1a:=(ka.cell (p:=⟨pb,1,none⟩) hpl1).trans c1
  have c2a:=(ka.cell (p:=⟨pb,2,none⟩) hpl1).trans c2
  have x0a:=(ka.cell (p:=⟨rb,0,none⟩) hrl1).trans x0
  have x1a:=(ka.cell (p:=⟨rb,1,none⟩) hrl1).trans x1
  have x2a:=(ka.cell (p:=⟨rb,2,none⟩) hrl1).trans x2
  have x3a:=(ka.cell (p:=⟨rb,3,none⟩) hrl1).trans x3
  have HKA:=Lib.hid ka
  clear hb1 HFo ka
  cases hwh:whole p (.given ri) t with
  | stuck=>exact absurd hwh hst
  | bad a x=>
   rw [hwh] at hAn hE
   have HAb:Hid (∀ (w2:World) (gb:Nat),Below w.heap.size w w2→rowV w2 gb 35 #[.int .i64 rs,.int .i64 re,.int .i64 rh,.slice D m d]→Calls Tryz.prog 32 #[.agg #[.slice aA an ac,.int .i64 L,.slice cA cn cc],.agg #[.func (.func 75) #[] #[.pointer (some ⟨gb,0,none⟩)],.func (.func 79) #[] #[]]] w2 fun e w'=>e=.panicked [{ v:=failW a x,recovered:=false }]∧Below w2.heap.size w2 w'):=fun w2 gb hb hr=>hAn.out w2 0 gb hb hr
   clear hAn hwh hst
   go_upto_region 1 with fail
   go_region_law (first
     | (go_simp;refine (hgG _).mono ?_;rintro e w2 ⟨rfl,hr2,hb2⟩;have hb12:Below w1.heap.size w1 w2:=(by first | exact (bdrew (Below.refl _ w1) 1).trans hb2 | exact (bdrew HKA.out 1).trans (hb2.mono (by simp)));try simp at hr2;have hb02:=HB1.out.trans (hb12.mono HB1.out.size);have v0:=(hb12.cell (p:=⟨pb,0,none⟩) hpl1).trans c0;have v1:=(hb12.cell (p:=⟨pb,1,none⟩) hpl1).trans c1;have v2:=(hb12.cell (p:=⟨pb,2,none⟩) hpl1).trans c2;have kb:=balloc hb12 (.cells #[.int .i64 0,.int .i64 0,.int .i64 0,.slice none 0 0] 35);have t0:=(kb.cell (p:=⟨pb,0,none⟩) hpl1).trans c0;have t1:=(kb.cell (p:=⟨pb,1,none⟩) hpl1).trans c1;have t2:=(kb.cell (p:=⟨pb,2,none⟩) hpl1).trans c2)
     | (go_simp;refine (HAb.out w2 _ hb02 hr2).mono ?_;rintro e w3 ⟨rfl,hb23⟩;refine (fun (_:wpAny Tryz.prog .any #[] (fun _ _ _=>True) 0 #[] { tmps:=#[],defers:=[] } w3)=>⟨rfl,by rw [hE.out];have hb03:Below w.heap.size w w3:=hb02.trans (hb23.mono hb02.size);exact⟨rfl,hb03.mono HB.out,HR.out.2.2.1.below hb03 HR.out.2.2.1.lt,HR.out.2.2.2.below hb03 HR.out.2.2.2.lt⟩⟩) ?_)
     | (go_simp;have hk2:=balloc (Below.refl w2.heap.size w2) (.cells #[.int .i64 0,.int .i64 0,.int .i64 0,.slice none 0 0] 35);refine (HAb.out (w2.alloc (.cells #[.int .i64 0,.int .i64 0,.int .i64 0,.slice none 0 0] 35)) _ (hb02.trans (hk2.mono hb02.size)) (hr2.below hk2 hr2.lt)).mono ?_;rintro e w3 ⟨rfl,hb23⟩;refine (fun (_:wpAny Tryz.prog .any #[] (fun _ _ _=>True) 0 #[] { tmps:=#[],defers:=[] } w3)=>⟨rfl,by rw [hE.out];have hb03:Below w.heap.size w w3:=hb02.trans ((hk2.trans (hb23.mono hk2.size)).mono hb02.size);exact⟨rfl,hb03.mono HB.out,HR.out.2.2.1.below hb03 HR.out.2.2.1.lt,HR.out.2.2.2.below hb03 HR.out.2.2.2.lt⟩⟩) ?_))
   all_goals trivial
  | ok l=>
   rw [hwh] at hAn hE
   obtain⟨⟨ls,le,lh,li⟩,hll⟩:∃ z,z=l:=⟨_,rfl⟩
   rw [←hll] at hAn hE
   have HAo:Hid (∀ (w2:World) (gb:Nat),Below w.heap.size w w2→rowV w2 gb 35 #[.int .i64 rs,.int .i64 re,.int .i64 rh,.slice D m d]→Calls Tryz.prog 32 #[.agg #[.slice aA an ac,.int .i64 L,.slice cA cn cc],.agg #[.func (.func 75) #[] #[.pointer (some ⟨gb,0,none⟩)],.func (.func 79) #[] #[]]] w2 fun e w'=>∃ A n c,e=.returned (.agg #[.int .i64 ls,.int .i64 le,.int .i64 lh,.slice A n c])∧Below w2.heap.size w2 w'):=fun w2 gb hb hr=>(hAn.out w2 0 gb hb hr).mono fun e w' h=>by
    obtain⟨⟨A,n,c,h1,-⟩,h3⟩:=h
    exact⟨A,n,c,h1,h3⟩
   clear hAn hwh hst hll
   go_upto_region 1 with fail
   go_region_held3 (fun W=>W.cell? ⟨pb,0,none⟩=some (.slice aA an ac)∧W.cell? ⟨pb,1,none⟩=some (.int .i64 L)∧W.cell? ⟨pb,2,none⟩=some (.slice cA cn cc)∧W.cell? ⟨rb,0,none⟩=some (.int .i64 rs)∧W.cell? ⟨rb,1,none⟩=some (.int .i64 re)∧W.cell? ⟨rb,2,none⟩=some (.int .i64 rh)∧W.cell? ⟨rb,3,none⟩=some (.slice D m d))
    (first | go_keep | exact⟨v0,v1,v2,v3,v4,v5,v6⟩ | exact⟨u0,u1,u2,u3,u4,u5,u6⟩ | exact⟨q0,q1,q2,q3,q4,q5,q6⟩ | exact⟨z0,z1,z2,z3,z4,z5,z6⟩)
    (first
     | (go_at_call 39;refine (hgG _).mono ?_;rintro e w2 ⟨rfl,hr2,hb2⟩;have hb12:Below w1.heap.size w1 w2:=(by first | exact (bdrew (Below.refl _ w1) 1).trans hb2 | exact (bdrew HKA.out 1).trans (hb2.mono (by simp)));try simp at hr2;have hb02:=HB1.out.trans (hb12.mono HB1.out.size);have v0:=(hb12.cell (p:=⟨pb,0,none⟩) hpl1).trans c0;have v1:=(hb12.cell (p:=⟨pb,1,none⟩) hpl1).trans c1;have v2:=(hb12.cell (p:=⟨pb,2,none⟩) hpl1).trans c2;have v3:=(hb12.cell (p:=⟨rb,0,none⟩) hrl1).trans x0;have v4:=(hb12.cell (p:=⟨rb,1,none⟩) hrl1).trans x1;have v5:=(hb12.cell (p:=⟨rb,2,none⟩) hrl1).trans x2;have v6:=(hb12.cell (p:=⟨rb,3,none⟩) hrl1).trans x3;try (have hbx:rowV w2 w1.heap.size 35 #[.int .i64 0,.int .i64 0,.int .i64 0,.slice none 0 0]:=(show rowV (w1.alloc (.cells #[.int .i64 0,.int .i64 0,.int .i64 0,.slice none 0 0] 35)).drew w1.heap.size 35 #[.int .i64 0,.int .i64 0,.int .i64 0,.slice none 0 0] from rowV.new w1 _ _).below hb2 (by simp)))
     | (go_at_call 32;have hbq:=hbx;refine (HAo.out w2 _ hb02 hr2).mono ?_;rintro e w3 ⟨A3,n3,c3,rfl,hb23⟩;have hb13:=hb12.trans (hb23.mono hb12.size);have u0:=(hb13.cell (p:=⟨pb,0,none⟩) hpl1).trans c0;have u1:=(hb13.cell (p:=⟨pb,1,none⟩) hpl1).trans c1;have u2:=(hb13.cell (p:=⟨pb,2,none⟩) hpl1).trans c2;have u3:=(hb13.cell (p:=⟨rb,0,none⟩) hrl1).trans x0;have u4:=(hb13.cell (p:=⟨rb,1,none⟩) hrl1).trans x1;have u5:=(hb13.cell (p:=⟨rb,2,none⟩) hrl1).trans x2;have u6:=(hb13.cell (p:=⟨rb,3,none⟩) hrl1).trans x3;have hboy:rowV w3 w1.heap.size 35 #[.int .i64 0,.int .i64 0,.int .i64 0,.slice none 0 0]:=hbq.below hb23 hbq.lt;obtain⟨k0,k1,k2,k3⟩:=four_cellsV hboy;have f0:=frozen_rowV' hboy 0;have f1:=frozen_rowV' hboy 1;have f2:=frozen_rowV' hboy 2;have f3:=frozen_rowV' hboy 3;have gq:w3.grownBy ((((w3.setCell ⟨w1.heap.size,0,none⟩ (.int .i64 ls)).setCell ⟨w1.heap.size,1,none⟩ (.int .i64 le)).setCell ⟨w1.heap.size,2,none⟩ (.int .i64 lh)).setCell ⟨w1.heap.size,3,none⟩ (.slice A3 n3 c3)) (some w1.heap.size):=grownBy.setCell' (grownBy.setCell' (grownBy.setCell' (grownBy.setCell' (World.grownBy.refl _ _) _) _) _) _;have z0:=(World.cell?_of_block (a:=⟨pb,0,none⟩) (gq.block pb (Nat.lt_of_lt_of_le hpl1 hb13.size) (fun e=>by injection e with e;omega))).trans u0;have z1:=(World.cell?_of_block (a:=⟨pb,1,none⟩) (gq.block pb (Nat.lt_of_lt_of_le hpl1 hb13.size) (fun e=>by injection e with e;omega))).trans u1;have z2:=(World.cell?_of_block (a:=⟨pb,2,none⟩) (gq.block pb (Nat.lt_of_lt_of_le hpl1 hb13.size) (fun e=>by injection e with e;omega))).trans u2;have z3:=(World.cell?_of_block (a:=⟨rb,0,none⟩) (gq.block rb (Nat.lt_of_lt_of_le hrl1 hb13.size) (fun e=>by injection e with e;omega))).trans u3;have z4:=(World.cell?_of_block (a:=⟨rb,1,none⟩) (gq.block rb (Nat.lt_of_lt_of_le hrl1 hb13.size) (fun e=>by injection e with e;omega))).trans u4;have z5:=(World.cell?_of_block (a:=⟨rb,2,none⟩) (gq.block rb (Nat.lt_of_lt_of_le hrl1 hb13.size) (fun e=>by injection e with e;omega))).trans u5;have z6:=(World.cell?_of_block (a:=⟨rb,3,none⟩) (gq.block rb (Nat.lt_of_lt_of_le hrl1 hb13.size) (fun e=>by injection e with e;omega))).trans u6)
     | (go_at_call 32;refine (HAo.out w2 _ hb02 hr2).mono ?_;rintro e w3 ⟨A3,n3,c3,rfl,hb23⟩;have hb13:=hb12.trans (hb23.mono hb12.size);have u0:=(hb13.cell (p:=⟨pb,0,none⟩) hpl1).trans c0;have u1:=(hb13.cell (p:=⟨pb,1,none⟩) hpl1).trans c1;have u2:=(hb13.cell (p:=⟨pb,2,none⟩) hpl1).trans c2;have u3:=(hb13.cell (p:=⟨rb,0,none⟩) hrl1).trans x0;have u4:=(hb13.cell (p:=⟨rb,1,none⟩) hrl1).trans x1;have u5:=(hb13.cell (p:=⟨rb,2,none⟩) hrl1).trans x2;have u6:=(hb13.cell (p:=⟨rb,3,none⟩) hrl1).trans x3)
     | (go_at_call 32;have hk2:=balloc (Below.refl w2.heap.size w2) (.cells #[.int .i64 0,.int .i64 0,.int .i64 0,.slice none 0 0] 35);refine (HAo.out (w2.alloc (.cells #[.int .i64 0,.int .i64 0,.int .i64 0,.slice none 0 0] 35)) _ (hb02.trans (hk2.mono hb02.size)) (hr2.below hk2 hr2.lt)).mono ?_;rintro e w3 ⟨A3,n3,c3,rfl,hb23⟩;have hb13:=hb12.trans ((hk2.trans (hb23.mono hk2.size)).mono hb12.size);have u0:=(hb13.cell (p:=⟨pb,0,none⟩) hpl1).trans c0;have u1:=(hb13.cell (p:=⟨pb,1,none⟩) hpl1).trans c1;have u2:=(hb13.cell (p:=⟨pb,2,none⟩) hpl1).trans c2;have u3:=(hb13.cell (p:=⟨rb,0,none⟩) hrl1).trans x0;have u4:=(hb13.cell (p:=⟨rb,1,none⟩) hrl1).trans x1;have u5:=(hb13.cell (p:=⟨rb,2,none⟩) hrl1).trans x2;have u6:=(hb13.cell (p:=⟨rb,3,none⟩) hrl1).trans x3;have hbox:rowV w3 w2.heap.size 35 #[.int .i64 0,.int .i64 0,.int .i64 0,.slice none 0 0]:=(rowV.new w2 35 #[.int .i64 0,.int .i64 0,.int .i64 0,.slice none 0 0]).below hb23 (by simp);obtain⟨k0,k1,k2,k3⟩:=four_cellsV hbox;have f0:=frozen_rowV' hbox 0;have f1:=frozen_rowV' hbox 1;have f2:=frozen_rowV' hbox 2;have f3:=frozen_rowV' hbox 3;have gq:w3.grownBy ((((w3.setCell ⟨w2.heap.size,0,none⟩ (.int .i64 ls)).setCell ⟨w2.heap.size,1,none⟩ (.int .i64 le)).setCell ⟨w2.heap.size,2,none⟩ (.int .i64 lh)).setCell ⟨w2.heap.size,3,none⟩ (.slice A3 n3 c3)) (some w2.heap.size):=grownBy.setCell' (grownBy.setCell' (grownBy.setCell' (grownBy.setCell' (World.grownBy.refl _ _) _) _) _) _;have q0:=(World.cell?_of_block (a:=⟨pb,0,none⟩) (gq.block pb (Nat.lt_of_lt_of_le hpl1 hb13.size) (fun e=>by injection e with e;have:=hb12.size;omega))).trans u0;have q1:=(World.cell?_of_block (a:=⟨pb,1,none⟩) (gq.block pb (Nat.lt_of_lt_of_le hpl1 hb13.size) (fun e=>by injection e with e;have:=hb12.size;omega))).trans u1;have q2:=(World.cell?_of_block (a:=⟨pb,2,none⟩) (gq.block pb (Nat.lt_of_lt_of_le hpl1 hb13.size) (fun e=>by injection e with e;have:=hb12.size;omega))).trans u2;have q3:=(World.cell?_of_block (a:=⟨rb,0,none⟩) (gq.block rb (Nat.lt_of_lt_of_le hrl1 hb13.size) (fun e=>by injection e with e;have:=hb12.size;omega))).trans u3;have q4:=(World.cell?_of_block (a:=⟨rb,1,none⟩) (gq.block rb (Nat.lt_of_lt_of_le hrl1 hb13.size) (fun e=>by injection e with e;have:=hb12.size;omega))).trans u4;have q5:=(World.cell?_of_block (a:=⟨rb,2,none⟩) (gq.block rb (Nat.lt_of_lt_of_le hrl1 hb13.size) (fun e=>by injection e with e;have:=hb12.size;omega))).trans u5;have q6:=(World.cell?_of_block (a:=⟨rb,3,none⟩) (gq.block rb (Nat.lt_of_lt_of_le hrl1 hb13.size) (fun e=>by injection e with e;have:=hb12.size;omega))).trans u6))
   all_goals
    rename_i hHeld
    clear hHeld
   all_goals
    first
     | (obtain⟨W,hW,rW,gW⟩:=rep4 hboy (.int .i64 ls) (.int .i64 le) (.int .i64 lh) (.slice A3 n3 c3);rw [←hW];have hbW:Below w1.heap.size w1 W:=hb13.grown gW hb13.size (fun k hk=>by injection hk with hk;rw [←hk];exact Nat.le_refl _))
     | (obtain⟨W,hW,rW,gW⟩:=rep4 hbox (.int .i64 ls) (.int .i64 le) (.int .i64 lh) (.slice A3 n3 c3);rw [←hW];have hbW:Below w1.heap.size w1 W:=hb13.grown gW hb13.size (fun k hk=>by injection hk with hk;rw [←hk];exact hb12.size))
     | (obtain⟨W,hW⟩:∃ W,W=(w3.alloc (.cells #[.int .i64 ls,.int .i64 le,.int .i64 lh,.slice A3 n3 c3] 35)).drew:=⟨_,rfl⟩;rw [←hW];have rW:rowV W w3.heap.size 35 #[.int .i64 ls,.int .i64 le,.int .i64 lh,.slice A3 n3 c3]:=(by rw [hW];exact rowV.new w3 _ _);have hbW:Below w1.heap.size w1 W:=(by rw [hW];exact bdrew (balloc hb13 _) 1))
     | (obtain⟨W,hW⟩:∃ W,W=w3.drew.alloc (.cells #[.int .i64 ls,.int .i64 le,.int .i64 lh,.slice A3 n3 c3] 35):=⟨_,rfl⟩;rw [←hW];have rW:rowV W w3.heap.size 35 #[.int .i64 ls,.int .i64 le,.int .i64 lh,.slice A3 n3 c3]:=(by rw [hW];exact rowV.new w3.drew _ _);have hbW:Below w1.heap.size w1 W:=(by rw [hW];exact balloc (bdrew hb13 1) _))
     | (obtain⟨W,hW⟩:∃ W,W=w3.alloc (.cells #[.int .i64 ls,.int .i64 le,.int .i64 lh,.slice A3 n3 c3] 35):=⟨_,rfl⟩;rw [←hW];have rW:rowV W w3.heap.size 35 #[.int .i64 ls,.int .i64 le,.int .i64 lh,.slice A3 n3 c3]:=(by rw [hW];exact rowV.new w3 _ _);have hbW:Below w1.heap.size w1 W:=(by rw [hW];exact balloc hb13 _))
   all_goals
    obtain⟨s0,s1,s2,s3⟩:=four_cellsV rW
    have y0:=(hbW.cell (p:=⟨rb,0,none⟩) hrl1).trans x0
    have y1:=(hbW.cell (p:=⟨rb,1,none⟩) hrl1).trans x1
    have y2:=(hbW.cell (p:=⟨rb,2,none⟩) hrl1).trans x2
    have hb0W:=HB1.out.trans (hbW.mono HB1.out.size)
    have HN:Hid (Below B0 w W∧rowV W bx 3 #[.int .i64 0]∧rowV W (bx+1) 28 #[.int .i64 0]):=⟨hb0W.mono HB.out,HR.out.2.2.1.below hb0W HR.out.2.2.1.lt,HR.out.2.2.2.below hb0W HR.out.2.2.2.lt⟩
    clear hb0W hbW hW rW x0 x1 x2 x3 c0 c1 c2 c0a c1a c2a x0a x1a x2a x3a
    by_cases h1:ls≤rs
    rotate_left 1
    ·have d1:decide (ls≤rs)=false:=decide_eq_false h1
     have hEq:Hid (conO p ⟨rs,re,rh,ri⟩ t=some (0,18)):=by show _=_;rw [hE.out];show (if _ then _ else _)=_;rw [if_neg (fun h=>h1 h.1)]
     clear h1 hE
     go_wp2_with fail
     refine (demandW_bad _ _ _).mono ?_
     rintro e w7 ⟨rfl,hw7⟩
     subst hw7
     refine⟨rfl,?_⟩
     rw [hEq.out]
     exact⟨rfl,HN.out⟩
    have d1:decide (ls≤rs)=true:=decide_eq_true h1
    by_cases h2:le≤re
    rotate_left 1
    ·have d2:decide (le≤re)=false:=decide_eq_false h2
     have hEq:Hid (conO p ⟨rs,re,rh,ri⟩ t=some (0,18)):=by show _=_;rw [hE.out];show (if _ then _ else _)=_;rw [if_neg (fun h=>h2 h.2.1)]
     clear h1 h2 hE
     go_wp2_with fail
     refine (demandW_bad _ _ _).mono ?_
     rintro e w7 ⟨rfl,hw7⟩
     subst hw7
     refine⟨rfl,?_⟩
     rw [hEq.out]
     exact⟨rfl,HN.out⟩
    have d2:decide (le≤re)=true:=decide_eq_true h2
    by_cases h3:lh≤rh
    rotate_left 1
    ·have d3:decide (lh≤rh)=false:=decide_eq_false h3
     have hEq:Hid (conO p ⟨rs,re,rh,ri⟩ t=some (0,18)):=by show _=_;rw [hE.out];show (if _ then _ else _)=_;rw [if_neg (fun h=>h3 h.2.2.1)]
     clear h1 h2 h3 hE
     go_wp2_with fail
     refine (demandW_bad _ _ _).mono ?_
     rintro e w7 ⟨rfl,hw7⟩
     subst hw7
     refine⟨rfl,?_⟩
     rw [hEq.out]
     exact⟨rfl,HN.out⟩
    have d3:decide (lh≤rh)=true:=decide_eq_true h3
    by_cases h4:rs≤281474976710656
    rotate_left 1
    ·have d4:decide (rs≤281474976710656)=false:=decide_eq_false h4
     have hEq:Hid (conO p ⟨rs,re,rh,ri⟩ t=some (0,18)):=by show _=_;rw [hE.out];show (if _ then _ else _)=_;rw [if_neg (fun h=>h4 h.2.2.2)]
     clear h1 h2 h3 h4 hE
     go_wp2_with fail
     refine (demandW_bad _ _ _).mono ?_
     rintro e w7 ⟨rfl,hw7⟩
     subst hw7
     refine⟨rfl,?_⟩
     rw [hEq.out]
     exact⟨rfl,HN.out⟩
    have d4:decide (rs≤281474976710656)=true:=decide_eq_true h4
    have hEq:Hid (conO p ⟨rs,re,rh,ri⟩ t=none):=by show _=_;rw [hE.out];show (if _ then _ else _)=_;rw [if_pos ⟨h1,h2,h3,h4⟩]
    clear h1 h2 h3 h4 hE
    go_wp2_with fail
    refine (demandW_ok _ _ _).mono ?_
    rintro e w7 ⟨rfl,hw7⟩
    obtain rfl:=hw7.symm
    go_wp2_with fail
    refine bodyPost_ret (v:=.tuple #[]) (by simp [results,Tryz.results37,go_sem]) rfl ?_
    rw [hEq.out]
    exact⟨⟨rfl,trivial⟩,HN.out⟩
end Go.Proofs.YtepoclhdklgnhaaGreatDoor
