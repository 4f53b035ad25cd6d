/- Lp Lq Lr Lv Xb Xc Xd. -/
import Derived.Test.YtpaplehcafeeaaaGreatDoorLE22
import Derived.Test.YtpaplehcafeeaaaGreatDoorLE25
import Derived.Test.YtpaplehcafeeaaaGreatDoorLE27
import Derived.Test.YtpaplehcafeeaaaGreatDoorLE18
import Derived.BigRegion
set_option maxRecDepth 100000
set_option maxHeartbeats 40000000
set_option linter.unusedVariables false
set_option linter.unusedSimpArgs false
set_option linter.unusedSectionVars false
namespace Go.Proofs.YtpaplehcafeeaaaGreatDoor
open Go.RowKit Go.Proofs
def encRI(x:RI):List Value:=[.int .i64 x.op,.int .i64 x.dst,.int .i64 x.a,.int .i64 x.b,.int .u32 x.arg]
theorem encRI_one(x:RI):∀ u∈encRI x,u.oneCell'=true:=by
 intro u hu
 simp only [encRI,List.mem_cons,List.not_mem_nil,or_false] at hu
 rcases hu with h | h | h | h | h <;> rw [h] <;> rfl
theorem uRI:Tryz.prog.underlying 28=some (.slice 47):=by kernel_rfl
theorem infoRI:(Tryz.prog.info? 47).map (fun i=>(i.zero,i.size,i.bytes))=some (some (.agg #[.int .i64 0,.int .i64 0,.int .i64 0,.int .i64 0,.int .u32 0]),5,40):=by kernel_rfl
structure TD where
 oA:Option Addr
 on:Nat
 oc:Nat
 bA:Option Addr
 bn:Nat
 bc:Nat
def TD.oo(d:TD):Option Nat:=(Value.slice d.oA d.on d.oc).ownBlock
def TD.bo(d:TD):Option Nat:=(Value.slice d.bA d.bn d.bc).ownBlock
def rowT(next spare:Int)(mb:Nat)(d:TD):Array Value:=#[.slice d.oA d.on d.oc,.int .i64 next,.int .i64 spare,.slice d.bA d.bn d.bc,.map (some mb)]
structure TK (B g mb:Nat) (spare:Int) (w:World) (next:Int) (out:List RI) (bs:List Int) (d:TD):Prop where
 row:rowV w g 71 (rowT next spare mb d)
 hg:B≤g
 hB:B≤w.heap.size
 out:OwnS encRI 5 w B 47 d.oA d.on d.oc out
 bas:OwnS encZ 1 w B 3 d.bA d.bn d.bc bs
structure KT (B g:Nat) (d d':TD) (w w':World):Prop where
 below:Below B w w'
 keep:∀ (k:Nat),k < w.heap.size→k≠g→d.oo≠some k→d.bo≠some k→w'.heap[k]?=w.heap[k]?
 fo:∀ k,d'.oo=some k→d.oo=some k∨w.heap.size≤k
 fb:∀ k,d'.bo=some k→d.bo=some k∨w.heap.size≤k
theorem KT.refl(B g:Nat)(d:TD)(w:World):KT B g d d w w:=⟨Below.refl _ _,fun _ _ _ _ _=>rfl,fun _ h=>.inl h,fun _ h=>.inl h⟩
theorem KT.trans{B g:Nat}{d d1 d2:TD}{w w1 w2:World}(h:KT B g d d1 w w1)(h':KT B g d1 d2 w1 w2):KT B g d d2 w w2:=by
 have hs:=h.below.size
 refine⟨h.below.trans h'.below,fun k h0 h1 h2 h3=>(h'.keep k (by omega) h1 (fun e=>?_) (fun e=>?_)).trans (h.keep k h0 h1 h2 h3),fun k hk=>?_,fun k hk=>?_⟩
 ·rcases h.fo k e with h5 | h5
  ·exact h2 h5
  ·omega
 ·rcases h.fb k e with h5 | h5
  ·exact h3 h5
  ·omega
 ·rcases h'.fo k hk with h5 | h5
  ·exact h.fo k h5
  ·exact .inr (by omega)
 ·rcases h'.fb k hk with h5 | h5
  ·exact h.fb k h5
  ·exact .inr (by omega)
theorem KT.of_below{B g:Nat}{d:TD}{w w':World}(h:Below w.heap.size w w')(hB:B≤w.heap.size):KT B g d d w w':=⟨h.mono hB,fun k h0 _ _ _=>h.block k h0,fun _ h=>.inl h,fun _ h=>.inl h⟩
theorem KT.drewN{B g:Nat}{d d':TD}{w w':World}(h:KT B g d d' w w')(q:Nat):KT B g d d' w (w'.drewN q):=⟨bdrew h.below q,h.keep,h.fo,h.fb⟩
section
variable {B g mb : Nat} {spare next : Int} {w w1 : World} {out : List RI} {bs : List Int} {d : TD}
theorem TK.below(h:TK B g mb spare w next out bs d)(hb:Below w.heap.size w w1):TK B g mb spare w1 next out bs d:=
 ⟨h.row.below hb h.row.lt,h.hg,Nat.le_trans h.hB hb.size,h.out.below hb,h.bas.below hb⟩
theorem TK.drewN(h:TK B g mb spare w next out bs d)(q:Nat):TK B g mb spare (w.drewN q) next out bs d:=⟨h.row,h.hg,h.hB,h.out,h.bas⟩
theorem TK.on(h:TK B g mb spare w next out bs d):d.on=out.length:=(h.out.length (fun _=>rfl) (by decide)).symm
theorem TK.bn(h:TK B g mb spare w next out bs d):d.bn=bs.length:=(h.bas.length (fun _=>rfl) (by decide)).symm
theorem TK.cells(h:TK B g mb spare w next out bs d):w.cell? ⟨g,0,none⟩=some (.slice d.oA d.on d.oc)∧w.cell? ⟨g,1,none⟩=some (.int .i64 next)∧w.cell? ⟨g,2,none⟩=some (.int .i64 spare)∧w.cell? ⟨g,3,none⟩=some (.slice d.bA d.bn d.bc)∧w.cell? ⟨g,4,none⟩=some (.map (some mb)):=
 ⟨cell_rowV h.row rfl,cell_rowV h.row rfl,cell_rowV h.row rfl,cell_rowV h.row rfl,cell_rowV h.row rfl⟩
theorem TK.frozen(h:TK B g mb spare w next out bs d)(j:Nat):w.frozen? ⟨g,j,none⟩=false:=frozen_rowV' h.row j
theorem KT.row{d':TD}(h:KT B g d d' w w1){k:Nat}{t:TypeId}{cs:Array Value}(hr:rowV w k t cs)(hf:k≠g∧d.oo≠some k∧d.bo≠some k):rowV w1 k t cs:=(h.keep k hr.lt hf.1 hf.2.1 hf.2.2).trans hr
theorem TK.ne(h:TK B g mb spare w next out bs d){k:Nat}{t:TypeId}{cs:Array Value}(hr:rowV w k t cs)(h1:71≠t)(h2:47≠t)(h3:3≠t):k≠g∧d.oo≠some k∧d.bo≠some k:=by
 refine⟨fun e=>?_,fun e=>h.out.ne_row hr h2 k e rfl,fun e=>h.bas.ne_row hr h3 k e rfl⟩
 subst e
 have e:=h.row
 unfold rowV at e hr
 rw [e] at hr
 injection hr with hr
 injection hr with _ e _
 exact h1 e
theorem TK.ne_map(h:TK B g mb spare w next out bs d){k:Nat}{o:Obj}(hk:w.heap[k]?=some o)(ho:o.isCells=false):k≠g∧d.oo≠some k∧d.bo≠some k:=by
 refine⟨fun e=>?_,fun e=>h.out.ne_map hk ho k e rfl,fun e=>h.bas.ne_map hk ho k e rfl⟩
 subst e
 have e:=h.row
 unfold rowV at e
 rw [e] at hk
 injection hk with hk
 rw [←hk] at ho
 cases ho
theorem TK.pushO(h:TK B g mb spare w next out bs d)(hg:w.grownBy w1 d.oo){A':Option Addr}{n' c':Nat}{xs:List RI}(ho:OwnS encRI 5 w1 B 47 A' n' c' xs)(hf:∀ b,(Value.slice A' n' c').ownBlock=some b→d.oo=some b∨w.heap.size≤b) :
  TK B g mb spare (w1.setCell ⟨g,0,none⟩ (.slice A' n' c')) next xs bs { d with oA:=A',on:=n',oc:=c' }∧KT B g d { d with oA:=A',on:=n',oc:=c' } w (w1.setCell ⟨g,0,none⟩ (.slice A' n' c')):=by
 have hne:=h.out.ne_row h.row (by decide)
 have hr1:=h.row.grown hg (fun e=>hne g e.symm rfl)
 have g2:w1.grownBy (w1.setCell ⟨g,0,none⟩ (.slice A' n' c')) (some g):=grownBy.setCell' (World.grownBy.refl _ _) _
 have hb1:=h.bas.grown hg (fun b hb e=>h.bas.ne_own h.out (by decide) b hb e)
 refine⟨⟨hr1.set 0 (.slice A' n' c'),h.hg,Nat.le_trans h.hB (Nat.le_trans hg.size g2.size),ho.grown g2 (ho.ne_row hr1 (by decide)),hb1.grown g2 (hb1.ne_row hr1 (by decide))⟩,?_,fun k h0 h1 h2 h3=>(Below.heap_setCell w1 ⟨g,0,none⟩ _ k h1).trans (hg.block k h0 (fun e=>h2 e.symm)),hf,fun k hk=>.inl hk⟩
 exact ((Below.refl B w).grown hg h.hB (fun k hk=>(h.out.blk hk).2.1)).grown g2 (Nat.le_trans h.hB hg.size) (fun k hk=>by injection hk with hk;rw [←hk];exact h.hg)
theorem TK.rowO(h:TK B g mb spare w next out bs d)(hg:w.grownBy w1 d.oo):rowV w1 g 71 (rowT next spare mb d):=h.row.grown hg (fun e=>h.out.ne_row h.row (by decide) g e.symm rfl)
theorem TK.setN(h:TK B g mb spare w next out bs d)(n:Int):TK B g mb spare (w.setCell ⟨g,1,none⟩ (.int .i64 n)) n out bs d∧KT B g d d w (w.setCell ⟨g,1,none⟩ (.int .i64 n)):=by
 have g2:w.grownBy (w.setCell ⟨g,1,none⟩ (.int .i64 n)) (some g):=grownBy.setCell' (World.grownBy.refl _ _) _
 refine⟨⟨h.row.set 1 (.int .i64 n),h.hg,Nat.le_trans h.hB g2.size,h.out.grown g2 (h.out.ne_row h.row (by decide)),h.bas.grown g2 (h.bas.ne_row h.row (by decide))⟩,?_,fun k h0 h1 _ _=>Below.heap_setCell w ⟨g,1,none⟩ _ k h1,fun k hk=>.inl hk,fun k hk=>.inl hk⟩
 exact (Below.refl B w).grown g2 h.hB (fun k hk=>by injection hk with hk;rw [←hk];exact h.hg)
theorem TK.setB(h:TK B g mb spare w next out bs d)(hg:w.grownBy w1 d.bo){A':Option Addr}{n' c':Nat}{xs:List Int}(ho:OwnS encZ 1 w1 B 3 A' n' c' xs)(hf:∀ b,(Value.slice A' n' c').ownBlock=some b→d.bo=some b∨w.heap.size≤b) :
  TK B g mb spare (w1.setCell ⟨g,3,none⟩ (.slice A' n' c')) next out xs { d with bA:=A',bn:=n',bc:=c' }∧KT B g d { d with bA:=A',bn:=n',bc:=c' } w (w1.setCell ⟨g,3,none⟩ (.slice A' n' c')):=by
 have hne:=h.bas.ne_row h.row (by decide)
 have hr1:=h.row.grown hg (fun e=>hne g e.symm rfl)
 have g2:w1.grownBy (w1.setCell ⟨g,3,none⟩ (.slice A' n' c')) (some g):=grownBy.setCell' (World.grownBy.refl _ _) _
 have hb1:=h.out.grown hg (fun b hb e=>h.out.ne_own h.bas (by decide) b hb e)
 refine⟨⟨hr1.set 3 (.slice A' n' c'),h.hg,Nat.le_trans h.hB (Nat.le_trans hg.size g2.size),hb1.grown g2 (hb1.ne_row hr1 (by decide)),ho.grown g2 (ho.ne_row hr1 (by decide))⟩,?_,fun k h0 h1 h2 h3=>(Below.heap_setCell w1 ⟨g,3,none⟩ _ k h1).trans (hg.block k h0 (fun e=>h3 e.symm)),fun k hk=>.inl hk,hf⟩
 exact ((Below.refl B w).grown hg h.hB (fun k hk=>(h.bas.blk hk).2.1)).grown g2 (Nat.le_trans h.hB hg.size) (fun k hk=>by injection hk with hk;rw [←hk];exact h.hg)
theorem TK.rowB(h:TK B g mb spare w next out bs d)(hg:w.grownBy w1 d.bo):rowV w1 g 71 (rowT next spare mb d):=h.row.grown hg (fun e=>h.bas.ne_row h.row (by decide) g e.symm rfl)
end
def TR(B g mb:Nat)(spare:Int)(d:TD)(w:World)(next:Int)(out:List RI)(bs:List Int)(e:Ending)(w':World):Prop:=e=.returned (.tuple #[])∧∃ d',TK B g mb spare w' next out bs d'∧KT B g d d' w w'
theorem put23_any(B g mb:Nat)(spare next:Int)(w:World)(out:List RI)(bs:List Int)(d:TD)(h:TK B g mb spare w next out bs d)(hl:out.length≤4000)(op t a b arg:Int) :
  Calls Tryz.prog 62 #[.pointer (some ⟨g,0,none⟩),.int .i64 op,.int .i64 t,.int .i64 a,.int .i64 b,.int .u32 arg] w (TR B g mb spare d w next (out++[⟨op,t,a,b,arg⟩]) bs):=by
 obtain⟨e0,-,-,-,-⟩:=h.cells
 obtain⟨w1,hw1⟩:∃ z,z=w.alloc (.cells #[.int .i64 op,.int .i64 t,.int .i64 a,.int .i64 b,.int .u32 arg] 47):=⟨_,rfl⟩
 have hon:=h.on
 have hml:=Lib.hid (show d.on+1≤maxLen∧(d.on+1) * 40≤140737488355328 by unfold maxLen;omega)
 have HT:=Lib.hid h
 have hgl:=h.row.lt
 clear hon hl h hw1
 go_enter Tryz.func62,Tryz.ntmps62
 go_wp2_with (at_builtin;refine wpList_pushT (enc:=encRI) rfl (.tmp 16) (.tmp 23) rfl uRI infoRI encRI_one rfl (fun _=>rfl) (by decide) rfl HT.out.out HT.out.hB (⟨op,t,a,b,arg⟩:RI) _ rfl rfl hml.out.1 hml.out.2 ?_;intro A9 c9 w9 ho9 hb9 hg9 hf9;have rX:=HT.out.rowO hg9;have e9:=cell_rowV rX (j:=0) rfl;have f9:=frozen_rowV' rX 0;have HP:=Lib.hid (HT.out.pushO hg9 ho9 hf9);clear hb9 hg9 hf9 ho9 rX)
 exact⟨rfl,_,results_none rfl _ _ _,rfl,_,HP.out.1,HP.out.2⟩
theorem move23_any(B g mb:Nat)(spare next:Int)(w:World)(out:List RI)(bs:List Int)(d:TD)(h:TK B g mb spare w next out bs d)(hl:out.length≤4000)(t a:Int) :
  Calls Tryz.prog 56 #[.pointer (some ⟨g,0,none⟩),.int .i64 t,.int .i64 a] w (TR B g mb spare d w next (out++[⟨36,t,a,-1,0⟩]) bs):=by
 have HP:=Lib.hid (put23_any B g mb spare next w out bs d h hl 36 t a (-1) 0)
 clear h hl
 go_enter Tryz.func56,Tryz.ntmps56
 go_wp2_with fail
 refine HP.out.mono ?_
 rintro e w1 ⟨rfl,hR⟩
 have HR:=Lib.hid hR
 clear hR
 go_wp2_with fail
 exact⟨rfl,_,results_none rfl _ _ _,rfl,HR.out⟩
def fnS(tb:Nat):Value:=.func (.func 54) #[] #[.pointer (some ⟨tb,0,none⟩)]
structure CapT (w:World) (tb sb g:Nat):Prop where
 t:rowV w tb 68 #[.pointer (some ⟨g,0,none⟩)]
 s:rowV w sb 113 #[fnS tb]
theorem CapT.below{w w1:World}{tb sb g:Nat}(h:CapT w tb sb g)(hb:Below w.heap.size w w1):CapT w1 tb sb g:=⟨h.t.below hb h.t.lt,h.s.below hb h.s.lt⟩
theorem CapT.keep{B g mb:Nat}{spare next:Int}{w w1:World}{out:List RI}{bs:List Int}{d d':TD}{tb sb:Nat}(h:CapT w tb sb g)(ht:TK B g mb spare w next out bs d)(hk:KT B g d d' w w1):CapT w1 tb sb g:=
 ⟨hk.row h.t (ht.ne h.t (by decide) (by decide) (by decide)),hk.row h.s (ht.ne h.s (by decide) (by decide) (by decide))⟩
theorem s23_any(B g mb:Nat)(spare next:Int)(w:World)(out:List RI)(bs:List Int)(d:TD)(h:TK B g mb spare w next out bs d)(tb sb:Nat)(hc:CapT w tb sb g)(hn:-3000≤next∧next≤3000)(k:Int)(hk:0≤k∧k≤2) :
  Calls Tryz.prog 54 #[.int .i64 k,.pointer (some ⟨tb,0,none⟩)] w fun e w'=>e=.returned (.int .i64 (next-k))∧w'=w:=by
 obtain⟨-,e1,-,-,-⟩:=h.cells
 have t0:=cell_rowV hc.t (j:=0) rfl
 have hgl:=h.row.lt
 clear h hc
 go_enter Tryz.func54,Tryz.ntmps54
 go_wp2_with fail
 go_ret
 exact⟨rfl,rfl⟩
theorem load23_any(B g mb:Nat)(spare next:Int)(w:World)(out:List RI)(bs:List Int)(d:TD)(h:TK B g mb spare w next out bs d)(tb sb:Nat)(hc:CapT w tb sb g)(hn:-3000≤next∧next≤3000)(hl:out.length≤3900)(arg:Int)(ha:0≤arg∧arg < 4294967296)(at_:Int) :
  Calls Tryz.prog 55 #[.int .u32 arg,.int .i64 at_,.pointer (some ⟨tb,0,none⟩),.pointer (some ⟨sb,0,none⟩)] w (TR B g mb spare d w next (out++[⟨36,next,arg,-1,0⟩]) bs):=by
 have t0:=cell_rowV hc.t (j:=0) rfl
 have s0:=cell_rowV hc.s (j:=0) rfl
 unfold fnS at s0
 have HS:=fun q=>s23_any B g mb spare next (w.drewN q) out bs d (h.drewN q) tb sb (hc.below (bdrew (Below.refl _ _) q)) hn 0 (by omega)
 rw [Int.sub_zero] at HS
 have HM:=fun q=>move23_any B g mb spare next (w.drewN q) out bs d (h.drewN q) (by omega) next arg
 have HS:=Lib.hid HS
 have HM:=Lib.hid HM
 clear h hc hn hl
 go_enter Tryz.func55,Tryz.ntmps55
 go_wp2_with fail
 refine wp_region_quiet_tail 5 (by kernel_rfl) (by kernel_rfl) ?_
 simp only [List.take_succ_cons,List.take_zero,List.drop_succ_cons,List.drop_zero]
 repeat (go_big_quiet_step (first | (go_at_call 54;exact Calls.quiet_of_same (HS.out _))))
 refine wpQuiet_nil ?_
 intro _ hw'
 obtain⟨nr,hw''⟩:=hw'
 subst hw''
 go_wp2_with fail
 refine (HM.out _).mono ?_
 rintro e w1 ⟨rfl,d',h1,h2⟩
 have HR:=Lib.hid (And.intro h1 (((KT.refl B g d w).drewN nr).trans h2))
 clear h1 h2
 go_wp2_with fail
 exact⟨rfl,_,results_none rfl _ _ _,rfl,d',HR.out.1,HR.out.2⟩
theorem store23_any(B g mb:Nat)(spare next:Int)(w:World)(out:List RI)(bs:List Int)(d:TD)(h:TK B g mb spare w next out bs d)(tb sb:Nat)(hc:CapT w tb sb g)(hn:-3000≤next∧next≤3000)(hl:out.length≤3900)(arg:Int)(ha:0≤arg∧arg < 4294967296)(at_:Int) :
  Calls Tryz.prog 57 #[.int .u32 arg,.int .i64 at_,.pointer (some ⟨tb,0,none⟩),.pointer (some ⟨sb,0,none⟩)] w (TR B g mb spare d w next (out++[⟨36,arg,next-1,-1,0⟩]) bs):=by
 have t0:=cell_rowV hc.t (j:=0) rfl
 have s0:=cell_rowV hc.s (j:=0) rfl
 unfold fnS at s0
 have HS1:=Lib.hid (fun q=>s23_any B g mb spare next (w.drewN q) out bs d (h.drewN q) tb sb (hc.below (bdrew (Below.refl _ _) q)) hn 1 (by omega))
 have HM:=Lib.hid (fun q=>move23_any B g mb spare next (w.drewN q) out bs d (h.drewN q) (by omega) arg (next-1))
 clear h hc hn hl
 go_enter Tryz.func57,Tryz.ntmps57
 go_wp2_with fail
 refine wp_region_quiet_tail 5 (by kernel_rfl) (by kernel_rfl) ?_
 simp only [List.take_succ_cons,List.take_zero,List.drop_succ_cons,List.drop_zero]
 repeat (go_big_quiet_step (first | (go_at_call 54;first | exact Calls.quiet_of_same (HS1.out _))))
 refine wpQuiet_nil ?_
 intro _ hw'
 obtain⟨nr,hw''⟩:=hw'
 subst hw''
 go_wp2_with fail
 refine (HM.out _).mono ?_
 rintro e w1 ⟨rfl,d',h1,h2⟩
 have HR:=Lib.hid (And.intro h1 (((KT.refl B g d w).drewN nr).trans h2))
 clear h1 h2
 go_wp2_with fail
 exact⟨rfl,_,results_none rfl _ _ _,rfl,d',HR.out.1,HR.out.2⟩
theorem dup23_any(B g mb:Nat)(spare next:Int)(w:World)(out:List RI)(bs:List Int)(d:TD)(h:TK B g mb spare w next out bs d)(tb sb:Nat)(hc:CapT w tb sb g)(hn:-3000≤next∧next≤3000)(hl:out.length≤3900)(arg:Int)(at_:Int) :
  Calls Tryz.prog 58 #[.int .u32 arg,.int .i64 at_,.pointer (some ⟨tb,0,none⟩),.pointer (some ⟨sb,0,none⟩)] w (TR B g mb spare d w next (out++[⟨36,next,next-1,-1,0⟩]) bs):=by
 have t0:=cell_rowV hc.t (j:=0) rfl
 have s0:=cell_rowV hc.s (j:=0) rfl
 unfold fnS at s0
 have HS0:=Lib.hid (fun q=>s23_any B g mb spare next (w.drewN q) out bs d (h.drewN q) tb sb (hc.below (bdrew (Below.refl _ _) q)) hn 0 (by omega))
 have HS1:=Lib.hid (fun q=>s23_any B g mb spare next (w.drewN q) out bs d (h.drewN q) tb sb (hc.below (bdrew (Below.refl _ _) q)) hn 1 (by omega))
 have HM:=Lib.hid (fun q=>move23_any B g mb spare next (w.drewN q) out bs d (h.drewN q) (by omega) next (next-1))
 clear h hc hn hl
 go_enter Tryz.func58,Tryz.ntmps58
 go_wp2_with fail
 refine wp_region_quiet_tail 5 (by kernel_rfl) (by kernel_rfl) ?_
 simp only [List.take_succ_cons,List.take_zero,List.drop_succ_cons,List.drop_zero]
 repeat (go_big_quiet_step (first | (go_at_call 54;first | exact Calls.quiet_of_same (HS0.out _) | exact Calls.quiet_of_same (HS1.out _))))
 refine wpQuiet_nil ?_
 intro _ hw'
 obtain⟨nr,hw''⟩:=hw'
 subst hw''
 go_wp2_with fail
 rw [Int.sub_zero]
 refine (HM.out _).mono ?_
 rintro e w1 ⟨rfl,d',h1,h2⟩
 have HR:=Lib.hid (And.intro h1 (((KT.refl B g d w).drewN nr).trans h2))
 clear h1 h2
 go_wp2_with fail
 exact⟨rfl,_,results_none rfl _ _ _,rfl,d',HR.out.1,HR.out.2⟩
theorem drop23_any(B g mb:Nat)(spare next:Int)(w:World)(out:List RI)(bs:List Int)(d:TD)(h:TK B g mb spare w next out bs d)(arg at_:Int) :
  Calls Tryz.prog 59 #[.int .u32 arg,.int .i64 at_] w (TR B g mb spare d w next out bs):=by
 have HT:=Lib.hid h
 clear h
 go_enter Tryz.func59,Tryz.ntmps59
 go_wp2_with fail
 exact⟨rfl,_,results_none rfl _ _ _,rfl,d,HT.out,KT.refl _ _ _ _⟩
theorem swap23_any(B g mb:Nat)(spare next:Int)(w:World)(out:List RI)(bs:List Int)(d:TD)(h:TK B g mb spare w next out bs d)(tb sb:Nat)(hc:CapT w tb sb g)(hn:-3000≤next∧next≤3000)(hl:out.length≤3900)(arg:Int)(at_:Int) :
  Calls Tryz.prog 60 #[.int .u32 arg,.int .i64 at_,.pointer (some ⟨tb,0,none⟩),.pointer (some ⟨sb,0,none⟩)] w (TR B g mb spare d w next (out++[⟨36,spare,next-1,-1,0⟩,⟨36,next-1,next-2,-1,0⟩,⟨36,next-2,spare,-1,0⟩]) bs):=by
 have t0:=cell_rowV hc.t (j:=0) rfl
 have s0:=cell_rowV hc.s (j:=0) rfl
 unfold fnS at s0
 obtain⟨-,-,e2,-,-⟩:=h.cells
 have hgl:=h.row.lt
 have Hn:=Lib.hid hn
 have Hl:=Lib.hid hl
 have HC:=Lib.hid hc
 have HT:=Lib.hid h
 have HS1:=Lib.hid (fun q=>s23_any B g mb spare next (w.drewN q) out bs d (h.drewN q) tb sb (hc.below (bdrew (Below.refl _ _) q)) hn 1 (by omega))
 have HM:=Lib.hid (fun q=>move23_any B g mb spare next (w.drewN q) out bs d (h.drewN q) (by omega) spare (next-1))
 clear h hc hn hl
 go_enter Tryz.func60,Tryz.ntmps60
 go_wp2_with fail
 refine wp_region_quiet_tail 7 (by kernel_rfl) (by kernel_rfl) ?_
 simp only [List.take_succ_cons,List.take_zero,List.drop_succ_cons,List.drop_zero]
 repeat (go_big_quiet_step (first | (go_at_call 54;first | exact Calls.quiet_of_same (HS1.out _))))
 refine wpQuiet_nil ?_
 intro _ hw'
 obtain⟨nr,hw''⟩:=hw'
 subst hw''
 go_wp2_with fail
 refine (HM.out _).mono ?_
 rintro e w1 ⟨rfl,d1,h1,k1⟩
 have c1:=HC.out.keep HT.out (((KT.refl B g d w).drewN nr).trans k1)
 have HR1:=Lib.hid (And.intro h1 (And.intro c1 (((KT.refl B g d w).drewN nr).trans k1)))
 have t0:=cell_rowV c1.t (j:=0) rfl
 have s0:=cell_rowV c1.s (j:=0) rfl
 unfold fnS at s0
 clear e2 hgl HM HS1 h1 k1 c1
 have HS1:=Lib.hid (fun q=>s23_any B g mb spare next (w1.drewN q) _ bs d1 (HR1.out.1.drewN q) tb sb (HR1.out.2.1.below (bdrew (Below.refl _ _) q)) Hn.out 1 (by omega))
 have HS2:=Lib.hid (fun q=>s23_any B g mb spare next (w1.drewN q) _ bs d1 (HR1.out.1.drewN q) tb sb (HR1.out.2.1.below (bdrew (Below.refl _ _) q)) Hn.out 2 (by omega))
 have HM:=Lib.hid (fun q=>move23_any B g mb spare next (w1.drewN q) _ bs d1 (HR1.out.1.drewN q) (by rw [List.length_append];have:=Hl.out;simp only [List.length_cons,List.length_nil];omega) (next-1) (next-2))
 go_wp2_with fail
 refine wp_region_quiet_tail 5 (by kernel_rfl) (by kernel_rfl) ?_
 simp only [List.take_succ_cons,List.take_zero,List.drop_succ_cons,List.drop_zero]
 repeat (go_big_quiet_step (first | (go_at_call 54;first | exact Calls.quiet_of_same (HS1.out _) | exact Calls.quiet_of_same (HS2.out _))))
 refine wpQuiet_nil ?_
 intro _ hw'
 obtain⟨nr,hw''⟩:=hw'
 subst hw''
 go_wp2_with fail
 refine (HM.out _).mono ?_
 rintro e w2 ⟨rfl,d2,h2,k2⟩
 have c2:=HR1.out.2.1.keep HR1.out.1 (((KT.refl B g d1 w1).drewN nr).trans k2)
 obtain⟨-,-,e2,-,-⟩:=h2.cells
 have hgl:=h2.row.lt
 have HR2:=Lib.hid (And.intro h2 (And.intro c2 (HR1.out.2.2.trans (((KT.refl B g d1 w1).drewN nr).trans k2))))
 have t0:=cell_rowV c2.t (j:=0) rfl
 have s0:=cell_rowV c2.s (j:=0) rfl
 unfold fnS at s0
 clear HM HS1 HS2 h2 k2 c2
 have HS2:=Lib.hid (fun q=>s23_any B g mb spare next (w2.drewN q) _ bs d2 (HR2.out.1.drewN q) tb sb (HR2.out.2.1.below (bdrew (Below.refl _ _) q)) Hn.out 2 (by omega))
 have HM:=Lib.hid (fun q=>move23_any B g mb spare next (w2.drewN q) _ bs d2 (HR2.out.1.drewN q) (by rw [List.length_append,List.length_append];have:=Hl.out;simp only [List.length_cons,List.length_nil];omega) (next-2) spare)
 go_wp2_with fail
 refine wp_region_quiet_tail 7 (by kernel_rfl) (by kernel_rfl) ?_
 simp only [List.take_succ_cons,List.take_zero,List.drop_succ_cons,List.drop_zero]
 repeat (go_big_quiet_step (first | (go_at_call 54;first | exact Calls.quiet_of_same (HS2.out _))))
 refine wpQuiet_nil ?_
 intro _ hw'
 obtain⟨nr,hw''⟩:=hw'
 subst hw''
 go_wp2_with fail
 refine (HM.out _).mono ?_
 rintro e w3 ⟨rfl,d3,h3,k3⟩
 have HR3:=Lib.hid (And.intro h3 (HR2.out.2.2.trans (((KT.refl B g d2 w2).drewN nr).trans k3)))
 clear h3 k3 e2 hgl t0 s0
 go_wp2_with fail
 refine⟨rfl,_,results_none rfl _ _ _,rfl,d3,?_,HR3.out.2⟩
 have:=HR3.out.1
 rw [List.append_assoc,List.append_assoc] at this
 exact this
theorem uMi:Tryz.prog.underlying 69=some (.map 3 3):=by kernel_rfl
theorem MapZ.look1{P:Program}{k e:TypeId}{q:IntKind}{w:World}{b n:Nat}{f:Int→Option Value}{t:TypeId}(hk:P.underlying k=some (.int q))(ht:P.underlying t=some (.map k e)){z:Value}(hz:(zeroValue e).run P w=.ok z w)(h:MapZ P k q w b n f)(s:Int)(hs:(Lit.int q s).wf=true) :
  (Instr.lookup t (.map (some b)) (.int q s) false).run P w=.ok ((f s).getD z) w:=by
 obtain⟨D,h1,h2⟩:=h
 obtain⟨v,ps,hrun,hv⟩:=h1.lookup (Maps.int_keyed hk) ht hz (zd:=.held z) (zp:=[]) rfl (Maps.keyOf_int_mk hk hs)
 unfold heldR at hv
 rw [(h2 s).2 z] at hv
 simp only [Option.some.injEq,Prod.mk.injEq,DataW.held.injEq] at hv
 rw [hrun,hv.1]
theorem zI(W:World):(zeroValue 3).run Tryz.prog W=.ok (.int .i64 0) W:=by kernel_rfl
theorem loop23_any(B g mb:Nat)(spare next:Int)(w:World)(out:List RI)(bs:List Int)(d:TD)(h:TK B g mb spare w next out bs d)(tb sb:Nat)(hc:CapT w tb sb g)(hn:-3000≤next∧next≤3000)(hl:out.length≤3900)(arg:Int)(at_:Int)(hat:0≤at_∧at_≤4000)(m:Int)(hm0:0≤m∧m≤65536)(M:Nat)(f:Int→Option Value)(hm:MapZ Tryz.prog 3 .i64 w mb M f)(hf:(f at_).getD (.int .i64 0)=.int .i64 m) :
  Calls Tryz.prog 61 #[.int .u32 arg,.int .i64 at_,.pointer (some ⟨tb,0,none⟩),.pointer (some ⟨sb,0,none⟩)] w (TR B g mb spare d w next (out++[⟨29,-1,next-1,-1,m⟩]) bs):=by
 have t0:=cell_rowV hc.t (j:=0) rfl
 have s0:=cell_rowV hc.s (j:=0) rfl
 unfold fnS at s0
 obtain⟨-,-,-,-,e4⟩:=h.cells
 have hgl:=h.row.lt
 have hlk:∀ q,(Instr.lookup 69 (.map (some mb)) (.int .i64 at_) false).run Tryz.prog (w.drewN q)=.ok (.int .i64 m) (w.drewN q):=fun q=>by
  rw [←hf]
  exact MapZ.look1 uInt uMi (zI _) (hm.same (w':=w.drewN q) rfl) at_ (by simp [Lit.wf,IntKind.min,IntKind.max,IntKind.bits,IntKind.signed];omega)
 have HS1:=Lib.hid (fun q=>s23_any B g mb spare next (w.drewN q) out bs d (h.drewN q) tb sb (hc.below (bdrew (Below.refl _ _) q)) hn 1 (by omega))
 have HM:=Lib.hid (fun q=>put23_any B g mb spare next (w.drewN q) out bs d (h.drewN q) (by omega) 29 (-1) (next-1) (-1) m)
 clear h hc hn hl hm hf
 go_enter Tryz.func61,Tryz.ntmps61
 go_wp2_with fail
 refine wp_region_quiet_tail 10 (by kernel_rfl) (by kernel_rfl) ?_
 simp only [List.take_succ_cons,List.take_zero,List.drop_succ_cons,List.drop_zero]
 repeat (go_big_quiet_step (first | (go_at_call 54;first | exact Calls.quiet_of_same (HS1.out _))))
 refine wpQuiet_nil ?_
 intro _ hw'
 obtain⟨nr,hw''⟩:=hw'
 subst hw''
 go_wp2_with fail
 refine (HM.out _).mono ?_
 rintro e w1 ⟨rfl,d',h1,h2⟩
 have HR:=Lib.hid (And.intro h1 (((KT.refl B g d w).drewN nr).trans h2))
 clear h1 h2
 go_wp2_with fail
 exact⟨rfl,_,results_none rfl _ _ _,rfl,d',HR.out.1,HR.out.2⟩
theorem kindI_sh:∀ k:Fin 39,(kindI (k.1:Int)).getD 1 false=shTo (k.1:Int)∧(kindI (k.1:Int)).getD 2 false=shA (k.1:Int)∧(kindI (k.1:Int)).getD 3 false=shB (k.1:Int):=by decide +kernel
theorem kindI_of{op:Int}(h0:0≤op)(h1:op < 39):∃ a,kindI op=[a,shTo op,shA op,shB op]:=by
 obtain⟨a,b,c,d,h⟩:=kindI_four op
 have:=kindI_sh ⟨op.toNat,by omega⟩
 simp only [] at this
 rw [show ((op.toNat:Nat):Int)=op by omega,h] at this
 obtain⟨e1,e2,e3⟩:=this
 exact⟨a,by rw [h,←e1,←e2,←e3];rfl⟩
theorem TK.far{B g mb:Nat}{spare next:Int}{w w1:World}{out:List RI}{bs:List Int}{d:TD}(h:TK B g mb spare w next out bs d)(hb:Below w.heap.size w w1):TK B g mb spare w1 next out bs d∧KT B g d d w w1:=⟨h.below hb,KT.of_below hb h.hB⟩
theorem same23_any(B g mb:Nat)(spare next:Int)(w:World)(out:List RI)(bs:List Int)(d:TD)(h:TK B g mb spare w next out bs d)(hn:-3000≤next∧next≤3000)(hl:out.length≤3900)(op arg:Int)(h0:0≤op∧op < 36)(pops:Nat)(hp:pops≤2) :
  Calls Tryz.prog 30 #[.pointer (some ⟨g,0,none⟩),.agg #[.int .i64 op,.int .u32 arg],.int .i64 (pops:Int)] w
   (TR B g mb spare d w next (out++[⟨op,if shTo op then next-pops else -1,if shA op then next-pops else -1,if shB op then next-pops+1 else -1,arg⟩]) bs):=by
 obtain⟨-,e1,-,-,-⟩:=h.cells
 have hgl:=h.row.lt
 obtain⟨k0,hk⟩:=kindI_of h0.1 (show op < 39 by omega)
 obtain⟨pt,hpt⟩:∃ z,z=shTo op:=⟨_,rfl⟩
 obtain⟨pa,hpa⟩:∃ z,z=shA op:=⟨_,rfl⟩
 obtain⟨pb,hpb⟩:∃ z,z=shB op:=⟨_,rfl⟩
 rw [←hpt,←hpa,←hpb] at hk ⊢
 have S:=shape_any op
 rw [hk] at S
 simp only [List.map_cons,List.map_nil] at S
 have HS:=Lib.hid S
 obtain⟨F,hF⟩:∃ z,z=next-(pops:Int):=⟨_,rfl⟩
 rw [←hF]
 have bF:-4000≤F∧F≤4000:=by omega
 obtain⟨x0,hx0⟩:∃ z:Int,z=if pt then F else -1:=⟨_,rfl⟩
 obtain⟨x1,hx1⟩:∃ z:Int,z=if pa then F else -1:=⟨_,rfl⟩
 obtain⟨x2,hx2⟩:∃ z:Int,z=if pb then F+1 else -1:=⟨_,rfl⟩
 rw [←hx0,←hx1,←hx2]
 have HX:=Lib.hid (And.intro hx0 (And.intro hx1 hx2))
 have HFe:=Lib.hid hF
 obtain⟨w0,hw0⟩:∃ z,z=w.alloc (.cells #[.int .i64 op,.int .u32 arg] 44):=⟨_,rfl⟩
 have b0:Below w.heap.size w w0:=by rw [hw0];exact balloc (Below.refl _ _) _
 have r0:rowV w0 w.heap.size 44 #[.int .i64 op,.int .u32 arg]:=by rw [hw0];exact rowV.new w _ _
 have c0:=(two_cellsV r0).1
 have Hw0:=Lib.hid hw0
 have HT:=Lib.hid h
 have Hl:=Lib.hid hl
 clear hw0 hk S hpt hpa hpb h hl hF hx0 hx1 hx2
 go_enter Tryz.func30,Tryz.ntmps30
 go_upto_region 1 with fail
 rw [←Hw0.out]
 go_wp2_with fail
 refine (HS.out _).mono ?_
 rintro e w1 ⟨rfl,hb1⟩
 obtain⟨w2,hw2⟩:∃ z,z=w1.alloc (.cells #[.bool k0,.bool pt,.bool pa,.bool pb] 97):=⟨_,rfl⟩
 have b2:Below w0.heap.size w0 w2:=by rw [hw2];exact balloc hb1 _
 have q2:rowV w2 w1.heap.size 97 #[.bool k0,.bool pt,.bool pa,.bool pb]:=by rw [hw2];exact rowV.new w1 _ _
 have r2:=r0.below b2 r0.lt
 have Hw2:=Lib.hid hw2
 have bw:=b0.trans (b2.mono b0.size)
 obtain⟨w3,hw3⟩:∃ z,z=w2.alloc (.cells #[.int .i64 (-1),.int .i64 (-1),.int .i64 (-1)] 3):=⟨_,rfl⟩
 have b3:Below w2.heap.size w2 w3:=by rw [hw3];exact balloc (Below.refl _ _) _
 have r3:rowV w3 w2.heap.size 3 #[.int .i64 (-1),.int .i64 (-1),.int .i64 (-1)]:=by rw [hw3];exact rowV.new w2 _ _
 have q3:=q2.below b3 q2.lt
 have i3:=r2.below b3 r2.lt
 have bw3:=bw.trans (b3.mono bw.size)
 have hR:w.heap.size≤w2.heap.size:=bw.size
 have Hw3:=Lib.hid hw3
 obtain⟨W1,hW1⟩:∃ z,z=if pt then w3.setCell ⟨w2.heap.size,0,none⟩ (.int .i64 F) else w3:=⟨_,rfl⟩
 obtain⟨W2,hW2⟩:∃ z,z=if pa then W1.setCell ⟨w2.heap.size,1,none⟩ (.int .i64 F) else W1:=⟨_,rfl⟩
 obtain⟨W3,hW3⟩:∃ z,z=if pb then W2.setCell ⟨w2.heap.size,2,none⟩ (.int .i64 (F+1)) else W2:=⟨_,rfl⟩
 have ne1:w1.heap.size≠w2.heap.size:=by have:=q2.lt;omega
 have ne2:w.heap.size≠w2.heap.size:=by have:=r2.lt;omega
 have k1:rowV W1 w2.heap.size 3 #[.int .i64 (if pt then F else -1),.int .i64 (-1),.int .i64 (-1)]∧rowV W1 w1.heap.size 97 #[.bool k0,.bool pt,.bool pa,.bool pb]∧rowV W1 w.heap.size 44 #[.int .i64 op,.int .u32 arg]∧Below w.heap.size w W1:=by
  rw [hW1]
  cases pt with
  | false=>exact⟨r3,q3,i3,bw3⟩
  | true=>exact⟨r3.set 0 _,q3.setFar ne1 _,i3.setFar ne2 _,belowCell bw3 hR _⟩
 have k2:rowV W2 w2.heap.size 3 #[.int .i64 (if pt then F else -1),.int .i64 (if pa then F else -1),.int .i64 (-1)]∧rowV W2 w1.heap.size 97 #[.bool k0,.bool pt,.bool pa,.bool pb]∧rowV W2 w.heap.size 44 #[.int .i64 op,.int .u32 arg]∧Below w.heap.size w W2:=by
  rw [hW2]
  obtain⟨x1,x2,x3,x4⟩:=k1
  cases pa with
  | false=>exact⟨x1,x2,x3,x4⟩
  | true=>exact⟨x1.set 1 _,x2.setFar ne1 _,x3.setFar ne2 _,belowCell x4 hR _⟩
 have k3:rowV W3 w2.heap.size 3 #[.int .i64 (if pt then F else -1),.int .i64 (if pa then F else -1),.int .i64 (if pb then F+1 else -1)]∧rowV W3 w.heap.size 44 #[.int .i64 op,.int .u32 arg]∧Below w.heap.size w W3:=by
  rw [hW3]
  obtain⟨x1,x2,x3,x4⟩:=k2
  cases pb with
  | false=>exact⟨x1,x3,x4⟩
  | true=>exact⟨x1.set 2 _,x3.setFar ne2 _,belowCell x4 hR _⟩
 have K0:=Lib.hid (And.intro r3 (And.intro q3 (And.intro i3 bw3)))
 have K1:=Lib.hid k1
 have K2:=Lib.hid k2
 have HP:=fun q=>put23_any B g mb spare next (W3.drewN q) out bs d ((HT.out.below k3.2.2).drewN q) (by have:=Hl.out;omega) op (if pt then F else -1) (if pa then F else -1) (if pb then F+1 else -1) arg
 rw [←HX.out.1,←HX.out.2.1,←HX.out.2.2] at k3 HP
 have K3:=Lib.hid k3
 have HP:=Lib.hid HP
 obtain⟨-,e13,-,-,-⟩:=(HT.out.below bw3).cells
 have hg3:g < w3.heap.size:=(HT.out.below bw3).row.lt
 have c2:=cell_rowV q3 (j:=1) rfl
 have HT3:=Lib.hid (And.intro HT.out Hl.out)
 clear hw2 hw3 k1 k2 k3 HX HS b0 r0 c0 b2 q2 r2 bw b3 r3 q3 i3 bw3 hb1 HT Hl hgl e1
 go_upto_region 2 with fail
 rw [←Hw2.out]
 clear Hw2
 go_upto_region 3 with fail
 rw [←Hw3.out]
 clear Hw3
 have eF:next-(pops:Int)=F:=HFe.out.symm
 have y0:=cell_rowV K0.out.1 (j:=0) rfl
 have f0:=frozen_rowV' K0.out.1 0
 have l3:=K0.out.1.lt
 go_upto_region 4 with fail
 clear eF e13 hg3
 cases pt
 all_goals
  simp only [if_true,if_false,Bool.false_eq_true] at hW1
  have HW1:=Lib.hid hW1
  clear hW1
  go_upto_region 6 with fail
  rw [←HW1.out]
  clear HW1 y0 f0 l3 c2
  have c2:=cell_rowV K1.out.2.1 (j:=2) rfl
  have y0:=cell_rowV K1.out.1 (j:=1) rfl
  have f0:=frozen_rowV' K1.out.1 1
  have l3:=K1.out.1.lt
  cases pa
  all_goals
   simp only [if_true,if_false,Bool.false_eq_true] at hW2
   have HW2:=Lib.hid hW2
   clear hW2
   go_upto_region 8 with fail
   rw [←HW2.out]
   clear HW2 y0 f0 l3 c2
   have c2:=cell_rowV K2.out.2.1 (j:=3) rfl
   have y0:=cell_rowV K2.out.1 (j:=2) rfl
   have f0:=frozen_rowV' K2.out.1 2
   have l3:=K2.out.1.lt
   cases pb
   all_goals
    simp only [if_true,if_false,Bool.false_eq_true] at hW3
    have HW3:=Lib.hid hW3
    clear hW3
    go_upto_region 10 with fail
    rw [←HW3.out]
    clear HW3 y0 f0 l3 c2
    obtain⟨c0,c1⟩:=two_cellsV K3.out.2.1
    obtain⟨y0,y1,y2⟩:=three_cellsV K3.out.1
    have l3:=K3.out.1.lt
    have l0:=K3.out.2.1.lt
    refine wp_region_quiet_tail 14 (by kernel_rfl) (by kernel_rfl) ?_
    simp only [List.take_succ_cons,List.take_zero,List.drop_succ_cons,List.drop_zero]
    repeat (go_big_quiet_step (fail))
    refine wpQuiet_nil ?_
    intro _ hw'
    obtain⟨nr,hw''⟩:=hw'
    subst hw''
    go_wp2_with fail
    refine (HP.out _).mono ?_
    rintro e wz ⟨rfl,d',h1,h2⟩
    have HR:=Lib.hid (And.intro h1 ((KT.of_below (g:=g) (d:=d) K3.out.2.2 HT3.out.1.hB).trans (((KT.refl B g d W3).drewN nr).trans h2)))
    clear h1 h2 c0 c1 y0 y1 y2
    go_wp2_with fail
    exact⟨rfl,_,results_none rfl _ _ _,rfl,d',HR.out.1,HR.out.2⟩
theorem follow23_any(B g mb:Nat)(spare next:Int)(w:World)(out:List RI)(bases:List Int)(d:TD)(h:TK B g mb spare w next out bases.reverse d)(hl:bases.length≤2000)(op:Int)(hop:op=28∨op=31→bases≠[]) :
  Calls Tryz.prog 31 #[.pointer (some ⟨g,0,none⟩),.int .i64 op] w (TR B g mb spare d w (folN next bases op).1 out (folN next bases op).2.reverse):=by
 obtain⟨-,e1,-,e3,-⟩:=h.cells
 have hgl:=h.row.lt
 have f1:=h.frozen 1
 have f3:=h.frozen 3
 have hbn:d.bn=bases.length:=by rw [h.bn,List.length_reverse]
 have HT:=Lib.hid h
 have Hbn:=Lib.hid hbn
 unfold folN
 by_cases h1:op=27∨op=29
 ·rw [if_pos h1]
  have hml:=Lib.hid (show d.bn+1≤maxLen∧(d.bn+1) * 8≤140737488355328 by unfold maxLen;omega)
  have HTd:Hid (TK B g mb spare w.drew next out bases.reverse d):=h.drewN 1
  clear h hbn hop hl
  rcases h1 with rfl | rfl
  all_goals
   go_enter Tryz.func31,Tryz.ntmps31
   go_wp2_with fail
   go_region_law (first | (refine step_pushT (enc:=encZ) (w:=w.drew) rfl (.tmp 18) (.tmp 23) rfl uIs infoZ encZ_one rfl (fun _=>rfl) (by decide) rfl HTd.out.bas HTd.out.hB next _ rfl rfl hml.out.1 hml.out.2 ?_;intro A9 c9 w9 ho9 hb9 hg9 hf9;have rX:=HTd.out.rowB hg9;have e9:=cell_rowV rX (j:=3) rfl;have f9:=frozen_rowV' rX 3))
   all_goals
    have HP:=HTd.out.setB hg9 ho9 hf9
    exact⟨rfl,_,results_none rfl _ _ _,rfl,_,by rw [List.reverse_cons];exact HP.1,((KT.refl B g d w).drewN 1).trans HP.2⟩
 rw [if_neg h1]
 have e27:(op==27)=false:=by simp;omega
 have e29:(op==29)=false:=by simp;omega
 clear h1
 by_cases h28:op=28
 ·rw [if_pos h28]
  cases hb:bases with
  | nil=>exact absurd hb (hop (.inl h28))
  | cons x rest=>
   rw [hb] at HT Hbn hl
   obtain⟨n,hn⟩:∃ n,n=rest.length:=⟨_,rfl⟩
   have hbn1:d.bn=n+1:=by rw [Hbn.out,hn];rfl
   obtain⟨bg,hbA,-,hbl,y⟩:=HT.out.bas.cellZ (k:=n) (by omega)
   rw [hn,rev_top,←hn] at y
   rw [hbn1,hbA] at e3
   have HP:=Lib.hid (HT.out.setN x)
   have hn2:n≤2000:=by simp only [List.length_cons] at hl;omega
   clear h hbn hbn1 hop hl hb hbA hn
   subst h28
   go_enter Tryz.func31,Tryz.ntmps31
   go_wp2_with fail
   exact⟨rfl,_,results_none rfl _ _ _,rfl,_,HP.out.1,HP.out.2⟩
 rw [if_neg h28]
 have e28:(op==28)=false:=by simp;omega
 by_cases h31:op=31
 ·rw [if_pos h31]
  cases hb:bases with
  | nil=>exact absurd hb (hop (.inr h31))
  | cons x rest=>
   rw [hb] at HT Hbn hl
   obtain⟨n,hn⟩:∃ n,n=rest.length:=⟨_,rfl⟩
   have hbn1:d.bn=n+1:=by rw [Hbn.out,hn];rfl
   obtain⟨bg,hbA,-,hbl,y⟩:=HT.out.bas.cellZ (k:=n) (by omega)
   rw [hn,rev_top,←hn] at y
   have hcap:=HT.out.bas.cap
   obtain⟨bc,hbc⟩:∃ c,c=d.bc:=⟨_,rfl⟩
   rw [hbn1,hbA,←hbc] at e3
   have hcut:=cutZ_h (some ⟨bg,0,none⟩) (n+1) bc (n:Int) (by omega) (by omega)
   rw [Int.toNat_natCast] at hcut
   have hsz:n < bc:=by omega
   have P1:=HT.out.setN x
   have o1:=P1.1.bas.cut (fun _=>rfl) (by decide) (k:=n) (by omega)
   rw [hn,rev_pop,←hn] at o1
   have P2:=P1.1.setB (World.grownBy.refl _ _) o1 (fun b hb=>.inl (by rw [own_sl d.bA n d.bn d.bc d.bc] at hb;exact hb))
   rw [hbA,←hbc] at P2
   have HP:=Lib.hid (And.intro P2.1 (P1.2.trans P2.2))
   have hn2:n≤2000:=by simp only [List.length_cons] at hl;omega
   have hh:=setCell_size w ⟨g,1,none⟩ (.int .i64 x)
   clear h hbn hbn1 hop hl hb hbA hn hcap hbc P1 o1 P2
   subst h31
   clear h28
   go_enter Tryz.func31,Tryz.ntmps31
   go_wp2_with fail
   go_region
   exact⟨rfl,_,results_none rfl _ _ _,rfl,_,HP.out.1.drewN 1,HP.out.2.drewN 1⟩
 rw [if_neg h31]
 have e31:(op==31)=false:=by simp;omega
 clear h hbn hop hl h28 h31
 go_enter Tryz.func31,Tryz.ntmps31
 go_wp2_with fail
 exact⟨rfl,_,results_none rfl _ _ _,rfl,d,HT.out,KT.refl _ _ _ _⟩
end Go.Proofs.YtpaplehcafeeaaaGreatDoor
namespace Go.Proofs.YtpaplehcafeeaaaGreatDoor
open Go.RowKit Go.Proofs
theorem run_store_fn23{P:Program}{w:World}{a:Addr}{m:Mode}(f:Fn)(x y:Array Value):(store a (.func f x y) m).run P w=Go.stored P w a (.func f x y) m:=run_store P w a _ m rfl
attribute [local go_sem] run_store_fn23
theorem uMf:Tryz.prog.underlying 72=some (.map 3 76):=by kernel_rfl
def capL(tb sb:Nat):Array Value:=#[.pointer (some ⟨tb,0,none⟩),.pointer (some ⟨sb,0,none⟩)]
def spF(tb sb:Nat):Int→Option Value:=
 zput (zput (zput (zput (zput (zput (fun _=>none) 1 (.func (.func 55) #[] (capL tb sb))) 2 (.func (.func 57) #[] (capL tb sb))) 5 (.func (.func 58) #[] (capL tb sb))) 6 (.func (.func 59) #[] #[])) 7 (.func (.func 60) #[] (capL tb sb))) 29 (.func (.func 61) #[] (capL tb sb))
theorem special_any(g:Nat)(w:World):Calls Tryz.prog 28 #[.pointer (some ⟨g,0,none⟩)] w fun e w'=>e=.returned (.map (some (w.heap.size+1+1)))∧MapZ Tryz.prog 3 .i64 w' (w.heap.size+1+1) 6 (spF w.heap.size (w.heap.size+1))∧CapT w' w.heap.size (w.heap.size+1) g∧Below w.heap.size w w':=by
 have hmk:∀ W:World,(Instr.makeMap 72 none).run Tryz.prog W=.ok (.map (some W.heap.size)) (W.alloc (.map #[] 0)):=fun W=>run_makeMap_plain W _
 have hmf:∀ (fn:Fn) (first cap:Array Value) (w:World),(Instr.makeFunc fn first cap).run Tryz.prog w=.ok (.func fn first cap) w:=fun _ _ _ _=>rfl
 obtain⟨wa,hwa⟩:∃ z,z=w.alloc (.cells #[.pointer (some ⟨g,0,none⟩)] 68):=⟨_,rfl⟩
 have ka:Below w.heap.size w wa:=by rw [hwa];exact balloc (Below.refl _ _) _
 have ra:rowV wa w.heap.size 68 #[.pointer (some ⟨g,0,none⟩)]:=by rw [hwa];exact rowV.new w _ _
 have sa:wa.heap.size=w.heap.size+1:=by rw [hwa];simp
 obtain⟨wb,hwb⟩:∃ z,z=wa.alloc (.cells #[fnS w.heap.size] 113):=⟨_,rfl⟩
 have kb:Below wa.heap.size wa wb:=by rw [hwb];exact balloc (Below.refl _ _) _
 have rb:rowV wb wa.heap.size 113 #[fnS w.heap.size]:=by rw [hwb];exact rowV.new wa _ _
 have sb:wb.heap.size=wa.heap.size+1:=by rw [hwb];simp
 obtain⟨wc,hwc⟩:∃ z,z=wb.alloc (.map #[] 0):=⟨_,rfl⟩
 have kc:Below wb.heap.size wb wc:=by rw [hwc];exact balloc (Below.refl _ _) _
 have mc:MapZ Tryz.prog 3 .i64 wc wb.heap.size 0 (fun _=>none):=by rw [hwc];exact MapZ.made wb
 have hb:Below w.heap.size w wc:=ka.trans ((kb.trans (kc.mono kb.size)).mono ka.size)
 have hc:CapT wc w.heap.size (w.heap.size+1) g:=⟨(ra.below kb ra.lt).below kc (ra.below kb ra.lt).lt,by rw [←sa];exact rb.below kc rb.lt⟩
 obtain⟨W1,e1,m1,g1⟩:=mc.step uInt uMf (by decide) 1 (by decide) (.func (.func 55) #[] (capL w.heap.size (w.heap.size+1)))
 obtain⟨W2,e2,m2,g2⟩:=m1.step uInt uMf (by decide) 2 (by decide) (.func (.func 57) #[] (capL w.heap.size (w.heap.size+1)))
 obtain⟨W3,e3,m3,g3⟩:=m2.step uInt uMf (by decide) 5 (by decide) (.func (.func 58) #[] (capL w.heap.size (w.heap.size+1)))
 obtain⟨W4,e4,m4,g4⟩:=m3.step uInt uMf (by decide) 6 (by decide) (.func (.func 59) #[] #[])
 obtain⟨W5,e5,m5,g5⟩:=m4.step uInt uMf (by decide) 7 (by decide) (.func (.func 60) #[] (capL w.heap.size (w.heap.size+1)))
 obtain⟨W6,e6,m6,g6⟩:=m5.step uInt uMf (by decide) 29 (by decide) (.func (.func 61) #[] (capL w.heap.size (w.heap.size+1)))
 have gg:wc.grownBy W6 (some wb.heap.size):=grownBy.trans' (grownBy.trans' (grownBy.trans' (grownBy.trans' (grownBy.trans' g1 g2) g3) g4) g5) g6
 have h1:=hc.t.grown gg (fun e=>by injection e with e;omega)
 have h2:=hc.s.grown gg (fun e=>by injection e with e;omega)
 have hB:Below w.heap.size w W6:=hb.grown gg hb.size (fun k hk=>by injection hk with hk;omega)
 have e0:wb.heap.size=w.heap.size+1+1:=by omega
 rw [e0] at e1 e2 e3 e4 e5 e6 m6
 have HD:Hid (MapZ Tryz.prog 3 .i64 W6 (w.heap.size+1+1) 6 (spF w.heap.size (w.heap.size+1))∧CapT W6 w.heap.size (w.heap.size+1) g∧Below w.heap.size w W6):=⟨m6,⟨h1,h2⟩,hB⟩
 unfold capL at e1 e2 e3 e5 e6
 unfold fnS at hwb
 have f0:=frozen_rowV' ra 0
 rw [hwc,hwb,hwa] at e1
 clear hwa ka ra sa hwb kb rb sb hwc kc mc hb hc m1 m2 m3 m4 m5 m6 g1 g2 g3 g4 g5 g6 gg h1 h2 hB e0 f0
 go_enter Tryz.func28,Tryz.ntmps28
 go_wp2_with fail
 go_ret
 exact⟨rfl,HD.out.1,HD.out.2⟩
end Go.Proofs.YtpaplehcafeeaaaGreatDoor
namespace Go.Proofs.YtpaplehcafeeaaaGreatDoor
open Go.RowKit Go.Proofs
variable [Inhabited ArgB]
section
variable {B g mb : Nat} {v : WV} {w w1 : World} {st : St} {d : WD}
theorem WK.pushS(h:WK B g mb v w st d)(hg:w.grownBy w1 (Value.slice d.sA d.sn d.sc).ownBlock){A':Option Addr}{n' c':Nat}{xs:List Vl}(ho:StkS w1 B A' n' c' xs)(hf:∀ b,(Value.slice A' n' c').ownBlock=some b→(Value.slice d.sA d.sn d.sc).ownBlock=some b∨w.heap.size≤b) :
  WK B g mb v (w1.setCell ⟨g,7,none⟩ (.slice A' n' c')) { st with stk:=xs } { d with sA:=A',sn:=n',sc:=c' }∧KV B g mb d { d with sA:=A',sn:=n',sc:=c' } w (w1.setCell ⟨g,7,none⟩ (.slice A' n' c')):=by
 have hne:=h.stk.ne_row h.row (by decide)
 have hr1:=h.row.grown hg (fun e=>hne g e.symm rfl)
 have ht1:∀ (k:Nat) cs fr,(Value.slice d.sA d.sn d.sc).ownBlock=some k→w.heap[k]?≠some (Obj.cells cs 148 fr):=fun k cs fr hk=>by
  obtain⟨-,-,cur,hcur⟩:=h.stk.blk hk
  exact ne_of_cells hcur (by decide)
 have ht2:∀ (k:Nat) cs fr,(Value.slice d.sA d.sn d.sc).ownBlock=some k→w.heap[k]?≠some (Obj.cells cs 48 fr):=fun k cs fr hk=>by
  obtain⟨-,-,cur,hcur⟩:=h.stk.blk hk
  exact ne_of_cells hcur (by decide)
 have hk1:KW B d.own d.own w w1:=KW.of_grown hg (fun k hk=>(h.stk.blk hk).2.1) h.hB ht1 ht2
 have g2:w1.grownBy (w1.setCell ⟨g,7,none⟩ (.slice A' n' c')) (some g):=grownBy.setCell' (World.grownBy.refl _ _) _
 have hr1':w1.heap[g]?=some (.cells (rowK v d (st.hgt:Int) mb) 145 (0,0)):=hr1
 have hk2:KW B d.own d.own w1 (w1.setCell ⟨g,7,none⟩ (.slice A' n' c')):=by
  refine KW.of_grown g2 (fun k hk=>by injection hk with hk;rw [←hk];exact h.hg) (Nat.le_trans h.hB hg.size) (fun k cs fr hk=>?_) (fun k cs fr hk=>?_)
  ·injection hk with hk;rw [←hk];exact ne_of_cells hr1' (by decide)
  ·injection hk with hk;rw [←hk];exact ne_of_cells hr1' (by decide)
 have hk:=hk1.trans hk2
 obtain⟨f,m1,m2⟩:=h.map
 obtain⟨mo,hmo1,hmo2⟩:=m1.isMap
 have hmb1:w1.heap[mb]?=w.heap[mb]?:=hg.block mb m1.lt (fun e=>by
  obtain⟨-,-,cur,hcur⟩:=h.stk.blk (b:=mb) e.symm
  rw [hmo1] at hcur
  injection hcur with hcur
  rw [hcur] at hmo2
  cases hmo2)
 have hr:=hr1.set 7 (.slice A' n' c')
 refine⟨⟨hr,h.hg,Nat.le_trans h.hB (Nat.le_trans hg.size g2.size),h.locs.keep hk.ki,ho.grown g2 (ho.ne_row hr1 (by decide)),?_,h.lvl,fun i hi=>(h.lvi i hi).keep hk.ki,h.hm,f,?_,m2.keep hk.ki⟩,hk,fun k h0 h1 h2 h3 h4=>(Below.heap_setCell w1 ⟨g,7,none⟩ _ k h1).trans (hg.block k h0 (fun e=>h4 e.symm)),hf⟩
 ·have hl1:=h.lvs.grown hg (fun b hb e=>h.lvs.ne_own h.stk (by decide) b hb (by rw [←e]))
  exact hl1.grown g2 (hl1.ne_row hr1 (by decide))
 ·have m3:=m1.same hmb1
  exact m3.same (g2.block mb m3.lt (fun e=>h.ne_map (by injection e)))
theorem WK.rowS(h:WK B g mb v w st d)(hg:w.grownBy w1 (Value.slice d.sA d.sn d.sc).ownBlock):rowV w1 g 145 (rowK v d (st.hgt:Int) mb):=h.row.grown hg (fun e=>h.stk.ne_row h.row (by decide) g e.symm rfl)
end
theorem own_slice{α:Type}{enc:α→List Value}{w:World}{B sz n:Nat}{e:TypeId}{v':Value}{l:List Value}(h:w.ownsRow B e sz v' n l):∃ A c,v'=.slice A n c:=by
 rcases h.2 with ⟨h1,h2⟩ | ⟨g,cap,cur,h1,-⟩
 ·exact⟨none,0,by rw [h1,h2]⟩
 ·exact⟨_,cap,h1⟩
def PushR(B g mb:Nat)(v:WV)(d:WD)(w:World)(r:ER)(e:Ending)(w':World):Prop:=match r with
 | .bad a x=>e=.panicked [{ v:=failW a x,recovered:=false }]∧Below B w w'
 | .ok st' _ _=>e=.returned (.tuple #[])∧∃ d',WK B g mb v w' st' d'∧KV B g mb d d' w w'∧d'.mn=d.mn
 | .stuck=>False
theorem pushW_any(B g mb:Nat)(v:WV)(d:WD)(st:St)(w:World)(h:WK B g mb v w st d)(lo:Nat)(ad:Addr)(k c:Nat)(l:List Vl)(hl:VlsAt w (some ad) k l)(hk:k≤8)(hst:st.stk.length≤32)(hh:st.hgt≤32)(ee:Int) :
  Calls Tryz.prog 146 #[.pointer (some ⟨g,0,none⟩),.int .i64 (lo:Int),.slice (some ad) k c] w (PushR B g mb v d w (pushA lo st l ee)):=by
 obtain⟨i0,hi,hz0,hz1,hz2⟩:=Go.info_parts infoVl
 have hsn:=h.sn
 obtain⟨-,-,-,-,-,-,-,e7,-,-,-⟩:=h.cells
 have f7:=h.frozen 7
 have HW:=Lib.hid h
 have HL:=Lib.hid hl
 have HI:=Lib.hid hi
 have Hsn:=Lib.hid hsn
 have Hbd:=Lib.hid (And.intro hst hh)
 have hsn32:d.sn≤32:=by omega
 clear h hl hsn hi hst
 obtain⟨sn,hsn'⟩:∃ s,s=d.sn:=⟨_,rfl⟩
 have Hsn':=Lib.hid hsn'
 go_enter Tryz.func146,Tryz.ntmps146
 go_wp2_with (at_builtin;refine wpList_append_own_at _ rfl _ _ 143 rfl B 242 i0 (.agg #[.bool false,.int .i64 0,.int .i64 0]) 3 24 uVl HI.out hz0 hz1 hz2 rfl (by decide) _ _ _ rfl HW.out.stk ad k c (l.flatMap encVl) rfl ?qc1 ?qc2 ?qc3 ?qc4 ?qc5 ?qc6 ?_)
 case qc1=>rw [flat_length (enc:=encVl) (sz:=3) (fun _=>rfl),HL.out.1]
 case qc2=>
  intro j u hj
  obtain⟨i,hi,h⟩:=flat_vl l j u hj
  rw [HL.out.1] at hi
  obtain⟨b,off,h1,h2,h3⟩:=HL.out.2 (by omega)
  injection h1 with h1
  subst h1
  rw [Addr.add_lit]
  rcases h with ⟨rfl,rfl⟩ | ⟨rfl,rfl⟩ | ⟨rfl,rfl⟩
  ·exact (h3 i hi).1
  ·exact (h3 i hi).2.1
  ·exact (h3 i hi).2.2
 case qc3=>intro u hu;obtain⟨x,_,hu⟩:=List.mem_flatMap.1 hu;exact encVl_one x u hu
 case qc4=>unfold maxLen;omega
 case qc5=>omega
 case qc6=>exact HW.out.hB
 intro v' w1 hown hgrow hnil hat
 obtain⟨A',c',rfl⟩:=own_slice (enc:=encVl) hown
 rw [←List.flatMap_append] at hown
 have hHP:=HW.out.pushS hgrow hown (fun b hb=>by rcases hat with h | h;exact .inl (h ▸ hb);exact .inr (by rw [h] at hb;injection hb;omega))
 have hr1:=HW.out.rowS hgrow
 have e7':=cell_rowV hr1 (j:=7) rfl
 have f7':=frozen_rowV' hr1 7
 obtain⟨-,-,-,-,-,-,-,x7,x8,-,-⟩:=hHP.1.cells
 have fx8:=hHP.1.frozen 8
 have HP:=Lib.hid hHP
 have HG:=Lib.hid hgrow
 clear hown hgrow hnil hat hHP hr1 e7 f7 hz0 hz1 hz2
 simp only [] at x7 x8
 by_cases hle:d.sn+k≤32
 ·have d0:decide (((d.sn:Int)+(k:Int))≤32)=true:=by simp;omega
  have d0':decide (d.sn+k≤32)=true:=by simp;omega
  have Hr:Hid (pushA lo st l ee=.ok { st with stk:=st.stk++l,hgt:=max st.hgt (d.sn+k) } 1 ee):=by
   show _=_
   have h1:=Hsn.out
   have h2:=HL.out.1
   unfold pushA
   rw [if_neg (by rw [List.length_append];omega),List.length_append,h2,←h1]
  have HQ:=Lib.hid (HP.out.1.set 8 (.int .i64 (max (st.hgt:Int) ((d.sn:Int)+(k:Int)))) (d':={ d with sA:=A',sn:=d.sn+k,sc:=c' }) (st':={ st with stk:=st.stk++l,hgt:=max st.hgt (d.sn+k) }) (by simp only [rowK];rw [show ((max st.hgt (d.sn+k):Nat):Int)=max (st.hgt:Int) ((d.sn:Int)+(k:Int)) by omega];rfl) HP.out.1.locs HP.out.1.stk HP.out.1.lvs HP.out.1.lvl HP.out.1.lvi rfl rfl)
  have HK:=Lib.hid (KV.setG HP.out.1 8 (.int .i64 (max (st.hgt:Int) ((d.sn:Int)+(k:Int)))) (d':={ d with sA:=A',sn:=d.sn+k,sc:=c' }) rfl rfl)
  clear hle
  go_wp2_with fail
  refine (demandW_ok _ _ _).mono ?_
  rintro e w2 ⟨rfl,hw2⟩
  obtain rfl:=hw2.symm
  go_wp2_with fail
  go_region
  refine⟨rfl,_,results_none rfl _ _ _,?_⟩
  rw [Hr.out]
  exact⟨rfl,_,HQ.out.drewN 1,(HP.out.2.trans HK.out).drewN 1,rfl⟩
 ·have d0:decide (((d.sn:Int)+(k:Int))≤32)=false:=by simp;omega
  have d0':decide (d.sn+k≤32)=false:=by simp;omega
  have Hr:Hid (pushA lo st l ee=.bad lo 14):=by
   show _=_
   have h1:=Hsn.out
   have h2:=HL.out.1
   unfold pushA
   rw [if_pos (by rw [List.length_append];omega)]
  clear hle
  go_wp2_with fail
  refine (demandW_bad _ _ _).mono ?_
  rintro e w2 ⟨rfl,hw2⟩
  obtain rfl:=hw2.symm
  refine⟨rfl,?_⟩
  rw [Hr.out]
  exact⟨rfl,HP.out.2.kw.ki.below⟩
theorem levelW_ok(B g mb:Nat)(v:WV)(d:WD)(st:St)(w:World)(h:WK B g mb v w st d)(at_ hgt:Nat)(he:st.stk.length=hgt) :
  Calls Tryz.prog 78 #[.pointer (some ⟨g,0,none⟩),.int .i64 (at_:Int),.int .i64 (hgt:Int)] w fun e w'=>e=.returned (.tuple #[])∧w'=w:=by
 have hsn:=h.sn
 obtain⟨-,-,-,-,-,-,-,e7,-,-,-⟩:=h.cells
 rw [hsn,he] at e7
 have q:((hgt:Int)==(hgt:Int))=true:=by simp
 clear hsn he h
 go_enter Tryz.func78,Tryz.ntmps78
 go_wp2_with fail
 refine (demandW_ok _ _ _).mono ?_
 rintro e w2 ⟨rfl,hw2⟩
 obtain rfl:=hw2.symm
 go_wp2_with fail
 exact⟨rfl,_,results_none rfl _ _ _,rfl,rfl⟩
theorem levelW_bad(B g mb:Nat)(v:WV)(d:WD)(st:St)(w:World)(h:WK B g mb v w st d)(at_ hgt:Nat)(he:st.stk.length≠hgt) :
  Calls Tryz.prog 78 #[.pointer (some ⟨g,0,none⟩),.int .i64 (at_:Int),.int .i64 (hgt:Int)] w fun e w'=>e=.panicked [{ v:=failW at_ 14,recovered:=false }]∧w'=w:=by
 have hsn:=h.sn
 obtain⟨-,-,-,-,-,-,-,e7,-,-,-⟩:=h.cells
 rw [hsn] at e7
 obtain⟨n,hn⟩:∃ n,n=st.stk.length:=⟨_,rfl⟩
 rw [←hn] at e7 he
 have q:((n:Int)==(hgt:Int))=false:=by simp;omega
 have q':(n==hgt)=false:=by simp;omega
 clear hsn he h hn
 go_enter Tryz.func78,Tryz.ntmps78
 go_wp2_with fail
 refine (demandW_bad _ _ _).mono ?_
 rintro e w2 ⟨rfl,hw2⟩
 obtain rfl:=hw2.symm
 exact⟨rfl,rfl,rfl⟩
end Go.Proofs.YtpaplehcafeeaaaGreatDoor
namespace Go.Proofs.YtpaplehcafeeaaaGreatDoor
open Go.RowKit Go.Proofs
variable [Inhabited ArgB]
structure PK (wB:World) (v:WV) (p:Prg) (P:List Int):Prop where
 arrs:Arrs wB v.aA v.an v.ac p.arrs
 code:Codes wB v.cA v.cn v.cc p.code
 prt:Ints wB v.pA v.pn v.pc P
 ok:PrgOk p
theorem PK.cn{wB:World}{v:WV}{p:Prg}{P:List Int}(h:PK wB v p P):v.cn=p.code.length:=h.code.1.symm
theorem PK.ins{wB w:World}{v:WV}{p:Prg}{P:List Int}(h:PK wB v p P)(hb:Below wB.heap.size wB w){lo:Nat}(hlo:lo < p.code.length) :
  ∃ cb off,v.cA=some ⟨cb,off,none⟩∧cb < w.heap.size∧w.cell? ⟨cb,off+lo * 2,none⟩=some (.int .i64 (oI p.code lo))∧w.cell? ⟨cb,off+lo * 2+1,none⟩=some (.int .u32 (gI p.code lo).arg):=by
 have h1:=h.cn
 obtain⟨cb,off,h2,h3,h4⟩:=(h.code.below hb).get (k:=lo) (by omega)
 exact⟨cb,off,h2,h3,(h4 lo (by omega)).1,(h4 lo (by omega)).2⟩
theorem PK.array{wB w:World}{v:WV}{p:Prg}{P:List Int}(h:PK wB v p P)(hb:Below wB.heap.size wB w){a:Nat}(ha:a < p.arrs.length) :
  a < v.an∧∃ cb off,v.aA=some ⟨cb,off,none⟩∧cb < w.heap.size∧w.cell? ⟨cb,off+a * 2,none⟩=some (.bool (gA p.arrs a).word)∧w.cell? ⟨cb,off+a * 2+1,none⟩=some (.int .i64 (gA p.arrs a).size):=by
 have h1:=h.arrs.1
 obtain⟨cb,off,h2,h3,h4⟩:=(h.arrs.below hb).get (k:=a) (by omega)
 exact⟨by omega,cb,off,h2,h3,(h4 a (by omega)).1,(h4 a (by omega)).2⟩
theorem elem_boxes(w:World)(b:Bool)(x y:Int):∃ w2,w2=(w.alloc (.cells #[.bool b,.int .i64 x,.int .i64 y] 242)).alloc (.cells #[.int .i64 0,.int .i64 0] 148)∧Below w.heap.size w w2∧rowV w2 w.heap.size 242 #[.bool b,.int .i64 x,.int .i64 y]∧rowV w2 (w.heap.size+1) 148 #[.int .i64 0,.int .i64 0]∧w2.heap.size=w.heap.size+1+1:=by
 have r1:=rowV.new w 242 #[.bool b,.int .i64 x,.int .i64 y]
 have e1:(w.alloc (.cells #[.bool b,.int .i64 x,.int .i64 y] 242)).heap.size=w.heap.size+1:=by simp
 obtain⟨w1,hw1⟩:∃ w1,w1=w.alloc (.cells #[.bool b,.int .i64 x,.int .i64 y] 242):=⟨_,rfl⟩
 have k1:Below w.heap.size w w1:=by rw [hw1];exact balloc (Below.refl _ _) _
 rw [←hw1] at r1 e1 ⊢
 have r2:=rowV.new w1 148 #[.int .i64 0,.int .i64 0]
 rw [e1] at r2
 have k2:=balloc (Below.refl _ w1) (.cells #[.int .i64 0,.int .i64 0] 148)
 exact⟨_,rfl,k1.trans (k2.mono k1.size),r1.below k2 r1.lt,r2,by simp [e1]⟩
theorem elem_box3(w2:World)(wd:Bool)(sz:Int):∃ w3,w3=(w2.alloc (.cells #[.bool wd,.int .i64 sz] 65)).drew∧Below w2.heap.size w2 w3∧rowV w3 w2.heap.size 65 #[.bool wd,.int .i64 sz]:=
 ⟨_,rfl,bdrew (balloc (Below.refl _ _) _) 1,rowV.new w2 _ _⟩
def elemI(p:Prg)(lo:Nat):Iv:=if (gA p.arrs (gI p.code lo).arg.toNat).word then ivFull else ⟨0,255⟩
theorem elementW_any(wB:World)(g mb:Nat)(v:WV)(d:WD)(st:St)(w:World)(p:Prg)(P:List Int)(hk:PK wB v p P)(hb:Below wB.heap.size wB w)(h:WK wB.heap.size g mb v w st d)(lo:Nat)(hlo:lo < p.code.length)(ho:oI p.code lo=3∨oI p.code lo=4)(x:Vl) :
  Calls Tryz.prog 148 #[.pointer (some ⟨g,0,none⟩),.int .i64 (lo:Int),.agg #[.bool x.tr,.int .i64 x.iv.lo,.int .i64 x.iv.hi]] w fun e w'=>(if (gA p.arrs (gI p.code lo).arg.toNat).size≤x.iv.hi then e=.panicked [{ v:=failW lo 16,recovered:=false }] else e=.returned (.agg #[.int .i64 (elemI p lo).lo,.int .i64 (elemI p lo).hi]))∧Below w.heap.size w w':=by
 obtain⟨a,ha⟩:∃ a:Nat,(gI p.code lo).arg=(a:Int):=⟨(gI p.code lo).arg.toNat,by have:=(hk.ok.ins lo hlo).2.2.1;omega⟩
 have haL:a < p.arrs.length:=by have:=hk.ok.arr lo hlo ho;omega
 obtain⟨han,ab,aoff,haA,hab,hc1,hc2⟩:=hk.array hb haL
 obtain⟨cb,off,hcA,hcb,hx1,hx2⟩:=hk.ins hb hlo
 have hcn:=hk.cn
 have hcn2:=hk.ok.len
 obtain⟨e0,e1,e2,-,-,-,-,-,-,-,-⟩:=h.cells
 rw [ha] at hx2
 unfold elemI
 rw [ha,Int.toNat_natCast]
 obtain⟨⟨wd,sz⟩,harr⟩:∃ y,y=gA p.arrs a:=⟨_,rfl⟩
 rw [←harr] at hc1 hc2 ⊢
 simp only [] at hc1 hc2 ⊢
 obtain⟨tr,⟨xl,xh⟩⟩:=x
 simp only []
 have ha2:a < 4294967296:=by have:=(hk.ok.ins lo hlo).2.2.2;omega
 have hlo2:lo < v.cn:=by omega
 have hlo3:lo≤1024:=by omega
 rw [haA] at e0
 rw [hcA] at e2
 obtain⟨cn,hcn'⟩:∃ c,c=v.cn:=⟨_,rfl⟩
 rw [←hcn'] at e2 hlo2
 obtain⟨an,han'⟩:∃ c,c=v.an:=⟨_,rfl⟩
 rw [←han'] at e0 han
 have hgl:=h.row.lt
 clear ho hk h harr hcn ha haA hcA hx1 e1 hcn' han' hlo haL hcn2 hb
 obtain⟨w2,hw2,g2,r1,r2,s2⟩:=elem_boxes w tr xl xh
 have e0:=(g2.cell (p:=⟨g,0,none⟩) hgl).trans e0
 have e2:=(g2.cell (p:=⟨g,2,none⟩) hgl).trans e2
 have hc1:=(g2.cell (p:=⟨ab,aoff+a * 2,none⟩) hab).trans hc1
 have hc2:=(g2.cell (p:=⟨ab,aoff+a * 2+1,none⟩) hab).trans hc2
 have hx2:=(g2.cell (p:=⟨cb,off+lo * 2+1,none⟩) hcb).trans hx2
 have hgl2:g < w2.heap.size:=by omega
 have hab2:ab < w2.heap.size:=by omega
 have hcb2:cb < w2.heap.size:=by omega
 obtain⟨w3,hw3,g3,r3⟩:=elem_box3 w2 wd sz
 obtain⟨y1,y2,y3⟩:=three_cellsV (r1.below g3 r1.lt)
 obtain⟨z1,z2⟩:=two_cellsV r3
 have HR2:=Lib.hid (And.intro (r2.below g3 r2.lt) (g2.trans (g3.mono g2.size)))
 have Hs2:=Lib.hid s2
 clear r1 r2 r3 g3 hgl hab hcb g2 s2
 have Hw2:=Lib.hid hw2
 have Hw3:=Lib.hid hw3
 clear hw2 hw3
 by_cases hsz:sz≤xh
 ·have d0:decide (xh < sz)=false:=by simp;omega
  simp only [if_pos hsz]
  clear hsz
  go_enter Tryz.func148,Tryz.ntmps148
  go_wp2_with fail
  rw [←Hw2.out]
  go_region
  rw [←Hw3.out]
  clear e0 e2 hc1 hc2 hx2
  go_wp2_with fail
  refine (demandW_bad _ _ _).mono ?_
  rintro e w4 ⟨rfl,hw4⟩
  obtain rfl:=hw4.symm
  exact⟨rfl,rfl,HR2.out.2⟩
 ·have d0:decide (xh < sz)=true:=by simp;omega
  simp only [if_neg hsz]
  clear hsz
  cases wd with
  | true=>
   simp only [if_true]
   go_enter Tryz.func148,Tryz.ntmps148
   go_wp2_with fail
   rw [←Hw2.out]
   go_region
   rw [←Hw3.out]
   clear e0 e2 hc1 hc2 hx2
   go_wp2_with fail
   refine (demandW_ok _ _ _).mono ?_
   rintro e w4 ⟨rfl,hw4⟩
   obtain rfl:=hw4.symm
   have HF:=Lib.hid (full_any w3)
   go_wp2_with fail
   refine HF.out.mono ?_
   rintro e w5 ⟨rfl,hb5⟩
   have Hr5:=Lib.hid (HR2.out.1.below hb5 HR2.out.1.lt)
   have HB5:=Lib.hid (HR2.out.2.trans (hb5.mono HR2.out.2.size))
   clear hb5
   go_wp2_with (refine wpList_store_row rfl 148 (.tmp 6) (.tmp 34) rfl _ #[.int .i64 0,.int .i64 4294967295] rfl rfl _ _ Hr5.out (hI2 _ _) rfl (hA2 _ _) ?_)
   obtain⟨k1,k2⟩:=two_cellsV (setRow_heap w5 (w.heap.size+1) _ #[.int .i64 0,.int .i64 4294967295] _ _ Hr5.out)
   refine bodyPost_ret (v:=.agg #[.int .i64 0,.int .i64 4294967295]) (by simp [results,Tryz.results148,go_sem,k1,k2]) rfl ⟨rfl,belowRow HB5.out (by omega) _⟩
  | false=>
   simp only [Bool.false_eq_true,if_false]
   go_enter Tryz.func148,Tryz.ntmps148
   go_wp2_with fail
   rw [←Hw2.out]
   go_region
   rw [←Hw3.out]
   clear e0 e2 hc1 hc2 hx2
   go_wp2_with fail
   refine (demandW_ok _ _ _).mono ?_
   rintro e w4 ⟨rfl,hw4⟩
   obtain rfl:=hw4.symm
   go_wp2_with (refine wpList_store_row rfl 148 (.tmp 6) (.tmp 35) rfl _ #[.int .i64 0,.int .i64 255] rfl rfl _ _ HR2.out.1 (hI2 _ _) rfl (hA2 _ _) ?_)
   obtain⟨k1,k2⟩:=two_cellsV (setRow_heap w3 (w.heap.size+1) _ #[.int .i64 0,.int .i64 255] _ _ HR2.out.1)
   refine bodyPost_ret (v:=.agg #[.int .i64 0,.int .i64 255]) (by simp [results,Tryz.results148,go_sem,k1,k2]) rfl ⟨rfl,belowRow HR2.out.2 (by omega) _⟩
end Go.Proofs.YtpaplehcafeeaaaGreatDoor
namespace Go.Proofs.YtpaplehcafeeaaaGreatDoor
open Go.RowKit Go.Proofs
variable [Inhabited ArgB]
section
variable {B g mb : Nat} {v : WV} {w w' : World} {st : St} {d d' : WD}
theorem WK.ne_box(h:WK B g mb v w st d){r:Nat}{t:TypeId}{cs:Array Value}(hr:rowV w r t cs)(h1:t≠145)(h2:t≠242)(h3:t≠48):r≠g∧r≠mb∧d.own≠some r∧d.sown≠some r:=by
 refine⟨fun e=>?_,fun e=>?_,fun e=>?_,fun e=>?_⟩
 ·have h4:=h.row
  unfold rowV at h4 hr
  rw [e,h4] at hr
  injection hr with hr
  injection hr with _ hr
  exact h1 hr.symm
 ·obtain⟨f,m1,-⟩:=h.map
  obtain⟨o,h4,h5⟩:=m1.isMap
  unfold rowV at hr
  rw [e,h4] at hr
  injection hr with hr
  rw [hr] at h5
  cases h5
 ·exact h.lvs.ne_row hr (Ne.symm h3) r e rfl
 ·exact h.stk.ne_row hr (Ne.symm h2) r e rfl
theorem WK.boxG(h:WK B g mb v w st d){r:Nat}{t:TypeId}{cs:Array Value}(hr:rowV w r t cs)(h1:t≠145)(h2:t≠242)(h3:t≠48)(h4:t≠148)(hB:B≤r)(hg:w.grownBy w' (some r)):WK B g mb v w' st d:=by
 obtain⟨n1,n2,n3,n4⟩:=h.ne_box hr h1 h2 h3
 have hr0:w.heap[r]?=some (.cells cs t (0,0)):=hr
 have hk:KI B w w':=KI.of_grown hg (fun k hk=>by injection hk with hk;rw [←hk];exact hB) h.hB (fun k cs fr hk=>by injection hk with hk;rw [←hk];exact ne_of_cells hr0 h4)
 obtain⟨f,m1,m2⟩:=h.map
 exact⟨h.row.grown hg (fun e=>n1 (by injection e with e;exact e.symm)),h.hg,Nat.le_trans h.hB hg.size,h.locs.keep hk,h.stk.grown hg (fun b hb e=>n4 (by injection e with e;rw [←e];exact hb)),h.lvs.grown hg (fun b hb e=>n3 (by injection e with e;rw [←e];exact hb)),h.lvl,fun i hi=>(h.lvi i hi).keep hk,h.hm,f,m1.same (hg.block mb m1.lt (fun e=>n2 (by injection e with e;exact e.symm))),m2.keep hk⟩
theorem grownBy_setRow3(w:World)(g:Nat)(cs:Array Value):w.grownBy (w.setRow g cs) (some g):=⟨rfl,rfl,rfl,by rw [size_setRow];exact Nat.le_refl _,fun k hk hne=>setRow_other w g k cs (fun e=>hne (congrArg some e))⟩
theorem KV.boxG{W W':World}(h:KV B g mb d d' w W){r:Nat}(hr:w.heap.size≤r)(hB:B≤w.heap.size)(hg:W.grownBy W' (some r)):KV B g mb d d' w W':=by
 have hsz:=h.kw.ki.below.size
 have hk:∀ k,k < w.heap.size→W'.heap[k]?=W.heap[k]?:=fun k hk=>hg.block k (by omega) (fun e=>by injection e;omega)
 refine⟨⟨⟨h.kw.ki.below.grown hg (Nat.le_trans hB hsz) (fun k hk=>by injection hk with hk;omega),fun k cs fr hc=>(hk k (lt_of_heap hc)).trans (h.kw.ki.iv k cs fr hc)⟩,fun k cs fr hc hne=>(hk k (lt_of_heap hc)).trans (h.kw.lv k cs fr hc hne),h.kw.fr⟩,fun k h0 h1 h2 h3 h4=>(hk k h0).trans (h.keep k h0 h1 h2 h3 h4),h.fs⟩
end
def AnaR(B g mb:Nat)(v:WV)(d:WD)(w:World)(N:Nat)(r:ER)(e:Ending)(w':World):Prop:=match r with
 | .bad a x=>e=.panicked [{ v:=failW a x,recovered:=false }]∧Below B w w'
 | .ok st' s x=>e=.returned (.agg #[.int .i64 s,.int .i64 x])∧∃ d',WK B g mb v w' st' d'∧KV B g mb d d' w w'∧d'.mn≤d.mn+N
 | .stuck=>False
theorem hIbd(a b:Int):(Tryz.prog.info? 151).map (·.size)=some (#[Value.int .i64 a,.int .i64 b]:Array Value).size:=by kernel_rfl
theorem plain_boxes(w:World)(op arg:Int):∃ w1,w1=(w.alloc (.cells #[.int .i64 0,.int .i64 0] 151)).alloc (.cells #[.int .i64 op,.int .u32 arg] 44)∧Below w.heap.size w w1∧rowV w1 w.heap.size 151 #[.int .i64 0,.int .i64 0]∧rowV w1 (w.heap.size+1) 44 #[.int .i64 op,.int .u32 arg]∧w1.heap.size=w.heap.size+1+1:=by
 have r1:=rowV.new w 151 #[.int .i64 0,.int .i64 0]
 have r2:=rowV.new (w.alloc (.cells #[.int .i64 0,.int .i64 0] 151)) 44 #[.int .i64 op,.int .u32 arg]
 have k1:=balloc (Below.refl _ (w.alloc (.cells #[.int .i64 0,.int .i64 0] 151))) (.cells #[.int .i64 op,.int .u32 arg] 44)
 have e1:(w.alloc (.cells #[.int .i64 0,.int .i64 0] 151)).heap.size=w.heap.size+1:=by simp
 rw [e1] at r2
 exact⟨_,rfl,balloc (balloc (Below.refl _ _) _) _,r1.below k1 r1.lt,r2,by simp⟩
end Go.Proofs.YtpaplehcafeeaaaGreatDoor
