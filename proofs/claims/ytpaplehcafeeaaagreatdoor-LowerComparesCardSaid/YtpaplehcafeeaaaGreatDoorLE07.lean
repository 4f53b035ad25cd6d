/- If Ii Va Vb Vc. -/
import Derived.Test.YtpaplehcafeeaaaGreatDoorLE06
import Derived.Deep.RegionHeld3
import Derived.IntWalk
import Derived.Deep.DeepCutAuto
set_option maxRecDepth 100000
set_option maxHeartbeats 40000000
set_option linter.unusedVariables false
set_option linter.unusedSimpArgs false
namespace Go.Proofs.YtpaplehcafeeaaaGreatDoor
open Go.RowKit Go.Proofs
section
variable {α : Type} {enc : α → Value} {P : Program} {w : World} {B : Nat} {e t : TypeId} {A : Option Addr} {n c : Nat} {xs : List α} {zero : α} {bytes : Nat}
 {ops:Array Oper} {rest:List Oper} {o:Oper} {a:Act} {K:Act→World→Prop} {Q:Exit→Act→World→Prop} {E:Prop}
theorem wpList_pushg(hgd:o.guard=none)(s x:Operand)(ho:o.op=.call { callee:=.builtin .append,args:=#[s,x],argTypes:=#[t,t] })
  (ht:P.underlying t=some (.slice e)) (hi:(P.info? e).map (fun i=>(i.zero,i.size,i.bytes))=some (some (enc zero),1,bytes)) (h1:∀ x,(enc x).oneCell'=true) (hz:(enc zero).cells.size=1)
  (hs:a.eval s=.slice A n c) (hown:Own enc w B e A n c xs) (hB:B≤w.heap.size) (y:α) (v:Value) (hv:enc y=v)
  (hx:a.eval x=.slice (some ⟨w.heap.size,0,none⟩) 1 1) (hl:n+1≤maxLen) (hby:(n+1) * bytes≤140737488355328)
  (h:∀ A2 c2 w',Own enc w' B e A2 (n+1) c2 (xs++[y])→Below B w w'→w.grownBy w' (Value.slice A n c).ownBlock→wpList P ops Q rest (a.put o.dst (.slice A2 (n+1) c2)) w'):wpList P ops Q (o :: rest) a (w.alloc (.cells #[v] e)):=by
 subst hv
 refine wpList_plain hgd fun K hK=>?_
 obtain⟨A2,c2,w',hrun,h2,h3,h4⟩:=run_append_own_one (P:=P) o.type ht hi h1 hz hown hB y hl hby
 unfold Oper.wp execOp
 simp only [ho,resolve,invoke,builtin,Sem.run_bind,Sem.run_pure,Result.andThen_ok,List.map_toArray,List.map_cons,List.map_nil,hs,hx,hrun]
 exact hK _ _ (h A2 c2 w' h2 h3 (grownBy.trans' (World.grownBy_alloc w _ _) h4))
end
theorem own_block_lt{α:Type}{enc:α→Value}{w:World}{B:Nat}{e:TypeId}{A:Option Addr}{n c:Nat}{xs:List α}(h:Own enc w B e A n c xs):∀ g,(Value.slice A n c).ownBlock=some g→g < w.heap.size:=fun g hg=>by
 rcases h.2 with ⟨h1,_⟩ | ⟨g',cap,cur,h1,_,h3,_⟩
 ·rw [h1] at hg;cases hg
 ·rw [h1] at hg
  injection hg with hg
  have hg':g'=g:=hg
  subst hg'
  exact (Array.getElem?_eq_some_iff.1 h3).1
theorem flag_any(b:Bool)(w:World):Calls Tryz.prog 104 #[.bool b] w fun e w'=>e=.returned (.int .u32 (if b=true then 1 else 0))∧w'=w:=by
 cases b with
 | true=>
  go_enter Tryz.func104,Tryz.ntmps104
  go_wp2_with fail
  go_ret
  exact⟨rfl,rfl⟩
 | false=>
  go_enter Tryz.func104,Tryz.ntmps104
  go_wp2_with fail
  go_ret
  exact⟨rfl,rfl⟩
theorem putG_le{n:Nat}(hn:n≤9007199254740991):(putG n).length≤8:=by rw [putG_length];have:=furL_le hn;omega
theorem rowV.grown{w w':World}{g:Nat}{t:TypeId}{cs:Array Value}{row:Option Nat}(h:rowV w g t cs)(hg:w.grownBy w' row)(hne:some g≠row):rowV w' g t cs:=(hg.block g h.lt hne).trans h
theorem two_cellsV{w:World}{g:Nat}{t:TypeId}{a b:Value}(h:rowV w g t #[a,b]):w.cell? ⟨g,0,none⟩=some a∧w.cell? ⟨g,1,none⟩=some b:=by
 unfold rowV at h
 refine⟨?_,?_⟩ <;> simp [World.cell?,h]
def RetFew(B:Nat)(w:World)(k:Nat)(e:Ending)(w':World):Prop:=∃ A n c xs,e=.returned (.slice A n c)∧n≤k∧Own encB w' B 5 A n c xs∧Below w.heap.size w w'
theorem putFew(B:Nat)(A:Option Addr)(m c:Nat)(xs:List UInt8)(n:Nat)(w:World)(hx:Bytes w A m c xs)(hm:m≤900000)(hn:n≤9007199254740991)(hB:B≤w.heap.size) :
  Calls Tryz.prog 103 #[.slice A m c,.int .i64 (n:Int)] w (RetFew B w (m+8)):=by
 refine (putInt_any A m c xs n w hx hm hn).mono ?_
 rintro e w1 ⟨A1,n1,c1,rfl,ho,hb⟩
 have h1:=ho.length
 have h2:=putG_le hn
 have h3:=hx.1
 rw [List.length_append] at h1
 exact⟨A1,n1,c1,_,rfl,by omega,ho.mono hB,hb⟩
theorem arrGo_ok:∀ (l:List Arr) (left:Int),left≤65536→arrGo left l=0→∀ x∈l,1≤x.size∧x.size≤65536
 | [],_,_,_,x,hx=>by simp at hx
 | y :: l,left,hl,h,x,hx=>by
  rw [arrGo] at h
  by_cases h1:y.size < 1∨left < y.size
  ·rw [if_pos h1] at h;cases h
  ·rw [if_neg h1] at h
   rcases List.mem_cons.1 hx with rfl | hx
   ·omega
   ·exact arrGo_ok l (left-y.size) (by omega) h x hx
theorem formE_ok{p:Prg}(h:formE p=0):p.arrs.length≤8∧(∀ x∈p.arrs,1≤x.size∧x.size≤65536)∧0≤p.locs∧p.locs≤16∧p.code.length≤1024∧codeE p.code=0:=by
 unfold formE at h
 by_cases h1:arrE p.arrs≠0
 ·rw [if_pos h1] at h;exact absurd h h1
 rw [if_neg h1] at h
 by_cases h2:p.locs < 0∨16 < p.locs
 ·rw [if_pos h2] at h;cases h
 rw [if_neg h2] at h
 by_cases h3:1024 < p.code.length
 ·rw [if_pos h3] at h;cases h
 rw [if_neg h3] at h
 have h4:arrE p.arrs=0:=by omega
 unfold arrE at h4
 by_cases h5:8 < p.arrs.length
 ·rw [if_pos h5] at h4;cases h4
 rw [if_neg h5] at h4
 exact⟨by omega,arrGo_ok _ _ (by omega) h4,by omega,by omega,by omega,h⟩
theorem codeE_ok:∀ {l:List Ins},codeE l=0→∀ x∈l,chkE x=0
 | [],_,x,hx=>by simp at hx
 | i :: l,h,x,hx=>by
  rw [codeE_step] at h
  by_cases h1:chkE i≠0
  ·rw [if_pos h1] at h;exact absurd h h1
  ·rw [if_neg h1] at h
   rcases List.mem_cons.1 hx with rfl | hx
   ·omega
   ·exact codeE_ok h x hx
theorem chkE_ok{i:Ins}(h:chkE i=0):0≤i.op∧i.op < 36∧i.arg < (opO i.op.toNat).limit:=by
 unfold chkE at h
 by_cases h1:okX i.op=false
 ·rw [if_pos h1] at h;cases h
 rw [if_neg h1] at h
 have h2:0≤i.op∧i.op < 36:=by
  cases h3:okX i.op with
  | false=>exact absurd h3 h1
  | true=>unfold okX at h3;simpa using h3
 by_cases h3:((opX i.op).limit:Int)≤i.arg
 ·rw [if_pos h3] at h;cases h
 ·have:opX i.op=opO i.op.toNat:=by unfold opX;rw [if_pos h2]
  rw [this] at h3
  exact⟨h2.1,h2.2,by omega⟩
def RetEnc(w:World)(x:Int)(e:Ending)(w':World):Prop:=∃ A n c,e=.returned (.tuple #[.slice A n c,.int .i64 x])∧Below w.heap.size w w'
theorem encode_any(A A':Option Addr)(n c n' c':Nat)(L:Int)(p:Prg)(w:World)(hx:Progs w A n c L A' n' c' p) :
  Calls Tryz.prog 71 #[.agg #[.slice A n c,.int .i64 L,.slice A' n' c']] w (RetEnc w (formE p)):=by
 have hL:=bounds_i64 hx.wf
 have HnA:=Lib.hid hx.arrs.1
 have HnC:=Lib.hid hx.code.1
 have HL:=Lib.hid hx.locs
 have g0:Below w.heap.size w (w.alloc (.cells #[.slice A n c,.int .i64 L,.slice A' n' c'] 25)):=balloc (Below.refl _ _) _
 have r0:=rowV.new w 25 #[.slice A n c,.int .i64 L,.slice A' n' c']
 have hx0:=hx.below g0
 obtain⟨w0,hw0⟩:∃ w0,w0=w.alloc (.cells #[.slice A n c,.int .i64 L,.slice A' n' c'] 25):=⟨_,rfl⟩
 rw [←hw0] at g0 r0 hx0
 have H1:=Lib.hid (form_any A A' n c n' c' L p w0 hx0)
 have HF:Hid (formE p=0→p.arrs.length≤8∧(∀ x∈p.arrs,1≤x.size∧x.size≤65536)∧0≤p.locs∧p.locs≤16∧p.code.length≤1024∧codeE p.code=0):=formE_ok
 obtain⟨fe,hfe⟩:∃ fe,fe=formE p:=⟨_,rfl⟩
 rw [←hfe] at H1 HF ⊢
 clear hfe
 go_enter Tryz.func71,Tryz.ntmps71
 go_wp2_with fail
 rw [←hw0]
 clear hw0
 refine H1.out.mono ?_
 rintro e w1 ⟨rfl,hb1⟩
 have b1:=g0.trans (hb1.mono g0.size)
 have r1:=r0.below hb1 r0.lt
 have hx1:=hx0.below hb1
 clear H1 hx0 r0 g0 hb1
 by_cases h1:fe=0
 ·have d1:(fe != 0)=false:=by simp [h1]
  obtain⟨f1,f2,f3,f4,f5,f6⟩:=HF.out h1
  rw [HnA.out] at f1
  rw [←HL.out] at f3 f4
  rw [HnC.out] at f5
  have F2:=Lib.hid f2
  have F6:=Lib.hid f6
  have Hfe:=Lib.hid h1
  clear HF f2 f6 h1
  obtain⟨c0,c1,c2⟩:=three_cells r1
  have H2:=Lib.hid (putFew w1.heap.size none 0 0 [] n w1 (Bytes.nil _ _) (by omega) (by omega) (Nat.le_refl _))
  go_wp2_with fail
  refine H2.out.mono ?_
  rintro e w2 ⟨A2,n2,c2',xs2,rfl,hn2,ho2,hb2⟩
  clear H2
  have k1:=(hb2.cell (p:=⟨w.heap.size,0,none⟩) r1.lt).trans c0
  have hb0:=hb2
  go_wp2_with fail
  go_loopw [5,24] (fun d i wr=>∃ (k n3 c3:Nat) (A3:Option Addr) (ys:List UInt8),k≤n∧i=.int .i64 (k:Int)∧d=.slice A3 n3 c3∧n3≤8+8 * k∧Own encB wr w1.heap.size 5 A3 n3 c3 ys∧Below w1.heap.size w1 wr) (fun _ i _=>n-(intOf i).toNat)
  case atStart=>exact⟨0,_,_,_,_,Nat.zero_le _,rfl,rfl,by omega,ho2,hb0⟩
  case round=>
   clear ho2 hb0 hb2 k1
   obtain⟨k,n3,c3,A3,ys,hk,rfl,rfl,hn3,ho3,hb3⟩:=hrel
   by_cases hlt:k < n
   ·have e1:decide ((k:Int) < (n:Int))=true:=by simp;omega
    have e1':decide (k < n)=true:=by simp;omega
    obtain⟨b,off,rfl,hbl,hcell⟩:=(hx1.arrs.below hb3).get hlt
    obtain⟨q1,q2⟩:=hcell k hlt
    have hsz:=F2.out (gA p.arrs k) (gA_mem (by rw [HnA.out];exact hlt))
    clear hcell
    obtain⟨x,hxe⟩:∃ x,x=gA p.arrs k:=⟨_,rfl⟩
    rw [←hxe] at q1 q2 hsz
    clear hxe
    obtain⟨wd,sz⟩:=x
    dsimp only at q1 q2 hsz
    have b4:=balloc (hb3.mono (Nat.le_refl _)) (.cells #[.bool wd,.int .i64 sz] 65)
    have ho4:=ho3.below ((Below.refl wr.heap.size wr).alloc (Nat.le_refl _) (.cells #[.bool wd,.int .i64 sz] 65))
    have a1:(wr.alloc (.cells #[.bool wd,.int .i64 sz] 65)).cell? ⟨wr.heap.size,0,none⟩=some (.bool wd):=by simp
    have a2:(wr.alloc (.cells #[.bool wd,.int .i64 sz] 65)).cell? ⟨wr.heap.size,1,none⟩=some (.int .i64 sz):=by simp
    have hfl:=flag_any wd
    obtain⟨f,hf⟩:∃ f:Int,f=if wd=true then 1 else 0:=⟨_,rfl⟩
    have hf0:0≤f∧f≤1:=by rw [hf];split <;> omega
    rw [←hf] at hfl
    clear hf
    obtain⟨v,hv⟩:∃ v:Nat,2 * sz+f=(v:Int):=⟨(2 * sz+f).toNat,by omega⟩
    have hvb:v≤200000:=by omega
    obtain⟨w5,hw5⟩:∃ w5,w5=wr.alloc (.cells #[.bool wd,.int .i64 sz] 65):=⟨_,rfl⟩
    rw [←hw5] at b4 ho4 a1 a2
    have H3:=Lib.hid (fun q=>putFew w1.heap.size A3 n3 c3 ys v (w5.drewN q) (ho4.bytesB.drewN q) (by omega) (by omega) b4.size)
    have HFL:=Lib.hid hfl;clear hfl
    have i1:IntKind.i64.wrap (2 * sz)=2 * sz:=IntWalk.i64_in _ (by omega)
    have i2:IntKind.i64.wrap f=f:=IntWalk.i64_in _ (by omega)
    have i3:IntKind.i64.wrap (2 * sz+f)=(v:Int):=by rw [hv];exact IntWalk.i64_in _ (by omega)
    go_wp2_with fail
    rw [←hw5]
    clear hw5
    refine wp_region_quiet_tail 9 (by kernel_rfl) (by kernel_rfl) ?_
    simp only [List.take_succ_cons,List.take_zero,List.drop_succ_cons,List.drop_zero]
    repeat (go_big_quiet_step (first | (go_at_call 104;exact Calls.quiet_of_same (HFL.out _))))
    refine wpQuiet_nil ?_
    intro _ hw'
    obtain⟨nq,hw''⟩:=hw'
    subst hw''
    clear i1 i2 i3
    go_wp2_with fail
    refine (H3.out nq).mono ?_
    rintro e w6 ⟨A6,n6,c6,xs6,rfl,hn6,ho6,hb6⟩
    clear H3 HFL
    have b6:=(bdrew b4 nq).trans (hb6.mono (bdrew b4 nq).size)
    go_wp2_with fail
    go_roundw
    case rel=>exact⟨k+1,n6,c6,A6,xs6,by omega,by go_num,rfl,by omega,ho6,b6⟩
    case measure=>simp [intOf];omega
   ·have e1:decide ((k:Int) < (n:Int))=false:=by simp;omega
    have e1':decide (k < n)=false:=by simp;omega
    have r3:=r1.below hb3 r1.lt
    have hx3:=hx1.below hb3
    obtain⟨j0,j1,j2⟩:=three_cells r3
    obtain⟨l,rfl⟩:∃ l:Nat,L=(l:Int):=⟨L.toNat,by omega⟩
    have hr3:=r3.lt
    have hb31:=hb3.size
    have H4:Hid (Calls Tryz.prog 103 #[.slice A3 n3 c3,.int .i64 (l:Int)] wr.drew (RetFew w1.heap.size wr.drew (n3+8))):=putFew w1.heap.size A3 n3 c3 ys l wr.drew (ho3.bytesB.drewN 1) (by omega) (by omega) hb31
    have hm3:n3≤1000:=by omega
    go_wp2_with fail
    go_region_held3 (fun W=>W.cell? ⟨w.heap.size,1,none⟩=some (.int .i64 (l:Int))∧W.cell? ⟨w.heap.size,2,none⟩=some (.slice A' n' c'))
     (first
      | go_keep
      | exact⟨(hb6.cell (p:=⟨w.heap.size,1,none⟩) hr3).trans j1,(hb6.cell (p:=⟨w.heap.size,2,none⟩) hr3).trans j2⟩
      | exact⟨(hb7.cell (p:=⟨w.heap.size,1,none⟩) hr6).trans m1,(hb7.cell (p:=⟨w.heap.size,2,none⟩) hr6).trans m2⟩)
     (first
      | (go_at_call_of 103 (Value.int .i64 (l:Int));refine H4.out.mono ?_;rintro e w6 ⟨A6,n6,c6,xs6,rfl,hn6,ho6,hb6⟩;have hr6:w.heap.size < w6.heap.size:=Nat.lt_of_lt_of_le hr3 hb6.size;have m1:=(hb6.cell (p:=⟨w.heap.size,1,none⟩) hr3).trans j1;have m2:=(hb6.cell (p:=⟨w.heap.size,2,none⟩) hr3).trans j2)
      | (go_at_call_of 103 (Value.int .i64 (n':Int));refine (putFew w1.heap.size A6 n6 c6 xs6 n' w6 ho6.bytesB (by omega) (by omega) (Nat.le_trans hb31 hb6.size)).mono ?_;rintro e w7 ⟨A7,n7,c7,xs7,rfl,hn7,ho7,hb7⟩))
    have b7:Below w1.heap.size w1 w7:=hb3.trans (((Drawn.drewN wr 1).below _).trans ((hb6.trans (hb7.mono hb6.size)).mono hb31))
    have r7:=r1.below b7 r1.lt
    have hx7:=hx1.below b7
    obtain⟨s0,s1,s2⟩:=three_cells r7
    have hn7':n7≤1100:=by omega
    clear ho6 hb6 m1 m2 H4 r3 hx3 j0 j1 j2 hr3 hr6 hn6 ho3 hn3 e1 e1' hb31 hm3
    go_wp2_with fail
    go_loopw [5,50] (fun d i wr=>∃ (k n3 c3:Nat) (A3:Option Addr) (ys:List UInt8),k≤n'∧i=.int .i64 (k:Int)∧d=.slice A3 n3 c3∧n3≤1100+9 * k∧Own encB wr w1.heap.size 5 A3 n3 c3 ys∧Below w1.heap.size w1 wr) (fun _ i _=>n'-(intOf i).toNat)
    case atStart=>exact⟨0,_,_,_,_,Nat.zero_le _,rfl,rfl,by omega,ho7,b7⟩
    case round=>
     clear ho7 b7 hb7 hb3 hn7 hn7' r7 hx7 s0 s1 s2
     obtain⟨k,n3,c3,A3,ys,hk,rfl,rfl,hn3,ho3,hb3⟩:=hrel
     by_cases hlt:k < n'
     ·have e1:decide ((k:Int) < (n':Int))=true:=by simp;omega
      have e1':decide (k < n')=true:=by simp;omega
      obtain⟨b,off,rfl,hbl,hcell⟩:=(hx1.code.below hb3).get hlt
      obtain⟨q1,q2⟩:=hcell k hlt
      obtain⟨a0,a1,-⟩:=hx1.code.arg hlt
      obtain⟨o0,o1,-⟩:=chkE_ok (codeE_ok F6.out (gI p.code k) (gI_mem (by rw [HnC.out];exact hlt)))
      clear hcell
      obtain⟨x,hxe⟩:∃ x,x=gI p.code k:=⟨_,rfl⟩
      rw [←hxe] at q1 q2 a0 a1 o0 o1
      clear hxe
      obtain⟨op,arg⟩:=x
      dsimp only at q1 q2 a0 a1 o0 o1
      obtain⟨o,rfl⟩:∃ o:Nat,op=(o:Int):=⟨op.toNat,by omega⟩
      obtain⟨g,rfl⟩:∃ g:Nat,arg=(g:Int):=⟨arg.toNat,by omega⟩
      have b4:=balloc (hb3.mono (Nat.le_refl _)) (.cells #[.int .i64 (o:Int),.int .u32 (g:Int)] 44)
      have ho4:=ho3.below ((Below.refl wr.heap.size wr).alloc (Nat.le_refl _) (.cells #[.int .i64 (o:Int),.int .u32 (g:Int)] 44))
      have r4:=rowV.new wr 44 #[.int .i64 (o:Int),.int .u32 (g:Int)]
      have hne:some wr.heap.size≠(Value.slice A3 n3 c3).ownBlock:=fun h=>by have:=own_block_lt ho3 _ h.symm;omega
      obtain⟨w5,hw5⟩:∃ w5,w5=wr.alloc (.cells #[.int .i64 (o:Int),.int .u32 (g:Int)] 44):=⟨_,rfl⟩
      rw [←hw5] at b4 ho4 r4
      have Hw5:=Lib.hid hw5
      clear hw5
      go_upto_region 14 with (fail)
      rw [←Hw5.out]
      clear Hw5
      obtain⟨t0,t1⟩:=two_cellsV r4
      have hv:Hid (encB (UInt8.ofNat o)=.int .u8 (o:Int)):=encB_ofNat (by omega)
      have m1:Hid (n3+1≤maxLen∧(n3+1) * 1≤140737488355328):=⟨by simp [maxLen];omega,by omega⟩
      have hB4:=Lib.hid b4.size
      have Hne:=Lib.hid hne
      have HR4:=Lib.hid r4
      clear hne r4
      go_wp2_with (at_builtin;refine wpList_pushg (enc:=encB) rfl (.tmp 54) (.tmp 58) rfl uB infoB encB_one rfl rfl ho4 hB4.out (UInt8.ofNat o) _ hv.out rfl m1.out.1 m1.out.2 ?_;intro A6 c6 W6 ho6 hb6 hg6;have r6:=HR4.out.grown hg6 Hne.out;obtain⟨s0,s1⟩:=two_cellsV r6)
      have b6:=b4.trans hb6
      clear hg6 Hne HR4 t0 t1 hb6 b4 ho4 m1 hv hB4
      have H7:=Lib.hid (known_any (o:Int) W6)
      obtain⟨x,hx'⟩:∃ x,x=opX (o:Int):=⟨_,rfl⟩
      rw [←hx'] at H7
      unfold aggO at H7
      clear hx'
      refine H7.out.mono ?_
      rintro e w7 ⟨rfl,hb7⟩
      clear H7
      have b7:=b6.trans (hb7.mono b6.size)
      have r7:=r6.below hb7 r6.lt
      have ho7:=ho6.below hb7
      obtain⟨t0,t1⟩:=two_cellsV r7
      obtain⟨xn,xp,xq,xl,xa⟩:=x
      have t1':∀ o:Obj,(w7.alloc o).cell? ⟨wr.heap.size,1,none⟩=some (.int .u32 (g:Int)):=fun o=>(((Below.refl w7.heap.size w7).alloc (Nat.le_refl _) o).cell (p:=⟨wr.heap.size,1,none⟩) r7.lt).trans t1
      clear r6 s0 s1
      cases xa with
      | false=>
       go_wp2_with fail
       go_roundw
       case rel=>exact⟨k+1,_,_,_,_,by omega,by go_num,rfl,by omega,ho7.below ((Below.refl w7.heap.size w7).alloc (Nat.le_refl _) _),balloc b7 _⟩
       case measure=>simp [intOf];omega
      | true=>
       have b8:=balloc b7 (.cells #[.string (strB xn),.string (strB xp),.string (strB xq),.int .u64 (xl:Int),.bool true] 118)
       have ho8:=ho7.below ((Below.refl w7.heap.size w7).alloc (Nat.le_refl _) (.cells #[.string (strB xn),.string (strB xp),.string (strB xq),.int .u64 (xl:Int),.bool true] 118))
       have H8:=Lib.hid (putFew w1.heap.size A6 (n3+1) c6 _ g _ ho8.bytesB (by omega) (by omega) b8.size)
       go_wp2_with fail
       refine H8.out.mono ?_
       rintro e w9 ⟨A9,n9,c9,xs9,rfl,hn9,ho9,hb9⟩
       clear H8
       have b9:=b8.trans (hb9.mono b8.size)
       go_wp2_with fail
       go_roundw
       case rel=>exact⟨k+1,n9,c9,A9,xs9,by omega,by go_num,rfl,by omega,ho9,b9⟩
       case measure=>simp [intOf];omega
     ·have e1:decide ((k:Int) < (n':Int))=false:=by simp;omega
      have e1':decide (k < n')=false:=by simp;omega
      go_wp2_with fail
      go_ret2
      rw [Hfe.out]
      exact⟨_,_,_,rfl,b1.trans (hb3.mono b1.size)⟩
 ·have d1:(fe != 0)=true:=by simp [h1]
  go_wp2_with fail
  go_ret2
  exact⟨none,0,0,rfl,b1⟩
end Go.Proofs.YtpaplehcafeeaaaGreatDoor
namespace Go.Proofs.YtpaplehcafeeaaaGreatDoor
open Go.RowKit Go.Proofs
theorem lim_tab:∀ k:Fin 36,(opO k.val).limit=if k.val=0 then 4294967296 else if k.val=1∨k.val=2∨k.val=35 then 16 else if k.val=3∨k.val=4 then 8 else 1:=by decide +kernel
theorem chk_in{k:Nat}(hk:k < 36)(arg:Int):chkE ⟨(k:Int),arg⟩=if ((opO k).limit:Int)≤arg then 2 else 0:=by
 have h1:okX (k:Int)=true:=by unfold okX;exact decide_eq_true (by omega)
 have h2:opX (k:Int)=opO k:=by unfold opX;rw [if_pos (by omega)];rfl
 show (if okX (k:Int)=false then 1 else if ((opX (k:Int)).limit:Int)≤arg then 2 else 0)=_
 rw [h1,h2,if_neg (by simp)]
end Go.Proofs.YtpaplehcafeeaaaGreatDoor
namespace Go.Proofs.YtpaplehcafeeaaaGreatDoor
open Go.RowKit Go.Proofs
def sumA:List Arr→Int
 | []=>0
 | x :: l=>x.size+sumA l
theorem arrGo_sum:∀ (l:List Arr) (left:Int),0≤left→(∀ x∈l,1≤x.size)→arrGo left l=if left < sumA l then 2 else 0
 | [],left,hl,_=>by rw [arrGo,sumA,if_neg (by omega)]
 | y :: l,left,hl,h=>by
  have hy:=h y (by simp)
  have hs:0≤sumA l:=by
   have:∀ m:List Arr,(∀ x∈m,1≤x.size)→0≤sumA m:=fun m=>by
    induction m with
    | nil=>intro _;exact Int.le_refl _
    | cons z m ih=>intro hm;have:=hm z (by simp);have:=ih (fun x hx=>hm x (by simp [hx]));rw [sumA];omega
   exact this l (fun x hx=>h x (by simp [hx]))
  rw [arrGo,sumA]
  by_cases h1:y.size < 1∨left < y.size
  ·rw [if_pos h1,if_pos (by omega)]
  ·rw [if_neg h1,arrGo_sum l _ (by omega) (fun x hx=>h x (by simp [hx]))]
   by_cases h2:left-y.size < sumA l
   ·rw [if_pos h2,if_pos (by omega)]
   ·rw [if_neg h2,if_neg (by omega)]
theorem sumA_take{l:List Arr}{k:Nat}(hk:k < l.length):sumA (l.take (k+1))=sumA (l.take k)+(gA l k).size:=by
 have:∀ (m:List Arr) (x:Arr),sumA (m++[x])=sumA m+x.size:=fun m x=>by
  induction m with
  | nil=>show x.size+0=0+x.size;omega
  | cons z m ih=>rw [List.cons_append,sumA,sumA,ih];omega
 rw [List.take_succ_eq_append_getElem hk,this,gA_get hk]
end Go.Proofs.YtpaplehcafeeaaaGreatDoor
namespace Go.Proofs.YtpaplehcafeeaaaGreatDoor
open Go.RowKit Go.Proofs
end Go.Proofs.YtpaplehcafeeaaaGreatDoor
namespace Go.Proofs.YtpaplehcafeeaaaGreatDoor
open Go.RowKit Go.Proofs
inductive Tr where
 | nil
 | ins (r:Tr)
 | ift (a r:Tr)
 | ife (a b r:Tr)
 | lp (a r:Tr)
def Tr.size:Tr→Nat
 | .nil=>0
 | .ins r=>r.size+1
 | .ift a r=>a.size+r.size+2
 | .ife a b r=>a.size+b.size+r.size+3
 | .lp a r=>a.size+r.size+2
def Tr.app:Tr→Tr→Tr
 | .nil,t=>t
 | .ins r,t=>.ins (r.app t)
 | .ift a r,t=>.ift a (r.app t)
 | .ife a b r,t=>.ife a b (r.app t)
 | .lp a r,t=>.lp a (r.app t)
def Tr.dep:Tr→Nat
 | .nil=>0
 | .ins r=>r.dep
 | .ift a r=>max (a.dep+1) r.dep
 | .ife a b r=>max (max a.dep b.dep+1) r.dep
 | .lp a r=>max (a.dep+1) r.dep
def oI(c:List Ins)(k:Nat):Int:=(gI c k).op
def Fit(c:List Ins):Bool→Nat→Tr→Prop
 | _,_,.nil=>True
 | b,lo,.ins r=>oI c lo≠27∧oI c lo≠28∧oI c lo≠29∧oI c lo≠31∧(oI c lo=30→b=true)∧Fit c b (lo+1) r
 | b,lo,.ift a r=>oI c lo=27∧Fit c b (lo+1) a∧oI c (lo+1+a.size)=31∧Fit c b (lo+2+a.size) r
 | b,lo,.ife a d r=>oI c lo=27∧Fit c b (lo+1) a∧oI c (lo+1+a.size)=28∧Fit c b (lo+2+a.size) d∧oI c (lo+2+a.size+d.size)=31∧Fit c b (lo+3+a.size+d.size) r
 | b,lo,.lp a r=>oI c lo=29∧Fit c true (lo+1) a∧oI c (lo+1+a.size)=31∧Fit c b (lo+2+a.size) r
def PartOk(P:List Int):Nat→Tr→Prop
 | _,.nil=>True
 | lo,.ins r=>PartOk P (lo+1) r
 | lo,.ift a r=>gi P lo=(lo+1+a.size:Nat)∧PartOk P (lo+1) a∧PartOk P (lo+2+a.size) r
 | lo,.ife a d r=>gi P lo=(lo+1+a.size:Nat)∧gi P (lo+1+a.size)=(lo+2+a.size+d.size:Nat)∧PartOk P (lo+1) a∧PartOk P (lo+2+a.size) d∧PartOk P (lo+3+a.size+d.size) r
 | lo,.lp a r=>gi P lo=(lo+1+a.size:Nat)∧PartOk P (lo+1) a∧PartOk P (lo+2+a.size) r
theorem Tr.size_app:∀ (s t:Tr),(s.app t).size=s.size+t.size:=by
 intro s
 induction s <;> intro t <;> simp [Tr.app,Tr.size, *] <;> omega
theorem Tr.app_nil:∀ (s:Tr),s.app .nil=s:=by
 intro s
 induction s <;> simp [Tr.app, *]
theorem Tr.app_assoc:∀ (s t u:Tr),(s.app t).app u=s.app (t.app u):=by
 intro s
 induction s <;> intro t u <;> simp [Tr.app, *]
theorem Fit.app{c:List Ins}{b:Bool}:∀ {s t:Tr} {lo:Nat},Fit c b lo (s.app t)↔Fit c b lo s∧Fit c b (lo+s.size) t:=by
 intro s
 induction s with
 | nil=>intro t lo;simp [Tr.app,Fit,Tr.size]
 | ins r ih=>intro t lo;simp only [Tr.app,Fit,Tr.size,ih,show lo+1+r.size=lo+(r.size+1) by omega,and_assoc]
 | ift a r _ ih=>intro t lo;simp only [Tr.app,Fit,Tr.size,ih,show lo+2+a.size+r.size=lo+(a.size+r.size+2) by omega,and_assoc]
 | ife a d r _ _ ih=>intro t lo;simp only [Tr.app,Fit,Tr.size,ih,show lo+3+a.size+d.size+r.size=lo+(a.size+d.size+r.size+3) by omega,and_assoc]
 | lp a r _ ih=>intro t lo;simp only [Tr.app,Fit,Tr.size,ih,show lo+2+a.size+r.size=lo+(a.size+r.size+2) by omega,and_assoc]
theorem PartOk.app{P:List Int}:∀ {s t:Tr} {lo:Nat},PartOk P lo (s.app t)↔PartOk P lo s∧PartOk P (lo+s.size) t:=by
 intro s
 induction s with
 | nil=>intro t lo;simp [Tr.app,PartOk,Tr.size]
 | ins r ih=>intro t lo;simp only [Tr.app,PartOk,Tr.size,ih,show lo+1+r.size=lo+(r.size+1) by omega]
 | ift a r _ ih=>intro t lo;simp only [Tr.app,PartOk,Tr.size,ih,show lo+2+a.size+r.size=lo+(a.size+r.size+2) by omega,and_assoc]
 | ife a d r _ _ ih=>intro t lo;simp only [Tr.app,PartOk,Tr.size,ih,show lo+3+a.size+d.size+r.size=lo+(a.size+d.size+r.size+3) by omega,and_assoc]
 | lp a r _ ih=>intro t lo;simp only [Tr.app,PartOk,Tr.size,ih,show lo+2+a.size+r.size=lo+(a.size+r.size+2) by omega,and_assoc]
theorem PartOk.same{c:List Ins}{P Q:List Int}:∀ {t:Tr} {lo:Nat} {b:Bool},PartOk P lo t→Fit c b lo t→(∀ k,lo≤k→k < lo+t.size→oI c k≠30→oI c k≠31→gi Q k=gi P k)→PartOk Q lo t:=by
 intro t
 induction t with
 | nil=>intro lo b _ _ _;trivial
 | ins r ih=>intro lo b h f e;exact ih h f.2.2.2.2.2 (fun k h1 h2=>e k (by omega) (by simp only [Tr.size];omega))
 | ift a r iha ih=>
  intro lo b h f e
  refine⟨by rw [e lo (Nat.le_refl _) (by simp only [Tr.size];omega) (by rw [f.1];decide) (by rw [f.1];decide)];exact h.1,iha h.2.1 f.2.1 (fun k h1 h2=>e k (by omega) (by simp only [Tr.size];omega)),ih h.2.2 f.2.2.2 (fun k h1 h2=>e k (by omega) (by simp only [Tr.size];omega))⟩
 | ife a d r iha ihd ih=>
  intro lo b h f e
  refine⟨by rw [e lo (Nat.le_refl _) (by simp only [Tr.size];omega) (by rw [f.1];decide) (by rw [f.1];decide)];exact h.1,?_,iha h.2.2.1 f.2.1 (fun k h1 h2=>e k (by omega) (by simp only [Tr.size];omega)),ihd h.2.2.2.1 f.2.2.2.1 (fun k h1 h2=>e k (by omega) (by simp only [Tr.size];omega)),ih h.2.2.2.2 f.2.2.2.2.2 (fun k h1 h2=>e k (by omega) (by simp only [Tr.size];omega))⟩
  rw [e (lo+1+a.size) (by omega) (by simp only [Tr.size];omega) (by rw [f.2.2.1];decide) (by rw [f.2.2.1];decide)]
  exact h.2.1
 | lp a r iha ih=>
  intro lo b h f e
  refine⟨by rw [e lo (Nat.le_refl _) (by simp only [Tr.size];omega) (by rw [f.1];decide) (by rw [f.1];decide)];exact h.1,iha h.2.1 f.2.1 (fun k h1 h2=>e k (by omega) (by simp only [Tr.size];omega)),ih h.2.2 f.2.2.2 (fun k h1 h2=>e k (by omega) (by simp only [Tr.size];omega))⟩
inductive PR where
 | bad (at_:Nat)
 | ok (t:Tr) (m:Nat)
def PR.pre(s:Tr):PR→PR
 | .bad p=>.bad p
 | .ok t m=>.ok (s.app t) m
def PR.bind(x:PR)(f:Tr→Nat→PR):PR:=match x with
 | .bad p=>.bad p
 | .ok t m=>f t m
def PR.map(x:PR)(f:Tr→Tr):PR:=match x with
 | .bad p=>.bad p
 | .ok t m=>.ok (f t) m
def lst(c:List Ins):Nat→Nat→Bool→Nat→PR
 | 0,_,_,p=>.bad p
 | f+1,d,b,p=>
  if p < c.length then
   if oI c p=28∨oI c p=31 then .ok .nil p
   else if oI c p=27∨oI c p=29 then
    if 8≤d then .bad p
    else (lst c f (d+1) (b || decide (oI c p=29)) (p+1)).bind fun a m=>
     if m < c.length∧oI c p=27∧oI c m=28 then
      (lst c f (d+1) b (m+1)).bind fun e q=>
       if q < c.length∧oI c q=31 then (lst c f d b (q+1)).map (.ife a e) else .bad q
     else if m < c.length∧oI c m=31 then (lst c f d b (m+1)).map (if oI c p=27 then .ift a else .lp a) else .bad m
   else if oI c p=30∧b=false then .bad p
   else (lst c f d b (p+1)).map .ins
  else .ok .nil p
theorem PR.bind_ok{x:PR}{f:Tr→Nat→PR}{t:Tr}{m:Nat}(h:x.bind f=.ok t m):∃ s k,x=.ok s k∧f s k=.ok t m:=by
 cases x with
 | bad p=>cases h
 | ok s k=>exact⟨s,k,rfl,h⟩
theorem PR.map_ok{x:PR}{f:Tr→Tr}{t:Tr}{m:Nat}(h:x.map f=.ok t m):∃ s,x=.ok s m∧f s=t:=by
 cases x with
 | bad p=>cases h
 | ok s k=>simp only [PR.map,PR.ok.injEq] at h;exact⟨s,by rw [h.2],h.1⟩
theorem lst_ok{c:List Ins}:∀ {f d:Nat} {b:Bool} {p:Nat} {t:Tr} {m:Nat},lst c f d b p=.ok t m→Fit c b p t∧m=p+t.size∧(p≤c.length→m≤c.length)∧(m < c.length→oI c m=28∨oI c m=31)∧(d≤8→d+t.dep≤8):=by
 intro f
 induction f with
 | zero=>intro d b p t m h;cases h
 | succ f ih=>
  intro d b p t m h
  unfold lst at h
  split at h
  ·rename_i hp
   split at h
   ·rename_i ho
    cases h
    exact⟨trivial,rfl,fun h=>h,fun _=>ho,fun h=>by simp [Tr.dep];omega⟩
   ·rename_i ho
    split at h
    ·rename_i ho2
     split at h
     ·cases h
     ·rename_i hd
      obtain⟨a,k,h1,h2⟩:=PR.bind_ok h
      obtain⟨fa,ka,la,-,da⟩:=ih h1
      split at h2
      ·rename_i hk
       obtain⟨e,q,h3,h4⟩:=PR.bind_ok h2
       obtain⟨fe,ke,le,-,de⟩:=ih h3
       split at h4
       ·rename_i hq
        obtain⟨r,h5,rfl⟩:=PR.map_ok h4
        obtain⟨fr,kr,lr,er,dr⟩:=ih h5
        subst ka ke kr
        have h29:decide (oI c p=29)=false:=by simp;omega
        rw [h29,Bool.or_false] at fa
        refine⟨⟨hk.2.1,fa,hk.2.2,?_,?_,?_⟩,by simp only [Tr.size];omega,by omega,er,fun h8=>?_⟩
        ·rw [show p+2+a.size=p+1+a.size+1 by omega];exact fe
        ·rw [show p+2+a.size+e.size=p+1+a.size+1+e.size by omega];exact hq.2
        ·rw [show p+3+a.size+e.size=p+1+a.size+1+e.size+1 by omega];exact fr
        ·have:=da (by omega);have:=de (by omega);have:=dr h8
         simp only [Tr.dep];omega
       ·cases h4
      ·rename_i hk
       split at h2
       ·rename_i hm
        obtain⟨r,h5,rfl⟩:=PR.map_ok h2
        obtain⟨fr,kr,lr,er,dr⟩:=ih h5
        subst ka kr
        by_cases h27:oI c p=27
        ·have h29:decide (oI c p=29)=false:=by simp;omega
         rw [h29,Bool.or_false] at fa
         rw [if_pos h27]
         refine⟨⟨h27,fa,hm.2,?_⟩,by simp only [Tr.size];omega,by omega,er,fun h8=>?_⟩
         ·rw [show p+2+a.size=p+1+a.size+1 by omega];exact fr
         ·have:=da (by omega);have:=dr h8
          simp only [Tr.dep];omega
        ·have h29:oI c p=29:=by omega
         have h29':decide (oI c p=29)=true:=by simp [h29]
         rw [h29',Bool.or_true] at fa
         rw [if_neg h27]
         refine⟨⟨h29,fa,hm.2,?_⟩,by simp only [Tr.size];omega,by omega,er,fun h8=>?_⟩
         ·rw [show p+2+a.size=p+1+a.size+1 by omega];exact fr
         ·have:=da (by omega);have:=dr h8
          simp only [Tr.dep];omega
       ·cases h2
    ·rename_i ho2
     split at h
     ·cases h
     ·rename_i ho3
      obtain⟨r,h5,rfl⟩:=PR.map_ok h
      obtain⟨fr,kr,lr,er,dr⟩:=ih h5
      subst kr
      refine⟨⟨by omega,by omega,by omega,by omega,fun h30=>?_,fr⟩,by simp only [Tr.size];omega,by omega,er,dr⟩
      cases b with
      | true=>rfl
      | false=>exact absurd ⟨h30,rfl⟩ ho3
  ·rename_i hp
   cases h
   exact⟨trivial,rfl,fun h=>h,fun h=>absurd h hp,fun h=>by simp [Tr.dep];omega⟩
def parse(c:List Ins):PR:=(lst c (c.length+1) 0 false 0).bind fun t m=>if m=c.length then .ok t m else .bad m
theorem parse_ok{c:List Ins}{t:Tr}{m:Nat}(h:parse c=.ok t m):lst c (c.length+1) 0 false 0=.ok t c.length∧m=c.length∧Fit c false 0 t∧t.size=c.length∧t.dep≤8:=by
 obtain⟨s,k,h1,h2⟩:=PR.bind_ok h
 split at h2
 ·rename_i hk
  cases h2
  subst hk
  obtain⟨f1,f2,-,-,f5⟩:=lst_ok h1
  exact⟨h1,rfl,f1,by omega,by have:=f5 (by omega);omega⟩
 ·cases h2
structure Iv where
 lo:Int
 hi:Int
deriving DecidableEq
def ivE(x:Iv):Int:=if x.lo < 0∨4294967295 < x.lo∨x.hi < 0∨4294967295 < x.hi then 2 else if x.hi < x.lo then 29 else 0
def ivOk(x:Iv):Bool:=decide (0≤x.lo∧x.lo≤x.hi∧x.hi≤4294967295)
def ivFull:Iv:=⟨0,4294967295⟩
def ivIn(x y:Iv):Bool:=ivOk x && ivOk y && decide (y.lo≤x.lo) && decide (x.hi≤y.hi)
def ivJoin(x y:Iv):Iv:=if ivOk x && ivOk y then ⟨min x.lo y.lo,max x.hi y.hi⟩ else ⟨0,0⟩
def ivWiden(x y:Iv):Iv:=if ivOk x && ivOk y then ⟨if y.lo < x.lo then 0 else x.lo,if x.hi < y.hi then (if y.hi≤255 then 255 else if y.hi≤65535 then 65535 else 4294967295) else x.hi⟩ else ⟨0,0⟩
def onesN(n:Nat):Nat:=if n=0 then 0 else 2 ^ (n.log2+1)-1
def onesI(n:Int):Int:=(onesN n.toNat:Int)
def hashN(a b:Nat):Nat:=let y:=((a ^^^ (b * 2654435761 % 4294967296)) * 2246822519) % 4294967296;y ^^^ (y / 65536)
def arN(op:Int)(a b:Nat):Nat:=
 if op=8 then (a+b) % 4294967296
 else if op=9 then (a+(4294967296-b)) % 4294967296
 else if op=10 then (a * b) % 4294967296
 else if op=11 then a / b
 else if op=12 then a % b
 else if op=13 then a &&& b
 else if op=14 then a ||| b
 else if op=15 then a ^^^ b
 else if op=16 then a * 2 ^ (b % 32) % 4294967296
 else if op=17 then a / 2 ^ (b % 32)
 else if op=18 then min a b
 else if op=19 then max a b
 else hashN a b
def shiftI(lo hi:Int):Iv:=if 0≤lo∧hi≤4294967295 then ⟨lo,hi⟩ else if 4294967295 < lo then ⟨lo-4294967296,hi-4294967296⟩ else if hi < 0 then ⟨lo+4294967296,hi+4294967296⟩ else ivFull
def ruleI(op a b c d:Int):Iv:=
 if op=8 then shiftI (a+c) (b+d)
 else if op=9 then shiftI (a-d) (b-c)
 else if op=10 then (if 0 < d∧4294967295 / d < b then ivFull else ⟨a * c,b * d⟩)
 else if op=11 then ⟨a / d,b / c⟩
 else if op=12 then (if b < c then ⟨a,b⟩ else ⟨0,min b (d-1)⟩)
 else if op=13 then ⟨0,min b d⟩
 else if op=14 then ⟨max a c,onesI (max b d)⟩
 else if op=15 then ⟨0,onesI (max b d)⟩
 else if op=16 then (if c≠d∨4294967295 / 2 ^ (c % 32).toNat < b then ivFull else ⟨a * 2 ^ (c % 32).toNat,b * 2 ^ (c % 32).toNat⟩)
 else if op=17 then (if d≤31 then ⟨a / 2 ^ d.toNat,b / 2 ^ c.toNat⟩ else if c=d then ⟨a / 2 ^ (c % 32).toNat,b / 2 ^ (c % 32).toNat⟩ else ⟨0,b⟩)
 else if op=18 then ⟨min a c,min b d⟩
 else if op=19 then ⟨max a c,max b d⟩
 else ivFull
def apI(op:Int)(x y:Iv):Option Iv:=
 if y.lo=0∧(op=11∨op=12) then none
 else if x.lo=x.hi∧y.lo=y.hi then some ⟨(arN op x.lo.toNat y.lo.toNat:Nat),(arN op x.lo.toNat y.lo.toNat:Nat)⟩
 else some (ruleI op x.lo x.hi y.lo y.hi)
def joinL(l m:List Iv):List Iv:=List.zipWith ivJoin l m
def withinL(l m:List Iv):Bool:=decide (l.length=m.length) && (List.zipWith ivIn l m).all id
structure Vl where
 tr:Bool
 iv:Iv
deriving DecidableEq
structure Inv where
 at_:Int
 most:Int
 locs:List Iv
deriving DecidableEq
structure St where
 locs:List Iv
 stk:List Vl
 hgt:Nat
 lvs:List (List Iv)
 inv:List Inv
inductive ER where
 | bad (at_:Nat) (e:Int)
 | ok (st:St) (s e:Int)
 | stuck
def ER.bind(x:ER)(f:St→Int→Int→ER):ER:=match x with
 | .bad a e=>.bad a e
 | .ok st s e=>f st s e
 | .stuck=>.stuck
def tooMany:Int:=281474976710657
def capS(a b:Int):Int:=min (a+b) tooMany
def prodS(x n:Int):Int:=if 0 < n∧tooMany / n < x then tooMany else min (x * n) tooMany
def popA(stk:List Vl)(base:Nat)(ty:List UInt8):Except Int (List Vl × List Vl):=
 if stk.length < base+ty.length then .error 14
 else if (List.zipWith (fun (t:UInt8) (v:Vl)=>(t != 110 && t != 116) || ((t==116)==v.tr)) ty (stk.drop (stk.length-ty.length))).all id then .ok (stk.take (stk.length-ty.length),stk.drop (stk.length-ty.length))
 else .error 13
def pushA(lo:Nat)(st:St)(l:List Vl)(e:Int):ER:=
 if 32 < (st.stk++l).length then .bad lo 14 else .ok { st with stk:=st.stk++l,hgt:=max st.hgt (st.stk++l).length } 1 e
def gV(l:List Vl)(k:Nat):Vl:=l.getD k ⟨false,⟨0,0⟩⟩
def gL(l:List Iv)(k:Nat):Iv:=l.getD k ⟨0,0⟩
def numV(x:Iv):Vl:=⟨false,x⟩
def plA(p:Prg)(lo base:Nat)(st:St):ER:=
 match popA st.stk base (opX (oI p.code lo)).pops with
 | .error e=>.bad lo e
 | .ok (rest,l)=>
  let st':={ st with stk:=rest }
  let op:=oI p.code lo
  let arg:=(gI p.code lo).arg
  if op=0 then pushA lo st' [numV ⟨arg,arg⟩] 0
  else if op=1 then pushA lo st' [numV (gL st.locs arg.toNat)] 0
  else if op=2 then .ok { st' with locs:=st.locs.set arg.toNat (gV l 0).iv } 1 0
  else if op=3 then (if (gA p.arrs arg.toNat).size≤(gV l 0).iv.hi then .bad lo 16 else pushA lo st' [numV (if (gA p.arrs arg.toNat).word then ivFull else ⟨0,255⟩)] 0)
  else if op=4 then (if (gA p.arrs arg.toNat).size≤(gV l 0).iv.hi then .bad lo 16 else .ok st' 1 0)
  else if op=5 then pushA lo st' [gV l 0,gV l 0] 0
  else if op=7 then pushA lo st' [gV l 1,gV l 0] 0
  else if op=6∨op=35 then .ok st' 1 0
  else if op=34 then .ok st' 1 1
  else if op=32 then pushA lo st' [numV ivFull] 0
  else if op=26 then pushA lo st' [numV ⟨0,1⟩] 0
  else if (opX op).pushes=[116] then pushA lo st' [⟨true,⟨0,0⟩⟩] 0
  else match apI op (gV l 0).iv (gV l 1).iv with
   | none=>.bad lo 17
   | some x=>pushA lo st' [numV x] 0
inductive Hd where
 | widen
 | given (r:List Inv)
def invAt(r:List Inv)(k:Nat):Option Inv:=r.find? fun x=>decide (x.at_=(k:Int))
def enterA:Hd→Nat→Int→List Iv→Except Int (List Iv × Int)
 | .widen,_,most,locs=>.ok (locs,most)
 | .given r,lo,most,locs=>match invAt r lo with
   | none=>.error 0
   | some x=>if x.most < most then .error 18 else if withinL locs x.locs then .ok (x.locs,x.most) else .error 23
def stored(c:List Ins)(lo hi i:Nat):Bool:=((c.drop lo).take (hi-lo)).any fun x=>decide (x.op=2∧x.arg=(i:Int))
def nextH(c:List Ins)(lo hi pass:Nat)(head fin:List Iv):List Iv:=
 (List.range head.length).map fun i=>if pass < 3 then ivWiden (gL head i) (ivJoin (gL head i) (gL fin i)) else if stored c lo hi i then ivFull else gL head i
def noteI(l:List Inv)(x:Inv):List Inv:=if l.any (fun y=>decide (y.at_=x.at_)) then l.map (fun y=>if y.at_=x.at_ then x else y) else l++[x]
def passA(c:List Ins)(h:Hd)(lo hi height:Nat)(body:St→ER):Nat→Nat→List Iv→St→ER
 | 0,_,_,_=>.stuck
 | k+1,pass,head,st=>(body { st with locs:=head,lvs:=[] }).bind fun st' s e=>
  if st'.stk.length≠height then .bad hi 14
  else if withinL st'.locs head then .ok { st' with locs:=head } s e
  else match h with
   | .given _=>.bad hi 23
   | .widen=>passA c h lo hi height body k (pass+1) (nextH c lo hi pass head st'.locs) st'
def PASSES:Nat:=6
def anaT(p:Prg)(h:Hd):Tr→Nat→Nat→Nat→St→Int→Int→ER
 | .nil,_,_,_,st,s,e=>.ok st s e
 | .ins r,lo,base,loop,st,s,e=>
  (if oI p.code lo=30 then
   match popA st.stk base [116] with
   | .error x=>.bad lo x
   | .ok (rest,_)=>if rest.length≠loop then .bad lo 14 else .ok { st with stk:=rest,lvs:=st.lvs++[st.locs] } 1 0
  else plA p lo base st).bind fun st' s' e'=>anaT p h r (lo+1) base loop st' (capS s s') (capS e e')
 | .ift a r,lo,base,loop,st,s,e=>
  match popA st.stk base [116] with
  | .error x=>.bad lo x
  | .ok (rest,_)=>(anaT p h a (lo+1) rest.length loop { st with stk:=rest } 0 0).bind fun s1 xs xe=>
   if s1.stk.length≠rest.length then .bad (lo+1+a.size) 14
   else anaT p h r (lo+2+a.size) base loop { s1 with locs:=joinL s1.locs st.locs } (capS s (capS (max xs 0) 1)) (capS e (capS (max xe 0) 0))
 | .ife a d r,lo,base,loop,st,s,e=>
  match popA st.stk base [116] with
  | .error x=>.bad lo x
  | .ok (rest,_)=>(anaT p h a (lo+1) rest.length loop { st with stk:=rest } 0 0).bind fun s1 xs xe=>
   if s1.stk.length≠rest.length then .bad (lo+1+a.size) 14
   else (anaT p h d (lo+2+a.size) rest.length loop { s1 with locs:=st.locs } 0 0).bind fun s2 ys ye=>
    if s2.stk.length≠rest.length then .bad (lo+2+a.size+d.size) 14
    else anaT p h r (lo+3+a.size+d.size) base loop { s2 with locs:=joinL s1.locs s2.locs } (capS s (capS (max xs ys) 1)) (capS e (capS (max xe ye) 0))
 | .lp a r,lo,base,loop,st,s,e=>
  match popA st.stk base [110] with
  | .error x=>.bad lo x
  | .ok (rest,l)=>
   if 65536 < (gV l 0).iv.hi then .bad lo 18
   else match enterA h lo (gV l 0).iv.hi st.locs with
    | .error x=>.bad lo x
    | .ok (head,most)=>
     (passA p.code h lo (lo+1+a.size) rest.length (fun s0=>anaT p h a (lo+1) rest.length rest.length s0 0 0) PASSES 1 head { st with stk:=rest }).bind fun s1 xs xe=>
      anaT p h r (lo+2+a.size) base loop { s1 with locs:=s1.lvs.foldl joinL s1.locs,lvs:=st.lvs,inv:=noteI s1.inv ⟨(lo:Int),most,s1.locs⟩ } (capS s (capS (prodS (capS xs 1) most) 1)) (capS e (capS (prodS xe most) 0))
def st0(p:Prg):St:=⟨List.replicate p.locs.toNat ⟨0,0⟩,[],0,[],[]⟩
structure Rp where
 steps:Int
 emits:Int
 hgt:Int
 inv:List Inv
deriving DecidableEq
inductive RR where
 | bad (at_:Nat) (e:Int)
 | ok (r:Rp)
 | stuck
def sortI(n:Nat)(l:List Inv):List Inv:=(List.range n).filterMap fun k=>invAt l k
def whole(p:Prg)(h:Hd)(t:Tr):RR:=match anaT p h t 0 0 0 (st0 p) 0 0 with
 | .bad a e=>.bad a e
 | .stuck=>.stuck
 | .ok st s e=>if st.stk.length≠0 then .bad p.code.length 14 else .ok ⟨s,e,(st.hgt:Int),sortI p.code.length st.inv⟩
def badArg(p:Prg)(x:Ins):Bool:=(decide (x.op=1∨x.op=2) && decide (p.locs≤x.arg)) || (decide (x.op=3∨x.op=4) && decide ((p.arrs.length:Int)≤x.arg))
def argAt(p:Prg):Nat:=(p.code.findIdx (badArg p))
def chkP(p:Prg):Nat × Int:=
 if formE p≠0 then (0,formE p)
 else match parse p.code with
  | .bad a=>(a,15)
  | .ok _ _=>if argAt p < p.code.length then (argAt p,2) else (0,0)
def treeOf(p:Prg):Tr:=match parse p.code with
 | .bad _=>.nil
 | .ok t _=>t
def verP(p:Prg):RR:=
 if (chkP p).2≠0 then .bad (chkP p).1 (chkP p).2
 else match whole p .widen (treeOf p) with
  | .ok r=>if 281474976710656 < r.steps then .bad 0 18 else .ok r
  | x=>x
def loopsOf(c:List Ins):List Nat:=(List.range c.length).filter fun k=>decide (oI c k=29)
theorem ivOk_iff{x:Iv}:ivOk x=true↔0≤x.lo∧x.lo≤x.hi∧x.hi≤4294967295:=by simp [ivOk]
theorem ivE_iff{x:Iv}:ivE x=0↔ivOk x=true:=by
 rw [ivOk_iff]
 unfold ivE
 split
 ·constructor
  ·intro h;cases h
  ·intro h;omega
 ·split
  ·constructor
   ·intro h;cases h
   ·intro h;omega
  ·constructor
   ·intro h;omega
   ·intro h;rfl
theorem onesN_lt{n:Nat}(h:n < 4294967296):onesN n < 4294967296:=by
 unfold onesN
 split
 ·omega
 ·rename_i h0
  have h1:n.log2 < 32:=(Nat.log2_lt h0).2 (by omega)
  have h2:2 ^ (n.log2+1)≤2 ^ 32:=Nat.pow_le_pow_right (by omega) (by omega)
  omega
theorem le_onesN(n:Nat):n≤onesN n:=by
 unfold onesN
 split
 ·omega
 ·rename_i h0
  have h1:n < 2 ^ (n.log2+1):=Nat.lt_log2_self
  omega
theorem onesN_mono{m n:Nat}(h:m≤n):onesN m≤onesN n:=by
 unfold onesN
 by_cases h0:m=0
 ·rw [if_pos h0];omega
 ·rw [if_neg h0,if_neg (by omega)]
  have h1:m.log2≤n.log2:=by
   rw [Nat.le_log2 (by omega)]
   exact Nat.le_trans (Nat.log2_self_le h0) h
  have h2:2 ^ (m.log2+1)≤2 ^ (n.log2+1):=Nat.pow_le_pow_right (by omega) (by omega)
  have h3:=Nat.two_pow_pos (m.log2+1)
  omega
theorem hashN_lt(a b:Nat):hashN a b < 4294967296:=by
 unfold hashN
 exact Nat.xor_lt_two_pow (n:=32) (by omega) (by omega)
theorem lt_ite{c:Prop}[Decidable c]{x y n:Nat}(h1:c→x < n)(h2:¬ c→y < n):(if c then x else y) < n:=by
 by_cases h:c
 ·rw [if_pos h];exact h1 h
 ·rw [if_neg h];exact h2 h
theorem ok_ite{c:Prop}[Decidable c]{x y:Iv}(h1:c→ivOk x=true)(h2:¬ c→ivOk y=true):ivOk (if c then x else y)=true:=by
 by_cases h:c
 ·rw [if_pos h];exact h1 h
 ·rw [if_neg h];exact h2 h
theorem arN_lt{op:Int}{a b:Nat}(ha:a < 4294967296)(hb:b < 4294967296)(h0:b≠0∨(op≠11∧op≠12)):arN op a b < 4294967296:=
 lt_ite (fun _=>Nat.mod_lt _ (by omega)) fun _=>lt_ite (fun _=>Nat.mod_lt _ (by omega)) fun _=>lt_ite (fun _=>Nat.mod_lt _ (by omega)) fun _=>
 lt_ite (fun _=>Nat.lt_of_le_of_lt (Nat.div_le_self _ _) ha) fun _=>lt_ite (fun _=>Nat.lt_of_le_of_lt (Nat.mod_le _ _) ha) fun _=>
 lt_ite (fun _=>Nat.lt_of_le_of_lt Nat.and_le_left ha) fun _=>lt_ite (fun _=>Nat.or_lt_two_pow (n:=32) ha hb) fun _=>lt_ite (fun _=>Nat.xor_lt_two_pow (n:=32) ha hb) fun _=>
 lt_ite (fun _=>Nat.mod_lt _ (by omega)) fun _=>lt_ite (fun _=>Nat.lt_of_le_of_lt (Nat.div_le_self _ _) ha) fun _=>lt_ite (fun _=>Nat.max_lt.2 ⟨ha,hb⟩ |> Nat.lt_of_le_of_lt (Nat.le_trans (Nat.min_le_left _ _) (Nat.le_max_left _ _))) fun _=>
 lt_ite (fun _=>Nat.max_lt.2 ⟨ha,hb⟩) fun _=>hashN_lt _ _
theorem two_pow_int(k:Nat):(0:Int) < 2 ^ k:=by exact_mod_cast Nat.two_pow_pos k
theorem two_pow_le{j k:Nat}(h:j≤k):(2:Int) ^ j≤2 ^ k:=by exact_mod_cast Nat.pow_le_pow_right (by omega) h
theorem shiftI_ok{lo hi:Int}(h:lo≤hi)(h1:-4294967295≤lo)(h2:hi≤8589934590):ivOk (shiftI lo hi)=true:=by
 unfold shiftI
 refine ok_ite (fun _=>?_) fun _=>ok_ite (fun _=>?_) fun _=>ok_ite (fun _=>?_) fun _=>by decide
 all_goals
  rw [ivOk_iff];dsimp only;omega
theorem ruleI_ok{op a b c d:Int}(ha:0≤a)(hab:a≤b)(hb:b≤4294967295)(hc:0≤c)(hcd:c≤d)(hd:d≤4294967295)(h0:c≠0∨(op≠11∧op≠12)):ivOk (ruleI op a b c d)=true:=by
 refine ok_ite (fun _=>shiftI_ok (by omega) (by omega) (by omega)) fun _=>ok_ite (fun _=>shiftI_ok (by omega) (by omega) (by omega)) fun _=>ok_ite (fun _=>ok_ite (fun _=>by decide) fun h=>?_) fun _=>ok_ite (fun h11=>?_) fun _=>ok_ite (fun _=>ok_ite (fun _=>?_) fun _=>?_) fun _=>ok_ite (fun _=>?_) fun _=>ok_ite (fun _=>?_) fun _=>ok_ite (fun _=>?_) fun _=>ok_ite (fun _=>ok_ite (fun _=>by decide) fun h=>?_) fun _=>ok_ite (fun _=>ok_ite (fun _=>?_) fun _=>ok_ite (fun _=>?_) fun _=>?_) fun _=>ok_ite (fun _=>?_) fun _=>ok_ite (fun _=>?_) fun _=>by decide
 ·rw [ivOk_iff];dsimp only
  refine⟨Int.mul_nonneg ha hc,?_,?_⟩
  ·exact Int.mul_le_mul hab hcd hc (by omega)
  ·by_cases hd0:0 < d
   ·have h1:b≤4294967295 / d:=by omega
    have h2:=Int.mul_le_mul_of_nonneg_right h1 (Int.le_of_lt hd0)
    have h3:=Int.ediv_mul_le 4294967295 (by omega:d≠0)
    omega
   ·have:d=0:=by omega
    subst this
    omega
 ·have hc0:0 < c:=by omega
  rw [ivOk_iff];dsimp only
  refine⟨Int.ediv_nonneg ha (by omega),?_,?_⟩
  ·have h1:a / d≤b / d:=Int.ediv_le_ediv (by omega) hab
   have h2:b / d≤b / c:=by
    rw [Int.le_ediv_iff_mul_le hc0]
    have h3:=Int.ediv_mul_le b (by omega:d≠0)
    have h4:b / d * c≤b / d * d:=Int.mul_le_mul_of_nonneg_left hcd (Int.ediv_nonneg (by omega) (by omega))
    omega
   omega
  ·have:=Int.ediv_le_self c (by omega:0≤b)
   omega
 ·rw [ivOk_iff];dsimp only;omega
 ·rw [ivOk_iff];dsimp only;omega
 ·rw [ivOk_iff];dsimp only;omega
 ·rw [ivOk_iff];dsimp only
  unfold onesI
  have h1:=onesN_lt (n:=(max b d).toNat) (by omega)
  have h2:=le_onesN (max b d).toNat
  omega
 ·rw [ivOk_iff];dsimp only
  unfold onesI
  have h1:=onesN_lt (n:=(max b d).toNat) (by omega)
  omega
 ·rw [ivOk_iff];dsimp only
  have hp:=two_pow_int (c % 32).toNat
  have h1:b≤4294967295 / 2 ^ (c % 32).toNat:=by omega
  have h2:=Int.mul_le_mul_of_nonneg_right h1 (Int.le_of_lt hp)
  have h3:=Int.ediv_mul_le 4294967295 (b:=2 ^ (c % 32).toNat) (by omega)
  have h4:=Int.mul_le_mul_of_nonneg_right hab (Int.le_of_lt hp)
  have h5:=Int.mul_nonneg ha (Int.le_of_lt hp)
  omega
 ·rw [ivOk_iff];dsimp only
  have hp:=two_pow_int d.toNat
  have hq:=two_pow_int c.toNat
  have hqp:=two_pow_le (j:=c.toNat) (k:=d.toNat) (by omega)
  refine⟨Int.ediv_nonneg ha (by omega),?_,?_⟩
  ·have h1:a / 2 ^ d.toNat≤b / 2 ^ d.toNat:=Int.ediv_le_ediv hp hab
   have h2:b / 2 ^ d.toNat≤b / 2 ^ c.toNat:=by
    rw [Int.le_ediv_iff_mul_le hq]
    have h3:=Int.ediv_mul_le b (by omega:(2:Int) ^ d.toNat≠0)
    have h4:b / 2 ^ d.toNat * 2 ^ c.toNat≤b / 2 ^ d.toNat * 2 ^ d.toNat:=Int.mul_le_mul_of_nonneg_left hqp (Int.ediv_nonneg (by omega) (by omega))
    omega
   omega
  ·have:=Int.ediv_le_self (2 ^ c.toNat) (by omega:0≤b)
   omega
 ·rw [ivOk_iff];dsimp only
  have hp:=two_pow_int (c % 32).toNat
  refine⟨Int.ediv_nonneg ha (by omega),Int.ediv_le_ediv hp hab,?_⟩
  have:=Int.ediv_le_self (2 ^ (c % 32).toNat) (by omega:0≤b)
  omega
 ·rw [ivOk_iff];dsimp only;omega
 ·rw [ivOk_iff];dsimp only;omega
 ·rw [ivOk_iff];dsimp only;omega
theorem apI_ok{op:Int}{x y z:Iv}(hx:ivOk x=true)(hy:ivOk y=true)(h:apI op x y=some z):ivOk z=true:=by
 rw [ivOk_iff] at hx hy
 unfold apI at h
 split at h
 ·cases h
 ·rename_i h0
  split at h
  ·injection h with h
   subst h
   rw [ivOk_iff]
   have:=arN_lt (op:=op) (a:=x.lo.toNat) (b:=y.lo.toNat) (by omega) (by omega) (by omega)
   dsimp only
   omega
  ·injection h with h
   subst h
   exact ruleI_ok hx.1 hx.2.1 hx.2.2 hy.1 hy.2.1 hy.2.2 (by omega)
theorem ivJoin_ok(x y:Iv):ivOk (ivJoin x y)=true:=by
 unfold ivJoin
 split
 ·rename_i h
  simp only [Bool.and_eq_true,ivOk_iff] at h
  rw [ivOk_iff];dsimp only;omega
 ·decide
theorem ivJoin_self{x:Iv}(h:ivOk x=true):ivJoin x x=x:=by
 unfold ivJoin
 rw [h]
 cases x
 simp
theorem ivWiden_ok(x y:Iv):ivOk (ivWiden x y)=true:=by
 unfold ivWiden
 split
 ·rename_i h
  simp only [Bool.and_eq_true,ivOk_iff] at h
  rw [ivOk_iff];dsimp only
  split <;> split <;> (try split) <;> (try split) <;> omega
 ·decide
theorem ivWiden_self{x:Iv}(h:ivOk x=true):ivWiden x x=x:=by
 unfold ivWiden
 rw [h]
 cases x
 simp
theorem ivIn_self{x:Iv}(h:ivOk x=true):ivIn x x=true:=by
 unfold ivIn
 rw [h]
 simp
theorem ivIn_full{x:Iv}(h:ivOk x=true):ivIn x ivFull=true:=by
 have h1:ivOk ivFull=true:=by decide
 have h2:=ivOk_iff.1 h
 unfold ivIn
 rw [h,h1]
 have e1:decide (ivFull.lo≤x.lo)=true:=decide_eq_true (show (0:Int)≤x.lo from h2.1)
 have e2:decide (x.hi≤ivFull.hi)=true:=decide_eq_true (show x.hi≤(4294967295:Int) from h2.2.2)
 rw [e1,e2]
 rfl
end Go.Proofs.YtpaplehcafeeaaaGreatDoor
