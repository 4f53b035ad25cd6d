/- Ra Rb. -/
import Derived.Test.YtpaplehcafeeaaaGreatDoorLE19
import Derived.Test.YtpaplehcafeeaaaGreatDoorLE07
set_option maxRecDepth 100000
set_option maxHeartbeats 40000000
set_option linter.unusedVariables false
set_option linter.unusedSimpArgs false
namespace Go.Proofs.YtpaplehcafeeaaaGreatDoor
open Go.RowKit Go.Proofs
theorem local_good(B g n:Nat)(v:RVs)(s:AS)(ws:List Wd)(w:World)(h:RD B g n w s ws v){s':AS}{t':List Wd}(hg:localL n s ws=.ok s' t') :
  Calls Tryz.prog 156 #[.pointer (some ⟨g,0,none⟩)] w (DoesL B g n w (localL n s ws)):=by
 unfold localL at hg ⊢
 dsimp only at hg ⊢
 by_cases hF:freshE s (nextW n ws).1=0
 ·rw [if_neg (by simp [hF])] at hg ⊢
  by_cases hL:16≤s.ln.length
  ·rw [if_pos hL] at hg;cases hg
  ·rw [if_neg hL];exact local_ok B g n v s ws w h hF (by omega)
 ·rw [if_pos hF] at hg;cases hg
theorem array_good(B g n:Nat)(v:RVs)(s:AS)(ws:List Wd)(w:World)(wide:Bool)(h:RD B g n w s ws v){s':AS}{t':List Wd}(hg:arrayL n wide s ws=.ok s' t') :
  Calls Tryz.prog 154 #[.pointer (some ⟨g,0,none⟩),.bool wide] w (DoesL B g n w (arrayL n wide s ws)):=by
 unfold arrayL at hg ⊢
 dsimp only at hg ⊢
 by_cases hF:freshE s (nextW n ws).1=0
 ·rw [if_neg (by simp [hF])] at hg ⊢
  by_cases hL:8≤s.an.length
  ·rw [if_pos hL] at hg;cases hg
  ·rw [if_neg hL] at hg ⊢
   by_cases hV:(valueL s (nextW n ws.tail).1).2=0
   ·rw [if_neg (by simp [hV])] at hg ⊢
    by_cases hR:((valueL s (nextW n ws.tail).1).1:Int) < 1∨65536 < ((valueL s (nextW n ws.tail).1).1:Int)+s.cells
    ·rw [if_pos hR] at hg;cases hg
    ·rw [if_neg hR];exact array_ok B g n v s ws w wide h hF (by omega) hV (by omega)
   ·rw [if_pos hV] at hg;cases hg
 ·rw [if_pos hF] at hg;cases hg
theorem instr_good(B g n:Nat)(v:RVs)(s:AS)(ws:List Wd)(w:World)(x:List UInt8)(z:Nat)(h:RD B g n w s ws v){s':AS}{t':List Wd}(hg:instrL n (x,z) s ws=.ok s' t')(h35:findL x≠some 35) :
  Calls Tryz.prog 120 #[.pointer (some ⟨g,0,none⟩),.agg #[.string (strB x),.int .i64 (z:Int)]] w (DoesL B g n w (instrL n (x,z) s ws)):=by
 rw [instrL_eq] at hg ⊢
 dsimp only at hg ⊢
 cases hf:findL x with
 | none=>rw [hf] at hg;cases hg
 | some op=>
  rw [hf] at hg h35
  dsimp only at hg ⊢
  by_cases hcl:1024≤s.code.length
  ·rw [if_pos hcl] at hg;cases hg
  ·rw [if_neg hcl] at hg ⊢
   have hcl':s.code.length < 1024:=by omega
   have h35:op≠35:=fun e=>h35 (by rw [e])
   by_cases ho:op≤4∨op=35
   ·rw [if_pos ho] at hg ⊢
    by_cases hV:(argL s op (nextW n ws).1).2=0
    ·rw [if_neg (by simp [hV])]
     rcases (by omega:op=0∨op=1∨op=2∨op=3∨op=4) with rfl | rfl | rfl | rfl | rfl
     ·exact instr_ok0 B g n v s ws w h x z hf hcl' hV
     ·exact instr_ok1 B g n v s ws w h x z hf hcl' hV
     ·exact instr_ok2 B g n v s ws w h x z hf hcl' hV
     ·exact instr_ok3 B g n v s ws w h x z hf hcl' hV
     ·exact instr_ok4 B g n v s ws w h x z hf hcl' hV
    ·rw [if_pos hV] at hg;cases hg
   ·rw [if_neg ho];exact instr_okn B g n v s ws w h x z op hf hcl' ho
theorem decl1_good(B g n c:Nat)(v:RVs)(s:AS)(ws:List Wd)(w:World)(h:RD B g n w s ws v)(hc:rowV w c 167 #[.pointer (some ⟨g,0,none⟩)]){s':AS}{t':List Wd}(hr:arrayL n false s ws=.ok s' t') :
  Calls Tryz.prog 153 #[.pointer (some ⟨c,0,none⟩)] w (DoesL B g n w (arrayL n false s ws)):=by
 have H:=Lib.hid (array_good B g n v s ws w false h hr)
 have hcell:=cell_rowV hc (j:=0) rfl
 rw [hr] at H ⊢
 clear h hc hr
 go_enter Tryz.func153,Tryz.ntmps153
 go_wp2_with fail
 refine H.out.mono ?_
 rintro e w1 ⟨rfl,hb,hv⟩
 have HV:=Lib.hid hv
 clear hv
 go_wp2_with fail
 exact⟨rfl,_,results_none rfl _ _ _,rfl,hb,HV.out⟩
theorem decl2_good(B g n c:Nat)(v:RVs)(s:AS)(ws:List Wd)(w:World)(h:RD B g n w s ws v)(hc:rowV w c 167 #[.pointer (some ⟨g,0,none⟩)]){s':AS}{t':List Wd}(hr:arrayL n true s ws=.ok s' t') :
  Calls Tryz.prog 155 #[.pointer (some ⟨c,0,none⟩)] w (DoesL B g n w (arrayL n true s ws)):=by
 have H:=Lib.hid (array_good B g n v s ws w true h hr)
 have hcell:=cell_rowV hc (j:=0) rfl
 rw [hr] at H ⊢
 clear h hc hr
 go_enter Tryz.func155,Tryz.ntmps155
 go_wp2_with fail
 refine H.out.mono ?_
 rintro e w1 ⟨rfl,hb,hv⟩
 have HV:=Lib.hid hv
 clear hv
 go_wp2_with fail
 exact⟨rfl,_,results_none rfl _ _ _,rfl,hb,HV.out⟩
def okA(src:List UInt8):Bool:=(match readL src with | .ok _ _=>true | .bad _ _=>false) && (wordsL src).all fun x=>decide (x.1≠[99,111,110,115,116]) && decide (findL x.1≠some 35)
theorem okA.parts{src:List UInt8}(h:okA src=true):(∃ s r,readL src=.ok s r)∧src.length≤8192∧∀ x∈wordsL src,x.1≠[99,111,110,115,116]∧findL x.1≠some 35:=by
 unfold okA at h
 rw [Bool.and_eq_true] at h
 have h1:∃ s r,readL src=.ok s r:=by
  have h:=h.1
  cases hr:readL src with
  | bad a e=>rw [hr] at h;cases h
  | ok s r=>exact⟨s,r,rfl⟩
 refine⟨h1,?_,fun x hx=>?_⟩
 ·obtain⟨s,r,h1⟩:=h1
  rcases Nat.lt_or_ge 8192 src.length with hl | hl
  ·have:readL src=.bad 0 5:=by unfold readL;rw [if_pos hl]
   rw [h1] at this
   cases this
  ·exact hl
 ·have:=List.all_eq_true.1 h.2 x hx
  simpa using this
theorem read_good(src:List UInt8)(w:World)(hG:okA src=true)(hE:ErrR w):Calls Tryz.prog 93 #[.string (strB src)] w (ReadP src w):=by
 obtain⟨⟨sF,rF,hRF⟩,hs,hNC⟩:=okA.parts hG
 have hl:readL src=readW src.length AS.start (wordsL src):=readL_eq hs
 have hbn:=wordsA_bnd (src:=src) 0 (Nat.zero_le _)
 have hbw:(wordsL src).length≤8192∧∀ x∈wordsL src,x.1.length≤9000∧x.2≤9000:=⟨by have:=hbn.1;show (wordsA src 0).length≤8192;omega,fun x hx=>by have:=hbn.2 x hx;omega⟩
 show Calls _ _ _ _ (ReadQ (readL src) src.length w)
 rw [hl] at hRF ⊢
 obtain⟨WL,hWL⟩:∃ WL,WL=wordsL src:=⟨_,rfl⟩
 have hsz:=strB_size' src
 have d1:decide ((8192:Int) < (src.length:Int))=false:=by simp;omega
 have d1':decide (8192 < src.length)=false:=by simp;omega
 have hmf:∀ (fn:Fn) (first cap:Array Value) (w:World),(Instr.makeFunc fn first cap).run Tryz.prog w=.ok (.func fn first cap) w:=fun _ _ _ _=>rfl
 have hmk:∀ W:World,(Instr.makeMap 172 none).run Tryz.prog W=.ok (.map (some W.heap.size)) (W.alloc (.map #[] 0)):=fun W=>run_makeMap_plain W _
 have g7:2 < w.heap.size:=by obtain⟨ev,h1,_⟩:=hE;exact World.block_lt_of_cell? w _ h1
 obtain⟨W3,hW3⟩:∃ W3,W3=((w.alloc (.cells #[.pointer none] 167)).alloc (.cells #[.int .i64 0] 3)).alloc (.cells #[.int .i64 0] 31):=⟨_,rfl⟩
 have b3:Below w.heap.size w W3:=by rw [hW3];exact balloc (balloc (balloc (Below.refl _ _) _) _) _
 have s3:W3.heap.size=w.heap.size+3:=by rw [hW3];simp
 have p0:rowV W3 w.heap.size 167 #[.pointer none]:=by
  rw [hW3]
  have r:=rowV.new w 167 #[.pointer none]
  exact (r.below (balloc (Below.refl _ _) _) r.lt).below (balloc (Below.refl _ _) _) (r.below (balloc (Below.refl _ _) _) r.lt).lt
 have p1:rowV W3 (w.heap.size+1) 3 #[.int .i64 0]:=by
  rw [hW3]
  have r:=rowV.new (w.alloc (.cells #[.pointer none] 167)) 3 #[.int .i64 0]
  have r':=r.below (balloc (Below.refl _ _) (.cells #[.int .i64 0] 31)) r.lt
  simpa using r'
 have p2:rowV W3 (w.heap.size+1+1) 31 #[.int .i64 0]:=by
  rw [hW3]
  have r:=rowV.new ((w.alloc (.cells #[.pointer none] 167)).alloc (.cells #[.int .i64 0] 3)) 31 #[.int .i64 0]
  simpa using r
 have HSp:=Lib.hid (split_any ixAny src W3 hs)
 have HE0:=Lib.hid hE
 rw [←hWL] at HSp hbw hRF hNC ⊢
 obtain⟨RR,hRR⟩:∃ RR,RR=readW src.length AS.start WL:=⟨_,rfl⟩
 rw [←hRR] at hRF ⊢
 have HRR:=Lib.hid hRR
 have HRF:=Lib.hid hRF
 have HNC:=Lib.hid hNC
 clear hRF hNC hG
 clear hRR
 have HBW:=Lib.hid hbw
 have HP:=Lib.hid (And.intro p0 (And.intro p1 (And.intro p2 (And.intro b3 s3))))
 clear hl hbn hbw hWL p0 p1 p2 b3 s3 hE
 go_enter_defers Tryz.func93,Tryz.ntmps93
 go_wp2_with fail
 rw [←hW3]
 clear hW3
 refine HSp.out.mono ?_
 rintro e w4 ⟨A,k,c,rfl,ho,hb4⟩
 obtain⟨p0,p1,p2,b3,s3⟩:=HP.out
 have hw4:w.heap.size+3≤w4.heap.size:=by have:=hb4.size;omega
 have p0':=p0.below hb4 p0.lt
 have p1':=p1.below hb4 p1.lt
 have p2':=p2.below hb4 p2.lt
 have hw4l:w.heap.size < w4.heap.size:=by omega
 have y0:=cell_rowV p0' (j:=0) rfl
 have z0:=frozen_rowV' p0' 0
 have hk4:k≤8192:=by have:=ho.length (fun _=>rfl) (by decide);have:=HBW.out.1;omega
 obtain⟨E,hEq⟩:∃ E,E=((w4.setCell ⟨w.heap.size,0,none⟩ (.pointer (some ⟨w4.heap.size+1,0,none⟩))).alloc (.map #[] 0)).alloc (.cells #[.slice A k c,.int .i64 (src.length:Int),.slice none 0 0,.int .i64 0,.slice none 0 0,.slice none 0 0,.slice none 0 0,.map (some w4.heap.size)] 174):=⟨_,rfl⟩
 have sE:E.heap.size=w4.heap.size+2:=by rw [hEq];simp [World.setCell]
 have bS:Below w.heap.size w (w4.setCell ⟨w.heap.size,0,none⟩ (.pointer (some ⟨w4.heap.size+1,0,none⟩))):=(b3.trans (hb4.mono b3.size)).trans (Below.setG (Nat.le_refl _) _)
 have bE:Below w.heap.size w E:=by rw [hEq];exact balloc (balloc bS _) _
 have aE:∀ {j:Nat} {o:Obj},j < w4.heap.size→(w4.setCell ⟨w.heap.size,0,none⟩ (.pointer (some ⟨w4.heap.size+1,0,none⟩))).heap[j]?=some o→E.heap[j]?=some o:=fun {j o} hj h=>by
  have hj':j < (w4.setCell ⟨w.heap.size,0,none⟩ (.pointer (some ⟨w4.heap.size+1,0,none⟩))).heap.size:=(Array.getElem?_eq_some_iff.1 h).1
  have hb:=balloc (balloc (Below.refl (w4.setCell ⟨w.heap.size,0,none⟩ (.pointer (some ⟨w4.heap.size+1,0,none⟩))).heap.size (w4.setCell ⟨w.heap.size,0,none⟩ (.pointer (some ⟨w4.heap.size+1,0,none⟩)))) (.map #[] 0)) (.cells #[.slice A k c,.int .i64 (src.length:Int),.slice none 0 0,.int .i64 0,.slice none 0 0,.slice none 0 0,.slice none 0 0,.map (some w4.heap.size)] 174)
  rw [←hEq] at hb
  exact (hb.block j hj').trans h
 have q0:rowV E w.heap.size 167 #[.pointer (some ⟨w4.heap.size+1,0,none⟩)]:=aE (by omega) (p0'.set 0 _)
 have q1:rowV E (w.heap.size+1) 3 #[.int .i64 0]:=aE (by omega) (p1'.setFar (p:=⟨w.heap.size,0,none⟩) (by show w.heap.size+1≠w.heap.size;omega) _)
 have q2:rowV E (w.heap.size+1+1) 31 #[.int .i64 0]:=aE (by omega) (p2'.setFar (p:=⟨w.heap.size,0,none⟩) (by show w.heap.size+1+1≠w.heap.size;omega) _)
 have rE:rowV E (w4.heap.size+1) 174 #[.slice A k c,.int .i64 (src.length:Int),.slice none 0 0,.int .i64 0,.slice none 0 0,.slice none 0 0,.slice none 0 0,.map (some w4.heap.size)]:=by
  have r:=rowV.new ((w4.setCell ⟨w.heap.size,0,none⟩ (.pointer (some ⟨w4.heap.size+1,0,none⟩))).alloc (.map #[] 0)) 174 #[.slice A k c,.int .i64 (src.length:Int),.slice none 0 0,.int .i64 0,.slice none 0 0,.slice none 0 0,.slice none 0 0,.map (some w4.heap.size)]
  rw [←hEq] at r
  have es:((w4.setCell ⟨w.heap.size,0,none⟩ (.pointer (some ⟨w4.heap.size+1,0,none⟩))).alloc (.map #[] 0)).heap.size=w4.heap.size+1:=by simp [World.setCell]
  rw [es] at r
  exact r
 have mE:MapIs Tryz.prog 9 3 .i64 E w4.heap.size 0 (fun _=>none):=by
  have r:=MapIs.made (P:=Tryz.prog) (k:=9) (e:=3) (q:=.i64) (w4.setCell ⟨w.heap.size,0,none⟩ (.pointer (some ⟨w4.heap.size+1,0,none⟩)))
  have es:(w4.setCell ⟨w.heap.size,0,none⟩ (.pointer (some ⟨w4.heap.size+1,0,none⟩))).heap.size=w4.heap.size:=by simp [World.setCell]
  rw [es] at r
  have hb:=balloc (Below.refl ((w4.setCell ⟨w.heap.size,0,none⟩ (.pointer (some ⟨w4.heap.size+1,0,none⟩))).alloc (.map #[] 0)).heap.size _) (.cells #[.slice A k c,.int .i64 (src.length:Int),.slice none 0 0,.int .i64 0,.slice none 0 0,.slice none 0 0,.slice none 0 0,.map (some w4.heap.size)] 174)
  rw [←hEq] at hb
  exact r.below hb
 have wE:WordsM w4.heap.size E A k c WL:=by
  have h1:=words_mem ho (Nat.le_refl w4.heap.size) HBW.out.2
  refine⟨h1.1,h1.2.1,h1.2.2.1,fun hn=>?_⟩
  obtain⟨b,off,hA,hlt,hcell⟩:=h1.2.2.2 hn
  refine⟨b,off,hA,hlt,fun i hi=>?_⟩
  obtain⟨q,hq⟩:∃ o,w4.heap[b]?=some o:=⟨_,Array.getElem?_eq_getElem hlt⟩
  have hbne:b≠w.heap.size:=fun e=>by
   have hc0:=(hcell 0 hn).1
   rw [e] at hc0
   have:=p0'
   unfold rowV at this
   simp only [World.cell?,this] at hc0
   rcases off with _ | off
   ·simp at hc0
   ·simp at hc0
  have hEb:E.heap[b]?=w4.heap[b]?:=by rw [hq];exact aE hlt ((Below.heap_setCell w4 ⟨w.heap.size,0,none⟩ _ b hbne).trans hq)
  exact⟨(World.cell?_of_block (a:=⟨b,off+i * 2,none⟩) hEb).trans (hcell i hi).1,(World.cell?_of_block (a:=⟨b,off+i * 2+1,none⟩) hEb).trans (hcell i hi).2⟩
 have eE:ErrR E:=HE0.out.below bE
 have HPE:=Lib.hid (And.intro q0 (And.intro q1 (And.intro q2 (And.intro rE (And.intro mE (And.intro wE (And.intro eE (And.intro bE sE))))))))
 have hfew:WL.length≤8192:=HBW.out.1
 clear q0 q1 q2 rE mE wE eE bE aE bS ho hb4 p0 p1 p2 p0' p1' p2' b3 s3 sE HSp HP
 go_wp2_with fail
 rw [←hEq]
 clear hEq y0 z0
 refine (declarations_at (w4.heap.size+1) E).mono ?_
 rintro e w6 ⟨rfl,hD,hb6⟩
 obtain⟨q0,q1,q2,rE,mE,wE,eE,bE,sE⟩:=HPE.out
 have hb6':Below w4.heap.size E w6:=hb6.mono (by omega)
 have D0:RD w4.heap.size (w4.heap.size+1) src.length w6 AS.start WL ⟨A,k,c,none,0,0,none,0,0,none,0,0,none,0,0,w4.heap.size⟩:=
  ⟨rE.below hb6 rE.lt,wE.below hb6',by show k≤9000;omega,by omega,Nat.le_refl _,OwnS.nil _ _ _ _ _,OwnS.nil _ _ _ _ _,OwnS.nil _ _ _ _ _,OwnS.nil _ _ _ _ _,(fun b hb=>by cases hb),mE.below hb6,by show 0+WL.length≤9000;omega,eE.below hb6,by omega,Formed.start,by rw [sE] at hD;exact hD,by show w4.heap.size+1+2≠w4.heap.size;omega⟩
 have HS0:=Lib.hid (And.intro D0 (And.intro (q0.below hb6 q0.lt) (And.intro (q1.below hb6 q1.lt) (And.intro (q2.below hb6 q2.lt) (bE.trans (hb6.mono bE.size))))))
 have hmE:E.heap.size+1=w4.heap.size+1+2:=by omega
 rw [hmE]
 clear D0 hD hb6 hb6' q0 q1 q2 rE mE wE eE bE sE HPE hmE HE0
 go_wp2_with fail
 go_loopg [6,7,8] WL.length (fun gk _ _ _ wr=>∃ (s:AS) (ws:List Wd) (v:RVs),ws.length≤gk∧RD w4.heap.size (w4.heap.size+1) src.length wr s ws v∧Hid (readW src.length s ws=readW src.length AS.start WL∧∀ x∈ws,x∈WL)∧rowV wr w.heap.size 167 #[.pointer (some ⟨w4.heap.size+1,0,none⟩)]∧rowV wr (w.heap.size+1) 3 #[.int .i64 0]∧rowV wr (w.heap.size+1+1) 31 #[.int .i64 0]∧Below w.heap.size w wr)
 case atStart=>exact⟨AS.start,WL,_,Nat.le_refl _,HS0.out.1,⟨rfl,fun _ h=>h⟩,HS0.out.2.1,HS0.out.2.2.1,HS0.out.2.2.2.1,HS0.out.2.2.2.2⟩
 case round=>
  clear HS0
  obtain⟨s,ws,v,hlen,D,HR,t0,t1,t2,hb⟩:=hrel
  have y0:wr.cell? ⟨w.heap.size,0,none⟩=some (.pointer (some ⟨w4.heap.size+1,0,none⟩)):=cell_rowV t0 (j:=0) rfl
  rcases ws with _ | ⟨⟨x,z⟩,t⟩
  ·have hk0:v.k=0:=by have:=D.wm.1;simpa using this.symm
   have c0:wr.cell? ⟨w4.heap.size+1,0,none⟩=some (.slice v.A 0 v.c):=by
    have:=cell_rowV D.row (j:=0) (v:=.slice v.A v.k v.c) rfl
    rwa [hk0] at this
   have HR2:Hid (RR=.ok s []):=by
    show _=_
    rw [HRR.out,←HR.out.1,readW_nil]
   have y1:wr.cell? ⟨w.heap.size+1,0,none⟩=some (.int .i64 0):=cell_rowV t1 (j:=0) rfl
   have y2:wr.cell? ⟨w.heap.size+1+1,0,none⟩=some (.int .i64 0):=cell_rowV t2 (j:=0) rfl
   have z0:=frozen_rowV' t0 0
   have z1:=frozen_rowV' t1 0
   have z2:=frozen_rowV' t2 0
   have hsame:((wr.setCell ⟨w.heap.size,0,none⟩ (.pointer (some ⟨w4.heap.size+1,0,none⟩))).setCell ⟨w.heap.size+1,0,none⟩ (.int .i64 0)).setCell ⟨w.heap.size+1+1,0,none⟩ (.int .i64 0)=wr:=by
    rw [setCell_same t0,setCell_same t1,setCell_same t2]
   have HSM:=Lib.hid hsame
   have HD:=Lib.hid D
   have HB:=Lib.hid hb
   clear hsame D hb HR hlen hk0
   go_wp2_with fail
   rw [HSM.out]
   refine leaves_cons (f:=116) (args:=#[.pointer (some ⟨w.heap.size,0,none⟩),.pointer (some ⟨w.heap.size+1,0,none⟩),.pointer (some ⟨w.heap.size+1+1,0,none⟩)]) (by simp) (by simp [go_sem]) ?_
   refine (catch_idle _ _ _ _).mono ?_
   rintro e u' w'' ⟨rfl,rfl,rfl⟩
   simp [Leaves,settle,results,Tryz.results93,go_sem,y0,y1,y2]
   rw [HR2.out]
   exact⟨_,_,_,rfl,by omega,HD.out,HB.out⟩
  ·cases gk with
   | zero=>simp at hlen
   | succ g=>
    have hkl:v.k=t.length+1:=by have:=D.wm.1;simpa using this.symm
    have c0:wr.cell? ⟨w4.heap.size+1,0,none⟩=some (.slice v.A v.k v.c):=cell_rowV D.row rfl
    obtain⟨kk,hkk⟩:∃ kk,kk=v.k:=⟨_,rfl⟩
    rw [←hkk] at c0 hkl
    clear hkk
    have k0:decide ((0:Int) < (kk:Int))=true:=by simp;omega
    have k0':decide (0 < kk)=true:=by simp;omega
    have HX:Hid (Calls Tryz.prog 119 #[.pointer (some ⟨w4.heap.size+1,0,none⟩)] wr fun e w'=>∃ A' k' c',e=.returned (.agg #[.string (strB x),.int .i64 (z:Int)])∧k'≤9000∧RD w4.heap.size (w4.heap.size+1) src.length w' s t (v.at_ A' k' c')∧wr.grownBy w' (some (w4.heap.size+1))):=by
     show Calls _ _ _ _ _
     refine (next_any w4.heap.size (w4.heap.size+1) v.A v.k v.c src.length _ _ _ _ _ _ ((x,z) :: t) wr D.row D.wm D.hk D.hB).mono ?_
     rintro e w' ⟨A',k',c',rfl,rfl,hr1,hw1,hg1⟩
     have hk9:v.k-1≤9000:=by have:=D.hk;omega
     exact⟨A',_,c',rfl,hk9,D.next' (ws':=t) (by simp) hk9 hr1 hw1 hg1,hg1⟩
    have HD:=Lib.hid D
    have HB:=Lib.hid hb
    clear D hb hkl
    go_wp2_with fail
    refine HX.out.mono ?_
    rintro e w1 ⟨A',k',c',rfl,hk1,D1,hg1⟩
    have r2:=rowV.new w1 214 #[.string (strB x),.int .i64 (z:Int)]
    have b12:Below w1.heap.size w1 (w1.alloc (.cells #[.string (strB x),.int .i64 (z:Int)] 214)):=balloc (Below.refl _ _) _
    obtain⟨w2,hw2⟩:∃ w2,w2=w1.alloc (.cells #[.string (strB x),.int .i64 (z:Int)] 214):=⟨_,rfl⟩
    rw [←hw2] at r2 b12
    have D2:=D1.below b12
    obtain⟨a0,a1⟩:=two_cellsV r2
    have t01:=t0.below (HD.out.toBelow hg1) (by omega)
    have y01:w1.cell? ⟨w.heap.size,0,none⟩=some (.pointer (some ⟨w4.heap.size+1,0,none⟩)):=cell_rowV t01 (j:=0) rfl
    have l01:=t01.lt
    clear t01
    have hBr2:Below w4.heap.size wr w2:=(HD.out.toBelow hg1).trans (b12.mono D1.le)
    have t0:=t0.below hBr2 (by omega)
    have t1:=t1.below hBr2 (by omega)
    have t2:=t2.below hBr2 (by omega)
    have y0:w2.cell? ⟨w.heap.size,0,none⟩=some (.pointer (some ⟨w4.heap.size+1,0,none⟩)):=cell_rowV t0 (j:=0) rfl
    have hwB:w.heap.size≤w4.heap.size:=by omega
    have hB2:=Lib.hid (HB.out.trans (hBr2.mono hwB))
    clear HX hk1 D1 hg1 HD HB hBr2 b12 c0
    by_cases h1:x=[98,121,116,101,115]
    ·subst h1
     have hst:stepL src.length ([98,121,116,101,115],z) s t=arrayL src.length false s t:=by
      unfold stepL
      dsimp only
      rw [if_pos rfl]
     have hlk:=decl_hit1 D2.dcl
     rw [hw2] at hlk
     obtain⟨s',t',hr⟩:∃ s' t',arrayL src.length false s t=.ok s' t':=by
      cases hr:arrayL src.length false s t with
      | ok s' t'=>exact⟨s',t',rfl⟩
      | bad a er=>
       have h:=HRR.out
       rw [←HR.out.1,readW_bad (show stepL src.length ([98,121,116,101,115],z) s t=.bad a er from hst.trans hr),HRF.out] at h
       cases h
     have H3:Hid (Calls Tryz.prog 153 #[.pointer (some ⟨w4.heap.size+1+1,0,none⟩)] w2 (DoesL w4.heap.size (w4.heap.size+1) src.length w2 (arrayL src.length false s t))):=decl1_good w4.heap.size (w4.heap.size+1) src.length (w4.heap.size+1+1) _ s t w2 D2 D2.dcl.2 hr
     go_wp2_with fail
     rw [←hw2]
     have hst':stepL src.length ([98,121,116,101,115],z) s t=.ok s' t':=hst.trans hr
     have HR2:Hid (readW src.length s' t'=readW src.length AS.start WL∧∀ x∈t',x∈WL):=by
      refine⟨by rw [←HR.out.1,readW_ok hst'],fun x hx=>HR.out.2 _ (List.mem_cons_of_mem _ ?_)⟩
      rw [(stepL_grew hst').1] at hx
      exact List.mem_of_mem_drop hx
     have hl2:t'.length≤g:=by
      have:=(stepL_grew hst').1
      rw [this,List.length_drop]
      simp at hlen;omega
     rw [hr] at H3
     clear hr hst'
     refine H3.out.mono ?_
     rintro e w3 ⟨rfl,hb3,v3,D3⟩
     have u0:=t0.below hb3 (by omega)
     have u1:=t1.below hb3 (by omega)
     have u2:=t2.below hb3 (by omega)
     have HBF:=Lib.hid (hB2.out.trans (hb3.mono hwB))
     have HD3:=Lib.hid D3
     clear D3 D2
     go_wp2_with fail
     go_roundg g
     case measure=>omega
     case rel=>exact⟨s',t',v3,hl2,HD3.out,HR2.out,u0,u1,u2,HBF.out⟩
    by_cases h2:x=[119,111,114,100,115]
    ·subst h2
     have hst:stepL src.length ([119,111,114,100,115],z) s t=arrayL src.length true s t:=by
      unfold stepL
      dsimp only
      rw [if_neg (by decide),if_pos rfl]
     have hlk:=decl_hit2 D2.dcl
     rw [hw2] at hlk
     obtain⟨s',t',hr⟩:∃ s' t',arrayL src.length true s t=.ok s' t':=by
      cases hr:arrayL src.length true s t with
      | ok s' t'=>exact⟨s',t',rfl⟩
      | bad a er=>
       have h:=HRR.out
       rw [←HR.out.1,readW_bad (show stepL src.length ([119,111,114,100,115],z) s t=.bad a er from hst.trans hr),HRF.out] at h
       cases h
     have H3:Hid (Calls Tryz.prog 155 #[.pointer (some ⟨w4.heap.size+1+1,0,none⟩)] w2 (DoesL w4.heap.size (w4.heap.size+1) src.length w2 (arrayL src.length true s t))):=decl2_good w4.heap.size (w4.heap.size+1) src.length (w4.heap.size+1+1) _ s t w2 D2 D2.dcl.2 hr
     go_wp2_with fail
     rw [←hw2]
     have hst':stepL src.length ([119,111,114,100,115],z) s t=.ok s' t':=hst.trans hr
     have HR2:Hid (readW src.length s' t'=readW src.length AS.start WL∧∀ x∈t',x∈WL):=by
      refine⟨by rw [←HR.out.1,readW_ok hst'],fun x hx=>HR.out.2 _ (List.mem_cons_of_mem _ ?_)⟩
      rw [(stepL_grew hst').1] at hx
      exact List.mem_of_mem_drop hx
     have hl2:t'.length≤g:=by
      have:=(stepL_grew hst').1
      rw [this,List.length_drop]
      simp at hlen;omega
     rw [hr] at H3
     clear hr hst'
     refine H3.out.mono ?_
     rintro e w3 ⟨rfl,hb3,v3,D3⟩
     have u0:=t0.below hb3 (by omega)
     have u1:=t1.below hb3 (by omega)
     have u2:=t2.below hb3 (by omega)
     have HBF:=Lib.hid (hB2.out.trans (hb3.mono hwB))
     have HD3:=Lib.hid D3
     clear D3 D2
     go_wp2_with fail
     go_roundg g
     case measure=>omega
     case rel=>exact⟨s',t',v3,hl2,HD3.out,HR2.out,u0,u1,u2,HBF.out⟩
    by_cases h3:x=[108,111,99,97,108]
    ·subst h3
     have hst:stepL src.length ([108,111,99,97,108],z) s t=localL src.length s t:=by
      unfold stepL
      dsimp only
      rw [if_neg (by decide),if_neg (by decide),if_pos rfl]
     have hlk:=decl_hit3 D2.dcl
     rw [hw2] at hlk
     obtain⟨s',t',hr⟩:∃ s' t',localL src.length s t=.ok s' t':=by
      cases hr:localL src.length s t with
      | ok s' t'=>exact⟨s',t',rfl⟩
      | bad a er=>
       have h:=HRR.out
       rw [←HR.out.1,readW_bad (show stepL src.length ([108,111,99,97,108],z) s t=.bad a er from hst.trans hr),HRF.out] at h
       cases h
     have H3:Hid (Calls Tryz.prog 156 #[.pointer (some ⟨w4.heap.size+1,0,none⟩)] w2 (DoesL w4.heap.size (w4.heap.size+1) src.length w2 (localL src.length s t))):=local_good w4.heap.size (w4.heap.size+1) src.length _ s t w2 D2 hr
     go_wp2_with fail
     rw [←hw2]
     have hst':stepL src.length ([108,111,99,97,108],z) s t=.ok s' t':=hst.trans hr
     have HR2:Hid (readW src.length s' t'=readW src.length AS.start WL∧∀ x∈t',x∈WL):=by
      refine⟨by rw [←HR.out.1,readW_ok hst'],fun x hx=>HR.out.2 _ (List.mem_cons_of_mem _ ?_)⟩
      rw [(stepL_grew hst').1] at hx
      exact List.mem_of_mem_drop hx
     have hl2:t'.length≤g:=by
      have:=(stepL_grew hst').1
      rw [this,List.length_drop]
      simp at hlen;omega
     rw [hr] at H3
     clear hr hst'
     refine H3.out.mono ?_
     rintro e w3 ⟨rfl,hb3,v3,D3⟩
     have u0:=t0.below hb3 (by omega)
     have u1:=t1.below hb3 (by omega)
     have u2:=t2.below hb3 (by omega)
     have HBF:=Lib.hid (hB2.out.trans (hb3.mono hwB))
     have HD3:=Lib.hid D3
     clear D3 D2
     go_wp2_with fail
     go_roundg g
     case measure=>omega
     case rel=>exact⟨s',t',v3,hl2,HD3.out,HR2.out,u0,u1,u2,HBF.out⟩
    by_cases h4:x=[99,111,110,115,116]
    ·exact absurd h4 (HNC.out _ (HR.out.2 _ (List.mem_cons_self ..))).1
    have hst:stepL src.length (x,z) s t=instrL src.length (x,z) s t:=by
     unfold stepL
     rw [if_neg h1,if_neg h2,if_neg h3,if_neg h4]
    have hlk:=decl_no D2.dcl h1 h2 h3 h4
    rw [hw2] at hlk
    obtain⟨s',t',hr⟩:∃ s' t',instrL src.length (x,z) s t=.ok s' t':=by
     cases hr:instrL src.length (x,z) s t with
     | ok s' t'=>exact⟨s',t',rfl⟩
     | bad a er=>
      have h:=HRR.out
      rw [←HR.out.1,readW_bad (show stepL src.length (x,z) s t=.bad a er from hst.trans hr),HRF.out] at h
      cases h
    have h35:=(HNC.out _ (HR.out.2 _ (List.mem_cons_self ..))).2
    have H3:Hid (Calls Tryz.prog 120 #[.pointer (some ⟨w4.heap.size+1,0,none⟩),.agg #[.string (strB x),.int .i64 (z:Int)]] w2 (DoesL w4.heap.size (w4.heap.size+1) src.length w2 (instrL src.length (x,z) s t))):=instr_good w4.heap.size (w4.heap.size+1) src.length _ s t w2 x z D2 hr h35
    clear h35
    go_wp2_with fail
    rw [←hw2]
    have hst':stepL src.length (x,z) s t=.ok s' t':=hst.trans hr
    have HR2:Hid (readW src.length s' t'=readW src.length AS.start WL∧∀ x∈t',x∈WL):=by
     refine⟨by rw [←HR.out.1,readW_ok hst'],fun x hx=>HR.out.2 _ (List.mem_cons_of_mem _ ?_)⟩
     rw [(stepL_grew hst').1] at hx
     exact List.mem_of_mem_drop hx
    have hl2:t'.length≤g:=by
     have:=(stepL_grew hst').1
     rw [this,List.length_drop]
     simp at hlen;omega
    rw [hr] at H3
    clear hr hst'
    refine H3.out.mono ?_
    rintro e w3 ⟨rfl,hb3,v3,D3⟩
    have u0:=t0.below hb3 (by omega)
    have u1:=t1.below hb3 (by omega)
    have u2:=t2.below hb3 (by omega)
    have HBF:=Lib.hid (hB2.out.trans (hb3.mono hwB))
    have HD3:=Lib.hid D3
    clear D3 D2
    go_wp2_with fail
    go_roundg g
    case measure=>omega
    case rel=>exact⟨s',t',v3,hl2,HD3.out,HR2.out,u0,u1,u2,HBF.out⟩
theorem assemble_good(src:List UInt8)(w:World)(hG:okA src=true)(hE:ErrR w):Calls Tryz.prog 53 #[.string (strB src)] w (AsmP (readL src) w):=by
 have b0:=balloc (Below.refl w.heap.size w) (.cells #[.slice none 0 0,.int .i64 0,.slice none 0 0] 25)
 have rz:=rowV.new w 25 #[.slice none 0 0,.int .i64 0,.slice none 0 0]
 have HR:=read_good src (w.alloc (.cells #[.slice none 0 0,.int .i64 0,.slice none 0 0] 25)) hG (hE.below b0)
 obtain⟨w0,hw0⟩:∃ w0,w0=w.alloc (.cells #[.slice none 0 0,.int .i64 0,.slice none 0 0] 25):=⟨_,rfl⟩
 rw [←hw0] at HR b0 rz
 have hlt0:w.heap.size < w0.heap.size:=rz.lt
 unfold ReadP at HR
 obtain⟨⟨s,r,hr⟩,-,-⟩:=okA.parts hG
 rw [hr] at HR ⊢
 have HR':=Lib.hid HR
 clear HR hr hE hG
 go_enter Tryz.func53,Tryz.ntmps53
 go_wp2_with fail
 rw [←hw0]
 clear hw0
 refine HR'.out.mono ?_
 rintro e w1 ⟨g,B,v,rfl,hB,D,hb1⟩
 have r1:=rz.below hb1 rz.lt
 obtain⟨y0,y1,y2⟩:=three_cellsV r1
 have z0:=frozen_rowV' r1 0
 have z1:=frozen_rowV' r1 1
 have z2:=frozen_rowV' r1 2
 have HB:=Lib.hid (b0.trans (hb1.mono b0.size))
 have c2:w1.cell? ⟨g,2,none⟩=some (.slice v.Aa v.na v.ca):=cell_rowV D.row rfl
 have c3:w1.cell? ⟨g,3,none⟩=some (.int .i64 (s.ln.length:Int)):=cell_rowV D.row rfl
 have c4:w1.cell? ⟨g,4,none⟩=some (.slice v.Ac v.nc v.cc):=cell_rowV D.row rfl
 have HD:=Lib.hid D
 clear hb1 rz b0 D
 go_wp2_with fail
 have rz7:rowV (((w1.setCell ⟨w.heap.size,0,none⟩ (.slice v.Aa v.na v.ca)).setCell ⟨w.heap.size,1,none⟩ (.int .i64 (s.ln.length:Int))).setCell ⟨w.heap.size,2,none⟩ (.slice v.Ac v.nc v.cc)) w.heap.size 25 #[.slice v.Aa v.na v.ca,.int .i64 (s.ln.length:Int),.slice v.Ac v.nc v.cc]:=((r1.set 0 _).set 1 _).set 2 _
 obtain⟨q0,q1,q2⟩:=three_cellsV rz7
 have hbW:Below w.heap.size w (((w1.setCell ⟨w.heap.size,0,none⟩ (.slice v.Aa v.na v.ca)).setCell ⟨w.heap.size,1,none⟩ (.int .i64 (s.ln.length:Int))).setCell ⟨w.heap.size,2,none⟩ (.slice v.Ac v.nc v.cc)):=HB.out.trans ((Below.setG (Nat.le_refl _) _).trans ((Below.setG (Nat.le_refl _) _).trans (Below.setG (Nat.le_refl _) _)))
 have hlow:w.heap.size < B:=Nat.lt_of_lt_of_le hlt0 hB
 have hkeep:∀ k o,B≤k→w1.heap[k]?=some o→o.isCells=true→(((w1.setCell ⟨w.heap.size,0,none⟩ (.slice v.Aa v.na v.ca)).setCell ⟨w.heap.size,1,none⟩ (.int .i64 (s.ln.length:Int))).setCell ⟨w.heap.size,2,none⟩ (.slice v.Ac v.nc v.cc)).heap[k]?=some o:=fun k o hk ho _=>by
  have hne:k≠w.heap.size:=by omega
  exact (Below.heap_setCell _ ⟨w.heap.size,2,none⟩ _ k hne).trans ((Below.heap_setCell _ ⟨w.heap.size,1,none⟩ _ k hne).trans ((Below.heap_setCell _ ⟨w.heap.size,0,none⟩ _ k hne).trans ho))
 have F:=HD.out.fm
 have hP:Progs (((w1.setCell ⟨w.heap.size,0,none⟩ (.slice v.Aa v.na v.ca)).setCell ⟨w.heap.size,1,none⟩ (.int .i64 (s.ln.length:Int))).setCell ⟨w.heap.size,2,none⟩ (.slice v.Ac v.nc v.cc)) v.Aa v.na v.ca (s.ln.length:Int) v.Ac v.nc v.cc (prgOf s):=
  ⟨(HD.out.oa.keep hkeep).toArrs (fun x hx=>WalkArith.wf_i64 (by have:=F.sizes x hx;omega)),rfl,(HD.out.oc.keep hkeep).toCodes (fun x hx=>by
   obtain⟨h1,h2,h3,h4,_⟩:=F.ins x hx
   exact⟨h3,h4,WalkArith.wf_i64 (by omega)⟩),WalkArith.wf_i64 (by have:=F.locs;omega)⟩
 refine bodyPost_ret (v:=.tuple #[.agg #[.slice v.Aa v.na v.ca,.int .i64 (s.ln.length:Int),.slice v.Ac v.nc v.cc],.int .i64 0,.int .i64 0]) ?_ rfl ⟨_,_,_,_,_,_,rfl,hP,hbW⟩
 simp [results,Tryz.results53,go_sem,q0,q1,q2]
def okQ:AR→Prg→Bool
 | .bad _ _,_=>false
 | .ok s _,p=>decide (s.arrs=p.arrs) && decide ((s.ln.length:Int)=p.locs) && decide (s.code=p.code)
theorem okQ.eq{r:AR}{p:Prg}(h:okQ r p=true):∃ s q,r=.ok s q∧prgOf s=p:=by
 cases r with
 | bad a e=>simp [okQ] at h
 | ok s q=>
  simp [okQ] at h
  obtain⟨⟨h1,h2⟩,h3⟩:=h
  obtain⟨pa,pl,pc⟩:=p
  simp only [] at h1 h2 h3
  exact⟨s,q,rfl,by unfold prgOf;rw [h1,h2,h3]⟩
def okS(src:List UInt8)(p:Prg):Bool:=okQ (readL src) p && okA src
def badR:RR→Nat→Int→Bool
 | .bad a e,b,f=>decide (a=b) && decide (e=f)
 | _,_,_=>false
theorem badR.eq{r:RR}{b:Nat}{f:Int}(h:badR r b f=true):r=.bad b f:=by
 cases r with
 | bad a e=>simp [badR] at h;rw [h.1,h.2]
 | ok s=>simp [badR] at h
 | stuck=>simp [badR] at h
def okR:RR→Rp→Bool
 | .ok r,s=>decide (r=s)
 | _,_=>false
theorem okR.eq{r:RR}{s:Rp}(h:okR r s=true):r=.ok s:=by
 cases r with
 | bad a e=>simp [okR] at h
 | ok s=>simp [okR] at h;rw [h]
 | stuck=>simp [okR] at h
theorem asmP_any(src:List UInt8)(p:Prg)(w:World)(hr:okS src p=true)(hs:src.length≤100000000)(hE:ErrR w):Calls Tryz.prog 53 #[.string (strB src)] w fun e w'=>∃ A n c A' n' c',e=.returned (.tuple #[.agg #[.slice A n c,.int .i64 p.locs,.slice A' n' c'],.int .i64 0,.int .i64 0])∧Progs w' A n c p.locs A' n' c' p∧Below w.heap.size w w':=by
 unfold okS at hr
 rw [Bool.and_eq_true] at hr
 have hG:=hr.2
 obtain⟨s,q,hr,hp⟩:=okQ.eq hr.1
 have h:=assemble_good src w hG hE
 rw [hr] at h
 refine h.mono ?_
 rintro e w' ⟨A,n,c,A',n',c',rfl,hpr,hb⟩
 rw [hp] at hpr
 have hl:(s.ln.length:Int)=p.locs:=by rw [←hp];rfl
 rw [hl] at hpr ⊢
 exact⟨A,n,c,A',n',c',rfl,hpr,hb⟩
end Go.Proofs.YtpaplehcafeeaaaGreatDoor
