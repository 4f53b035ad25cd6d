/- As At Gb Gc. -/
import Derived.Test.YtpaplehcafeeaaaGreatDoorLE15
set_option maxRecDepth 100000
set_option maxHeartbeats 40000000
set_option linter.unusedVariables false
set_option linter.unusedSimpArgs false
namespace Go.Proofs.YtpaplehcafeeaaaGreatDoor
open Go.RowKit Go.Proofs
theorem fresh_ok(B g n:Nat)(v:RVs)(s:AS)(ws:List Wd)(w:World)(h:RD B g n w s ws v)(x:List UInt8)(z:Nat)(hx:nextW n ws=(x,z))(hN:nameL x=true)(hlen:x.length≤9000)(hc:(conF s x).isSome=false)(ha:s.an.contains x=false)(hl:s.ln.contains x=false) :
  Calls Tryz.prog 190 #[.pointer (some ⟨g,0,none⟩)] w fun e w'=>e=.returned (.agg #[.string (strB x),.int .i64 (z:Int)])∧NxV B g n v s ws.tail w w':=by
 have hgl:=h.row.lt
 have hB:=h.hB
 have rz0:=rowV.new w 214 #[.string ⟨#[]⟩,.int .i64 0]
 have hzg:w.heap.size≠g:=by omega
 have hr0:=h.row.below (balloc (Below.refl w.heap.size w) (.cells #[.string ⟨#[]⟩,.int .i64 0] 214)) hgl
 have hw0:=h.wm.below ((balloc (Below.refl w.heap.size w) (.cells #[.string ⟨#[]⟩,.int .i64 0] 214)).mono (by omega))
 have H1:Calls Tryz.prog 192 #[.pointer (some ⟨g,0,none⟩)] (w.alloc (.cells #[.string ⟨#[]⟩,.int .i64 0] 214)) fun e w'=>e=.returned (.agg #[.string (strB x),.int .i64 (z:Int)])∧NxV B g n v s ws.tail (w.alloc (.cells #[.string ⟨#[]⟩,.int .i64 0] 214)) w':=by
  have:=asmName_ok B g v.A v.k v.c n _ _ _ _ _ _ ws _ hr0 hw0 h.hk h.hB (by rw [hx];exact hN)
  rw [hx] at this
  exact this
 have H1':=Lib.hid H1
 have HC:=Lib.hid hc
 have HA:=Lib.hid ha
 have HL:=Lib.hid hl
 clear hr0 hw0 H1 hc ha hl
 obtain⟨H⟩:Nonempty (PLift (RD B g n w s ws v)):=⟨⟨h⟩⟩
 have hnn:v.nn≤100000:=by have:=h.on.length (fun _=>rfl) (by decide);have:=h.fm.an;have:=h.fm.few;omega
 have hnl:v.nl≤100000:=by have:=h.ol.length (fun _=>rfl) (by decide);have:=h.fm.locs;omega
 go_enter Tryz.func190,Tryz.ntmps190
 go_wp2_with fail
 refine H1'.out.mono ?_
 rintro e w1 ⟨rfl,A',k',c',hk1',hr1,hw1,hg1⟩
 have hk1:=Lib.hid hk1'
 have rz1:=rz0.grown hg1 (fun e=>hzg (by injection e))
 have hg:=grownBy.trans' (World.grownBy_alloc w (.cells #[.string ⟨#[]⟩,.int .i64 0] 214) (some g)) hg1
 have D1:=h.next' (by rw [List.length_tail];omega) hk1' hr1 hw1 hg
 clear H1' hk1' rz0 h H
 have r2:=rowV.new w1 214 #[.string (strB x),.int .i64 (z:Int)]
 have hl2:=r2.lt
 have b12:Below w1.heap.size w1 (w1.alloc (.cells #[.string (strB x),.int .i64 (z:Int)] 214)):=balloc (Below.refl _ _) _
 obtain⟨w2,hw2⟩:∃ w2,w2=w1.alloc (.cells #[.string (strB x),.int .i64 (z:Int)] 214):=⟨_,rfl⟩
 rw [←hw2] at r2 hl2 b12
 obtain⟨a0,a1⟩:=two_cellsV r2
 have D2:=D1.below b12
 have c7:w2.cell? ⟨g,7,none⟩=some (.map (some v.m)):=cell_rowV D2.row rfl
 have c5:w2.cell? ⟨g,5,none⟩=some (.slice v.An v.nn v.cn):=cell_rowV D2.row rfl
 have c6:w2.cell? ⟨g,6,none⟩=some (.slice v.Al v.nl v.cl):=cell_rowV D2.row rfl
 have hlk:∀ q,(Instr.lookup 172 (.map (some v.m)) (.string (strB x)) true).run Tryz.prog (w2.drewN q)=.ok (.tuple #[.int .i64 ((conF s x).getD 0),.bool false]) (w2.drewN q):=fun q=>by
  have:=MapIs.run_getok D2.mp 172 uS uMc uInt zInt x (by simp [maxLen];omega) q
  rw [HC.out] at this
  exact this
 have HK1:Hid (∀ q,Calls Tryz.prog 220 #[.slice v.An v.nn v.cn,.string (strB x)] (w2.drewN q) fun e w'=>e=.returned (.bool false)∧w'=w2.drewN q):=fun q=>by
  have:=contains_any B v.An v.nn v.cn s.an x w2 D2.on hnn q
  rw [HA.out] at this
  exact this
 have HK2:Hid (∀ q,Calls Tryz.prog 220 #[.slice v.Al v.nl v.cl,.string (strB x)] (w2.drewN q) fun e w'=>e=.returned (.bool false)∧w'=w2.drewN q):=fun q=>by
  have:=contains_any B v.Al v.nl v.cl s.ln x w2 D2.ol hnl q
  rw [HL.out] at this
  exact this
 clear D1 D2
 go_wp2_with fail
 rw [←hw2]
 clear hw2
 go_quiet (fail)
 go_wp2_with fail
 refine wp_region_quiet_tail 23 (by kernel_rfl) (by kernel_rfl) ?_
 simp only [List.take_succ_cons,List.take_zero,List.drop_succ_cons,List.drop_zero]
 repeat (go_big_quiet_step (first | (go_at_call_of 220 (Value.slice v.An v.nn v.cn);exact (HK1.out _).mono fun e w2 h=>⟨h.1,_,h.2⟩) | (go_at_call_of 220 (Value.slice v.Al v.nl v.cl);exact (HK2.out _).mono fun e w2 h=>⟨h.1,_,h.2⟩)))
 refine wpQuiet_nil ?_
 intro _ hw'
 obtain⟨nr,hw''⟩:=hw'
 subst hw''
 go_wp2_with fail
 refine (demand_ok x z 8 _).mono ?_
 rintro e w6 ⟨rfl,hb6⟩
 have b16:Below w1.heap.size w1 w6:=(bdrew b12 (nq+nr)).trans (hb6.mono (bdrew b12 (nq+nr)).size)
 have r6:=(r2.below (w':=w2.drewN (nq+nr)) ((Drawn.drewN _ _).below _) hl2).below hb6 (r2.below (w':=w2.drewN (nq+nr)) ((Drawn.drewN _ _).below _) hl2).lt
 obtain⟨f0,f1⟩:=two_cellsV r6
 have rz6:=rz1.below b16 rz1.lt
 obtain⟨y0,y1⟩:=two_cellsV rz6
 have z0:=frozen_rowV' rz6 0
 have z1:=frozen_rowV' rz6 1
 have G6:w.grownBy w6 (some g):=grownBy.below' hg b16
 have hr6:=hr1.below b16 hr1.lt
 have hw6:=hw1.below (b16.mono (Nat.le_trans hB (Nat.le_of_lt hr1.lt)))
 have rz7:rowV ((w6.setCell ⟨w.heap.size,0,none⟩ (.string (strB x))).setCell ⟨w.heap.size,1,none⟩ (.int .i64 (z:Int))) w.heap.size 214 #[.string (strB x),.int .i64 (z:Int)]:=(rz6.set 0 _).set 1 _
 have hE:Hid (NxV B g n v s ws.tail w ((w6.setCell ⟨w.heap.size,0,none⟩ (.string (strB x))).setCell ⟨w.heap.size,1,none⟩ (.int .i64 (z:Int)))):=
  ⟨A',k',c',hk1.out,(hr6.setFar (p:=⟨w.heap.size,0,none⟩) (Ne.symm hzg) _).setFar (p:=⟨w.heap.size,1,none⟩) (Ne.symm hzg) _,(hw6.setFar (p:=⟨w.heap.size,0,none⟩) (by show B≤w.heap.size;omega) _).setFar (p:=⟨w.heap.size,1,none⟩) (by show B≤w.heap.size;omega) _,grownBy.setNew (grownBy.setNew G6 (p:=⟨w.heap.size,0,none⟩) (Nat.le_refl _) _) (p:=⟨w.heap.size,1,none⟩) (Nat.le_refl _) _⟩
 have HZ:=Lib.hid (two_cellsV rz7)
 clear rz7 hr6 hw6 G6 rz6 r6 b16 hb6
 go_wp2_with fail
 obtain⟨z7,z8⟩:=HZ.out
 refine bodyPost_ret (v:=.agg #[.string (strB x),.int .i64 (z:Int)]) ?_ rfl ⟨rfl,hE.out⟩
 simp [results,Tryz.results190,go_sem,z7,z8]
theorem conF_isSome(s:AS)(x:List UInt8):(conF s x).isSome=(conOf s x).isSome:=by unfold conF;cases conOf s x <;> rfl
theorem asmFresh_ok(B g n:Nat)(v:RVs)(s:AS)(ws:List Wd)(w:World)(h:RD B g n w s ws v)(hF:freshE s (nextW n ws).1=0) :
  Calls Tryz.prog 190 #[.pointer (some ⟨g,0,none⟩)] w fun e w'=>e=.returned (.agg #[.string (strB (nextW n ws).1),.int .i64 ((nextW n ws).2:Int)])∧NxV B g n v s ws.tail w w':=by
 have hl:=next_len h.wm (n:=n)
 obtain⟨x,z,hx⟩:∃ x z,nextW n ws=(x,z):=⟨_,_,rfl⟩
 rw [hx] at hF hl ⊢
 dsimp only at hF hl ⊢
 unfold freshE at hF
 cases hN:nameL x with
 | false=>rw [hN] at hF;simp at hF
 | true=>
  rw [hN] at hF
  simp only [Bool.true_eq_false,if_false] at hF
  split at hF
  ·simp at hF
  ·rename_i h1
   simp only [Bool.or_eq_true,not_or,Bool.not_eq_true] at h1
   exact fresh_ok B g n v s ws w h x z hx hN hl (by rw [conF_isSome];exact h1.1.1) h1.1.2 h1.2
theorem index_ok(B g n:Nat)(v:RVs)(s:AS)(ws:List Wd)(w:World)(h:RD B g n w s ws v)(A2:Option Addr)(n2 c2:Nat)(l:List (List UInt8))(ho:OwnS encSt 1 w B 9 A2 n2 c2 l)(hn2:n2≤100000)(x:List UInt8)(z:Nat)(hx:nextW n ws=(x,z))(hN:nameL x=true)(hI:l.contains x=true) :
  Calls Tryz.prog 161 #[.pointer (some ⟨g,0,none⟩),.slice A2 n2 c2] w fun e w'=>e=.returned (.int .i64 ((l.idxOf x:Nat):Int))∧NxV B g n v s ws.tail w w':=by
 have hgl:=h.row.lt
 have hB:=h.hB
 have H1:Calls Tryz.prog 192 #[.pointer (some ⟨g,0,none⟩)] w fun e w'=>e=.returned (.agg #[.string (strB x),.int .i64 (z:Int)])∧NxV B g n v s ws.tail w w':=by
  have:=asmName_ok B g v.A v.k v.c n _ _ _ _ _ _ ws _ h.row h.wm h.hk h.hB (by rw [hx];exact hN)
  rw [hx] at this
  exact this
 have H1':=Lib.hid H1
 have HI0:=Lib.hid hI
 have hrow:=h.row
 clear H1 hI h
 go_enter Tryz.func161,Tryz.ntmps161
 go_wp2_with fail
 refine H1'.out.mono ?_
 rintro e w1 ⟨rfl,A',k',c',hk1',hr1,hw1,hg1⟩
 have hk1:=Lib.hid hk1'
 have ho1:=ho.grown hg1 (ho.ne_row hrow (by decide))
 clear H1' hk1' ho hrow
 have r2:=rowV.new w1 214 #[.string (strB x),.int .i64 (z:Int)]
 have hl2:=r2.lt
 have b12:Below w1.heap.size w1 (w1.alloc (.cells #[.string (strB x),.int .i64 (z:Int)] 214)):=balloc (Below.refl _ _) _
 obtain⟨w2,hw2⟩:∃ w2,w2=w1.alloc (.cells #[.string (strB x),.int .i64 (z:Int)] 214):=⟨_,rfl⟩
 rw [←hw2] at r2 hl2 b12
 obtain⟨a0,a1⟩:=two_cellsV r2
 have ho2:=ho1.below b12
 have HK:Hid (Calls Tryz.prog 193 #[.slice A2 n2 c2,.string (strB x)] w2 fun e w'=>e=.returned (.int .i64 (((l.idxOf x:Nat):Int)))∧w'=w2):=by
  show Calls _ _ _ _ _
  have:=index_any B A2 n2 c2 l x w2 ho2 hn2
  rw [HI0.out] at this
  exact this
 clear ho1 ho2
 go_wp2_with fail
 rw [←hw2]
 clear hw2
 obtain⟨ix,hix⟩:∃ ix,ix=l.idxOf x:=⟨_,rfl⟩
 rw [←hix] at HK
 have dix:decide ((0:Int)≤(ix:Int))=true:=by simp
 refine HK.out.mono ?_
 rintro e w3 ⟨rfl,hw3⟩
 obtain rfl:w2=w3:=hw3.symm
 go_wp2_with fail
 refine (demand_ok x z 7 _).mono ?_
 rintro e w6 ⟨rfl,hb6⟩
 have b16:Below w1.heap.size w1 w6:=b12.trans (hb6.mono b12.size)
 have hE:Hid (NxV B g n v s ws.tail w w6):=⟨A',k',c',hk1.out,hr1.below b16 hr1.lt,hw1.below (b16.mono (Nat.le_trans hB (Nat.le_of_lt hr1.lt))),grownBy.below' hg1 b16⟩
 go_wp2_with fail
 go_ret
 exact⟨rfl,hE.out⟩
theorem asmIndex_ok(B g n:Nat)(v:RVs)(s:AS)(ws:List Wd)(w:World)(h:RD B g n w s ws v)(A2:Option Addr)(n2 c2:Nat)(l:List (List UInt8))(ho:OwnS encSt 1 w B 9 A2 n2 c2 l)(hn2:n2≤100000)(hI:(indexL l (nextW n ws).1).2=0) :
  Calls Tryz.prog 161 #[.pointer (some ⟨g,0,none⟩),.slice A2 n2 c2] w fun e w'=>e=.returned (.int .i64 (((indexL l (nextW n ws).1).1:Nat):Int))∧NxV B g n v s ws.tail w w':=by
 obtain⟨x,z,hx⟩:∃ x z,nextW n ws=(x,z):=⟨_,_,rfl⟩
 rw [hx] at hI ⊢
 dsimp only at hI ⊢
 unfold indexL at hI ⊢
 cases hN:nameL x with
 | false=>rw [hN] at hI;simp at hI
 | true=>
  cases hc:l.contains x with
  | false=>rw [hN,hc] at hI;simp at hI
  | true=>
   simp only [Bool.true_eq_false,if_false]
   exact index_ok B g n v s ws w h A2 n2 c2 l ho hn2 x z hx hN hc
theorem value_num(B g n:Nat)(v:RVs)(s:AS)(x:List UInt8)(z:Nat)(t:List Wd)(w:World)(h:RD B g n w s ((x,z) :: t) v)(nn:Nat)(hv:numL x=some nn) :
  Calls Tryz.prog 160 #[.pointer (some ⟨g,0,none⟩)] w fun e w'=>e=.returned (.tuple #[.int .i64 (nn:Int),.agg #[.string (strB x),.int .i64 (z:Int)]])∧NxV B g n v s t w w':=by
 have hgl:=h.row.lt
 have hB:=h.hB
 have hlen:x.length≤9000:=(h.wm.2.2.1 (x,z) (by simp)).1
 have hkl:v.k=t.length+1:=by have:=h.wm.1;simpa using this.symm
 have rz0:=rowV.new w 214 #[.string ⟨#[]⟩,.int .i64 0]
 have hzg:w.heap.size≠g:=by omega
 have b0:=balloc (Below.refl w.heap.size w) (.cells #[.string ⟨#[]⟩,.int .i64 0] 214)
 obtain⟨w0,hw0⟩:∃ w0,w0=w.alloc (.cells #[.string ⟨#[]⟩,.int .i64 0] 214):=⟨_,rfl⟩
 rw [←hw0] at rz0 b0
 have D0:=h.below b0
 obtain⟨b,off,hA,hbl,hcell⟩:=h.wm.2.2.2 (by omega)
 obtain⟨q1,q2⟩:=hcell 0 (by omega)
 have q1':w.cell? ⟨b,off,none⟩=some (.string (strB x)):=by simpa [gW] using q1
 have c0:w.cell? ⟨g,0,none⟩=some (.slice (some ⟨b,off,none⟩) v.k v.c):=by rw [←hA];exact cell_rowV h.row rfl
 obtain⟨kk,hkk⟩:∃ kk,kk=v.k:=⟨_,rfl⟩
 rw [←hkk] at c0 hkl
 have k0:decide ((0:Int) < (kk:Int))=true:=by simp;omega
 have k0':decide (0 < kk)=true:=by simp;omega
 have k1:0 < kk:=by omega
 have k2:(1:Int)≤(kk:Int):=by omega
 have hbw:b < w.heap.size:=World.block_lt_of_cell? w _ q1'
 have HNum:Hid (Calls Tryz.prog 191 #[.string (strB x)] w0 fun e w'=>e=.returned (.tuple #[.int .i64 (nn:Int),.bool true])∧Below w0.heap.size w0 w'):=by
  show Calls _ _ _ _ _
  refine (asmNumber_any x w0 hlen D0.err).mono ?_
  rintro e w' ⟨vn,rfl,hvn,hb⟩
  rw [hvn nn hv,hv]
  exact⟨rfl,hb⟩
 have h0k:=Lib.hid h.hk
 clear q1 q2 hcell hA hv h
 go_enter Tryz.func160,Tryz.ntmps160
 go_wp2_with fail
 rw [←hw0]
 clear hw0
 refine HNum.out.mono ?_
 rintro e w1 ⟨rfl,hb1⟩
 have D1:=D0.below hb1
 have rz1:=rz0.below hb1 rz0.lt
 have G1:w.grownBy w1 (some g):=grownBy.below' (World.grownBy.refl w (some g)) (b0.trans (hb1.mono b0.size))
 have HX:Hid (Calls Tryz.prog 119 #[.pointer (some ⟨g,0,none⟩)] w1 fun e w'=>∃ A' k' c',e=.returned (.agg #[.string (strB x),.int .i64 (z:Int)])∧k'=v.k-1∧rowV w' g 174 (rdC A' k' c' n (.slice v.Aa v.na v.ca) (.int .i64 (s.ln.length:Int)) (.slice v.Ac v.nc v.cc) (.slice v.An v.nn v.cn) (.slice v.Al v.nl v.cl) (.map (some v.m)))∧WordsM B w' A' k' c' t∧w1.grownBy w' (some g)):=next_any B g v.A v.k v.c n _ _ _ _ _ _ ((x,z) :: t) w1 D1.row D1.wm D1.hk D1.hB
 clear D0 D1 HNum q1' c0
 go_wp2_with fail
 refine HX.out.mono ?_
 rintro e w2 ⟨A',k',c',rfl,hke,hr2,hw2,hg2⟩
 have hk1:Hid (k'≤9000):=by show _≤_;have:=h0k.out;omega
 have G2:=grownBy.trans' G1 hg2
 have rz6:=rz1.grown hg2 (fun e=>hzg (by injection e))
 obtain⟨y0,y1⟩:=two_cellsV rz6
 have z0:=frozen_rowV' rz6 0
 have z1:=frozen_rowV' rz6 1
 have rz7:rowV ((w2.setCell ⟨w.heap.size,0,none⟩ (.string (strB x))).setCell ⟨w.heap.size,1,none⟩ (.int .i64 (z:Int))) w.heap.size 214 #[.string (strB x),.int .i64 (z:Int)]:=(rz6.set 0 _).set 1 _
 have hE:Hid (NxV B g n v s t w ((w2.setCell ⟨w.heap.size,0,none⟩ (.string (strB x))).setCell ⟨w.heap.size,1,none⟩ (.int .i64 (z:Int)))):=
  ⟨A',k',c',hk1.out,(hr2.setFar (p:=⟨w.heap.size,0,none⟩) (Ne.symm hzg) _).setFar (p:=⟨w.heap.size,1,none⟩) (Ne.symm hzg) _,(hw2.setFar (p:=⟨w.heap.size,0,none⟩) (by show B≤w.heap.size;omega) _).setFar (p:=⟨w.heap.size,1,none⟩) (by show B≤w.heap.size;omega) _,grownBy.setNew (grownBy.setNew G2 (p:=⟨w.heap.size,0,none⟩) (Nat.le_refl _) _) (p:=⟨w.heap.size,1,none⟩) (Nat.le_refl _) _⟩
 have HZ:=Lib.hid (two_cellsV rz7)
 clear HX hke rz7 hr2 hw2 G2 rz6 rz1 rz0
 go_wp2_with fail
 obtain⟨z7,z8⟩:=HZ.out
 refine bodyPost_ret (v:=.tuple #[.int .i64 (nn:Int),.agg #[.string (strB x),.int .i64 (z:Int)]]) ?_ rfl ⟨rfl,hE.out⟩
 simp [results,Tryz.results160,go_sem,z7,z8]
theorem value_con(B g n:Nat)(v:RVs)(s:AS)(x:List UInt8)(z:Nat)(t:List Wd)(w:World)(h:RD B g n w s ((x,z) :: t) v)(nn:Nat)(hv:numL x=none)(hN:nameL x=true)(hC:conOf s x=some nn) :
  Calls Tryz.prog 160 #[.pointer (some ⟨g,0,none⟩)] w fun e w'=>e=.returned (.tuple #[.int .i64 (nn:Int),.agg #[.string (strB x),.int .i64 (z:Int)]])∧NxV B g n v s t w w':=by
 have hgl:=h.row.lt
 have hB:=h.hB
 have hlen:x.length≤9000:=(h.wm.2.2.1 (x,z) (by simp)).1
 have hkl:v.k=t.length+1:=by have:=h.wm.1;simpa using this.symm
 have rz0:=rowV.new w 214 #[.string ⟨#[]⟩,.int .i64 0]
 have hzg:w.heap.size≠g:=by omega
 have b0:=balloc (Below.refl w.heap.size w) (.cells #[.string ⟨#[]⟩,.int .i64 0] 214)
 obtain⟨w0,hw0⟩:∃ w0,w0=w.alloc (.cells #[.string ⟨#[]⟩,.int .i64 0] 214):=⟨_,rfl⟩
 rw [←hw0] at rz0 b0
 have D0:=h.below b0
 obtain⟨b,off,hA,hbl,hcell⟩:=h.wm.2.2.2 (by omega)
 obtain⟨q1,q2⟩:=hcell 0 (by omega)
 have q1':w.cell? ⟨b,off,none⟩=some (.string (strB x)):=by simpa [gW] using q1
 have c0:w.cell? ⟨g,0,none⟩=some (.slice (some ⟨b,off,none⟩) v.k v.c):=by rw [←hA];exact cell_rowV h.row rfl
 obtain⟨kk,hkk⟩:∃ kk,kk=v.k:=⟨_,rfl⟩
 rw [←hkk] at c0 hkl
 have k0:decide ((0:Int) < (kk:Int))=true:=by simp;omega
 have k0':decide (0 < kk)=true:=by simp;omega
 have k1:0 < kk:=by omega
 have k2:(1:Int)≤(kk:Int):=by omega
 have hbw:b < w.heap.size:=World.block_lt_of_cell? w _ q1'
 have HNum:Hid (Calls Tryz.prog 191 #[.string (strB x)] w0 fun e w'=>∃ vn:Int,e=.returned (.tuple #[.int .i64 vn,.bool false])∧Below w0.heap.size w0 w'):=by
  show Calls _ _ _ _ _
  refine (asmNumber_any x w0 hlen D0.err).mono ?_
  rintro e w' ⟨vn,rfl,hvn,hb⟩
  rw [hv]
  exact⟨vn,rfl,hb⟩
 have HC:=Lib.hid hC
 have HN:=Lib.hid hN
 clear q1 q2 hcell hA hv h hC hN
 go_enter Tryz.func160,Tryz.ntmps160
 go_wp2_with fail
 rw [←hw0]
 clear hw0
 refine HNum.out.mono ?_
 rintro e w1 ⟨vn,rfl,hb1⟩
 have D1:=D0.below hb1
 have rz1:=rz0.below hb1 rz0.lt
 have G1:w.grownBy w1 (some g):=grownBy.below' (World.grownBy.refl w (some g)) (b0.trans (hb1.mono b0.size))
 have H1:Hid (Calls Tryz.prog 192 #[.pointer (some ⟨g,0,none⟩)] w1 fun e w'=>e=.returned (.agg #[.string (strB x),.int .i64 (z:Int)])∧NxV B g n v s t w1 w'):=asmName_ok B g v.A v.k v.c n _ _ _ _ _ _ ((x,z) :: t) _ D1.row D1.wm D1.hk D1.hB HN.out
 clear D0 HNum q1' c0
 go_wp2_with fail
 refine H1.out.mono ?_
 rintro e w2 ⟨rfl,A',k',c',hk1',hr2,hw2,hg2⟩
 have hk1:=Lib.hid hk1'
 have D2:=D1.next' (ws':=t) (by simp) hk1' hr2 hw2 hg2
 have G2:=grownBy.trans' G1 hg2
 have rz2:=rz1.grown hg2 (fun e=>hzg (by injection e))
 have r3:=rowV.new w2 214 #[.string (strB x),.int .i64 (z:Int)]
 have hl3:=r3.lt
 have b23:Below w2.heap.size w2 (w2.alloc (.cells #[.string (strB x),.int .i64 (z:Int)] 214)):=balloc (Below.refl _ _) _
 obtain⟨w3,hw3⟩:∃ w3,w3=w2.alloc (.cells #[.string (strB x),.int .i64 (z:Int)] 214):=⟨_,rfl⟩
 rw [←hw3] at r3 hl3 b23
 obtain⟨a0,a1⟩:=two_cellsV r3
 have D3:=D2.below b23
 have c7:w3.cell? ⟨g,7,none⟩=some (.map (some v.m)):=cell_rowV D3.row rfl
 have hlk:∀ q,(Instr.lookup 172 (.map (some v.m)) (.string (strB x)) true).run Tryz.prog (w3.drewN q)=.ok (.tuple #[.int .i64 (nn:Int),.bool true]) (w3.drewN q):=fun q=>by
  have:=MapIs.run_getok D3.mp 172 uS uMc uInt zInt x (by simp [maxLen];omega) q
  have hcf:conF s x=some (nn:Int):=by unfold conF;rw [HC.out];rfl
  rw [hcf] at this
  exact this
 clear D1 D2 D3 H1 hk1' rz1 rz0
 go_wp2_with fail
 rw [←hw3]
 clear hw3
 go_quiet (fail)
 go_wp2_with fail
 refine (demand_ok x z 7 _).mono ?_
 rintro e w6 ⟨rfl,hb6⟩
 have b26:Below w2.heap.size w2 w6:=(bdrew b23 nq).trans (hb6.mono (bdrew b23 nq).size)
 have r6:=(r3.below (w':=w3.drewN nq) ((Drawn.drewN _ _).below _) hl3).below hb6 (r3.below (w':=w3.drewN nq) ((Drawn.drewN _ _).below _) hl3).lt
 obtain⟨f0,f1⟩:=two_cellsV r6
 have rz6:=rz2.below b26 rz2.lt
 obtain⟨y0,y1⟩:=two_cellsV rz6
 have z0:=frozen_rowV' rz6 0
 have z1:=frozen_rowV' rz6 1
 have G6:w.grownBy w6 (some g):=grownBy.below' G2 b26
 have hr6:=hr2.below b26 hr2.lt
 have hw6:=hw2.below (b26.mono (Nat.le_trans hB (Nat.le_of_lt hr2.lt)))
 have hE:Hid (∀ q,rowV (((w6.drewN q).setCell ⟨w.heap.size,0,none⟩ (.string (strB x))).setCell ⟨w.heap.size,1,none⟩ (.int .i64 (z:Int))) w.heap.size 214 #[.string (strB x),.int .i64 (z:Int)]∧NxV B g n v s t w (((w6.drewN q).setCell ⟨w.heap.size,0,none⟩ (.string (strB x))).setCell ⟨w.heap.size,1,none⟩ (.int .i64 (z:Int)))):=fun q=>
  ⟨((rz6.below (w':=w6.drewN q) ((Drawn.drewN _ _).below _) rz6.lt).set 0 _).set 1 _,A',k',c',hk1.out,((hr6.below (w':=w6.drewN q) ((Drawn.drewN _ _).below _) hr6.lt).setFar (p:=⟨w.heap.size,0,none⟩) (Ne.symm hzg) _).setFar (p:=⟨w.heap.size,1,none⟩) (Ne.symm hzg) _,((hw6.below ((Drawn.drewN w6 q).below _)).setFar (p:=⟨w.heap.size,0,none⟩) (by show B≤w.heap.size;omega) _).setFar (p:=⟨w.heap.size,1,none⟩) (by show B≤w.heap.size;omega) _,grownBy.setNew (grownBy.setNew (grownBy.drewN' G6 q) (p:=⟨w.heap.size,0,none⟩) (Nat.le_refl _) _) (p:=⟨w.heap.size,1,none⟩) (Nat.le_refl _) _⟩
 clear hr6 hw6 G6 rz6 r6 rz2 hr2 hw2 G2 c7 hlk
 go_wp2_with fail
 refine wp_region_quiet_tail 3 (by kernel_rfl) (by kernel_rfl) ?_
 simp only [List.take_succ_cons,List.take_zero,List.drop_succ_cons,List.drop_zero]
 repeat (go_big_quiet_step (fail))
 refine wpQuiet_nil ?_
 intro _ hw'
 obtain⟨nr,hw''⟩:=hw'
 subst hw''
 go_wp2_with fail
 obtain⟨rz7,hE7⟩:=hE.out nr
 obtain⟨z7,z8⟩:=two_cellsV rz7
 refine bodyPost_ret (v:=.tuple #[.int .i64 (nn:Int),.agg #[.string (strB x),.int .i64 (z:Int)]]) ?_ rfl ⟨rfl,hE7⟩
 simp [results,Tryz.results160,go_sem,z7,z8]
theorem value_bad7(B g n:Nat)(v:RVs)(s:AS)(x:List UInt8)(z:Nat)(t:List Wd)(w:World)(h:RD B g n w s ((x,z) :: t) v)(hv:numL x=none)(hN:nameL x=true)(hC:conOf s x=none) :
  Calls Tryz.prog 160 #[.pointer (some ⟨g,0,none⟩)] w fun e w'=>FailsB B w z 7 e w':=by
 have hgl:=h.row.lt
 have hB:=h.hB
 have hlen:x.length≤9000:=(h.wm.2.2.1 (x,z) (by simp)).1
 have hkl:v.k=t.length+1:=by have:=h.wm.1;simpa using this.symm
 have rz0:=rowV.new w 214 #[.string ⟨#[]⟩,.int .i64 0]
 have hzg:w.heap.size≠g:=by omega
 have b0:=balloc (Below.refl w.heap.size w) (.cells #[.string ⟨#[]⟩,.int .i64 0] 214)
 obtain⟨w0,hw0⟩:∃ w0,w0=w.alloc (.cells #[.string ⟨#[]⟩,.int .i64 0] 214):=⟨_,rfl⟩
 rw [←hw0] at rz0 b0
 have D0:=h.below b0
 obtain⟨b,off,hA,hbl,hcell⟩:=h.wm.2.2.2 (by omega)
 obtain⟨q1,q2⟩:=hcell 0 (by omega)
 have q1':w.cell? ⟨b,off,none⟩=some (.string (strB x)):=by simpa [gW] using q1
 have c0:w.cell? ⟨g,0,none⟩=some (.slice (some ⟨b,off,none⟩) v.k v.c):=by rw [←hA];exact cell_rowV h.row rfl
 obtain⟨kk,hkk⟩:∃ kk,kk=v.k:=⟨_,rfl⟩
 rw [←hkk] at c0 hkl
 have k0:decide ((0:Int) < (kk:Int))=true:=by simp;omega
 have k0':decide (0 < kk)=true:=by simp;omega
 have k1:0 < kk:=by omega
 have k2:(1:Int)≤(kk:Int):=by omega
 have hbw:b < w.heap.size:=World.block_lt_of_cell? w _ q1'
 have HNum:Hid (Calls Tryz.prog 191 #[.string (strB x)] w0 fun e w'=>∃ vn:Int,e=.returned (.tuple #[.int .i64 vn,.bool false])∧Below w0.heap.size w0 w'):=by
  show Calls _ _ _ _ _
  refine (asmNumber_any x w0 hlen D0.err).mono ?_
  rintro e w' ⟨vn,rfl,hvn,hb⟩
  rw [hv]
  exact⟨vn,rfl,hb⟩
 have HC:=Lib.hid hC
 have HN:=Lib.hid hN
 clear q1 q2 hcell hA hv h hC hN
 go_enter Tryz.func160,Tryz.ntmps160
 go_wp2_with fail
 rw [←hw0]
 clear hw0
 refine HNum.out.mono ?_
 rintro e w1 ⟨vn,rfl,hb1⟩
 have D1:=D0.below hb1
 have rz1:=rz0.below hb1 rz0.lt
 have G1:w.grownBy w1 (some g):=grownBy.below' (World.grownBy.refl w (some g)) (b0.trans (hb1.mono b0.size))
 have H1:Hid (Calls Tryz.prog 192 #[.pointer (some ⟨g,0,none⟩)] w1 fun e w'=>e=.returned (.agg #[.string (strB x),.int .i64 (z:Int)])∧NxV B g n v s t w1 w'):=asmName_ok B g v.A v.k v.c n _ _ _ _ _ _ ((x,z) :: t) _ D1.row D1.wm D1.hk D1.hB HN.out
 clear D0 HNum q1' c0
 go_wp2_with fail
 refine H1.out.mono ?_
 rintro e w2 ⟨rfl,A',k',c',hk1',hr2,hw2,hg2⟩
 have hk1:=Lib.hid hk1'
 have D2:=D1.next' (ws':=t) (by simp) hk1' hr2 hw2 hg2
 have G2:=grownBy.trans' G1 hg2
 have rz2:=rz1.grown hg2 (fun e=>hzg (by injection e))
 have r3:=rowV.new w2 214 #[.string (strB x),.int .i64 (z:Int)]
 have hl3:=r3.lt
 have b23:Below w2.heap.size w2 (w2.alloc (.cells #[.string (strB x),.int .i64 (z:Int)] 214)):=balloc (Below.refl _ _) _
 obtain⟨w3,hw3⟩:∃ w3,w3=w2.alloc (.cells #[.string (strB x),.int .i64 (z:Int)] 214):=⟨_,rfl⟩
 rw [←hw3] at r3 hl3 b23
 obtain⟨a0,a1⟩:=two_cellsV r3
 have D3:=D2.below b23
 have c7:w3.cell? ⟨g,7,none⟩=some (.map (some v.m)):=cell_rowV D3.row rfl
 have hlk:∀ q,(Instr.lookup 172 (.map (some v.m)) (.string (strB x)) true).run Tryz.prog (w3.drewN q)=.ok (.tuple #[.int .i64 0,.bool false]) (w3.drewN q):=fun q=>by
  have:=MapIs.run_getok D3.mp 172 uS uMc uInt zInt x (by simp [maxLen];omega) q
  have hcf:conF s x=none:=by unfold conF;rw [HC.out];rfl
  rw [hcf] at this
  exact this
 clear D1 D2 D3 H1 hk1' rz1 rz0
 go_wp2_with fail
 rw [←hw3]
 clear hw3
 go_quiet (fail)
 go_wp2_with fail
 refine (demand_bad x z 7 _).mono ?_
 rintro e w6 ⟨rfl,hb6⟩
 have b26:Below w2.heap.size w2 w6:=(bdrew b23 nq).trans (hb6.mono (bdrew b23 nq).size)
 have hE:=Lib.hid (Below.ofGrown (grownBy.below' G2 b26) hB (Nat.le_trans hB (Nat.le_of_lt hgl)))
 go_wp2_with fail
 exact⟨rfl,rfl,hE.out⟩
theorem value_bad4(B g n:Nat)(v:RVs)(s:AS)(x:List UInt8)(z:Nat)(t:List Wd)(w:World)(h:RD B g n w s ((x,z) :: t) v)(hv:numL x=none)(hN:nameL x=false) :
  Calls Tryz.prog 160 #[.pointer (some ⟨g,0,none⟩)] w fun e w'=>FailsB B w z 4 e w':=by
 have hgl:=h.row.lt
 have hB:=h.hB
 have hlen:x.length≤9000:=(h.wm.2.2.1 (x,z) (by simp)).1
 have hkl:v.k=t.length+1:=by have:=h.wm.1;simpa using this.symm
 have rz0:=rowV.new w 214 #[.string ⟨#[]⟩,.int .i64 0]
 have hzg:w.heap.size≠g:=by omega
 have b0:=balloc (Below.refl w.heap.size w) (.cells #[.string ⟨#[]⟩,.int .i64 0] 214)
 obtain⟨w0,hw0⟩:∃ w0,w0=w.alloc (.cells #[.string ⟨#[]⟩,.int .i64 0] 214):=⟨_,rfl⟩
 rw [←hw0] at rz0 b0
 have D0:=h.below b0
 obtain⟨b,off,hA,hbl,hcell⟩:=h.wm.2.2.2 (by omega)
 obtain⟨q1,q2⟩:=hcell 0 (by omega)
 have q1':w.cell? ⟨b,off,none⟩=some (.string (strB x)):=by simpa [gW] using q1
 have c0:w.cell? ⟨g,0,none⟩=some (.slice (some ⟨b,off,none⟩) v.k v.c):=by rw [←hA];exact cell_rowV h.row rfl
 obtain⟨kk,hkk⟩:∃ kk,kk=v.k:=⟨_,rfl⟩
 rw [←hkk] at c0 hkl
 have k0:decide ((0:Int) < (kk:Int))=true:=by simp;omega
 have k0':decide (0 < kk)=true:=by simp;omega
 have k1:0 < kk:=by omega
 have k2:(1:Int)≤(kk:Int):=by omega
 have hbw:b < w.heap.size:=World.block_lt_of_cell? w _ q1'
 have HNum:Hid (Calls Tryz.prog 191 #[.string (strB x)] w0 fun e w'=>∃ vn:Int,e=.returned (.tuple #[.int .i64 vn,.bool false])∧Below w0.heap.size w0 w'):=by
  show Calls _ _ _ _ _
  refine (asmNumber_any x w0 hlen D0.err).mono ?_
  rintro e w' ⟨vn,rfl,hvn,hb⟩
  rw [hv]
  exact⟨vn,rfl,hb⟩
 have HN:=Lib.hid hN
 clear q1 q2 hcell hA hv h hN
 go_enter Tryz.func160,Tryz.ntmps160
 go_wp2_with fail
 rw [←hw0]
 clear hw0
 refine HNum.out.mono ?_
 rintro e w1 ⟨vn,rfl,hb1⟩
 have D1:=D0.below hb1
 have rz1:=rz0.below hb1 rz0.lt
 have G1:w.grownBy w1 (some g):=grownBy.below' (World.grownBy.refl w (some g)) (b0.trans (hb1.mono b0.size))
 have H1:Hid (Calls Tryz.prog 192 #[.pointer (some ⟨g,0,none⟩)] w1 fun e w'=>FailsB B w1 z 4 e w'):=asmName_bad B g v.A v.k v.c n _ _ _ _ _ _ ((x,z) :: t) _ D1.row D1.wm D1.hk D1.hB HN.out
 have hE0:=Lib.hid (Below.ofGrown G1 hB (Nat.le_trans hB (Nat.le_of_lt hgl)))
 clear D0 D1 HNum q1' c0
 go_wp2_with fail
 refine H1.out.mono ?_
 rintro e w2 ⟨rfl,hb2⟩
 have hE:=Lib.hid (hE0.out.trans hb2)
 go_wp2_with fail
 exact⟨rfl,rfl,hE.out⟩
theorem value_bad0(B g n:Nat)(v:RVs)(s:AS)(w:World)(h:RD B g n w s [] v) :
  Calls Tryz.prog 160 #[.pointer (some ⟨g,0,none⟩)] w fun e w'=>FailsB B w n 4 e w':=by
 have hgl:=h.row.lt
 have hB:=h.hB
 have hkl:v.k=0:=by have:=h.wm.1;simpa using this.symm
 have b0:=balloc (Below.refl w.heap.size w) (.cells #[.string ⟨#[]⟩,.int .i64 0] 214)
 obtain⟨w0,hw0⟩:∃ w0,w0=w.alloc (.cells #[.string ⟨#[]⟩,.int .i64 0] 214):=⟨_,rfl⟩
 rw [←hw0] at b0
 have D0:=h.below b0
 have c0:w.cell? ⟨g,0,none⟩=some (.slice v.A 0 v.c):=by
  have:=cell_rowV h.row (j:=0) (v:=.slice v.A v.k v.c) rfl
  rwa [hkl] at this
 have H1:Hid (Calls Tryz.prog 192 #[.pointer (some ⟨g,0,none⟩)] w0 fun e w'=>FailsB B w0 n 4 e w'):=asmName_bad B g v.A v.k v.c n _ _ _ _ _ _ [] _ D0.row D0.wm D0.hk D0.hB nameL_nil
 have hE0:Hid (Below B w w0):=b0.mono (by omega)
 clear h D0 b0 hkl
 go_enter Tryz.func160,Tryz.ntmps160
 go_wp2_with fail
 rw [←hw0]
 clear hw0
 refine H1.out.mono ?_
 rintro e w2 ⟨rfl,hb2⟩
 have hE:=Lib.hid (hE0.out.trans hb2)
 go_wp2_with fail
 exact⟨rfl,rfl,hE.out⟩
theorem asmValue_ok(B g n:Nat)(v:RVs)(s:AS)(ws:List Wd)(w:World)(h:RD B g n w s ws v)(hV:(valueL s (nextW n ws).1).2=0) :
  Calls Tryz.prog 160 #[.pointer (some ⟨g,0,none⟩)] w fun e w'=>e=.returned (.tuple #[.int .i64 (((valueL s (nextW n ws).1).1:Nat):Int),.agg #[.string (strB (nextW n ws).1),.int .i64 ((nextW n ws).2:Int)]])∧NxV B g n v s ws.tail w w':=by
 rcases ws with _ | ⟨⟨x,z⟩,t⟩
 ·exact absurd hV (by show ¬ (4:Int)=0;decide)
 ·have hV':(valueL s x).2=0:=hV
  show Calls _ _ _ _ fun e w'=>e=.returned (.tuple #[.int .i64 (((valueL s x).1:Nat):Int),.agg #[.string (strB x),.int .i64 (z:Int)]])∧NxV B g n v s t w w'
  unfold valueL at hV' ⊢
  cases hn:numL x with
  | some nn=>exact value_num B g n v s x z t w h nn hn
  | none=>
   rw [hn] at hV'
   dsimp only at hV' ⊢
   cases hN:nameL x with
   | false=>rw [hN] at hV';simp at hV'
   | true=>
    rw [hN] at hV'
    simp only [Bool.true_eq_false,if_false] at hV' ⊢
    cases hC:conOf s x with
    | none=>rw [hC] at hV';simp at hV'
    | some nn=>exact value_con B g n v s x z t w h nn hn hN hC
theorem asmValue_bad(B g n:Nat)(v:RVs)(s:AS)(ws:List Wd)(w:World)(h:RD B g n w s ws v)(hV:(valueL s (nextW n ws).1).2≠0) :
  Calls Tryz.prog 160 #[.pointer (some ⟨g,0,none⟩)] w fun e w'=>FailsB B w ((nextW n ws).2:Int) (valueL s (nextW n ws).1).2 e w':=by
 rcases ws with _ | ⟨⟨x,z⟩,t⟩
 ·exact value_bad0 B g n v s w h
 ·have hV':(valueL s x).2≠0:=hV
  show Calls _ _ _ _ fun e w'=>FailsB B w (z:Int) (valueL s x).2 e w'
  unfold valueL at hV' ⊢
  cases hn:numL x with
  | some nn=>rw [hn] at hV';simp at hV'
  | none=>
   rw [hn] at hV'
   dsimp only at hV' ⊢
   cases hN:nameL x with
   | false=>simp only [if_true];exact value_bad4 B g n v s x z t w h hn hN
   | true=>
    rw [hN] at hV'
    simp only [Bool.true_eq_false,if_false] at hV' ⊢
    cases hC:conOf s x with
    | none=>exact value_bad7 B g n v s x z t w h hn hN hC
    | some nn=>rw [hC] at hV';simp at hV'
end Go.Proofs.YtpaplehcafeeaaaGreatDoor
namespace Go.Proofs.YtpaplehcafeeaaaGreatDoor
open Go.RowKit Go.Proofs
structure RC (B g n:Nat) (w:World) (arrs:List Arr) (L:Int) (an ln:List (List UInt8)) (code:List Ins) (f:List UInt8→Option Int) (N:Nat) (ws:List Wd) (v:RVs):Prop where
 row:rowV w g 174 (rdC v.A v.k v.c n (.slice v.Aa v.na v.ca) (.int .i64 L) (.slice v.Ac v.nc v.cc) (.slice v.An v.nn v.cn) (.slice v.Al v.nl v.cl) (.map (some v.m)))
 wm:WordsM B w v.A v.k v.c ws
 hk:v.k≤9000
 hB:B≤g
 hm:B≤v.m
 oa:OwnS encAr 2 w B 65 v.Aa v.na v.ca arrs
 oc:OwnS encIn 2 w B 44 v.Ac v.nc v.cc code
 on:OwnS encSt 1 w B 9 v.An v.nn v.cn an
 ol:OwnS encSt 1 w B 9 v.Al v.nl v.cl ln
 ne:∀ b,(Value.slice v.An v.nn v.cn).ownBlock=some b→some b≠(Value.slice v.Al v.nl v.cl).ownBlock
 mp:MapIs Tryz.prog 9 3 .i64 w v.m N f
 err:ErrR w
 hE:2 < B
 dcl:DeclM w (g+2) (g+1) g
 hdm:g+2≠v.m
section
variable {B g n : Nat} {w X : World} {arrs : List Arr} {L : Int} {an ln : List (List UInt8)} {code : List Ins} {f : List UInt8 → Option Int} {N : Nat} {ws : List Wd} {v : RVs} {s : AS}
theorem RD.toRC(h:RD B g n w s ws v):RC B g n w s.arrs s.ln.length s.an s.ln s.code (conF s) s.cn.length ws v:=⟨h.row,h.wm,h.hk,h.hB,h.hm,h.oa,h.oc,h.on,h.ol,h.ne,h.mp,h.err,h.hE,h.dcl,h.hdm⟩
theorem RC.toRD(h:RC B g n w s.arrs s.ln.length s.an s.ln s.code (conF s) s.cn.length ws v)(hf:s.cn.length+ws.length≤9000)(fm:Formed s):RD B g n w s ws v:=⟨h.row,h.wm,h.hk,h.hB,h.hm,h.oa,h.oc,h.on,h.ol,h.ne,h.mp,hf,h.err,h.hE,fm,h.dcl,h.hdm⟩
theorem RC.below(h:RC B g n w arrs L an ln code f N ws v)(hb:Below w.heap.size w X):RC B g n X arrs L an ln code f N ws v:=
 ⟨h.row.below hb h.row.lt,h.wm.below (hb.mono (Nat.le_trans h.hB (Nat.le_of_lt h.row.lt))),h.hk,h.hB,h.hm,h.oa.below hb,h.oc.below hb,h.on.below hb,h.ol.below hb,h.ne,h.mp.below hb,h.err.below hb,h.hE,h.dcl.below hb,h.hdm⟩
theorem RC.le(h:RC B g n w arrs L an ln code f N ws v):B≤w.heap.size:=Nat.le_trans h.hB (Nat.le_of_lt h.row.lt)
theorem RC.m_ne(h:RC B g n w arrs L an ln code f N ws v):v.m≠g:=fun e=>by
 obtain⟨o,ho,hc⟩:=h.mp.isMap
 have:=h.row
 unfold rowV at this
 rw [e,this] at ho
 injection ho with ho
 rw [←ho] at hc
 cases hc
theorem Below.setG{B g j:Nat}{w:World}(hB:B≤g)(u:Value):Below B w (w.setCell ⟨g,j,none⟩ u):=⟨rfl,rfl,rfl,by simp [World.setCell],fun k hk=>Below.heap_setCell w ⟨g,j,none⟩ u k (by show k≠g;omega)⟩
theorem RC.push_arrs(h:RC B g n w arrs L an ln code f N ws v){A2:Option Addr}{c2:Nat}{y:Arr}(ho:OwnS encAr 2 X B 65 A2 (v.na+1) c2 (arrs++[y]))(hb:Below B w X)(hg:w.grownBy X (Value.slice v.Aa v.na v.ca).ownBlock)
  (hf:∀ b,(Value.slice A2 (v.na+1) c2).ownBlock=some b→(Value.slice v.Aa v.na v.ca).ownBlock=some b∨w.heap.size≤b) :
  RC B g n (X.setCell ⟨g,2,none⟩ (.slice A2 (v.na+1) c2)) (arrs++[y]) L an ln code f N ws { v with Aa:=A2,na:=v.na+1,ca:=c2 }:=by
 have hne:=h.oa.ne_row h.row (by decide)
 have rX:=h.row.grown hg (fun e=>hne _ e.symm rfl)
 have g2:X.grownBy (X.setCell ⟨g,2,none⟩ (.slice A2 (v.na+1) c2)) (some g):=grownBy.setCell' (World.grownBy.refl X (some g)) _
 have oc1:=h.oc.grown hg (fun b hb=>h.oc.ne_own h.oa (by decide) b hb)
 have on1:=h.on.grown hg (fun b hb=>h.on.ne_own h.oa (by decide) b hb)
 have ol1:=h.ol.grown hg (fun b hb=>h.ol.ne_own h.oa (by decide) b hb)
 obtain⟨om,hom,hmc⟩:=h.mp.isMap
 have mp1:=h.mp.same (hg.block _ h.mp.lt (fun e=>h.oa.ne_map hom hmc _ e.symm rfl))
 have mp2:MapIs Tryz.prog 9 3 .i64 (X.setCell ⟨g,2,none⟩ (.slice A2 (v.na+1) c2)) v.m N f:=mp1.same (Below.heap_setCell X ⟨g,2,none⟩ _ v.m h.m_ne)
 have hbs:=Below.setG (w:=X) (j:=2) h.hB (.slice A2 (v.na+1) c2)
 have er1:=h.err.grown hg (fun b hb=>Nat.lt_of_lt_of_le h.hE (h.oa.blk hb).2.1)
 have dn:=h.dcl.ne_own h.oa (by decide)
 have dc1:=h.dcl.grown hg dn.1 dn.2
 exact⟨rX.set 2 _,(h.wm.below hb).below hbs,h.hk,h.hB,h.hm,ho.grown g2 (ho.ne_row rX (by decide)),oc1.grown g2 (oc1.ne_row rX (by decide)),on1.grown g2 (on1.ne_row rX (by decide)),ol1.grown g2 (ol1.ne_row rX (by decide)),h.ne,mp2,er1.grown g2 (fun b hb=>by injection hb with hb;rw [←hb];exact Nat.lt_of_lt_of_le h.hE h.hB),h.hE,dc1.setRow rX (by decide) _,h.hdm⟩
theorem RC.push_code(h:RC B g n w arrs L an ln code f N ws v){A2:Option Addr}{c2:Nat}{y:Ins}(ho:OwnS encIn 2 X B 44 A2 (v.nc+1) c2 (code++[y]))(hb:Below B w X)(hg:w.grownBy X (Value.slice v.Ac v.nc v.cc).ownBlock)
  (hf:∀ b,(Value.slice A2 (v.nc+1) c2).ownBlock=some b→(Value.slice v.Ac v.nc v.cc).ownBlock=some b∨w.heap.size≤b) :
  RC B g n (X.setCell ⟨g,4,none⟩ (.slice A2 (v.nc+1) c2)) arrs L an ln (code++[y]) f N ws { v with Ac:=A2,nc:=v.nc+1,cc:=c2 }:=by
 have hne:=h.oc.ne_row h.row (by decide)
 have rX:=h.row.grown hg (fun e=>hne _ e.symm rfl)
 have g2:X.grownBy (X.setCell ⟨g,4,none⟩ (.slice A2 (v.nc+1) c2)) (some g):=grownBy.setCell' (World.grownBy.refl X (some g)) _
 have oa1:=h.oa.grown hg (fun b hb=>h.oa.ne_own h.oc (by decide) b hb)
 have on1:=h.on.grown hg (fun b hb=>h.on.ne_own h.oc (by decide) b hb)
 have ol1:=h.ol.grown hg (fun b hb=>h.ol.ne_own h.oc (by decide) b hb)
 obtain⟨om,hom,hmc⟩:=h.mp.isMap
 have mp1:=h.mp.same (hg.block _ h.mp.lt (fun e=>h.oc.ne_map hom hmc _ e.symm rfl))
 have mp2:MapIs Tryz.prog 9 3 .i64 (X.setCell ⟨g,4,none⟩ (.slice A2 (v.nc+1) c2)) v.m N f:=mp1.same (Below.heap_setCell X ⟨g,4,none⟩ _ v.m h.m_ne)
 have hbs:=Below.setG (w:=X) (j:=4) h.hB (.slice A2 (v.nc+1) c2)
 have er1:=h.err.grown hg (fun b hb=>Nat.lt_of_lt_of_le h.hE (h.oc.blk hb).2.1)
 have dn:=h.dcl.ne_own h.oc (by decide)
 have dc1:=h.dcl.grown hg dn.1 dn.2
 exact⟨rX.set 4 _,(h.wm.below hb).below hbs,h.hk,h.hB,h.hm,oa1.grown g2 (oa1.ne_row rX (by decide)),ho.grown g2 (ho.ne_row rX (by decide)),on1.grown g2 (on1.ne_row rX (by decide)),ol1.grown g2 (ol1.ne_row rX (by decide)),h.ne,mp2,er1.grown g2 (fun b hb=>by injection hb with hb;rw [←hb];exact Nat.lt_of_lt_of_le h.hE h.hB),h.hE,dc1.setRow rX (by decide) _,h.hdm⟩
theorem RC.push_an(h:RC B g n w arrs L an ln code f N ws v){A2:Option Addr}{c2:Nat}{y:List UInt8}(ho:OwnS encSt 1 X B 9 A2 (v.nn+1) c2 (an++[y]))(hb:Below B w X)(hg:w.grownBy X (Value.slice v.An v.nn v.cn).ownBlock)
  (hf:∀ b,(Value.slice A2 (v.nn+1) c2).ownBlock=some b→(Value.slice v.An v.nn v.cn).ownBlock=some b∨w.heap.size≤b) :
  RC B g n (X.setCell ⟨g,5,none⟩ (.slice A2 (v.nn+1) c2)) arrs L (an++[y]) ln code f N ws { v with An:=A2,nn:=v.nn+1,cn:=c2 }:=by
 have hne:=h.on.ne_row h.row (by decide)
 have rX:=h.row.grown hg (fun e=>hne _ e.symm rfl)
 have g2:X.grownBy (X.setCell ⟨g,5,none⟩ (.slice A2 (v.nn+1) c2)) (some g):=grownBy.setCell' (World.grownBy.refl X (some g)) _
 have oa1:=h.oa.grown hg (fun b hb=>h.oa.ne_own h.on (by decide) b hb)
 have oc1:=h.oc.grown hg (fun b hb=>h.oc.ne_own h.on (by decide) b hb)
 have ol1:=h.ol.grown hg (fun b hb e=>h.ne b e.symm hb.symm)
 obtain⟨om,hom,hmc⟩:=h.mp.isMap
 have mp1:=h.mp.same (hg.block _ h.mp.lt (fun e=>h.on.ne_map hom hmc _ e.symm rfl))
 have mp2:MapIs Tryz.prog 9 3 .i64 (X.setCell ⟨g,5,none⟩ (.slice A2 (v.nn+1) c2)) v.m N f:=mp1.same (Below.heap_setCell X ⟨g,5,none⟩ _ v.m h.m_ne)
 have hbs:=Below.setG (w:=X) (j:=5) h.hB (.slice A2 (v.nn+1) c2)
 have er1:=h.err.grown hg (fun b hb=>Nat.lt_of_lt_of_le h.hE (h.on.blk hb).2.1)
 have dn:=h.dcl.ne_own h.on (by decide)
 have dc1:=h.dcl.grown hg dn.1 dn.2
 exact⟨rX.set 5 _,(h.wm.below hb).below hbs,h.hk,h.hB,h.hm,oa1.grown g2 (oa1.ne_row rX (by decide)),oc1.grown g2 (oc1.ne_row rX (by decide)),ho.grown g2 (ho.ne_row rX (by decide)),ol1.grown g2 (ol1.ne_row rX (by decide)),(fun b hb=>by
  rcases hf b hb with h1 | h1
  ·exact h.ne b h1
  ·intro e
   have:=(h.ol.blk e.symm).1
   omega),mp2,er1.grown g2 (fun b hb=>by injection hb with hb;rw [←hb];exact Nat.lt_of_lt_of_le h.hE h.hB),h.hE,dc1.setRow rX (by decide) _,h.hdm⟩
theorem RC.push_ln(h:RC B g n w arrs L an ln code f N ws v){A2:Option Addr}{c2:Nat}{y:List UInt8}(ho:OwnS encSt 1 X B 9 A2 (v.nl+1) c2 (ln++[y]))(hb:Below B w X)(hg:w.grownBy X (Value.slice v.Al v.nl v.cl).ownBlock)
  (hf:∀ b,(Value.slice A2 (v.nl+1) c2).ownBlock=some b→(Value.slice v.Al v.nl v.cl).ownBlock=some b∨w.heap.size≤b) :
  RC B g n (X.setCell ⟨g,6,none⟩ (.slice A2 (v.nl+1) c2)) arrs L an (ln++[y]) code f N ws { v with Al:=A2,nl:=v.nl+1,cl:=c2 }:=by
 have hne:=h.ol.ne_row h.row (by decide)
 have rX:=h.row.grown hg (fun e=>hne _ e.symm rfl)
 have g2:X.grownBy (X.setCell ⟨g,6,none⟩ (.slice A2 (v.nl+1) c2)) (some g):=grownBy.setCell' (World.grownBy.refl X (some g)) _
 have oa1:=h.oa.grown hg (fun b hb=>h.oa.ne_own h.ol (by decide) b hb)
 have oc1:=h.oc.grown hg (fun b hb=>h.oc.ne_own h.ol (by decide) b hb)
 have on1:=h.on.grown hg (fun b hb=>h.ne b hb)
 obtain⟨om,hom,hmc⟩:=h.mp.isMap
 have mp1:=h.mp.same (hg.block _ h.mp.lt (fun e=>h.ol.ne_map hom hmc _ e.symm rfl))
 have mp2:MapIs Tryz.prog 9 3 .i64 (X.setCell ⟨g,6,none⟩ (.slice A2 (v.nl+1) c2)) v.m N f:=mp1.same (Below.heap_setCell X ⟨g,6,none⟩ _ v.m h.m_ne)
 have hbs:=Below.setG (w:=X) (j:=6) h.hB (.slice A2 (v.nl+1) c2)
 have er1:=h.err.grown hg (fun b hb=>Nat.lt_of_lt_of_le h.hE (h.ol.blk hb).2.1)
 have dn:=h.dcl.ne_own h.ol (by decide)
 have dc1:=h.dcl.grown hg dn.1 dn.2
 exact⟨rX.set 6 _,(h.wm.below hb).below hbs,h.hk,h.hB,h.hm,oa1.grown g2 (oa1.ne_row rX (by decide)),oc1.grown g2 (oc1.ne_row rX (by decide)),on1.grown g2 (on1.ne_row rX (by decide)),ho.grown g2 (ho.ne_row rX (by decide)),(fun b hb e=>by
  rcases hf b e.symm with h1 | h1
  ·exact h.ne b hb h1.symm
  ·have:=(h.on.blk hb).1
   omega),mp2,er1.grown g2 (fun b hb=>by injection hb with hb;rw [←hb];exact Nat.lt_of_lt_of_le h.hE h.hB),h.hE,dc1.setRow rX (by decide) _,h.hdm⟩
theorem RC.setL(h:RC B g n w arrs L an ln code f N ws v)(L':Int):RC B g n (w.setCell ⟨g,3,none⟩ (.int .i64 L')) arrs L' an ln code f N ws v:=by
 have g2:w.grownBy (w.setCell ⟨g,3,none⟩ (.int .i64 L')) (some g):=grownBy.setCell' (World.grownBy.refl w (some g)) _
 have hbs:=Below.setG (w:=w) (j:=3) h.hB (.int .i64 L')
 exact⟨h.row.set 3 _,h.wm.below hbs,h.hk,h.hB,h.hm,h.oa.grown g2 (h.oa.ne_row h.row (by decide)),h.oc.grown g2 (h.oc.ne_row h.row (by decide)),h.on.grown g2 (h.on.ne_row h.row (by decide)),h.ol.grown g2 (h.ol.ne_row h.row (by decide)),h.ne,h.mp.same (Below.heap_setCell w ⟨g,3,none⟩ _ v.m h.m_ne),h.err.grown g2 (fun b hb=>by injection hb with hb;rw [←hb];exact Nat.lt_of_lt_of_le h.hE h.hB),h.hE,h.dcl.setRow h.row (by decide) _,h.hdm⟩
end
def DoesL(B g n:Nat)(w:World)(r:AR)(e:Ending)(w':World):Prop:=match r with
 | .bad a er=>FailsB B w a er e w'
 | .ok s ws=>e=.returned (.tuple #[])∧Below B w w'∧∃ v,RD B g n w' s ws v
end Go.Proofs.YtpaplehcafeeaaaGreatDoor
namespace Go.Proofs.YtpaplehcafeeaaaGreatDoor
open Go.RowKit Go.Proofs
theorem step_pushT{P:Program}{α:Type}{enc:α→List Value}{sz:Nat}{w:World}{B:Nat}{e t:TypeId}{A:Option Addr}{n c:Nat}{xs:List α}{z:Value}{bytes:Nat}
 {ops:Array Oper} {o:Oper} {a:Act} {K:Act→World→Prop} {Q:Exit→Act→World→Prop} {E:Prop} (hgd:o.guard=none) (s x:Operand) (ho:o.op=.call { callee:=.builtin .append,args:=#[s,x],argTypes:=#[t,t] })
  (ht:P.underlying t=some (.slice e)) (hi:(P.info? e).map (fun i=>(i.zero,i.size,i.bytes))=some (some z,sz,bytes))
  (h1:∀ x,∀ u∈enc x,u.oneCell'=true) (hz:z.cells.size=sz) (hl:∀ x,(enc x).length=sz) (hsz:0 < sz)
  (hs:a.eval s=.slice A n c) (hown:OwnS enc sz w B e A n c xs) (hB:B≤w.heap.size) (y:α) (cs:Array Value) (hcs:(enc y).toArray=cs)
  (hx:a.eval x=.slice (some ⟨w.heap.size,0,none⟩) 1 1) (hml:n+1≤maxLen) (hby:(n+1) * bytes≤140737488355328)
  (h:∀ A2 c2 w',OwnS enc sz w' B e A2 (n+1) c2 (xs++[y])→Below B w w'→w.grownBy w' (Value.slice A n c).ownBlock→(∀ b,(Value.slice A2 (n+1) c2).ownBlock=some b→(Value.slice A n c).ownBlock=some b∨w.heap.size≤b)→K (a.put o.dst (.slice A2 (n+1) c2)) w') :
  if Region.wanted o (yielded ops a.tmps)=true then Oper.wp P o a (w.alloc (.cells cs e)) K Q else E:=by
 subst hcs
 rw [if_pos (by simp [Region.wanted,hgd])]
 obtain⟨A2,c2,w',hrun,h2,h3,h4,h5⟩:=run_append_ownS' (P:=P) o.type ht hi h1 hz hl hsz hown hB y hml hby
 unfold Oper.wp execOp
 simp only [ho,resolve,invoke,builtin,Sem.run_bind,Sem.run_pure,Result.andThen_ok,List.map_toArray,List.map_cons,List.map_nil,hs,hx,hrun]
 exact h A2 c2 w' h2 h3 h4 h5
theorem local_ok(B g n:Nat)(v:RVs)(s:AS)(ws:List Wd)(w:World)(h:RD B g n w s ws v)(hF:freshE s (nextW n ws).1=0)(hL:s.ln.length < 16) :
  Calls Tryz.prog 156 #[.pointer (some ⟨g,0,none⟩)] w fun e w'=>e=.returned (.tuple #[])∧Below B w w'∧∃ v',RD B g n w' { s with ln:=s.ln++[(nextW n ws).1] } ws.tail v':=by
 have H1:=asmFresh_ok B g n v s ws w h hF
 obtain⟨x,z,hx⟩:∃ x z,nextW n ws=(x,z):=⟨_,_,rfl⟩
 rw [hx] at H1 ⊢
 dsimp only at H1 ⊢
 have H1':=Lib.hid H1
 have hgl:=h.row.lt
 have hnl:v.nl=s.ln.length:=(h.ol.length (fun _=>rfl) (by decide)).symm
 have d16:decide ((v.nl:Int) < 16)=true:=by simp;omega
 have d16':decide (v.nl < 16)=true:=by simp;omega
 have hm:Hid (v.nl+1≤maxLen∧(v.nl+1) * 16≤140737488355328):=⟨by simp [maxLen];omega,by omega⟩
 have hnl':=Lib.hid hnl
 clear hnl
 clear H1
 go_enter Tryz.func156,Tryz.ntmps156
 go_wp2_with fail
 refine H1'.out.mono ?_
 rintro e w1 ⟨rfl,hN⟩
 obtain⟨A',k',c',D1,hg1⟩:=h.next (ws':=ws.tail) (by rw [List.length_tail];omega) hN
 have hB1:=Lib.hid (h.toBelow hg1)
 have hfew:=Lib.hid h.few
 have hfm:=Lib.hid h.fm
 clear H1' hN h
 have r2:=rowV.new w1 214 #[.string (strB x),.int .i64 (z:Int)]
 have hl2:=r2.lt
 have b12:Below w1.heap.size w1 (w1.alloc (.cells #[.string (strB x),.int .i64 (z:Int)] 214)):=balloc (Below.refl _ _) _
 obtain⟨w2,hw2⟩:∃ w2,w2=w1.alloc (.cells #[.string (strB x),.int .i64 (z:Int)] 214):=⟨_,rfl⟩
 rw [←hw2] at r2 hl2 b12
 obtain⟨a0,a1⟩:=two_cellsV r2
 have D2:=D1.below b12
 have c6:w2.cell? ⟨g,6,none⟩=some (.slice v.Al v.nl v.cl):=cell_rowV D2.row rfl
 have HD2:=Lib.hid D2
 have HB2:=Lib.hid (hB1.out.trans (b12.mono D1.le))
 clear D1 D2 b12 hg1
 go_wp2_with fail
 rw [←hw2]
 clear hw2
 refine wp_region_quiet_tail 7 (by kernel_rfl) (by kernel_rfl) ?_
 simp only [List.take_succ_cons,List.take_zero,List.drop_succ_cons,List.drop_zero]
 repeat (go_big_quiet_step (fail))
 refine wpQuiet_nil ?_
 intro _ hw'
 obtain⟨nr,hw''⟩:=hw'
 subst hw''
 go_wp2_with fail
 refine (demand_ok x z 6 _).mono ?_
 rintro e w3 ⟨rfl,hb3⟩
 have b23:Below w2.heap.size w2 w3:=(bdrew (Below.refl _ _) nr).trans (hb3.mono (Nat.le_refl _))
 have D3:=HD2.out.below b23
 have r3:=r2.below b23 hl2
 obtain⟨e0,e1⟩:=two_cellsV r3
 have d6:w3.cell? ⟨g,6,none⟩=some (.slice v.Al v.nl v.cl):=cell_rowV D3.row rfl
 have f6:=frozen_rowV' D3.row 6
 have hB3:=Lib.hid (HB2.out.trans (b23.mono HD2.out.le))
 have hg3:g < w3.heap.size:=D3.row.lt
 have hw13:w1.heap.size < w3.heap.size:=r3.lt
 have b34:Below w3.heap.size w3 w3.drew:=(Drawn.drewN w3 1).below _
 have HD4:=Lib.hid (D3.toRC.below b34)
 have HB4:=Lib.hid (hB3.out.trans (b34.mono D3.le))
 clear D3 HD2 HB2 c6 a0 a1 hb3 b23 b34 hB3
 go_wp2_with fail
 go_region_law (first | (refine step_pushT (enc:=encSt) (w:=w3.drew) rfl (.tmp 17) (.tmp 20) rfl uSt infoSt encSt_one rfl (fun _=>rfl) (by decide) rfl HD4.out.ol HD4.out.le x _ rfl rfl hm.out.1 hm.out.2 ?_;intro A8 c8 w8 ho8 hb8 hg8 hf8;have rX:=HD4.out.row.grown hg8 (fun e=>(HD4.out.ol.ne_row HD4.out.row (by decide)) _ e.symm rfl);have e86:w8.cell? ⟨g,6,none⟩=some (.slice v.Al v.nl v.cl):=cell_rowV rX rfl;have e83:w8.cell? ⟨g,3,none⟩=some (.int .i64 (s.ln.length:Int)):=cell_rowV rX rfl;have f86:=frozen_rowV' rX 6;have f83:=frozen_rowV' rX 3))
 all_goals
  have HD8:=Lib.hid (HD4.out.push_ln ho8 hb8 hg8 hf8)
  have HB8:=Lib.hid (HB4.out.trans (hb8.trans (Below.setG (w:=w8) (j:=6) HD4.out.hB (.slice A8 (v.nl+1) c8))))
  clear rX ho8 hb8 hg8 hf8 d6 f6 e0 e1
  go_wp2_with fail
  have D9:=HD8.out.setL ((s.ln.length:Int)+1)
  refine⟨rfl,_,results_none rfl _ _ _,rfl,HB8.out.trans (Below.setG HD8.out.hB _),_,RC.toRD (s:={ s with ln:=s.ln++[x] }) (v:={ v.at_ A' k' c' with Al:=A8,nl:=v.nl+1,cl:=c8 }) ?_ ?_ ?_⟩
  ·have e:(((s.ln++[x]).length:Nat):Int)=(s.ln.length:Int)+1:=by simp
   show RC _ _ _ _ _ (((s.ln++[x]).length:Nat):Int) _ _ _ _ _ _ _
   rw [e]
   exact D9
  ·have:=hfew.out
   show s.cn.length+ws.tail.length≤9000
   rw [List.length_tail];omega
  ·refine⟨hfm.out.an,hfm.out.few,hfm.out.sizes,hfm.out.cells,by simp;omega,hfm.out.code,fun i hi=>(hfm.out.ins i hi).mono (Nat.le_refl _) (by simp),hfm.out.cn⟩
end Go.Proofs.YtpaplehcafeeaaaGreatDoor
namespace Go.Proofs.YtpaplehcafeeaaaGreatDoor
open Go.RowKit Go.Proofs
section
end
end Go.Proofs.YtpaplehcafeeaaaGreatDoor
