/- Gd Ge. -/
import Derived.Test.YtpaplehcafeeaaaGreatDoorLE17
set_option maxRecDepth 100000
set_option maxHeartbeats 40000000
set_option linter.unusedVariables false
set_option linter.unusedSimpArgs false
namespace Go.Proofs.YtpaplehcafeeaaaGreatDoor
open Go.RowKit Go.Proofs
theorem array_badV(B g n:Nat)(v:RVs)(s:AS)(ws:List Wd)(w:World)(wide:Bool)(h:RD B g n w s ws v)(hF:freshE s (nextW n ws).1=0)(hL:s.an.length < 8)(hV:(valueL s (nextW n ws.tail).1).2≠0) :
  Calls Tryz.prog 154 #[.pointer (some ⟨g,0,none⟩),.bool wide] w fun e w'=>FailsB B w ((nextW n ws.tail).2:Int) (valueL s (nextW n ws.tail).1).2 e w':=by
 have H1:=asmFresh_ok B g n v s ws w h hF
 obtain⟨x,z,hx⟩:∃ x z,nextW n ws=(x,z):=⟨_,_,rfl⟩
 rw [hx] at H1
 dsimp only at H1
 have H1':=Lib.hid H1
 have hgl:=h.row.lt
 have hxl:x.length≤9000:=by have:=next_len h.wm (n:=n);rw [hx] at this;exact this
 have hnl:v.nn=s.an.length:=(h.on.length (fun _=>rfl) (by decide)).symm
 have d16:decide ((v.nn:Int) < 8)=true:=by simp;omega
 have d16':decide (v.nn < 8)=true:=by simp;omega
 have hm:Hid (v.nn+1≤maxLen∧(v.nn+1) * 16≤140737488355328):=⟨by simp [maxLen];omega,by omega⟩
 have hfew:=Lib.hid h.few
 have hfm:=Lib.hid h.fm
 have HV:=Lib.hid hV
 obtain⟨y,zy,hy⟩:∃ y zy,nextW n ws.tail=(y,zy):=⟨_,_,rfl⟩
 obtain⟨er,her⟩:∃ er,er=(valueL s (nextW n ws.tail).1).2:=⟨_,rfl⟩
 have HER:Hid (er=(valueL s (nextW n ws.tail).1).2∧nextW n ws.tail=(y,zy)):=⟨her,hy⟩
 rw [←her,hy]
 clear H1 hF hV hxl her hy hnl
 go_enter Tryz.func154,Tryz.ntmps154
 go_wp2_with fail
 refine H1'.out.mono ?_
 rintro e w1 ⟨rfl,hN⟩
 obtain⟨A',k',c',D1,hg1⟩:=h.next (ws':=ws.tail) (by rw [List.length_tail];omega) hN
 have hB1:=Lib.hid (h.toBelow hg1)
 clear H1' hN h
 have r2:=rowV.new w1 214 #[.string (strB x),.int .i64 (z:Int)]
 have hl2:=r2.lt
 have b12:Below w1.heap.size w1 (w1.alloc (.cells #[.string (strB x),.int .i64 (z:Int)] 214)):=balloc (Below.refl _ _) _
 obtain⟨w2,hw2⟩:∃ w2,w2=w1.alloc (.cells #[.string (strB x),.int .i64 (z:Int)] 214):=⟨_,rfl⟩
 rw [←hw2] at r2 hl2 b12
 obtain⟨a0,a1⟩:=two_cellsV r2
 have D2:=D1.below b12
 have HD2:=Lib.hid D2
 have HB2:=Lib.hid (hB1.out.trans (b12.mono D1.le))
 have c6:w2.cell? ⟨g,5,none⟩=some (.slice v.An v.nn v.cn):=cell_rowV D2.row rfl
 clear D1 D2 b12 hg1
 go_wp2_with fail
 rw [←hw2]
 clear hw2
 refine wp_region_quiet_tail 7 (by kernel_rfl) (by kernel_rfl) ?_
 simp only [List.take_succ_cons,List.take_zero,List.drop_succ_cons,List.drop_zero]
 repeat (go_big_quiet_step (fail))
 refine wpQuiet_nil ?_
 intro _ hw'
 obtain⟨nr,hw''⟩:=hw'
 subst hw''
 go_wp2_with fail
 refine (demand_ok x z 6 _).mono ?_
 rintro e w3 ⟨rfl,hb3⟩
 have b23:Below w2.heap.size w2 w3:=(bdrew (Below.refl _ _) nr).trans (hb3.mono (Nat.le_refl _))
 have D3:=HD2.out.below b23
 have r3:=r2.below b23 hl2
 have HB3:=Lib.hid (HB2.out.trans (b23.mono HD2.out.le))
 have hzg:w1.heap.size≠g:=by have h1:=D3.row.lt;have h2:=r3.lt;intro e;rw [e] at r3;have:=D3.row;unfold rowV at this r3;rw [this] at r3;injection r3 with r3;injection r3 with _ r3;exact absurd r3 (by decide)
 have HV2:Hid (Calls Tryz.prog 160 #[.pointer (some ⟨g,0,none⟩)] w3 fun e w'=>e=.panicked [{ v:=failV zy er,recovered:=false }]∧Below B w w'):=by
  show Calls _ _ _ _ _
  have:=asmValue_bad B g n _ s ws.tail w3 D3 HV.out
  rw [←HER.out.1,HER.out.2] at this
  refine this.mono ?_
  rintro e w' ⟨rfl,hb⟩
  exact⟨rfl,HB3.out.trans hb⟩
 clear D3 r3 b23 hb3
 go_wp2_with fail
 refine HV2.out.mono ?_
 rintro e w4 ⟨rfl,hb4⟩
 go_wp2_with fail
 exact⟨rfl,rfl,hb4⟩
theorem setCell_size(w:World)(p:Addr)(u:Value):(w.setCell p u).heap.size=w.heap.size:=by simp [World.setCell]
theorem OwnS.toArrs{w:World}{B:Nat}{A:Option Addr}{n c:Nat}{l:List Arr}(h:OwnS encAr 2 w B 65 A n c l)(hwf:∀ x∈l,(Lit.int .i64 x.size).wf=true):Arrs w A n c l:=by
 refine⟨h.length (fun _=>rfl) (by decide),h.cap,hwf,fun hn=>?_⟩
 obtain⟨b,hA,_,hlt,hc⟩:=h.get (fun _=>rfl) (by decide) (⟨false,0⟩:Arr) hn
 refine⟨b,0,hA,hlt,fun i hi=>⟨?_,?_⟩⟩
 ·have:=hc i 0 (.bool (gA l i).word) hi rfl
  simpa using this
 ·have:=hc i 1 (.int .i64 (gA l i).size) hi rfl
  simpa using this
theorem sum_take_le:∀ {l:List Arr},(∀ x∈l,1≤x.size∧x.size≤65536)→∀ k,0≤sumA (l.take k)∧sumA (l.take k)≤sumA l
 | [],_,k=>by simp [sumA]
 | x :: l,h,0=>by
  have h1:=(sum_take_le (l:=l) (fun y hy=>h y (List.mem_cons_of_mem _ hy)) l.length)
  rw [List.take_length] at h1
  have:=h x (by simp)
  simp only [List.take_zero,sumA]
  omega
 | x :: l,h,k+1=>by
  have h1:=(sum_take_le (l:=l) (fun y hy=>h y (List.mem_cons_of_mem _ hy)) k)
  have:=h x (by simp)
  rw [List.take_succ_cons,sumA,sumA]
  omega
theorem array_ok(B g n:Nat)(v:RVs)(s:AS)(ws:List Wd)(w:World)(wide:Bool)(h:RD B g n w s ws v)(hF:freshE s (nextW n ws).1=0)(hL:s.an.length < 8)(hV:(valueL s (nextW n ws.tail).1).2=0)(hR:1≤(valueL s (nextW n ws.tail).1).1∧((valueL s (nextW n ws.tail).1).1:Int)+s.cells≤65536) :
  Calls Tryz.prog 154 #[.pointer (some ⟨g,0,none⟩),.bool wide] w fun e w'=>e=.returned (.tuple #[])∧Below B w w'∧∃ v',RD B g n w' { s with arrs:=s.arrs++[⟨wide,(valueL s (nextW n ws.tail).1).1⟩],an:=s.an++[(nextW n ws).1] } ws.tail.tail v':=by
 have H1:=asmFresh_ok B g n v s ws w h hF
 obtain⟨x,z,hx⟩:∃ x z,nextW n ws=(x,z):=⟨_,_,rfl⟩
 rw [hx] at H1
 dsimp only at H1
 have H1':=Lib.hid H1
 have hgl:=h.row.lt
 have hxl:x.length≤9000:=by have:=next_len h.wm (n:=n);rw [hx] at this;exact this
 have hnl:v.nn=s.an.length:=(h.on.length (fun _=>rfl) (by decide)).symm
 have d16:decide ((v.nn:Int) < 8)=true:=by simp;omega
 have d16':decide (v.nn < 8)=true:=by simp;omega
 have hm:Hid (v.nn+1≤maxLen∧(v.nn+1) * 16≤140737488355328):=⟨by simp [maxLen];omega,by omega⟩
 have hfew:=Lib.hid h.few
 have hfm:=Lib.hid h.fm
 have HV:=Lib.hid hV
 have hvl:=valueL_lt h.fm.cn (nextW n ws.tail).1
 obtain⟨y,zy,hy⟩:∃ y zy,nextW n ws.tail=(y,zy):=⟨_,_,rfl⟩
 obtain⟨nn,hnn⟩:∃ nn,nn=(valueL s (nextW n ws.tail).1).1:=⟨_,rfl⟩
 have HER:Hid (nn=(valueL s (nextW n ws.tail).1).1∧nextW n ws.tail=(y,zy)):=⟨hnn,hy⟩
 rw [←hnn] at hR hvl ⊢
 rw [hx]
 dsimp only
 have hna:v.na=s.arrs.length:=(h.oa.length (fun _=>rfl) (by decide)).symm
 have hsl:=sum_take_le h.fm.sizes
 have hcl:sumA s.arrs≤65536:=by rw [sumA_cells];exact h.fm.cells
 have hsA:s.cells=sumA s.arrs:=(sumA_cells _).symm
 have han:=h.fm.an
 have hma:Hid (v.na+1≤maxLen∧(v.na+1) * 16≤140737488355328):=⟨by simp [maxLen];omega,by omega⟩
 have HNA:=Lib.hid hna
 have hna8:v.na≤8:=by have:=h.fm.few;omega
 have HSL:=Lib.hid hsl
 have HSZ:=Lib.hid h.fm.sizes
 clear H1 hF hV hxl hnn hy hnl hsl hna
 rw [hsA] at hR
 go_enter Tryz.func154,Tryz.ntmps154
 go_wp2_with fail
 refine H1'.out.mono ?_
 rintro e w1 ⟨rfl,hN⟩
 have HR:=Lib.hid hR
 have HCL:=Lib.hid hcl
 have HVL:=Lib.hid hvl
 clear hR hcl hvl hsA han
 obtain⟨A',k',c',D1,hg1⟩:=h.next (ws':=ws.tail) (by rw [List.length_tail];omega) hN
 have hB1:=Lib.hid (h.toBelow hg1)
 clear H1' hN h
 have r2:=rowV.new w1 214 #[.string (strB x),.int .i64 (z:Int)]
 have hl2:=r2.lt
 have b12:Below w1.heap.size w1 (w1.alloc (.cells #[.string (strB x),.int .i64 (z:Int)] 214)):=balloc (Below.refl _ _) _
 obtain⟨w2,hw2⟩:∃ w2,w2=w1.alloc (.cells #[.string (strB x),.int .i64 (z:Int)] 214):=⟨_,rfl⟩
 rw [←hw2] at r2 hl2 b12
 obtain⟨a0,a1⟩:=two_cellsV r2
 have D2:=D1.below b12
 have HD2:=Lib.hid D2
 have HB2:=Lib.hid (hB1.out.trans (b12.mono D1.le))
 have c6:w2.cell? ⟨g,5,none⟩=some (.slice v.An v.nn v.cn):=cell_rowV D2.row rfl
 clear D1 D2 b12 hg1
 go_wp2_with fail
 rw [←hw2]
 clear hw2
 refine wp_region_quiet_tail 7 (by kernel_rfl) (by kernel_rfl) ?_
 simp only [List.take_succ_cons,List.take_zero,List.drop_succ_cons,List.drop_zero]
 repeat (go_big_quiet_step (fail))
 refine wpQuiet_nil ?_
 intro _ hw'
 obtain⟨nr,hw''⟩:=hw'
 subst hw''
 go_wp2_with fail
 refine (demand_ok x z 6 _).mono ?_
 rintro e w3 ⟨rfl,hb3⟩
 have b23:Below w2.heap.size w2 w3:=(bdrew (Below.refl _ _) nr).trans (hb3.mono (Nat.le_refl _))
 have D3:=HD2.out.below b23
 have r3:=r2.below b23 hl2
 have HB3:=Lib.hid (HB2.out.trans (b23.mono HD2.out.le))
 have hzg:w1.heap.size≠g:=by have h1:=D3.row.lt;have h2:=r3.lt;intro e;rw [e] at r3;have:=D3.row;unfold rowV at this r3;rw [this] at r3;injection r3 with r3;injection r3 with _ r3;exact absurd r3 (by decide)
 have HV2:Hid (Calls Tryz.prog 160 #[.pointer (some ⟨g,0,none⟩)] w3 fun e w'=>∃ A4 k4 c4,e=.returned (.tuple #[.int .i64 (nn:Int),.agg #[.string (strB y),.int .i64 (zy:Int)]])∧RD B g n w' s ws.tail.tail ((v.at_ A' k' c').at_ A4 k4 c4)∧w3.grownBy w' (some g)):=by
  show Calls _ _ _ _ _
  have:=asmValue_ok B g n _ s ws.tail w3 D3 HV.out
  rw [←HER.out.1,HER.out.2] at this
  refine this.mono ?_
  rintro e w' ⟨rfl,hN⟩
  obtain⟨A4,k4,c4,D4,hg4⟩:=D3.next (ws':=ws.tail.tail) (by rw [List.length_tail];omega) hN
  exact⟨A4,k4,c4,rfl,D4,hg4⟩
 have HD3:=Lib.hid D3
 clear D3 b23 hb3 HD2 HB2 a0 a1 c6
 go_wp2_with fail
 refine HV2.out.mono ?_
 rintro e w4 ⟨A4,k4,c4,rfl,D4,hg4⟩
 have r4:=r3.grown hg4 (fun e=>hzg (by injection e))
 have HB4:=Lib.hid (HB3.out.trans (HD3.out.toBelow hg4))
 have s5:=rowV.new w4 214 #[.string (strB y),.int .i64 (zy:Int)]
 have hl5:=s5.lt
 have b45:Below w4.heap.size w4 (w4.alloc (.cells #[.string (strB y),.int .i64 (zy:Int)] 214)):=balloc (Below.refl _ _) _
 obtain⟨w5,hw5⟩:∃ w5,w5=w4.alloc (.cells #[.string (strB y),.int .i64 (zy:Int)] 214):=⟨_,rfl⟩
 rw [←hw5] at s5 hl5 b45
 have D5:=D4.below b45
 have hg4s:g < w4.heap.size:=D4.row.lt
 have c2:w4.cell? ⟨g,2,none⟩=some (.slice v.Aa v.na v.ca):=cell_rowV D4.row rfl
 have HA5:Hid (Arrs w5 v.Aa v.na v.ca s.arrs):=D5.oa.toArrs (fun x hx=>WalkArith.wf_i64 (by have:=hfm.out.sizes x hx;omega))
 have HD5:=Lib.hid D5
 have HB5:=Lib.hid (HB4.out.trans (b45.mono D4.le))
 clear D4 D5 hg4 HD3 HB4 HB3 HV2 r3
 go_wp2_with fail
 rw [←hw5]
 go_loopw [7,9,32] (fun s7 _ s32 wr=>∃ k:Nat,k≤v.na∧s32=.int .i64 (k:Int)∧s7=.int .i64 ((nn:Int)+sumA (s.arrs.take k))∧Below w5.heap.size w5 wr) (fun _ _ s32 _=>v.na-(intOf s32).toNat)
 case atStart=>exact⟨0,Nat.zero_le _,rfl,by simp [sumA],Below.refl _ _⟩
 case round=>
  obtain⟨k,hk,rfl,rfl,hb⟩:=hrel
  have hS:=HSL.out k
  obtain⟨sk,hsk⟩:∃ sk,sk=sumA (s.arrs.take k):=⟨_,rfl⟩
  have hcl:=HCL.out
  have hvl:=HVL.out
  by_cases hlt:k < v.na
  ·have e1:decide ((k:Int) < (v.na:Int))=true:=by simp;omega
   have e1':decide (k < v.na)=true:=by simp;omega
   obtain⟨b,off,hAb,hbl,hcell⟩:=(HA5.out.below hb).get hlt
   obtain⟨q1,q2⟩:=hcell k hlt
   have hnx:=sumA_take (l:=s.arrs) (k:=k) (by rw [←HNA.out];exact hlt)
   have hsz:=HSZ.out (gA s.arrs k) (gA_mem (by rw [←HNA.out];exact hlt))
   have HN:=Lib.hid hnx
   have HT:=Lib.hid hsk
   obtain⟨y2,hy2⟩:∃ y2,y2=gA s.arrs k:=⟨_,rfl⟩
   rw [←hy2] at q1 q2 hsz hnx
   have HY:=Lib.hid hy2
   rw [←hsk] at hS hnx ⊢
   clear hcell hy2 hnx hsk
   obtain⟨wd,sz⟩:=y2
   dsimp only at q1 q2 hsz
   rw [hAb]
   have hb':=balloc hb (.cells #[.bool wd,.int .i64 sz] 65)
   have hbw:b < wr.heap.size:=World.block_lt_of_cell? wr _ q1
   go_wp2_with fail
   go_roundw
   case rel=>exact⟨k+1,by omega,by go_num,by rw [HN.out,←HT.out,←HY.out];go_num,hb'⟩
   case measure=>simp [intOf];omega
  ·have e1:decide ((k:Int) < (v.na:Int))=false:=by simp;omega
   have e1':decide (k < v.na)=false:=by simp;omega
   obtain rfl:k=v.na:=by omega
   have hfull:sumA (s.arrs.take v.na)=sumA s.arrs:=by rw [HNA.out,List.take_length]
   have hsa:=hsk.trans hfull
   have hR:=HR.out
   rw [←hfull,←hsk] at hR
   have r5:=r4.below b45 r4.lt
   have r6:=r5.below hb r5.lt
   have s6:=s5.below hb hl5
   have D6:=HD5.out.below hb
   obtain⟨e0,e10⟩:=two_cellsV s6
   have HB6:=Lib.hid (HB5.out.trans (hb.mono HD5.out.le))
   have HD6:=Lib.hid D6
   have HT:=Lib.hid hsk
   rw [←hsk]
   clear hS HSL HSZ HA5 HD5 HB5 hw5 s5 hb r5 r4 hl5 hsk hfull hsa D6 c2 b45
   have dn:decide ((0:Int) < (nn:Int))=true:=by simp;omega
   have dn':decide (0 < nn)=true:=by simp;omega
   have dc:decide ((nn:Int)+sk≤65536)=true:=by simp;omega
   go_wp2_with fail
   refine (demand_ok y zy 2 _).mono ?_
   rintro e w7 ⟨rfl,hb7⟩
   have D7:=HD6.out.below hb7
   have r7:=r6.below hb7 r6.lt
   obtain⟨j0,j1⟩:=two_cellsV r7
   have d5:w7.cell? ⟨g,5,none⟩=some (.slice v.An v.nn v.cn):=cell_rowV D7.row rfl
   have f5:=frozen_rowV' D7.row 5
   have hg7:g < w7.heap.size:=D7.row.lt
   have hw17:w1.heap.size < w7.heap.size:=r7.lt
   have b78:Below w7.heap.size w7 w7.drew:=(Drawn.drewN w7 1).below _
   have HD8:=Lib.hid (D7.toRC.below b78)
   have HB8:=Lib.hid (HB6.out.trans ((hb7.mono HD6.out.le).trans (b78.mono D7.le)))
   clear D7 HD6 HB6 r6 r7 s6 hb7 b78 e0 e10 dn dn' dc
   go_wp2_with fail
   go_region_law (first | (refine step_pushT (enc:=encSt) (w:=w7.drew) rfl (.tmp 53) (.tmp 56) rfl uSt infoSt encSt_one rfl (fun _=>rfl) (by decide) rfl HD8.out.on HD8.out.le x _ rfl rfl hm.out.1 hm.out.2 ?_;intro A8 c8 w8 ho8 hb8 hg8 hf8;have rX:=HD8.out.row.grown hg8 (fun e=>(HD8.out.on.ne_row HD8.out.row (by decide)) _ e.symm rfl);have e85:w8.cell? ⟨g,5,none⟩=some (.slice v.An v.nn v.cn):=cell_rowV rX rfl;have e82:w8.cell? ⟨g,2,none⟩=some (.slice v.Aa v.na v.ca):=cell_rowV rX rfl;have f85:=frozen_rowV' rX 5;have f82:=frozen_rowV' rX 2))
   all_goals
    have HD9:=Lib.hid (HD8.out.push_an ho8 hb8 hg8 hf8)
    have HB9:=Lib.hid (HB8.out.trans (hb8.trans (Below.setG (w:=w8) (j:=5) HD8.out.hB (.slice A8 (v.nn+1) c8))))
    clear rX ho8 hb8 hg8 hf8 d5 f5 j0 j1 HD8 HB8
    go_wp2_with (at_builtin;refine wpList_pushT (enc:=encAr) rfl (.tmp 65) (.tmp 69) rfl uAr infoAr encAr_one rfl (fun _=>rfl) (by decide) rfl HD9.out.oa HD9.out.le (⟨wide,(nn:Int)⟩:Arr) _ rfl (by rw [setCell_size];rfl) hma.out.1 hma.out.2 ?_;intro A9 c9 w9 ho9 hb9 hg9 hf9;have rX:=HD9.out.row.grown hg9 (fun e=>(HD9.out.oa.ne_row HD9.out.row (by decide)) _ e.symm rfl);have e92:w9.cell? ⟨g,2,none⟩=some (.slice v.Aa v.na v.ca):=cell_rowV rX rfl;have f92:=frozen_rowV' rX 2)
    have D10:=HD9.out.push_arrs ho9 hb9 hg9 hf9
    have hRR:=HR.out
    refine⟨rfl,_,results_none rfl _ _ _,rfl,HB9.out.trans (hb9.trans (Below.setG HD9.out.hB _)),_,RC.toRD (s:={ s with arrs:=s.arrs++[⟨wide,(nn:Int)⟩],an:=s.an++[x] }) D10 ?_ ?_⟩
    ·have:=hfew.out
     show s.cn.length+ws.tail.tail.length≤9000
     rw [List.length_tail,List.length_tail];omega
    ·have F:=hfm.out
     refine⟨by simp [F.an],by have:=F.an;simp;omega,?_,?_,F.locs,F.code,fun i hi=>(F.ins i hi).mono (by simp) (Nat.le_refl _),F.cn⟩
     ·intro q hq
      rcases List.mem_append.1 hq with hq | hq
      ·exact F.sizes q hq
      ·rw [List.mem_singleton.1 hq]
       have h0:=(sum_take_le F.sizes s.arrs.length).1
       rw [List.take_length] at h0
       dsimp only
       omega
     ·show ((s.arrs++[(⟨wide,(nn:Int)⟩:Arr)]).map (fun x:Arr=>x.size)).sum≤65536
      rw [←sumA_cells]
      have:sumA (s.arrs++[(⟨wide,(nn:Int)⟩:Arr)])=sumA s.arrs+nn:=by
       rw [sumA_cells,sumA_cells,List.map_append,List.sum_append];simp
      rw [this];omega
theorem wrap32u(k:Nat)(h:k < 4294967296):IntKind.u32.wrap (k:Int)=(k:Int):=by
 rw [IntKind.wrap_u32];omega
theorem findN_some{x:List UInt8}{k:Nat}(h:findL x=some k):findN x=(k:Int):=by unfold findN;rw [h]
theorem RC.code{B g n:Nat}{w:World}{s:AS}{ws:List Wd}{v:RVs}{i:Ins}(h:RC B g n w s.arrs s.ln.length s.an s.ln (s.code++[i]) (conF s) s.cn.length ws v)(hf:s.cn.length+ws.length≤9000)(F:Formed s)(hl:s.code.length < 1024)(hi:InsOk s.arrs.length s.ln.length i):RD B g n w { s with code:=s.code++[i] } ws v:=
 h.toRD hf ⟨F.an,F.few,F.sizes,F.cells,F.locs,by simp;omega,fun j hj=>by
  rcases List.mem_append.1 hj with hj | hj
  ·exact F.ins j hj
  ·rw [List.mem_singleton.1 hj];exact hi,F.cn⟩
theorem instr_ok0(B g n:Nat)(v:RVs)(s:AS)(ws:List Wd)(w:World)(h:RD B g n w s ws v)(x:List UInt8)(z:Nat)(hf:findL x=some 0)(hcl:s.code.length < 1024)(hV:(argL s 0 (nextW n ws).1).2=0) :
  Calls Tryz.prog 120 #[.pointer (some ⟨g,0,none⟩),.agg #[.string (strB x),.int .i64 (z:Int)]] w fun e w'=>e=.returned (.tuple #[])∧Below B w w'∧∃ v',RD B g n w' { s with code:=s.code++[⟨((0:Nat):Int),(((argL s 0 (nextW n ws).1).1:Nat):Int)⟩] } ws.tail v':=by
 have hgl:=h.row.lt
 have hB:=h.hB
 have b0:=balloc (Below.refl w.heap.size w) (.cells #[.string (strB x),.int .i64 (z:Int)] 214)
 have r1:=rowV.new w 214 #[.string (strB x),.int .i64 (z:Int)]
 obtain⟨w1,hw1⟩:∃ w1,w1=w.alloc (.cells #[.string (strB x),.int .i64 (z:Int)] 214):=⟨_,rfl⟩
 rw [←hw1] at b0 r1
 have D1:=h.below b0
 have HB1:Hid (Below B w w1):=b0.mono (by omega)
 have HF:Hid (∀ W,Calls Tryz.prog 158 #[.string (strB x)] W fun e w'=>e=.returned (.tuple #[.int .i64 0,.bool true])∧Below W.heap.size W w'):=fun W=>by
  have:=find_any x W
  rw [hf,findN_some hf] at this
  exact this
 have hncl:v.nc=s.code.length:=(h.oc.length (fun _=>rfl) (by decide)).symm
 have dc:decide ((v.nc:Int) < 1024)=true:=by simp;omega
 have dc':decide (v.nc < 1024)=true:=by simp;omega
 have hm:Hid (v.nc+1≤maxLen∧(v.nc+1) * 16≤140737488355328∨True):=.inr trivial
 have hmc:Hid (v.nc+1≤maxLen∧(v.nc+1) * 16≤140737488355328):=⟨by simp [maxLen];omega,by omega⟩
 have HFM:=Lib.hid h.fm
 have HFEW:=Lib.hid h.few
 have HCL:=Lib.hid hcl
 clear hcl
 have HV:=Lib.hid hV
 have HIN:=Lib.hid (argL_ok h.fm (op:=0) (by decide) hV)
 have hlt:(argL s 0 (nextW n ws).1).1 < 4294967296:=by have:=(argL_ok h.fm (op:=0) (by decide) hV).2.2.2.1;dsimp only at this;omega
 obtain⟨y,zy,hy⟩:∃ y zy,nextW n ws=(y,zy):=⟨_,_,rfl⟩
 obtain⟨nn,hnn⟩:∃ nn,nn=(argL s 0 (nextW n ws).1).1:=⟨_,rfl⟩
 have HER:Hid (nn=(argL s 0 (nextW n ws).1).1∧nextW n ws=(y,zy)):=⟨hnn,hy⟩
 rw [←hnn] at hlt HIN ⊢
 have hwr:=wrap32u nn hlt
 clear hf hncl b0 h hV hnn hy hlt
 go_enter Tryz.func120,Tryz.ntmps120
 go_wp2_with fail
 refine (HF.out _).mono ?_
 rintro e w2 ⟨rfl,hb2⟩
 rw [←hw1] at hb2
 have D2:=D1.below hb2
 have r2:=r1.below hb2 r1.lt
 obtain⟨a0,a1⟩:=two_cellsV r2
 have HB2:=Lib.hid (HB1.out.trans (hb2.mono D1.le))
 have HD2:=Lib.hid D2
 clear D1 D2 hb2 HB1 r1 hw1
 go_wp2_with fail
 refine (demand_ok x z 4 _).mono ?_
 rintro e w3 ⟨rfl,hb3⟩
 have D3:=HD2.out.below hb3
 have r3:=r2.below hb3 r2.lt
 obtain⟨i0,i1⟩:=two_cellsV r3
 have HB3:=Lib.hid (HB2.out.trans (hb3.mono HD2.out.le))
 have c4:w3.cell? ⟨g,4,none⟩=some (.slice v.Ac v.nc v.cc):=cell_rowV D3.row rfl
 have HD3:=Lib.hid D3
 clear D3 HD2 HB2 hb3 a0 a1 r2
 go_wp2_with fail
 refine wp_region_quiet_tail 8 (by kernel_rfl) (by kernel_rfl) ?_
 simp only [List.take_succ_cons,List.take_zero,List.drop_succ_cons,List.drop_zero]
 repeat (go_big_quiet_step (fail))
 refine wpQuiet_nil ?_
 intro _ hw'
 obtain⟨nr,hw''⟩:=hw'
 subst hw''
 go_wp2_with fail
 refine (demand_ok x z 6 _).mono ?_
 rintro e w4 ⟨rfl,hb4⟩
 have b34:Below w3.heap.size w3 w4:=(bdrew (Below.refl _ _) nr).trans (hb4.mono (Nat.le_refl _))
 have D4:=HD3.out.below b34
 have HB4:=Lib.hid (HB3.out.trans (b34.mono HD3.out.le))
 have HV2:Hid (Calls Tryz.prog 160 #[.pointer (some ⟨g,0,none⟩)] w4 fun e w'=>∃ A4 k4 c4,e=.returned (.tuple #[.int .i64 (nn:Int),.agg #[.string (strB y),.int .i64 (zy:Int)]])∧RD B g n w' s ws.tail (v.at_ A4 k4 c4)∧w4.grownBy w' (some g)):=by
  show Calls _ _ _ _ _
  have hv0:(valueL s (nextW n ws).1).2=0:=HV.out
  have:=asmValue_ok B g n v s ws w4 D4 hv0
  have hv1:(valueL s (nextW n ws).1).1=nn:=HER.out.1.symm
  rw [hv1,HER.out.2] at this
  refine this.mono ?_
  rintro e w' ⟨rfl,hN⟩
  obtain⟨A4,k4,c4,D5,hg5⟩:=D4.next (ws':=ws.tail) (by rw [List.length_tail];omega) hN
  exact⟨A4,k4,c4,rfl,D5,hg5⟩
 have HD4:=Lib.hid D4
 clear D4 HD3 HB3 b34 hb4 c4 i0 i1 r3
 go_wp2_with fail
 refine HV2.out.mono ?_
 rintro e w5 ⟨A4,k4,c4',rfl,D5,hg5⟩
 have HB5:=Lib.hid (HB4.out.trans (HD4.out.toBelow hg5))
 have HDF:=Lib.hid D5
 have HBF:=HB5
 have c45:w5.cell? ⟨g,4,none⟩=some (.slice v.Ac v.nc v.cc):=cell_rowV D5.row rfl
 clear D5 HD4 HV2 hg5
 go_wp2_with (at_builtin;refine wpList_pushT (enc:=encIn) rfl (.tmp 70) (.tmp 75) rfl uIn infoIn encIn_one rfl (fun _=>rfl) (by decide) rfl HDF.out.oc HDF.out.le (⟨((0:Nat):Int),(nn:Int)⟩:Ins) _ rfl rfl hmc.out.1 hmc.out.2 ?_;intro A9 c9 w9 ho9 hb9 hg9 hf9;have rX:=HDF.out.row.grown hg9 (fun e=>(HDF.out.oc.ne_row HDF.out.row (by decide)) _ e.symm rfl);have e94:w9.cell? ⟨g,4,none⟩=some (.slice v.Ac v.nc v.cc):=cell_rowV rX rfl;have f94:=frozen_rowV' rX 4)
 have D10:=HDF.out.toRC.push_code ho9 hb9 hg9 hf9
 refine⟨rfl,_,results_none rfl _ _ _,rfl,HBF.out.trans (hb9.trans (Below.setG HDF.out.hB _)),_,RC.code D10 ?_ HFM.out HCL.out ?_⟩
 ·have:=HFEW.out
  have h2:ws.tail.length≤ws.length:=by rw [List.length_tail];omega
  show s.cn.length+ws.tail.length≤9000
  omega
 ·exact HIN.out
theorem instr_ok1(B g n:Nat)(v:RVs)(s:AS)(ws:List Wd)(w:World)(h:RD B g n w s ws v)(x:List UInt8)(z:Nat)(hf:findL x=some 1)(hcl:s.code.length < 1024)(hV:(argL s 1 (nextW n ws).1).2=0) :
  Calls Tryz.prog 120 #[.pointer (some ⟨g,0,none⟩),.agg #[.string (strB x),.int .i64 (z:Int)]] w fun e w'=>e=.returned (.tuple #[])∧Below B w w'∧∃ v',RD B g n w' { s with code:=s.code++[⟨((1:Nat):Int),(((argL s 1 (nextW n ws).1).1:Nat):Int)⟩] } ws.tail v':=by
 have hgl:=h.row.lt
 have hB:=h.hB
 have b0:=balloc (Below.refl w.heap.size w) (.cells #[.string (strB x),.int .i64 (z:Int)] 214)
 have r1:=rowV.new w 214 #[.string (strB x),.int .i64 (z:Int)]
 obtain⟨w1,hw1⟩:∃ w1,w1=w.alloc (.cells #[.string (strB x),.int .i64 (z:Int)] 214):=⟨_,rfl⟩
 rw [←hw1] at b0 r1
 have D1:=h.below b0
 have HB1:Hid (Below B w w1):=b0.mono (by omega)
 have HF:Hid (∀ W,Calls Tryz.prog 158 #[.string (strB x)] W fun e w'=>e=.returned (.tuple #[.int .i64 1,.bool true])∧Below W.heap.size W w'):=fun W=>by
  have:=find_any x W
  rw [hf,findN_some hf] at this
  exact this
 have hncl:v.nc=s.code.length:=(h.oc.length (fun _=>rfl) (by decide)).symm
 have dc:decide ((v.nc:Int) < 1024)=true:=by simp;omega
 have dc':decide (v.nc < 1024)=true:=by simp;omega
 have hm:Hid (v.nc+1≤maxLen∧(v.nc+1) * 16≤140737488355328∨True):=.inr trivial
 have hmc:Hid (v.nc+1≤maxLen∧(v.nc+1) * 16≤140737488355328):=⟨by simp [maxLen];omega,by omega⟩
 have HFM:=Lib.hid h.fm
 have HFEW:=Lib.hid h.few
 have HCL:=Lib.hid hcl
 clear hcl
 have HV:=Lib.hid hV
 have HIN:=Lib.hid (argL_ok h.fm (op:=1) (by decide) hV)
 have hlt:(argL s 1 (nextW n ws).1).1 < 4294967296:=by have:=(argL_ok h.fm (op:=1) (by decide) hV).2.2.2.1;dsimp only at this;omega
 obtain⟨y,zy,hy⟩:∃ y zy,nextW n ws=(y,zy):=⟨_,_,rfl⟩
 obtain⟨nn,hnn⟩:∃ nn,nn=(argL s 1 (nextW n ws).1).1:=⟨_,rfl⟩
 have HER:Hid (nn=(argL s 1 (nextW n ws).1).1∧nextW n ws=(y,zy)):=⟨hnn,hy⟩
 rw [←hnn] at hlt HIN ⊢
 have hwr:=wrap32u nn hlt
 clear hf hncl b0 h hV hnn hy hlt
 go_enter Tryz.func120,Tryz.ntmps120
 go_wp2_with fail
 refine (HF.out _).mono ?_
 rintro e w2 ⟨rfl,hb2⟩
 rw [←hw1] at hb2
 have D2:=D1.below hb2
 have r2:=r1.below hb2 r1.lt
 obtain⟨a0,a1⟩:=two_cellsV r2
 have HB2:=Lib.hid (HB1.out.trans (hb2.mono D1.le))
 have HD2:=Lib.hid D2
 clear D1 D2 hb2 HB1 r1 hw1
 go_wp2_with fail
 refine (demand_ok x z 4 _).mono ?_
 rintro e w3 ⟨rfl,hb3⟩
 have D3:=HD2.out.below hb3
 have r3:=r2.below hb3 r2.lt
 obtain⟨i0,i1⟩:=two_cellsV r3
 have HB3:=Lib.hid (HB2.out.trans (hb3.mono HD2.out.le))
 have c4:w3.cell? ⟨g,4,none⟩=some (.slice v.Ac v.nc v.cc):=cell_rowV D3.row rfl
 have HD3:=Lib.hid D3
 clear D3 HD2 HB2 hb3 a0 a1 r2
 go_wp2_with fail
 refine wp_region_quiet_tail 8 (by kernel_rfl) (by kernel_rfl) ?_
 simp only [List.take_succ_cons,List.take_zero,List.drop_succ_cons,List.drop_zero]
 repeat (go_big_quiet_step (fail))
 refine wpQuiet_nil ?_
 intro _ hw'
 obtain⟨nr,hw''⟩:=hw'
 subst hw''
 go_wp2_with fail
 refine (demand_ok x z 6 _).mono ?_
 rintro e w4 ⟨rfl,hb4⟩
 have b34:Below w3.heap.size w3 w4:=(bdrew (Below.refl _ _) nr).trans (hb4.mono (Nat.le_refl _))
 have D4:=HD3.out.below b34
 have HB4:=Lib.hid (HB3.out.trans (b34.mono HD3.out.le))
 have hn2:v.nl≤100000:=by have h1:=D4.ol.length (fun _=>rfl) (by decide);have h2:=HFM.out.few;have h3:=HFM.out.an;have h4:=HFM.out.locs;omega
 have HV2:Hid (Calls Tryz.prog 161 #[.pointer (some ⟨g,0,none⟩),.slice v.Al v.nl v.cl] w4 fun e w'=>∃ A4 k4 c4,e=.returned (.int .i64 (nn:Int))∧RD B g n w' s ws.tail (v.at_ A4 k4 c4)∧w4.grownBy w' (some g)):=by
  show Calls _ _ _ _ _
  have:=asmIndex_ok B g n v s ws w4 D4 v.Al v.nl v.cl s.ln D4.ol hn2 HV.out
  have hv1:(indexL s.ln (nextW n ws).1).1=nn:=HER.out.1.symm
  rw [hv1] at this
  refine this.mono ?_
  rintro e w' ⟨rfl,hN⟩
  obtain⟨A4,k4,c4,D5,hg5⟩:=D4.next (ws':=ws.tail) (by rw [List.length_tail];omega) hN
  exact⟨A4,k4,c4,rfl,D5,hg5⟩
 have e4:w4.cell? ⟨g,6,none⟩=some (.slice v.Al v.nl v.cl):=cell_rowV D4.row rfl
 have HD4:=Lib.hid D4
 clear D4 HD3 HB3 b34 hb4 c4 i0 i1 r3 hn2
 go_wp2_with fail
 refine HV2.out.mono ?_
 rintro e w5 ⟨A4,k4,c4',rfl,D5,hg5⟩
 have HBF:=Lib.hid (HB4.out.trans (HD4.out.toBelow hg5))
 have HDF:=Lib.hid D5
 have c45:w5.cell? ⟨g,4,none⟩=some (.slice v.Ac v.nc v.cc):=cell_rowV D5.row rfl
 clear D5 HD4 HV2 hg5 e4
 go_wp2_with (at_builtin;refine wpList_pushT (enc:=encIn) rfl (.tmp 70) (.tmp 75) rfl uIn infoIn encIn_one rfl (fun _=>rfl) (by decide) rfl HDF.out.oc HDF.out.le (⟨((1:Nat):Int),(nn:Int)⟩:Ins) _ rfl rfl hmc.out.1 hmc.out.2 ?_;intro A9 c9 w9 ho9 hb9 hg9 hf9;have rX:=HDF.out.row.grown hg9 (fun e=>(HDF.out.oc.ne_row HDF.out.row (by decide)) _ e.symm rfl);have e94:w9.cell? ⟨g,4,none⟩=some (.slice v.Ac v.nc v.cc):=cell_rowV rX rfl;have f94:=frozen_rowV' rX 4)
 have D10:=HDF.out.toRC.push_code ho9 hb9 hg9 hf9
 refine⟨rfl,_,results_none rfl _ _ _,rfl,HBF.out.trans (hb9.trans (Below.setG HDF.out.hB _)),_,RC.code D10 ?_ HFM.out HCL.out ?_⟩
 ·have:=HFEW.out
  have h2:ws.tail.length≤ws.length:=by rw [List.length_tail];omega
  show s.cn.length+ws.tail.length≤9000
  omega
 ·exact HIN.out
theorem instr_ok2(B g n:Nat)(v:RVs)(s:AS)(ws:List Wd)(w:World)(h:RD B g n w s ws v)(x:List UInt8)(z:Nat)(hf:findL x=some 2)(hcl:s.code.length < 1024)(hV:(argL s 2 (nextW n ws).1).2=0) :
  Calls Tryz.prog 120 #[.pointer (some ⟨g,0,none⟩),.agg #[.string (strB x),.int .i64 (z:Int)]] w fun e w'=>e=.returned (.tuple #[])∧Below B w w'∧∃ v',RD B g n w' { s with code:=s.code++[⟨((2:Nat):Int),(((argL s 2 (nextW n ws).1).1:Nat):Int)⟩] } ws.tail v':=by
 have hgl:=h.row.lt
 have hB:=h.hB
 have b0:=balloc (Below.refl w.heap.size w) (.cells #[.string (strB x),.int .i64 (z:Int)] 214)
 have r1:=rowV.new w 214 #[.string (strB x),.int .i64 (z:Int)]
 obtain⟨w1,hw1⟩:∃ w1,w1=w.alloc (.cells #[.string (strB x),.int .i64 (z:Int)] 214):=⟨_,rfl⟩
 rw [←hw1] at b0 r1
 have D1:=h.below b0
 have HB1:Hid (Below B w w1):=b0.mono (by omega)
 have HF:Hid (∀ W,Calls Tryz.prog 158 #[.string (strB x)] W fun e w'=>e=.returned (.tuple #[.int .i64 2,.bool true])∧Below W.heap.size W w'):=fun W=>by
  have:=find_any x W
  rw [hf,findN_some hf] at this
  exact this
 have hncl:v.nc=s.code.length:=(h.oc.length (fun _=>rfl) (by decide)).symm
 have dc:decide ((v.nc:Int) < 1024)=true:=by simp;omega
 have dc':decide (v.nc < 1024)=true:=by simp;omega
 have hm:Hid (v.nc+1≤maxLen∧(v.nc+1) * 16≤140737488355328∨True):=.inr trivial
 have hmc:Hid (v.nc+1≤maxLen∧(v.nc+1) * 16≤140737488355328):=⟨by simp [maxLen];omega,by omega⟩
 have HFM:=Lib.hid h.fm
 have HFEW:=Lib.hid h.few
 have HCL:=Lib.hid hcl
 clear hcl
 have HV:=Lib.hid hV
 have HIN:=Lib.hid (argL_ok h.fm (op:=2) (by decide) hV)
 have hlt:(argL s 2 (nextW n ws).1).1 < 4294967296:=by have:=(argL_ok h.fm (op:=2) (by decide) hV).2.2.2.1;dsimp only at this;omega
 obtain⟨y,zy,hy⟩:∃ y zy,nextW n ws=(y,zy):=⟨_,_,rfl⟩
 obtain⟨nn,hnn⟩:∃ nn,nn=(argL s 2 (nextW n ws).1).1:=⟨_,rfl⟩
 have HER:Hid (nn=(argL s 2 (nextW n ws).1).1∧nextW n ws=(y,zy)):=⟨hnn,hy⟩
 rw [←hnn] at hlt HIN ⊢
 have hwr:=wrap32u nn hlt
 clear hf hncl b0 h hV hnn hy hlt
 go_enter Tryz.func120,Tryz.ntmps120
 go_wp2_with fail
 refine (HF.out _).mono ?_
 rintro e w2 ⟨rfl,hb2⟩
 rw [←hw1] at hb2
 have D2:=D1.below hb2
 have r2:=r1.below hb2 r1.lt
 obtain⟨a0,a1⟩:=two_cellsV r2
 have HB2:=Lib.hid (HB1.out.trans (hb2.mono D1.le))
 have HD2:=Lib.hid D2
 clear D1 D2 hb2 HB1 r1 hw1
 go_wp2_with fail
 refine (demand_ok x z 4 _).mono ?_
 rintro e w3 ⟨rfl,hb3⟩
 have D3:=HD2.out.below hb3
 have r3:=r2.below hb3 r2.lt
 obtain⟨i0,i1⟩:=two_cellsV r3
 have HB3:=Lib.hid (HB2.out.trans (hb3.mono HD2.out.le))
 have c4:w3.cell? ⟨g,4,none⟩=some (.slice v.Ac v.nc v.cc):=cell_rowV D3.row rfl
 have HD3:=Lib.hid D3
 clear D3 HD2 HB2 hb3 a0 a1 r2
 go_wp2_with fail
 refine wp_region_quiet_tail 8 (by kernel_rfl) (by kernel_rfl) ?_
 simp only [List.take_succ_cons,List.take_zero,List.drop_succ_cons,List.drop_zero]
 repeat (go_big_quiet_step (fail))
 refine wpQuiet_nil ?_
 intro _ hw'
 obtain⟨nr,hw''⟩:=hw'
 subst hw''
 go_wp2_with fail
 refine (demand_ok x z 6 _).mono ?_
 rintro e w4 ⟨rfl,hb4⟩
 have b34:Below w3.heap.size w3 w4:=(bdrew (Below.refl _ _) nr).trans (hb4.mono (Nat.le_refl _))
 have D4:=HD3.out.below b34
 have HB4:=Lib.hid (HB3.out.trans (b34.mono HD3.out.le))
 have hn2:v.nl≤100000:=by have h1:=D4.ol.length (fun _=>rfl) (by decide);have h2:=HFM.out.few;have h3:=HFM.out.an;have h4:=HFM.out.locs;omega
 have HV2:Hid (Calls Tryz.prog 161 #[.pointer (some ⟨g,0,none⟩),.slice v.Al v.nl v.cl] w4 fun e w'=>∃ A4 k4 c4,e=.returned (.int .i64 (nn:Int))∧RD B g n w' s ws.tail (v.at_ A4 k4 c4)∧w4.grownBy w' (some g)):=by
  show Calls _ _ _ _ _
  have:=asmIndex_ok B g n v s ws w4 D4 v.Al v.nl v.cl s.ln D4.ol hn2 HV.out
  have hv1:(indexL s.ln (nextW n ws).1).1=nn:=HER.out.1.symm
  rw [hv1] at this
  refine this.mono ?_
  rintro e w' ⟨rfl,hN⟩
  obtain⟨A4,k4,c4,D5,hg5⟩:=D4.next (ws':=ws.tail) (by rw [List.length_tail];omega) hN
  exact⟨A4,k4,c4,rfl,D5,hg5⟩
 have e4:w4.cell? ⟨g,6,none⟩=some (.slice v.Al v.nl v.cl):=cell_rowV D4.row rfl
 have HD4:=Lib.hid D4
 clear D4 HD3 HB3 b34 hb4 c4 i0 i1 r3 hn2
 go_wp2_with fail
 refine HV2.out.mono ?_
 rintro e w5 ⟨A4,k4,c4',rfl,D5,hg5⟩
 have HBF:=Lib.hid (HB4.out.trans (HD4.out.toBelow hg5))
 have HDF:=Lib.hid D5
 have c45:w5.cell? ⟨g,4,none⟩=some (.slice v.Ac v.nc v.cc):=cell_rowV D5.row rfl
 clear D5 HD4 HV2 hg5 e4
 go_wp2_with (at_builtin;refine wpList_pushT (enc:=encIn) rfl (.tmp 70) (.tmp 75) rfl uIn infoIn encIn_one rfl (fun _=>rfl) (by decide) rfl HDF.out.oc HDF.out.le (⟨((2:Nat):Int),(nn:Int)⟩:Ins) _ rfl rfl hmc.out.1 hmc.out.2 ?_;intro A9 c9 w9 ho9 hb9 hg9 hf9;have rX:=HDF.out.row.grown hg9 (fun e=>(HDF.out.oc.ne_row HDF.out.row (by decide)) _ e.symm rfl);have e94:w9.cell? ⟨g,4,none⟩=some (.slice v.Ac v.nc v.cc):=cell_rowV rX rfl;have f94:=frozen_rowV' rX 4)
 have D10:=HDF.out.toRC.push_code ho9 hb9 hg9 hf9
 refine⟨rfl,_,results_none rfl _ _ _,rfl,HBF.out.trans (hb9.trans (Below.setG HDF.out.hB _)),_,RC.code D10 ?_ HFM.out HCL.out ?_⟩
 ·have:=HFEW.out
  have h2:ws.tail.length≤ws.length:=by rw [List.length_tail];omega
  show s.cn.length+ws.tail.length≤9000
  omega
 ·exact HIN.out
theorem instr_ok3(B g n:Nat)(v:RVs)(s:AS)(ws:List Wd)(w:World)(h:RD B g n w s ws v)(x:List UInt8)(z:Nat)(hf:findL x=some 3)(hcl:s.code.length < 1024)(hV:(argL s 3 (nextW n ws).1).2=0) :
  Calls Tryz.prog 120 #[.pointer (some ⟨g,0,none⟩),.agg #[.string (strB x),.int .i64 (z:Int)]] w fun e w'=>e=.returned (.tuple #[])∧Below B w w'∧∃ v',RD B g n w' { s with code:=s.code++[⟨((3:Nat):Int),(((argL s 3 (nextW n ws).1).1:Nat):Int)⟩] } ws.tail v':=by
 have hgl:=h.row.lt
 have hB:=h.hB
 have b0:=balloc (Below.refl w.heap.size w) (.cells #[.string (strB x),.int .i64 (z:Int)] 214)
 have r1:=rowV.new w 214 #[.string (strB x),.int .i64 (z:Int)]
 obtain⟨w1,hw1⟩:∃ w1,w1=w.alloc (.cells #[.string (strB x),.int .i64 (z:Int)] 214):=⟨_,rfl⟩
 rw [←hw1] at b0 r1
 have D1:=h.below b0
 have HB1:Hid (Below B w w1):=b0.mono (by omega)
 have HF:Hid (∀ W,Calls Tryz.prog 158 #[.string (strB x)] W fun e w'=>e=.returned (.tuple #[.int .i64 3,.bool true])∧Below W.heap.size W w'):=fun W=>by
  have:=find_any x W
  rw [hf,findN_some hf] at this
  exact this
 have hncl:v.nc=s.code.length:=(h.oc.length (fun _=>rfl) (by decide)).symm
 have dc:decide ((v.nc:Int) < 1024)=true:=by simp;omega
 have dc':decide (v.nc < 1024)=true:=by simp;omega
 have hm:Hid (v.nc+1≤maxLen∧(v.nc+1) * 16≤140737488355328∨True):=.inr trivial
 have hmc:Hid (v.nc+1≤maxLen∧(v.nc+1) * 16≤140737488355328):=⟨by simp [maxLen];omega,by omega⟩
 have HFM:=Lib.hid h.fm
 have HFEW:=Lib.hid h.few
 have HCL:=Lib.hid hcl
 clear hcl
 have HV:=Lib.hid hV
 have HIN:=Lib.hid (argL_ok h.fm (op:=3) (by decide) hV)
 have hlt:(argL s 3 (nextW n ws).1).1 < 4294967296:=by have:=(argL_ok h.fm (op:=3) (by decide) hV).2.2.2.1;dsimp only at this;omega
 obtain⟨y,zy,hy⟩:∃ y zy,nextW n ws=(y,zy):=⟨_,_,rfl⟩
 obtain⟨nn,hnn⟩:∃ nn,nn=(argL s 3 (nextW n ws).1).1:=⟨_,rfl⟩
 have HER:Hid (nn=(argL s 3 (nextW n ws).1).1∧nextW n ws=(y,zy)):=⟨hnn,hy⟩
 rw [←hnn] at hlt HIN ⊢
 have hwr:=wrap32u nn hlt
 clear hf hncl b0 h hV hnn hy hlt
 go_enter Tryz.func120,Tryz.ntmps120
 go_wp2_with fail
 refine (HF.out _).mono ?_
 rintro e w2 ⟨rfl,hb2⟩
 rw [←hw1] at hb2
 have D2:=D1.below hb2
 have r2:=r1.below hb2 r1.lt
 obtain⟨a0,a1⟩:=two_cellsV r2
 have HB2:=Lib.hid (HB1.out.trans (hb2.mono D1.le))
 have HD2:=Lib.hid D2
 clear D1 D2 hb2 HB1 r1 hw1
 go_wp2_with fail
 refine (demand_ok x z 4 _).mono ?_
 rintro e w3 ⟨rfl,hb3⟩
 have D3:=HD2.out.below hb3
 have r3:=r2.below hb3 r2.lt
 obtain⟨i0,i1⟩:=two_cellsV r3
 have HB3:=Lib.hid (HB2.out.trans (hb3.mono HD2.out.le))
 have c4:w3.cell? ⟨g,4,none⟩=some (.slice v.Ac v.nc v.cc):=cell_rowV D3.row rfl
 have HD3:=Lib.hid D3
 clear D3 HD2 HB2 hb3 a0 a1 r2
 go_wp2_with fail
 refine wp_region_quiet_tail 8 (by kernel_rfl) (by kernel_rfl) ?_
 simp only [List.take_succ_cons,List.take_zero,List.drop_succ_cons,List.drop_zero]
 repeat (go_big_quiet_step (fail))
 refine wpQuiet_nil ?_
 intro _ hw'
 obtain⟨nr,hw''⟩:=hw'
 subst hw''
 go_wp2_with fail
 refine (demand_ok x z 6 _).mono ?_
 rintro e w4 ⟨rfl,hb4⟩
 have b34:Below w3.heap.size w3 w4:=(bdrew (Below.refl _ _) nr).trans (hb4.mono (Nat.le_refl _))
 have D4:=HD3.out.below b34
 have HB4:=Lib.hid (HB3.out.trans (b34.mono HD3.out.le))
 have hn2:v.nn≤100000:=by have h1:=D4.on.length (fun _=>rfl) (by decide);have h2:=HFM.out.few;have h3:=HFM.out.an;have h4:=HFM.out.locs;omega
 have HV2:Hid (Calls Tryz.prog 161 #[.pointer (some ⟨g,0,none⟩),.slice v.An v.nn v.cn] w4 fun e w'=>∃ A4 k4 c4,e=.returned (.int .i64 (nn:Int))∧RD B g n w' s ws.tail (v.at_ A4 k4 c4)∧w4.grownBy w' (some g)):=by
  show Calls _ _ _ _ _
  have:=asmIndex_ok B g n v s ws w4 D4 v.An v.nn v.cn s.an D4.on hn2 HV.out
  have hv1:(indexL s.an (nextW n ws).1).1=nn:=HER.out.1.symm
  rw [hv1] at this
  refine this.mono ?_
  rintro e w' ⟨rfl,hN⟩
  obtain⟨A4,k4,c4,D5,hg5⟩:=D4.next (ws':=ws.tail) (by rw [List.length_tail];omega) hN
  exact⟨A4,k4,c4,rfl,D5,hg5⟩
 have e4:w4.cell? ⟨g,5,none⟩=some (.slice v.An v.nn v.cn):=cell_rowV D4.row rfl
 have HD4:=Lib.hid D4
 clear D4 HD3 HB3 b34 hb4 c4 i0 i1 r3 hn2
 go_wp2_with fail
 refine HV2.out.mono ?_
 rintro e w5 ⟨A4,k4,c4',rfl,D5,hg5⟩
 have HBF:=Lib.hid (HB4.out.trans (HD4.out.toBelow hg5))
 have HDF:=Lib.hid D5
 have c45:w5.cell? ⟨g,4,none⟩=some (.slice v.Ac v.nc v.cc):=cell_rowV D5.row rfl
 clear D5 HD4 HV2 hg5 e4
 go_wp2_with (at_builtin;refine wpList_pushT (enc:=encIn) rfl (.tmp 70) (.tmp 75) rfl uIn infoIn encIn_one rfl (fun _=>rfl) (by decide) rfl HDF.out.oc HDF.out.le (⟨((3:Nat):Int),(nn:Int)⟩:Ins) _ rfl rfl hmc.out.1 hmc.out.2 ?_;intro A9 c9 w9 ho9 hb9 hg9 hf9;have rX:=HDF.out.row.grown hg9 (fun e=>(HDF.out.oc.ne_row HDF.out.row (by decide)) _ e.symm rfl);have e94:w9.cell? ⟨g,4,none⟩=some (.slice v.Ac v.nc v.cc):=cell_rowV rX rfl;have f94:=frozen_rowV' rX 4)
 have D10:=HDF.out.toRC.push_code ho9 hb9 hg9 hf9
 refine⟨rfl,_,results_none rfl _ _ _,rfl,HBF.out.trans (hb9.trans (Below.setG HDF.out.hB _)),_,RC.code D10 ?_ HFM.out HCL.out ?_⟩
 ·have:=HFEW.out
  have h2:ws.tail.length≤ws.length:=by rw [List.length_tail];omega
  show s.cn.length+ws.tail.length≤9000
  omega
 ·exact HIN.out
theorem instr_ok4(B g n:Nat)(v:RVs)(s:AS)(ws:List Wd)(w:World)(h:RD B g n w s ws v)(x:List UInt8)(z:Nat)(hf:findL x=some 4)(hcl:s.code.length < 1024)(hV:(argL s 4 (nextW n ws).1).2=0) :
  Calls Tryz.prog 120 #[.pointer (some ⟨g,0,none⟩),.agg #[.string (strB x),.int .i64 (z:Int)]] w fun e w'=>e=.returned (.tuple #[])∧Below B w w'∧∃ v',RD B g n w' { s with code:=s.code++[⟨((4:Nat):Int),(((argL s 4 (nextW n ws).1).1:Nat):Int)⟩] } ws.tail v':=by
 have hgl:=h.row.lt
 have hB:=h.hB
 have b0:=balloc (Below.refl w.heap.size w) (.cells #[.string (strB x),.int .i64 (z:Int)] 214)
 have r1:=rowV.new w 214 #[.string (strB x),.int .i64 (z:Int)]
 obtain⟨w1,hw1⟩:∃ w1,w1=w.alloc (.cells #[.string (strB x),.int .i64 (z:Int)] 214):=⟨_,rfl⟩
 rw [←hw1] at b0 r1
 have D1:=h.below b0
 have HB1:Hid (Below B w w1):=b0.mono (by omega)
 have HF:Hid (∀ W,Calls Tryz.prog 158 #[.string (strB x)] W fun e w'=>e=.returned (.tuple #[.int .i64 4,.bool true])∧Below W.heap.size W w'):=fun W=>by
  have:=find_any x W
  rw [hf,findN_some hf] at this
  exact this
 have hncl:v.nc=s.code.length:=(h.oc.length (fun _=>rfl) (by decide)).symm
 have dc:decide ((v.nc:Int) < 1024)=true:=by simp;omega
 have dc':decide (v.nc < 1024)=true:=by simp;omega
 have hm:Hid (v.nc+1≤maxLen∧(v.nc+1) * 16≤140737488355328∨True):=.inr trivial
 have hmc:Hid (v.nc+1≤maxLen∧(v.nc+1) * 16≤140737488355328):=⟨by simp [maxLen];omega,by omega⟩
 have HFM:=Lib.hid h.fm
 have HFEW:=Lib.hid h.few
 have HCL:=Lib.hid hcl
 clear hcl
 have HV:=Lib.hid hV
 have HIN:=Lib.hid (argL_ok h.fm (op:=4) (by decide) hV)
 have hlt:(argL s 4 (nextW n ws).1).1 < 4294967296:=by have:=(argL_ok h.fm (op:=4) (by decide) hV).2.2.2.1;dsimp only at this;omega
 obtain⟨y,zy,hy⟩:∃ y zy,nextW n ws=(y,zy):=⟨_,_,rfl⟩
 obtain⟨nn,hnn⟩:∃ nn,nn=(argL s 4 (nextW n ws).1).1:=⟨_,rfl⟩
 have HER:Hid (nn=(argL s 4 (nextW n ws).1).1∧nextW n ws=(y,zy)):=⟨hnn,hy⟩
 rw [←hnn] at hlt HIN ⊢
 have hwr:=wrap32u nn hlt
 clear hf hncl b0 h hV hnn hy hlt
 go_enter Tryz.func120,Tryz.ntmps120
 go_wp2_with fail
 refine (HF.out _).mono ?_
 rintro e w2 ⟨rfl,hb2⟩
 rw [←hw1] at hb2
 have D2:=D1.below hb2
 have r2:=r1.below hb2 r1.lt
 obtain⟨a0,a1⟩:=two_cellsV r2
 have HB2:=Lib.hid (HB1.out.trans (hb2.mono D1.le))
 have HD2:=Lib.hid D2
 clear D1 D2 hb2 HB1 r1 hw1
 go_wp2_with fail
 refine (demand_ok x z 4 _).mono ?_
 rintro e w3 ⟨rfl,hb3⟩
 have D3:=HD2.out.below hb3
 have r3:=r2.below hb3 r2.lt
 obtain⟨i0,i1⟩:=two_cellsV r3
 have HB3:=Lib.hid (HB2.out.trans (hb3.mono HD2.out.le))
 have c4:w3.cell? ⟨g,4,none⟩=some (.slice v.Ac v.nc v.cc):=cell_rowV D3.row rfl
 have HD3:=Lib.hid D3
 clear D3 HD2 HB2 hb3 a0 a1 r2
 go_wp2_with fail
 refine wp_region_quiet_tail 8 (by kernel_rfl) (by kernel_rfl) ?_
 simp only [List.take_succ_cons,List.take_zero,List.drop_succ_cons,List.drop_zero]
 repeat (go_big_quiet_step (fail))
 refine wpQuiet_nil ?_
 intro _ hw'
 obtain⟨nr,hw''⟩:=hw'
 subst hw''
 go_wp2_with fail
 refine (demand_ok x z 6 _).mono ?_
 rintro e w4 ⟨rfl,hb4⟩
 have b34:Below w3.heap.size w3 w4:=(bdrew (Below.refl _ _) nr).trans (hb4.mono (Nat.le_refl _))
 have D4:=HD3.out.below b34
 have HB4:=Lib.hid (HB3.out.trans (b34.mono HD3.out.le))
 have hn2:v.nn≤100000:=by have h1:=D4.on.length (fun _=>rfl) (by decide);have h2:=HFM.out.few;have h3:=HFM.out.an;have h4:=HFM.out.locs;omega
 have HV2:Hid (Calls Tryz.prog 161 #[.pointer (some ⟨g,0,none⟩),.slice v.An v.nn v.cn] w4 fun e w'=>∃ A4 k4 c4,e=.returned (.int .i64 (nn:Int))∧RD B g n w' s ws.tail (v.at_ A4 k4 c4)∧w4.grownBy w' (some g)):=by
  show Calls _ _ _ _ _
  have:=asmIndex_ok B g n v s ws w4 D4 v.An v.nn v.cn s.an D4.on hn2 HV.out
  have hv1:(indexL s.an (nextW n ws).1).1=nn:=HER.out.1.symm
  rw [hv1] at this
  refine this.mono ?_
  rintro e w' ⟨rfl,hN⟩
  obtain⟨A4,k4,c4,D5,hg5⟩:=D4.next (ws':=ws.tail) (by rw [List.length_tail];omega) hN
  exact⟨A4,k4,c4,rfl,D5,hg5⟩
 have e4:w4.cell? ⟨g,5,none⟩=some (.slice v.An v.nn v.cn):=cell_rowV D4.row rfl
 have HD4:=Lib.hid D4
 clear D4 HD3 HB3 b34 hb4 c4 i0 i1 r3 hn2
 go_wp2_with fail
 refine HV2.out.mono ?_
 rintro e w5 ⟨A4,k4,c4',rfl,D5,hg5⟩
 have HBF:=Lib.hid (HB4.out.trans (HD4.out.toBelow hg5))
 have HDF:=Lib.hid D5
 have c45:w5.cell? ⟨g,4,none⟩=some (.slice v.Ac v.nc v.cc):=cell_rowV D5.row rfl
 clear D5 HD4 HV2 hg5 e4
 go_wp2_with (at_builtin;refine wpList_pushT (enc:=encIn) rfl (.tmp 70) (.tmp 75) rfl uIn infoIn encIn_one rfl (fun _=>rfl) (by decide) rfl HDF.out.oc HDF.out.le (⟨((4:Nat):Int),(nn:Int)⟩:Ins) _ rfl rfl hmc.out.1 hmc.out.2 ?_;intro A9 c9 w9 ho9 hb9 hg9 hf9;have rX:=HDF.out.row.grown hg9 (fun e=>(HDF.out.oc.ne_row HDF.out.row (by decide)) _ e.symm rfl);have e94:w9.cell? ⟨g,4,none⟩=some (.slice v.Ac v.nc v.cc):=cell_rowV rX rfl;have f94:=frozen_rowV' rX 4)
 have D10:=HDF.out.toRC.push_code ho9 hb9 hg9 hf9
 refine⟨rfl,_,results_none rfl _ _ _,rfl,HBF.out.trans (hb9.trans (Below.setG HDF.out.hB _)),_,RC.code D10 ?_ HFM.out HCL.out ?_⟩
 ·have:=HFEW.out
  have h2:ws.tail.length≤ws.length:=by rw [List.length_tail];omega
  show s.cn.length+ws.tail.length≤9000
  omega
 ·exact HIN.out
theorem instr_okn(B g n:Nat)(v:RVs)(s:AS)(ws:List Wd)(w:World)(h:RD B g n w s ws v)(x:List UInt8)(z:Nat)(op:Nat)(hf:findL x=some op)(hcl:s.code.length < 1024)(hop:¬ (op≤4∨op=35)) :
  Calls Tryz.prog 120 #[.pointer (some ⟨g,0,none⟩),.agg #[.string (strB x),.int .i64 (z:Int)]] w fun e w'=>e=.returned (.tuple #[])∧Below B w w'∧∃ v',RD B g n w' { s with code:=s.code++[⟨(op:Int),0⟩] } ws v':=by
 have hgl:=h.row.lt
 have hB:=h.hB
 have b0:=balloc (Below.refl w.heap.size w) (.cells #[.string (strB x),.int .i64 (z:Int)] 214)
 have r1:=rowV.new w 214 #[.string (strB x),.int .i64 (z:Int)]
 obtain⟨w1,hw1⟩:∃ w1,w1=w.alloc (.cells #[.string (strB x),.int .i64 (z:Int)] 214):=⟨_,rfl⟩
 rw [←hw1] at b0 r1
 have D1:=h.below b0
 have HB1:Hid (Below B w w1):=b0.mono (by omega)
 have HF:Hid (∀ W,Calls Tryz.prog 158 #[.string (strB x)] W fun e w'=>e=.returned (.tuple #[.int .i64 (op:Int),.bool true])∧Below W.heap.size W w'):=fun W=>by
  have:=find_any x W
  rw [hf,findN_some hf] at this
  exact this
 have hncl:v.nc=s.code.length:=(h.oc.length (fun _=>rfl) (by decide)).symm
 have dc:decide ((v.nc:Int) < 1024)=true:=by simp;omega
 have dc':decide (v.nc < 1024)=true:=by simp;omega
 have hm:Hid (v.nc+1≤maxLen∧(v.nc+1) * 16≤140737488355328∨True):=.inr trivial
 have hmc:Hid (v.nc+1≤maxLen∧(v.nc+1) * 16≤140737488355328):=⟨by simp [maxLen];omega,by omega⟩
 have HFM:=Lib.hid h.fm
 have HFEW:=Lib.hid h.few
 have HCL:=Lib.hid hcl
 clear hcl
 have h36:=(findL_some hf).1
 have HIN:Hid (InsOk s.arrs.length s.ln.length ⟨(op:Int),0⟩):=⟨by dsimp only;omega,by dsimp only;omega,Int.le_refl _,by dsimp only;omega,fun h=>by dsimp only at h;omega,fun h=>by dsimp only at h;omega,fun h=>by dsimp only at h;omega,fun _ _=>rfl⟩
 have d0:((op:Int)==0)=false:=by simp;omega
 have d1:((op:Int)==1)=false:=by simp;omega
 have d2:((op:Int)==2)=false:=by simp;omega
 have d3:((op:Int)==3)=false:=by simp;omega
 have d4:((op:Int)==4)=false:=by simp;omega
 have d35:((op:Int)==35)=false:=by simp;omega
 clear hf hncl b0 h hop h36
 go_enter Tryz.func120,Tryz.ntmps120
 go_wp2_with fail
 refine (HF.out _).mono ?_
 rintro e w2 ⟨rfl,hb2⟩
 rw [←hw1] at hb2
 have D2:=D1.below hb2
 have r2:=r1.below hb2 r1.lt
 obtain⟨a0,a1⟩:=two_cellsV r2
 have HB2:=Lib.hid (HB1.out.trans (hb2.mono D1.le))
 have HD2:=Lib.hid D2
 clear D1 D2 hb2 HB1 r1 hw1
 go_wp2_with fail
 refine (demand_ok x z 4 _).mono ?_
 rintro e w3 ⟨rfl,hb3⟩
 have D3:=HD2.out.below hb3
 have r3:=r2.below hb3 r2.lt
 obtain⟨i0,i1⟩:=two_cellsV r3
 have HB3:=Lib.hid (HB2.out.trans (hb3.mono HD2.out.le))
 have c4:w3.cell? ⟨g,4,none⟩=some (.slice v.Ac v.nc v.cc):=cell_rowV D3.row rfl
 have HD3:=Lib.hid D3
 clear D3 HD2 HB2 hb3 a0 a1 r2
 go_wp2_with fail
 refine wp_region_quiet_tail 8 (by kernel_rfl) (by kernel_rfl) ?_
 simp only [List.take_succ_cons,List.take_zero,List.drop_succ_cons,List.drop_zero]
 repeat (go_big_quiet_step (fail))
 refine wpQuiet_nil ?_
 intro _ hw'
 obtain⟨nr,hw''⟩:=hw'
 subst hw''
 go_wp2_with fail
 refine (demand_ok x z 6 _).mono ?_
 rintro e w4 ⟨rfl,hb4⟩
 have b34:Below w3.heap.size w3 w4:=(bdrew (Below.refl _ _) nr).trans (hb4.mono (Nat.le_refl _))
 have D4:=HD3.out.below b34
 have HB4:=Lib.hid (HB3.out.trans (b34.mono HD3.out.le))
 have HDF:=Lib.hid D4
 have HBF:=HB4
 have c45:w4.cell? ⟨g,4,none⟩=some (.slice v.Ac v.nc v.cc):=cell_rowV D4.row rfl
 clear D4 HD3 HB3 b34 hb4 c4 i0 i1 r3
 go_wp2_with (at_builtin;refine wpList_pushT (enc:=encIn) rfl (.tmp 70) (.tmp 75) rfl uIn infoIn encIn_one rfl (fun _=>rfl) (by decide) rfl HDF.out.oc HDF.out.le (⟨(op:Int),0⟩:Ins) _ rfl rfl hmc.out.1 hmc.out.2 ?_;intro A9 c9 w9 ho9 hb9 hg9 hf9;have rX:=HDF.out.row.grown hg9 (fun e=>(HDF.out.oc.ne_row HDF.out.row (by decide)) _ e.symm rfl);have e94:w9.cell? ⟨g,4,none⟩=some (.slice v.Ac v.nc v.cc):=cell_rowV rX rfl;have f94:=frozen_rowV' rX 4)
 have D10:=HDF.out.toRC.push_code ho9 hb9 hg9 hf9
 refine⟨rfl,_,results_none rfl _ _ _,rfl,HBF.out.trans (hb9.trans (Below.setG HDF.out.hB _)),_,RC.code D10 ?_ HFM.out HCL.out ?_⟩
 ·have:=HFEW.out
  exact this
 ·exact HIN.out
end Go.Proofs.YtpaplehcafeeaaaGreatDoor
