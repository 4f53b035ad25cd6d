/- Ge. -/
import Derived.Test.YtepoclhdklgnhaaGreatDoorRV18
set_option maxRecDepth 100000
set_option maxHeartbeats 40000000
set_option linter.unusedVariables false
set_option linter.unusedSimpArgs false
namespace Go.Proofs.YtepoclhdklgnhaaGreatDoor
open Go.RowKit Go.Proofs
theorem wrap32u(k:Nat)(h:k < 4294967296):IntKind.u32.wrap (k:Int)=(k:Int):=by
 rw [IntKind.wrap_u32];omega
theorem findN_some{x:List UInt8}{k:Nat}(h:findL x=some k):findN x=(k:Int):=by unfold findN;rw [h]
theorem findN_none{x:List UInt8}(h:findL x=none):findN x=0:=by unfold findN;rw [h]
theorem RC.code{B g n:Nat}{w:World}{s:AS}{ws:List Wd}{v:RVs}{i:Ins}(h:RC B g n w s.arrs s.ln.length s.an s.ln (s.code++[i]) (conF s) s.cn.length ws v)(hf:s.cn.length+ws.length≤9000)(F:Formed s)(hl:s.code.length < 1024)(hi:InsOk s.arrs.length s.ln.length i):RD B g n w { s with code:=s.code++[i] } ws v:=
 h.toRD hf ⟨F.an,F.few,F.sizes,F.cells,F.locs,by simp;omega,fun j hj=>by
  rcases List.mem_append.1 hj with hj | hj
  ·exact F.ins j hj
  ·rw [List.mem_singleton.1 hj];exact hi,F.cn⟩
theorem instr_none(B g n:Nat)(v:RVs)(s:AS)(ws:List Wd)(w:World)(h:RD B g n w s ws v)(x:List UInt8)(z:Nat)(hf:findL x=none) :
  Calls Tryz.prog 89 #[.pointer (some ⟨g,0,none⟩),.agg #[.string (strB x),.int .i64 (z:Int)]] w fun e w'=>FailsB B w z 4 e w':=by
 have hgl:=h.row.lt
 have hB:=h.hB
 have b0:=balloc (Below.refl w.heap.size w) (.cells #[.string (strB x),.int .i64 (z:Int)] 172)
 have r1:=rowV.new w 172 #[.string (strB x),.int .i64 (z:Int)]
 obtain⟨w1,hw1⟩:∃ w1,w1=w.alloc (.cells #[.string (strB x),.int .i64 (z:Int)] 172):=⟨_,rfl⟩
 rw [←hw1] at b0 r1
 have D1:=h.below b0
 have HB1:Hid (Below B w w1):=b0.mono (by omega)
 have HF:Hid (∀ W,Calls Tryz.prog 124 #[.string (strB x)] W fun e w'=>e=.returned (.tuple #[.int .i64 0,.bool false])∧Below W.heap.size W w'):=fun W=>by
  have:=find_any x W
  rw [hf,findN_none hf] at this
  exact this
 have hncl:v.nc=s.code.length:=(h.oc.length (fun _=>rfl) (by decide)).symm
 clear hf hncl b0 h
 go_enter Tryz.func89,Tryz.ntmps89
 go_wp2_with fail
 refine (HF.out _).mono ?_
 rintro e w2 ⟨rfl,hb2⟩
 rw [←hw1] at hb2
 have D2:=D1.below hb2
 have r2:=r1.below hb2 r1.lt
 obtain⟨a0,a1⟩:=two_cellsV r2
 have HB2:=Lib.hid (HB1.out.trans (hb2.mono D1.le))
 have HD2:=Lib.hid D2
 clear D1 D2 hb2 HB1 r1 hw1
 go_wp2_with fail
 refine (demand_bad x z 4 _).mono ?_
 rintro e w3 ⟨rfl,hb3⟩
 have hE:=Lib.hid (HB2.out.trans (hb3.mono HD2.out.le))
 go_wp2_with fail
 exact⟨rfl,rfl,hE.out⟩
theorem instr_many(B g n:Nat)(v:RVs)(s:AS)(ws:List Wd)(w:World)(h:RD B g n w s ws v)(x:List UInt8)(z:Nat)(op:Nat)(hf:findL x=some op)(hcl:1024≤s.code.length) :
  Calls Tryz.prog 89 #[.pointer (some ⟨g,0,none⟩),.agg #[.string (strB x),.int .i64 (z:Int)]] w fun e w'=>FailsB B w z 6 e w':=by
 have hgl:=h.row.lt
 have hB:=h.hB
 have b0:=balloc (Below.refl w.heap.size w) (.cells #[.string (strB x),.int .i64 (z:Int)] 172)
 have r1:=rowV.new w 172 #[.string (strB x),.int .i64 (z:Int)]
 obtain⟨w1,hw1⟩:∃ w1,w1=w.alloc (.cells #[.string (strB x),.int .i64 (z:Int)] 172):=⟨_,rfl⟩
 rw [←hw1] at b0 r1
 have D1:=h.below b0
 have HB1:Hid (Below B w w1):=b0.mono (by omega)
 have HF:Hid (∀ W,Calls Tryz.prog 124 #[.string (strB x)] W fun e w'=>e=.returned (.tuple #[.int .i64 (op:Int),.bool true])∧Below W.heap.size W w'):=fun W=>by
  have:=find_any x W
  rw [hf,findN_some hf] at this
  exact this
 have hncl:v.nc=s.code.length:=(h.oc.length (fun _=>rfl) (by decide)).symm
 have dc:decide ((v.nc:Int) < 1024)=false:=by simp;omega
 have dc':decide (v.nc < 1024)=false:=by simp;omega
 have hm:Hid (v.nc+1≤maxLen∧(v.nc+1) * 16≤140737488355328∨True):=.inr trivial
 clear hf hncl b0 h hcl
 go_enter Tryz.func89,Tryz.ntmps89
 go_wp2_with fail
 refine (HF.out _).mono ?_
 rintro e w2 ⟨rfl,hb2⟩
 rw [←hw1] at hb2
 have D2:=D1.below hb2
 have r2:=r1.below hb2 r1.lt
 obtain⟨a0,a1⟩:=two_cellsV r2
 have HB2:=Lib.hid (HB1.out.trans (hb2.mono D1.le))
 have HD2:=Lib.hid D2
 clear D1 D2 hb2 HB1 r1 hw1
 go_wp2_with fail
 refine (demand_ok x z 4 _).mono ?_
 rintro e w3 ⟨rfl,hb3⟩
 have D3:=HD2.out.below hb3
 have r3:=r2.below hb3 r2.lt
 obtain⟨i0,i1⟩:=two_cellsV r3
 have HB3:=Lib.hid (HB2.out.trans (hb3.mono HD2.out.le))
 have c4:w3.cell? ⟨g,4,none⟩=some (.slice v.Ac v.nc v.cc):=cell_rowV D3.row rfl
 have HD3:=Lib.hid D3
 clear D3 HD2 HB2 hb3 a0 a1 r2
 go_wp2_with fail
 refine wp_region_quiet_tail 8 (by kernel_rfl) (by kernel_rfl) ?_
 simp only [List.take_succ_cons,List.take_zero,List.drop_succ_cons,List.drop_zero]
 repeat (go_big_quiet_step (fail))
 refine wpQuiet_nil ?_
 intro _ hw'
 obtain⟨nr,hw''⟩:=hw'
 subst hw''
 go_wp2_with fail
 refine (demand_bad x z 6 _).mono ?_
 rintro e w4 ⟨rfl,hb4⟩
 have b34:Below w3.heap.size w3 w4:=(bdrew (Below.refl _ _) nr).trans (hb4.mono (Nat.le_refl _))
 have hE:=Lib.hid (HB3.out.trans (b34.mono HD3.out.le))
 go_wp2_with fail
 exact⟨rfl,rfl,hE.out⟩
theorem instr_ok0(B g n:Nat)(v:RVs)(s:AS)(ws:List Wd)(w:World)(h:RD B g n w s ws v)(x:List UInt8)(z:Nat)(hf:findL x=some 0)(hcl:s.code.length < 1024)(hV:(argL s 0 (nextW n ws).1).2=0) :
  Calls Tryz.prog 89 #[.pointer (some ⟨g,0,none⟩),.agg #[.string (strB x),.int .i64 (z:Int)]] w fun e w'=>e=.returned (.tuple #[])∧Below B w w'∧∃ v',RD B g n w' { s with code:=s.code++[⟨((0:Nat):Int),(((argL s 0 (nextW n ws).1).1:Nat):Int)⟩] } ws.tail v':=by
 have hgl:=h.row.lt
 have hB:=h.hB
 have b0:=balloc (Below.refl w.heap.size w) (.cells #[.string (strB x),.int .i64 (z:Int)] 172)
 have r1:=rowV.new w 172 #[.string (strB x),.int .i64 (z:Int)]
 obtain⟨w1,hw1⟩:∃ w1,w1=w.alloc (.cells #[.string (strB x),.int .i64 (z:Int)] 172):=⟨_,rfl⟩
 rw [←hw1] at b0 r1
 have D1:=h.below b0
 have HB1:Hid (Below B w w1):=b0.mono (by omega)
 have HF:Hid (∀ W,Calls Tryz.prog 124 #[.string (strB x)] W fun e w'=>e=.returned (.tuple #[.int .i64 0,.bool true])∧Below W.heap.size W w'):=fun W=>by
  have:=find_any x W
  rw [hf,findN_some hf] at this
  exact this
 have hncl:v.nc=s.code.length:=(h.oc.length (fun _=>rfl) (by decide)).symm
 have dc:decide ((v.nc:Int) < 1024)=true:=by simp;omega
 have dc':decide (v.nc < 1024)=true:=by simp;omega
 have hm:Hid (v.nc+1≤maxLen∧(v.nc+1) * 16≤140737488355328∨True):=.inr trivial
 have hmc:Hid (v.nc+1≤maxLen∧(v.nc+1) * 16≤140737488355328):=⟨by simp [maxLen];omega,by omega⟩
 have HFM:=Lib.hid h.fm
 have HFEW:=Lib.hid h.few
 have HCL:=Lib.hid hcl
 clear hcl
 have HV:=Lib.hid hV
 have HIN:=Lib.hid (argL_ok h.fm (op:=0) (by decide) hV)
 have hlt:(argL s 0 (nextW n ws).1).1 < 4294967296:=by have:=(argL_ok h.fm (op:=0) (by decide) hV).2.2.2.1;dsimp only at this;omega
 obtain⟨y,zy,hy⟩:∃ y zy,nextW n ws=(y,zy):=⟨_,_,rfl⟩
 obtain⟨nn,hnn⟩:∃ nn,nn=(argL s 0 (nextW n ws).1).1:=⟨_,rfl⟩
 have HER:Hid (nn=(argL s 0 (nextW n ws).1).1∧nextW n ws=(y,zy)):=⟨hnn,hy⟩
 rw [←hnn] at hlt HIN ⊢
 have hwr:=wrap32u nn hlt
 clear hf hncl b0 h hV hnn hy hlt
 go_enter Tryz.func89,Tryz.ntmps89
 go_wp2_with fail
 refine (HF.out _).mono ?_
 rintro e w2 ⟨rfl,hb2⟩
 rw [←hw1] at hb2
 have D2:=D1.below hb2
 have r2:=r1.below hb2 r1.lt
 obtain⟨a0,a1⟩:=two_cellsV r2
 have HB2:=Lib.hid (HB1.out.trans (hb2.mono D1.le))
 have HD2:=Lib.hid D2
 clear D1 D2 hb2 HB1 r1 hw1
 go_wp2_with fail
 refine (demand_ok x z 4 _).mono ?_
 rintro e w3 ⟨rfl,hb3⟩
 have D3:=HD2.out.below hb3
 have r3:=r2.below hb3 r2.lt
 obtain⟨i0,i1⟩:=two_cellsV r3
 have HB3:=Lib.hid (HB2.out.trans (hb3.mono HD2.out.le))
 have c4:w3.cell? ⟨g,4,none⟩=some (.slice v.Ac v.nc v.cc):=cell_rowV D3.row rfl
 have HD3:=Lib.hid D3
 clear D3 HD2 HB2 hb3 a0 a1 r2
 go_wp2_with fail
 refine wp_region_quiet_tail 8 (by kernel_rfl) (by kernel_rfl) ?_
 simp only [List.take_succ_cons,List.take_zero,List.drop_succ_cons,List.drop_zero]
 repeat (go_big_quiet_step (fail))
 refine wpQuiet_nil ?_
 intro _ hw'
 obtain⟨nr,hw''⟩:=hw'
 subst hw''
 go_wp2_with fail
 refine (demand_ok x z 6 _).mono ?_
 rintro e w4 ⟨rfl,hb4⟩
 have b34:Below w3.heap.size w3 w4:=(bdrew (Below.refl _ _) nr).trans (hb4.mono (Nat.le_refl _))
 have D4:=HD3.out.below b34
 have HB4:=Lib.hid (HB3.out.trans (b34.mono HD3.out.le))
 have HV2:Hid (Calls Tryz.prog 126 #[.pointer (some ⟨g,0,none⟩)] w4 fun e w'=>∃ A4 k4 c4,e=.returned (.tuple #[.int .i64 (nn:Int),.agg #[.string (strB y),.int .i64 (zy:Int)]])∧RD B g n w' s ws.tail (v.at_ A4 k4 c4)∧w4.grownBy w' (some g)):=by
  show Calls _ _ _ _ _
  have hv0:(valueL s (nextW n ws).1).2=0:=HV.out
  have:=asmValue_ok B g n v s ws w4 D4 hv0
  have hv1:(valueL s (nextW n ws).1).1=nn:=HER.out.1.symm
  rw [hv1,HER.out.2] at this
  refine this.mono ?_
  rintro e w' ⟨rfl,hN⟩
  obtain⟨A4,k4,c4,D5,hg5⟩:=D4.next (ws':=ws.tail) (by rw [List.length_tail];omega) hN
  exact⟨A4,k4,c4,rfl,D5,hg5⟩
 have HD4:=Lib.hid D4
 clear D4 HD3 HB3 b34 hb4 c4 i0 i1 r3
 go_wp2_with fail
 refine HV2.out.mono ?_
 rintro e w5 ⟨A4,k4,c4',rfl,D5,hg5⟩
 have HB5:=Lib.hid (HB4.out.trans (HD4.out.toBelow hg5))
 have HDF:=Lib.hid D5
 have HBF:=HB5
 have c45:w5.cell? ⟨g,4,none⟩=some (.slice v.Ac v.nc v.cc):=cell_rowV D5.row rfl
 clear D5 HD4 HV2 hg5
 go_wp2_with (at_builtin;refine wpList_pushT (enc:=encIn) rfl (.tmp 70) (.tmp 75) rfl uIn infoIn encIn_one rfl (fun _=>rfl) (by decide) rfl HDF.out.oc HDF.out.le (⟨((0:Nat):Int),(nn:Int)⟩:Ins) _ rfl rfl hmc.out.1 hmc.out.2 ?_;intro A9 c9 w9 ho9 hb9 hg9 hf9;have rX:=HDF.out.row.grown hg9 (fun e=>(HDF.out.oc.ne_row HDF.out.row (by decide)) _ e.symm rfl);have e94:w9.cell? ⟨g,4,none⟩=some (.slice v.Ac v.nc v.cc):=cell_rowV rX rfl;have f94:=frozen_rowV' rX 4)
 have D10:=HDF.out.toRC.push_code ho9 hb9 hg9 hf9
 refine⟨rfl,_,results_none rfl _ _ _,rfl,HBF.out.trans (hb9.trans (Below.setG HDF.out.hB _)),_,RC.code D10 ?_ HFM.out HCL.out ?_⟩
 ·have:=HFEW.out
  have h2:ws.tail.length≤ws.length:=by rw [List.length_tail];omega
  show s.cn.length+ws.tail.length≤9000
  omega
 ·exact HIN.out
theorem instr_bad0(B g n:Nat)(v:RVs)(s:AS)(ws:List Wd)(w:World)(h:RD B g n w s ws v)(x:List UInt8)(z:Nat)(hf:findL x=some 0)(hcl:s.code.length < 1024)(hV:(argL s 0 (nextW n ws).1).2≠0) :
  Calls Tryz.prog 89 #[.pointer (some ⟨g,0,none⟩),.agg #[.string (strB x),.int .i64 (z:Int)]] w fun e w'=>FailsB B w ((nextW n ws).2:Int) (argL s 0 (nextW n ws).1).2 e w':=by
 have hgl:=h.row.lt
 have hB:=h.hB
 have b0:=balloc (Below.refl w.heap.size w) (.cells #[.string (strB x),.int .i64 (z:Int)] 172)
 have r1:=rowV.new w 172 #[.string (strB x),.int .i64 (z:Int)]
 obtain⟨w1,hw1⟩:∃ w1,w1=w.alloc (.cells #[.string (strB x),.int .i64 (z:Int)] 172):=⟨_,rfl⟩
 rw [←hw1] at b0 r1
 have D1:=h.below b0
 have HB1:Hid (Below B w w1):=b0.mono (by omega)
 have HF:Hid (∀ W,Calls Tryz.prog 124 #[.string (strB x)] W fun e w'=>e=.returned (.tuple #[.int .i64 0,.bool true])∧Below W.heap.size W w'):=fun W=>by
  have:=find_any x W
  rw [hf,findN_some hf] at this
  exact this
 have hncl:v.nc=s.code.length:=(h.oc.length (fun _=>rfl) (by decide)).symm
 have dc:decide ((v.nc:Int) < 1024)=true:=by simp;omega
 have dc':decide (v.nc < 1024)=true:=by simp;omega
 have hm:Hid (v.nc+1≤maxLen∧(v.nc+1) * 16≤140737488355328∨True):=.inr trivial
 have hmc:Hid (v.nc+1≤maxLen∧(v.nc+1) * 16≤140737488355328):=⟨by simp [maxLen];omega,by omega⟩
 have HFM:=Lib.hid h.fm
 have HFEW:=Lib.hid h.few
 have HCL:=Lib.hid hcl
 clear hcl
 have HV:=Lib.hid hV
 obtain⟨y,zy,hy⟩:∃ y zy,nextW n ws=(y,zy):=⟨_,_,rfl⟩
 obtain⟨er,her⟩:∃ er,er=(argL s 0 (nextW n ws).1).2:=⟨_,rfl⟩
 have HER:Hid (er=(argL s 0 (nextW n ws).1).2∧nextW n ws=(y,zy)):=⟨her,hy⟩
 rw [←her,hy]
 clear hf hncl b0 h hV her hy
 go_enter Tryz.func89,Tryz.ntmps89
 go_wp2_with fail
 refine (HF.out _).mono ?_
 rintro e w2 ⟨rfl,hb2⟩
 rw [←hw1] at hb2
 have D2:=D1.below hb2
 have r2:=r1.below hb2 r1.lt
 obtain⟨a0,a1⟩:=two_cellsV r2
 have HB2:=Lib.hid (HB1.out.trans (hb2.mono D1.le))
 have HD2:=Lib.hid D2
 clear D1 D2 hb2 HB1 r1 hw1
 go_wp2_with fail
 refine (demand_ok x z 4 _).mono ?_
 rintro e w3 ⟨rfl,hb3⟩
 have D3:=HD2.out.below hb3
 have r3:=r2.below hb3 r2.lt
 obtain⟨i0,i1⟩:=two_cellsV r3
 have HB3:=Lib.hid (HB2.out.trans (hb3.mono HD2.out.le))
 have c4:w3.cell? ⟨g,4,none⟩=some (.slice v.Ac v.nc v.cc):=cell_rowV D3.row rfl
 have HD3:=Lib.hid D3
 clear D3 HD2 HB2 hb3 a0 a1 r2
 go_wp2_with fail
 refine wp_region_quiet_tail 8 (by kernel_rfl) (by kernel_rfl) ?_
 simp only [List.take_succ_cons,List.take_zero,List.drop_succ_cons,List.drop_zero]
 repeat (go_big_quiet_step (fail))
 refine wpQuiet_nil ?_
 intro _ hw'
 obtain⟨nr,hw''⟩:=hw'
 subst hw''
 go_wp2_with fail
 refine (demand_ok x z 6 _).mono ?_
 rintro e w4 ⟨rfl,hb4⟩
 have b34:Below w3.heap.size w3 w4:=(bdrew (Below.refl _ _) nr).trans (hb4.mono (Nat.le_refl _))
 have D4:=HD3.out.below b34
 have HB4:=Lib.hid (HB3.out.trans (b34.mono HD3.out.le))
 have HV2:Hid (Calls Tryz.prog 126 #[.pointer (some ⟨g,0,none⟩)] w4 fun e w'=>FailsB B w4 zy er e w'):=by
  show Calls _ _ _ _ _
  have:=asmValue_bad B g n v s ws w4 D4 HV.out
  have h1:(valueL s (nextW n ws).1).2=er:=HER.out.1.symm
  rw [h1,HER.out.2] at this
  exact this
 clear D4 HD3 HB3 b34 hb4 c4 i0 i1 r3
 go_wp2_with fail
 refine HV2.out.mono ?_
 rintro e w5 ⟨rfl,hb5⟩
 have hE:=Lib.hid (HB4.out.trans hb5)
 go_wp2_with fail
 exact⟨rfl,rfl,hE.out⟩
theorem instr_ok35(B g n:Nat)(v:RVs)(s:AS)(ws:List Wd)(w:World)(h:RD B g n w s ws v)(x:List UInt8)(z:Nat)(hf:findL x=some 35)(hcl:s.code.length < 1024)(hV:(argL s 35 (nextW n ws).1).2=0) :
  Calls Tryz.prog 89 #[.pointer (some ⟨g,0,none⟩),.agg #[.string (strB x),.int .i64 (z:Int)]] w fun e w'=>e=.returned (.tuple #[])∧Below B w w'∧∃ v',RD B g n w' { s with code:=s.code++[⟨((35:Nat):Int),(((argL s 35 (nextW n ws).1).1:Nat):Int)⟩] } ws.tail v':=by
 have hgl:=h.row.lt
 have hB:=h.hB
 have b0:=balloc (Below.refl w.heap.size w) (.cells #[.string (strB x),.int .i64 (z:Int)] 172)
 have r1:=rowV.new w 172 #[.string (strB x),.int .i64 (z:Int)]
 obtain⟨w1,hw1⟩:∃ w1,w1=w.alloc (.cells #[.string (strB x),.int .i64 (z:Int)] 172):=⟨_,rfl⟩
 rw [←hw1] at b0 r1
 have D1:=h.below b0
 have HB1:Hid (Below B w w1):=b0.mono (by omega)
 have HF:Hid (∀ W,Calls Tryz.prog 124 #[.string (strB x)] W fun e w'=>e=.returned (.tuple #[.int .i64 35,.bool true])∧Below W.heap.size W w'):=fun W=>by
  have:=find_any x W
  rw [hf,findN_some hf] at this
  exact this
 have hncl:v.nc=s.code.length:=(h.oc.length (fun _=>rfl) (by decide)).symm
 have dc:decide ((v.nc:Int) < 1024)=true:=by simp;omega
 have dc':decide (v.nc < 1024)=true:=by simp;omega
 have hm:Hid (v.nc+1≤maxLen∧(v.nc+1) * 16≤140737488355328∨True):=.inr trivial
 have hmc:Hid (v.nc+1≤maxLen∧(v.nc+1) * 16≤140737488355328):=⟨by simp [maxLen];omega,by omega⟩
 have HFM:=Lib.hid h.fm
 have HFEW:=Lib.hid h.few
 have HCL:=Lib.hid hcl
 clear hcl
 have HV:=Lib.hid hV
 have HIN:=Lib.hid (argL_ok h.fm (op:=35) (by decide) hV)
 have hlt:(argL s 35 (nextW n ws).1).1 < 4294967296:=by have:=(argL_ok h.fm (op:=35) (by decide) hV).2.2.2.1;dsimp only at this;omega
 obtain⟨y,zy,hy⟩:∃ y zy,nextW n ws=(y,zy):=⟨_,_,rfl⟩
 obtain⟨nn,hnn⟩:∃ nn,nn=(argL s 35 (nextW n ws).1).1:=⟨_,rfl⟩
 have HER:Hid (nn=(argL s 35 (nextW n ws).1).1∧nextW n ws=(y,zy)):=⟨hnn,hy⟩
 rw [←hnn] at hlt HIN ⊢
 have hwr:=wrap32u nn hlt
 have h16:nn < 16:=by have:=HIN.out.2.2.2.2.1 rfl;dsimp only at this;omega
 have d16:decide ((nn:Int) < 16)=true:=by simp;omega
 have d16':decide (nn < 16)=true:=by simp;omega
 clear h16
 clear hf hncl b0 h hV hnn hy hlt
 go_enter Tryz.func89,Tryz.ntmps89
 go_wp2_with fail
 refine (HF.out _).mono ?_
 rintro e w2 ⟨rfl,hb2⟩
 rw [←hw1] at hb2
 have D2:=D1.below hb2
 have r2:=r1.below hb2 r1.lt
 obtain⟨a0,a1⟩:=two_cellsV r2
 have HB2:=Lib.hid (HB1.out.trans (hb2.mono D1.le))
 have HD2:=Lib.hid D2
 clear D1 D2 hb2 HB1 r1 hw1
 go_wp2_with fail
 refine (demand_ok x z 4 _).mono ?_
 rintro e w3 ⟨rfl,hb3⟩
 have D3:=HD2.out.below hb3
 have r3:=r2.below hb3 r2.lt
 obtain⟨i0,i1⟩:=two_cellsV r3
 have HB3:=Lib.hid (HB2.out.trans (hb3.mono HD2.out.le))
 have c4:w3.cell? ⟨g,4,none⟩=some (.slice v.Ac v.nc v.cc):=cell_rowV D3.row rfl
 have HD3:=Lib.hid D3
 clear D3 HD2 HB2 hb3 a0 a1 r2
 go_wp2_with fail
 refine wp_region_quiet_tail 8 (by kernel_rfl) (by kernel_rfl) ?_
 simp only [List.take_succ_cons,List.take_zero,List.drop_succ_cons,List.drop_zero]
 repeat (go_big_quiet_step (fail))
 refine wpQuiet_nil ?_
 intro _ hw'
 obtain⟨nr,hw''⟩:=hw'
 subst hw''
 go_wp2_with fail
 refine (demand_ok x z 6 _).mono ?_
 rintro e w4 ⟨rfl,hb4⟩
 have b34:Below w3.heap.size w3 w4:=(bdrew (Below.refl _ _) nr).trans (hb4.mono (Nat.le_refl _))
 have D4:=HD3.out.below b34
 have HB4:=Lib.hid (HB3.out.trans (b34.mono HD3.out.le))
 have HV2:Hid (Calls Tryz.prog 126 #[.pointer (some ⟨g,0,none⟩)] w4 fun e w'=>∃ A4 k4 c4,e=.returned (.tuple #[.int .i64 (nn:Int),.agg #[.string (strB y),.int .i64 (zy:Int)]])∧RD B g n w' s ws.tail (v.at_ A4 k4 c4)∧w4.grownBy w' (some g)):=by
  show Calls _ _ _ _ _
  have hv0:(valueL s (nextW n ws).1).2=0:=by
   have hv:=HV.out
   unfold argL at hv
   simp only [if_neg (show ¬ (35:Nat)=0 by decide),if_true] at hv
   split at hv
   ·rename_i h9;exact absurd hv h9
   ·rename_i h9;simpa using h9
  have:=asmValue_ok B g n v s ws w4 D4 hv0
  have hv1:(valueL s (nextW n ws).1).1=nn:=HER.out.1.symm
  rw [hv1,HER.out.2] at this
  refine this.mono ?_
  rintro e w' ⟨rfl,hN⟩
  obtain⟨A4,k4,c4,D5,hg5⟩:=D4.next (ws':=ws.tail) (by rw [List.length_tail];omega) hN
  exact⟨A4,k4,c4,rfl,D5,hg5⟩
 have HD4:=Lib.hid D4
 clear D4 HD3 HB3 b34 hb4 c4 i0 i1 r3
 go_wp2_with fail
 refine HV2.out.mono ?_
 rintro e w5 ⟨A4,k4,c4',rfl,D5,hg5⟩
 have HB5:=Lib.hid (HB4.out.trans (HD4.out.toBelow hg5))
 have s6:=rowV.new w5 172 #[.string (strB y),.int .i64 (zy:Int)]
 have b56:Below w5.heap.size w5 (w5.alloc (.cells #[.string (strB y),.int .i64 (zy:Int)] 172)):=balloc (Below.refl _ _) _
 obtain⟨w6,hw6⟩:∃ w6,w6=w5.alloc (.cells #[.string (strB y),.int .i64 (zy:Int)] 172):=⟨_,rfl⟩
 rw [←hw6] at s6 b56
 have HD6:=Lib.hid (D5.below b56)
 have HB6:=Lib.hid (HB5.out.trans (b56.mono D5.le))
 clear HD4 HV2 hg5 D5 s6 b56 HB5
 go_wp2_with fail
 rw [←hw6]
 clear hw6
 refine (demand_ok y zy 2 _).mono ?_
 rintro e w7 ⟨rfl,hb7⟩
 have D7:=HD6.out.below hb7
 have HDF:=Lib.hid D7
 have HBF:=Lib.hid (HB6.out.trans (hb7.mono HD6.out.le))
 have c45:w7.cell? ⟨g,4,none⟩=some (.slice v.Ac v.nc v.cc):=cell_rowV D7.row rfl
 clear D7 HD6 HB6 hb7
 go_wp2_with (at_builtin;refine wpList_pushT (enc:=encIn) rfl (.tmp 70) (.tmp 75) rfl uIn infoIn encIn_one rfl (fun _=>rfl) (by decide) rfl HDF.out.oc HDF.out.le (⟨((35:Nat):Int),(nn:Int)⟩:Ins) _ rfl rfl hmc.out.1 hmc.out.2 ?_;intro A9 c9 w9 ho9 hb9 hg9 hf9;have rX:=HDF.out.row.grown hg9 (fun e=>(HDF.out.oc.ne_row HDF.out.row (by decide)) _ e.symm rfl);have e94:w9.cell? ⟨g,4,none⟩=some (.slice v.Ac v.nc v.cc):=cell_rowV rX rfl;have f94:=frozen_rowV' rX 4)
 have D10:=HDF.out.toRC.push_code ho9 hb9 hg9 hf9
 refine⟨rfl,_,results_none rfl _ _ _,rfl,HBF.out.trans (hb9.trans (Below.setG HDF.out.hB _)),_,RC.code D10 ?_ HFM.out HCL.out ?_⟩
 ·have:=HFEW.out
  have h2:ws.tail.length≤ws.length:=by rw [List.length_tail];omega
  show s.cn.length+ws.tail.length≤9000
  omega
 ·exact HIN.out
theorem instr_bad35(B g n:Nat)(v:RVs)(s:AS)(ws:List Wd)(w:World)(h:RD B g n w s ws v)(x:List UInt8)(z:Nat)(hf:findL x=some 35)(hcl:s.code.length < 1024)(hV:(valueL s (nextW n ws).1).2≠0) :
  Calls Tryz.prog 89 #[.pointer (some ⟨g,0,none⟩),.agg #[.string (strB x),.int .i64 (z:Int)]] w fun e w'=>FailsB B w ((nextW n ws).2:Int) (valueL s (nextW n ws).1).2 e w':=by
 have hgl:=h.row.lt
 have hB:=h.hB
 have b0:=balloc (Below.refl w.heap.size w) (.cells #[.string (strB x),.int .i64 (z:Int)] 172)
 have r1:=rowV.new w 172 #[.string (strB x),.int .i64 (z:Int)]
 obtain⟨w1,hw1⟩:∃ w1,w1=w.alloc (.cells #[.string (strB x),.int .i64 (z:Int)] 172):=⟨_,rfl⟩
 rw [←hw1] at b0 r1
 have D1:=h.below b0
 have HB1:Hid (Below B w w1):=b0.mono (by omega)
 have HF:Hid (∀ W,Calls Tryz.prog 124 #[.string (strB x)] W fun e w'=>e=.returned (.tuple #[.int .i64 35,.bool true])∧Below W.heap.size W w'):=fun W=>by
  have:=find_any x W
  rw [hf,findN_some hf] at this
  exact this
 have hncl:v.nc=s.code.length:=(h.oc.length (fun _=>rfl) (by decide)).symm
 have dc:decide ((v.nc:Int) < 1024)=true:=by simp;omega
 have dc':decide (v.nc < 1024)=true:=by simp;omega
 have hm:Hid (v.nc+1≤maxLen∧(v.nc+1) * 16≤140737488355328∨True):=.inr trivial
 have hmc:Hid (v.nc+1≤maxLen∧(v.nc+1) * 16≤140737488355328):=⟨by simp [maxLen];omega,by omega⟩
 have HFM:=Lib.hid h.fm
 have HFEW:=Lib.hid h.few
 have HCL:=Lib.hid hcl
 clear hcl
 have HV:=Lib.hid hV
 obtain⟨y,zy,hy⟩:∃ y zy,nextW n ws=(y,zy):=⟨_,_,rfl⟩
 obtain⟨er,her⟩:∃ er,er=(valueL s (nextW n ws).1).2:=⟨_,rfl⟩
 have HER:Hid (er=(valueL s (nextW n ws).1).2∧nextW n ws=(y,zy)):=⟨her,hy⟩
 rw [←her,hy]
 clear hf hncl b0 h hV her hy
 go_enter Tryz.func89,Tryz.ntmps89
 go_wp2_with fail
 refine (HF.out _).mono ?_
 rintro e w2 ⟨rfl,hb2⟩
 rw [←hw1] at hb2
 have D2:=D1.below hb2
 have r2:=r1.below hb2 r1.lt
 obtain⟨a0,a1⟩:=two_cellsV r2
 have HB2:=Lib.hid (HB1.out.trans (hb2.mono D1.le))
 have HD2:=Lib.hid D2
 clear D1 D2 hb2 HB1 r1 hw1
 go_wp2_with fail
 refine (demand_ok x z 4 _).mono ?_
 rintro e w3 ⟨rfl,hb3⟩
 have D3:=HD2.out.below hb3
 have r3:=r2.below hb3 r2.lt
 obtain⟨i0,i1⟩:=two_cellsV r3
 have HB3:=Lib.hid (HB2.out.trans (hb3.mono HD2.out.le))
 have c4:w3.cell? ⟨g,4,none⟩=some (.slice v.Ac v.nc v.cc):=cell_rowV D3.row rfl
 have HD3:=Lib.hid D3
 clear D3 HD2 HB2 hb3 a0 a1 r2
 go_wp2_with fail
 refine wp_region_quiet_tail 8 (by kernel_rfl) (by kernel_rfl) ?_
 simp only [List.take_succ_cons,List.take_zero,List.drop_succ_cons,List.drop_zero]
 repeat (go_big_quiet_step (fail))
 refine wpQuiet_nil ?_
 intro _ hw'
 obtain⟨nr,hw''⟩:=hw'
 subst hw''
 go_wp2_with fail
 refine (demand_ok x z 6 _).mono ?_
 rintro e w4 ⟨rfl,hb4⟩
 have b34:Below w3.heap.size w3 w4:=(bdrew (Below.refl _ _) nr).trans (hb4.mono (Nat.le_refl _))
 have D4:=HD3.out.below b34
 have HB4:=Lib.hid (HB3.out.trans (b34.mono HD3.out.le))
 have HV2:Hid (Calls Tryz.prog 126 #[.pointer (some ⟨g,0,none⟩)] w4 fun e w'=>FailsB B w4 zy er e w'):=by
  show Calls _ _ _ _ _
  have:=asmValue_bad B g n v s ws w4 D4 HV.out
  have h1:(valueL s (nextW n ws).1).2=er:=HER.out.1.symm
  rw [h1,HER.out.2] at this
  exact this
 clear D4 HD3 HB3 b34 hb4 c4 i0 i1 r3
 go_wp2_with fail
 refine HV2.out.mono ?_
 rintro e w5 ⟨rfl,hb5⟩
 have hE:=Lib.hid (HB4.out.trans hb5)
 go_wp2_with fail
 exact⟨rfl,rfl,hE.out⟩
theorem instr_bad35r(B g n:Nat)(v:RVs)(s:AS)(ws:List Wd)(w:World)(h:RD B g n w s ws v)(x:List UInt8)(z:Nat)(hf:findL x=some 35)(hcl:s.code.length < 1024)(hV:(valueL s (nextW n ws).1).2=0)(hR:16≤(valueL s (nextW n ws).1).1) :
  Calls Tryz.prog 89 #[.pointer (some ⟨g,0,none⟩),.agg #[.string (strB x),.int .i64 (z:Int)]] w fun e w'=>FailsB B w ((nextW n ws).2:Int) 2 e w':=by
 have hgl:=h.row.lt
 have hB:=h.hB
 have b0:=balloc (Below.refl w.heap.size w) (.cells #[.string (strB x),.int .i64 (z:Int)] 172)
 have r1:=rowV.new w 172 #[.string (strB x),.int .i64 (z:Int)]
 obtain⟨w1,hw1⟩:∃ w1,w1=w.alloc (.cells #[.string (strB x),.int .i64 (z:Int)] 172):=⟨_,rfl⟩
 rw [←hw1] at b0 r1
 have D1:=h.below b0
 have HB1:Hid (Below B w w1):=b0.mono (by omega)
 have HF:Hid (∀ W,Calls Tryz.prog 124 #[.string (strB x)] W fun e w'=>e=.returned (.tuple #[.int .i64 35,.bool true])∧Below W.heap.size W w'):=fun W=>by
  have:=find_any x W
  rw [hf,findN_some hf] at this
  exact this
 have hncl:v.nc=s.code.length:=(h.oc.length (fun _=>rfl) (by decide)).symm
 have dc:decide ((v.nc:Int) < 1024)=true:=by simp;omega
 have dc':decide (v.nc < 1024)=true:=by simp;omega
 have hm:Hid (v.nc+1≤maxLen∧(v.nc+1) * 16≤140737488355328∨True):=.inr trivial
 have hmc:Hid (v.nc+1≤maxLen∧(v.nc+1) * 16≤140737488355328):=⟨by simp [maxLen];omega,by omega⟩
 have HFM:=Lib.hid h.fm
 have HFEW:=Lib.hid h.few
 have HCL:=Lib.hid hcl
 clear hcl
 have HV:=Lib.hid hV
 obtain⟨y,zy,hy⟩:∃ y zy,nextW n ws=(y,zy):=⟨_,_,rfl⟩
 have hlt:=valueL_lt h.fm.cn (nextW n ws).1
 obtain⟨nn,hnn⟩:∃ nn,nn=(valueL s (nextW n ws).1).1:=⟨_,rfl⟩
 have HER:Hid (nn=(valueL s (nextW n ws).1).1∧nextW n ws=(y,zy)):=⟨hnn,hy⟩
 rw [←hnn] at hlt hR
 rw [hy]
 have d16:decide ((nn:Int) < 16)=false:=by simp;omega
 have d16':decide (nn < 16)=false:=by simp;omega
 clear hf hncl b0 h hV hnn hy hlt hR
 go_enter Tryz.func89,Tryz.ntmps89
 go_wp2_with fail
 refine (HF.out _).mono ?_
 rintro e w2 ⟨rfl,hb2⟩
 rw [←hw1] at hb2
 have D2:=D1.below hb2
 have r2:=r1.below hb2 r1.lt
 obtain⟨a0,a1⟩:=two_cellsV r2
 have HB2:=Lib.hid (HB1.out.trans (hb2.mono D1.le))
 have HD2:=Lib.hid D2
 clear D1 D2 hb2 HB1 r1 hw1
 go_wp2_with fail
 refine (demand_ok x z 4 _).mono ?_
 rintro e w3 ⟨rfl,hb3⟩
 have D3:=HD2.out.below hb3
 have r3:=r2.below hb3 r2.lt
 obtain⟨i0,i1⟩:=two_cellsV r3
 have HB3:=Lib.hid (HB2.out.trans (hb3.mono HD2.out.le))
 have c4:w3.cell? ⟨g,4,none⟩=some (.slice v.Ac v.nc v.cc):=cell_rowV D3.row rfl
 have HD3:=Lib.hid D3
 clear D3 HD2 HB2 hb3 a0 a1 r2
 go_wp2_with fail
 refine wp_region_quiet_tail 8 (by kernel_rfl) (by kernel_rfl) ?_
 simp only [List.take_succ_cons,List.take_zero,List.drop_succ_cons,List.drop_zero]
 repeat (go_big_quiet_step (fail))
 refine wpQuiet_nil ?_
 intro _ hw'
 obtain⟨nr,hw''⟩:=hw'
 subst hw''
 go_wp2_with fail
 refine (demand_ok x z 6 _).mono ?_
 rintro e w4 ⟨rfl,hb4⟩
 have b34:Below w3.heap.size w3 w4:=(bdrew (Below.refl _ _) nr).trans (hb4.mono (Nat.le_refl _))
 have D4:=HD3.out.below b34
 have HB4:=Lib.hid (HB3.out.trans (b34.mono HD3.out.le))
 have HV2:Hid (Calls Tryz.prog 126 #[.pointer (some ⟨g,0,none⟩)] w4 fun e w'=>∃ A4 k4 c4,e=.returned (.tuple #[.int .i64 (nn:Int),.agg #[.string (strB y),.int .i64 (zy:Int)]])∧RD B g n w' s ws.tail (v.at_ A4 k4 c4)∧w4.grownBy w' (some g)):=by
  show Calls _ _ _ _ _
  have:=asmValue_ok B g n v s ws w4 D4 HV.out
  rw [←HER.out.1,HER.out.2] at this
  refine this.mono ?_
  rintro e w' ⟨rfl,hN⟩
  obtain⟨A4,k4,c4,D5,hg5⟩:=D4.next (ws':=ws.tail) (by rw [List.length_tail];omega) hN
  exact⟨A4,k4,c4,rfl,D5,hg5⟩
 have HD4:=Lib.hid D4
 clear D4 HD3 HB3 b34 hb4 c4 i0 i1 r3
 go_wp2_with fail
 refine HV2.out.mono ?_
 rintro e w5 ⟨A4,k4,c4',rfl,D5,hg5⟩
 have HB5:=Lib.hid (HB4.out.trans (HD4.out.toBelow hg5))
 have b56:Below w5.heap.size w5 (w5.alloc (.cells #[.string (strB y),.int .i64 (zy:Int)] 172)):=balloc (Below.refl _ _) _
 obtain⟨w6,hw6⟩:∃ w6,w6=w5.alloc (.cells #[.string (strB y),.int .i64 (zy:Int)] 172):=⟨_,rfl⟩
 rw [←hw6] at b56
 have HD6:=Lib.hid (D5.below b56)
 have HB6:=Lib.hid (HB5.out.trans (b56.mono D5.le))
 clear HD4 HV2 hg5 D5 b56 HB5
 go_wp2_with fail
 rw [←hw6]
 clear hw6
 refine (demand_bad y zy 2 _).mono ?_
 rintro e w7 ⟨rfl,hb7⟩
 have hE:=Lib.hid (HB6.out.trans (hb7.mono HD6.out.le))
 go_wp2_with fail
 exact⟨rfl,rfl,hE.out⟩
theorem instr_ok1(B g n:Nat)(v:RVs)(s:AS)(ws:List Wd)(w:World)(h:RD B g n w s ws v)(x:List UInt8)(z:Nat)(hf:findL x=some 1)(hcl:s.code.length < 1024)(hV:(argL s 1 (nextW n ws).1).2=0) :
  Calls Tryz.prog 89 #[.pointer (some ⟨g,0,none⟩),.agg #[.string (strB x),.int .i64 (z:Int)]] w fun e w'=>e=.returned (.tuple #[])∧Below B w w'∧∃ v',RD B g n w' { s with code:=s.code++[⟨((1:Nat):Int),(((argL s 1 (nextW n ws).1).1:Nat):Int)⟩] } ws.tail v':=by
 have hgl:=h.row.lt
 have hB:=h.hB
 have b0:=balloc (Below.refl w.heap.size w) (.cells #[.string (strB x),.int .i64 (z:Int)] 172)
 have r1:=rowV.new w 172 #[.string (strB x),.int .i64 (z:Int)]
 obtain⟨w1,hw1⟩:∃ w1,w1=w.alloc (.cells #[.string (strB x),.int .i64 (z:Int)] 172):=⟨_,rfl⟩
 rw [←hw1] at b0 r1
 have D1:=h.below b0
 have HB1:Hid (Below B w w1):=b0.mono (by omega)
 have HF:Hid (∀ W,Calls Tryz.prog 124 #[.string (strB x)] W fun e w'=>e=.returned (.tuple #[.int .i64 1,.bool true])∧Below W.heap.size W w'):=fun W=>by
  have:=find_any x W
  rw [hf,findN_some hf] at this
  exact this
 have hncl:v.nc=s.code.length:=(h.oc.length (fun _=>rfl) (by decide)).symm
 have dc:decide ((v.nc:Int) < 1024)=true:=by simp;omega
 have dc':decide (v.nc < 1024)=true:=by simp;omega
 have hm:Hid (v.nc+1≤maxLen∧(v.nc+1) * 16≤140737488355328∨True):=.inr trivial
 have hmc:Hid (v.nc+1≤maxLen∧(v.nc+1) * 16≤140737488355328):=⟨by simp [maxLen];omega,by omega⟩
 have HFM:=Lib.hid h.fm
 have HFEW:=Lib.hid h.few
 have HCL:=Lib.hid hcl
 clear hcl
 have HV:=Lib.hid hV
 have HIN:=Lib.hid (argL_ok h.fm (op:=1) (by decide) hV)
 have hlt:(argL s 1 (nextW n ws).1).1 < 4294967296:=by have:=(argL_ok h.fm (op:=1) (by decide) hV).2.2.2.1;dsimp only at this;omega
 obtain⟨y,zy,hy⟩:∃ y zy,nextW n ws=(y,zy):=⟨_,_,rfl⟩
 obtain⟨nn,hnn⟩:∃ nn,nn=(argL s 1 (nextW n ws).1).1:=⟨_,rfl⟩
 have HER:Hid (nn=(argL s 1 (nextW n ws).1).1∧nextW n ws=(y,zy)):=⟨hnn,hy⟩
 rw [←hnn] at hlt HIN ⊢
 have hwr:=wrap32u nn hlt
 clear hf hncl b0 h hV hnn hy hlt
 go_enter Tryz.func89,Tryz.ntmps89
 go_wp2_with fail
 refine (HF.out _).mono ?_
 rintro e w2 ⟨rfl,hb2⟩
 rw [←hw1] at hb2
 have D2:=D1.below hb2
 have r2:=r1.below hb2 r1.lt
 obtain⟨a0,a1⟩:=two_cellsV r2
 have HB2:=Lib.hid (HB1.out.trans (hb2.mono D1.le))
 have HD2:=Lib.hid D2
 clear D1 D2 hb2 HB1 r1 hw1
 go_wp2_with fail
 refine (demand_ok x z 4 _).mono ?_
 rintro e w3 ⟨rfl,hb3⟩
 have D3:=HD2.out.below hb3
 have r3:=r2.below hb3 r2.lt
 obtain⟨i0,i1⟩:=two_cellsV r3
 have HB3:=Lib.hid (HB2.out.trans (hb3.mono HD2.out.le))
 have c4:w3.cell? ⟨g,4,none⟩=some (.slice v.Ac v.nc v.cc):=cell_rowV D3.row rfl
 have HD3:=Lib.hid D3
 clear D3 HD2 HB2 hb3 a0 a1 r2
 go_wp2_with fail
 refine wp_region_quiet_tail 8 (by kernel_rfl) (by kernel_rfl) ?_
 simp only [List.take_succ_cons,List.take_zero,List.drop_succ_cons,List.drop_zero]
 repeat (go_big_quiet_step (fail))
 refine wpQuiet_nil ?_
 intro _ hw'
 obtain⟨nr,hw''⟩:=hw'
 subst hw''
 go_wp2_with fail
 refine (demand_ok x z 6 _).mono ?_
 rintro e w4 ⟨rfl,hb4⟩
 have b34:Below w3.heap.size w3 w4:=(bdrew (Below.refl _ _) nr).trans (hb4.mono (Nat.le_refl _))
 have D4:=HD3.out.below b34
 have HB4:=Lib.hid (HB3.out.trans (b34.mono HD3.out.le))
 have hn2:v.nl≤100000:=by have h1:=D4.ol.length (fun _=>rfl) (by decide);have h2:=HFM.out.few;have h3:=HFM.out.an;have h4:=HFM.out.locs;omega
 have HV2:Hid (Calls Tryz.prog 127 #[.pointer (some ⟨g,0,none⟩),.slice v.Al v.nl v.cl] w4 fun e w'=>∃ A4 k4 c4,e=.returned (.int .i64 (nn:Int))∧RD B g n w' s ws.tail (v.at_ A4 k4 c4)∧w4.grownBy w' (some g)):=by
  show Calls _ _ _ _ _
  have:=asmIndex_ok B g n v s ws w4 D4 v.Al v.nl v.cl s.ln D4.ol hn2 HV.out
  have hv1:(indexL s.ln (nextW n ws).1).1=nn:=HER.out.1.symm
  rw [hv1] at this
  refine this.mono ?_
  rintro e w' ⟨rfl,hN⟩
  obtain⟨A4,k4,c4,D5,hg5⟩:=D4.next (ws':=ws.tail) (by rw [List.length_tail];omega) hN
  exact⟨A4,k4,c4,rfl,D5,hg5⟩
 have e4:w4.cell? ⟨g,6,none⟩=some (.slice v.Al v.nl v.cl):=cell_rowV D4.row rfl
 have HD4:=Lib.hid D4
 clear D4 HD3 HB3 b34 hb4 c4 i0 i1 r3 hn2
 go_wp2_with fail
 refine HV2.out.mono ?_
 rintro e w5 ⟨A4,k4,c4',rfl,D5,hg5⟩
 have HBF:=Lib.hid (HB4.out.trans (HD4.out.toBelow hg5))
 have HDF:=Lib.hid D5
 have c45:w5.cell? ⟨g,4,none⟩=some (.slice v.Ac v.nc v.cc):=cell_rowV D5.row rfl
 clear D5 HD4 HV2 hg5 e4
 go_wp2_with (at_builtin;refine wpList_pushT (enc:=encIn) rfl (.tmp 70) (.tmp 75) rfl uIn infoIn encIn_one rfl (fun _=>rfl) (by decide) rfl HDF.out.oc HDF.out.le (⟨((1:Nat):Int),(nn:Int)⟩:Ins) _ rfl rfl hmc.out.1 hmc.out.2 ?_;intro A9 c9 w9 ho9 hb9 hg9 hf9;have rX:=HDF.out.row.grown hg9 (fun e=>(HDF.out.oc.ne_row HDF.out.row (by decide)) _ e.symm rfl);have e94:w9.cell? ⟨g,4,none⟩=some (.slice v.Ac v.nc v.cc):=cell_rowV rX rfl;have f94:=frozen_rowV' rX 4)
 have D10:=HDF.out.toRC.push_code ho9 hb9 hg9 hf9
 refine⟨rfl,_,results_none rfl _ _ _,rfl,HBF.out.trans (hb9.trans (Below.setG HDF.out.hB _)),_,RC.code D10 ?_ HFM.out HCL.out ?_⟩
 ·have:=HFEW.out
  have h2:ws.tail.length≤ws.length:=by rw [List.length_tail];omega
  show s.cn.length+ws.tail.length≤9000
  omega
 ·exact HIN.out
theorem instr_bad1(B g n:Nat)(v:RVs)(s:AS)(ws:List Wd)(w:World)(h:RD B g n w s ws v)(x:List UInt8)(z:Nat)(hf:findL x=some 1)(hcl:s.code.length < 1024)(hV:(argL s 1 (nextW n ws).1).2≠0) :
  Calls Tryz.prog 89 #[.pointer (some ⟨g,0,none⟩),.agg #[.string (strB x),.int .i64 (z:Int)]] w fun e w'=>FailsB B w ((nextW n ws).2:Int) (argL s 1 (nextW n ws).1).2 e w':=by
 have hgl:=h.row.lt
 have hB:=h.hB
 have b0:=balloc (Below.refl w.heap.size w) (.cells #[.string (strB x),.int .i64 (z:Int)] 172)
 have r1:=rowV.new w 172 #[.string (strB x),.int .i64 (z:Int)]
 obtain⟨w1,hw1⟩:∃ w1,w1=w.alloc (.cells #[.string (strB x),.int .i64 (z:Int)] 172):=⟨_,rfl⟩
 rw [←hw1] at b0 r1
 have D1:=h.below b0
 have HB1:Hid (Below B w w1):=b0.mono (by omega)
 have HF:Hid (∀ W,Calls Tryz.prog 124 #[.string (strB x)] W fun e w'=>e=.returned (.tuple #[.int .i64 1,.bool true])∧Below W.heap.size W w'):=fun W=>by
  have:=find_any x W
  rw [hf,findN_some hf] at this
  exact this
 have hncl:v.nc=s.code.length:=(h.oc.length (fun _=>rfl) (by decide)).symm
 have dc:decide ((v.nc:Int) < 1024)=true:=by simp;omega
 have dc':decide (v.nc < 1024)=true:=by simp;omega
 have hm:Hid (v.nc+1≤maxLen∧(v.nc+1) * 16≤140737488355328∨True):=.inr trivial
 have hmc:Hid (v.nc+1≤maxLen∧(v.nc+1) * 16≤140737488355328):=⟨by simp [maxLen];omega,by omega⟩
 have HFM:=Lib.hid h.fm
 have HFEW:=Lib.hid h.few
 have HCL:=Lib.hid hcl
 clear hcl
 have HV:=Lib.hid hV
 obtain⟨y,zy,hy⟩:∃ y zy,nextW n ws=(y,zy):=⟨_,_,rfl⟩
 obtain⟨er,her⟩:∃ er,er=(argL s 1 (nextW n ws).1).2:=⟨_,rfl⟩
 have HER:Hid (er=(argL s 1 (nextW n ws).1).2∧nextW n ws=(y,zy)):=⟨her,hy⟩
 rw [←her,hy]
 clear hf hncl b0 h hV her hy
 go_enter Tryz.func89,Tryz.ntmps89
 go_wp2_with fail
 refine (HF.out _).mono ?_
 rintro e w2 ⟨rfl,hb2⟩
 rw [←hw1] at hb2
 have D2:=D1.below hb2
 have r2:=r1.below hb2 r1.lt
 obtain⟨a0,a1⟩:=two_cellsV r2
 have HB2:=Lib.hid (HB1.out.trans (hb2.mono D1.le))
 have HD2:=Lib.hid D2
 clear D1 D2 hb2 HB1 r1 hw1
 go_wp2_with fail
 refine (demand_ok x z 4 _).mono ?_
 rintro e w3 ⟨rfl,hb3⟩
 have D3:=HD2.out.below hb3
 have r3:=r2.below hb3 r2.lt
 obtain⟨i0,i1⟩:=two_cellsV r3
 have HB3:=Lib.hid (HB2.out.trans (hb3.mono HD2.out.le))
 have c4:w3.cell? ⟨g,4,none⟩=some (.slice v.Ac v.nc v.cc):=cell_rowV D3.row rfl
 have HD3:=Lib.hid D3
 clear D3 HD2 HB2 hb3 a0 a1 r2
 go_wp2_with fail
 refine wp_region_quiet_tail 8 (by kernel_rfl) (by kernel_rfl) ?_
 simp only [List.take_succ_cons,List.take_zero,List.drop_succ_cons,List.drop_zero]
 repeat (go_big_quiet_step (fail))
 refine wpQuiet_nil ?_
 intro _ hw'
 obtain⟨nr,hw''⟩:=hw'
 subst hw''
 go_wp2_with fail
 refine (demand_ok x z 6 _).mono ?_
 rintro e w4 ⟨rfl,hb4⟩
 have b34:Below w3.heap.size w3 w4:=(bdrew (Below.refl _ _) nr).trans (hb4.mono (Nat.le_refl _))
 have D4:=HD3.out.below b34
 have HB4:=Lib.hid (HB3.out.trans (b34.mono HD3.out.le))
 have hn2:v.nl≤100000:=by have h1:=D4.ol.length (fun _=>rfl) (by decide);have h2:=HFM.out.few;have h3:=HFM.out.an;have h4:=HFM.out.locs;omega
 have HV2:Hid (Calls Tryz.prog 127 #[.pointer (some ⟨g,0,none⟩),.slice v.Al v.nl v.cl] w4 fun e w'=>FailsB B w4 zy er e w'):=by
  show Calls _ _ _ _ _
  have:=asmIndex_bad B g n v s ws w4 D4 v.Al v.nl v.cl s.ln D4.ol hn2 HV.out
  have h1:(indexL s.ln (nextW n ws).1).2=er:=HER.out.1.symm
  rw [h1,HER.out.2] at this
  exact this
 have e4:w4.cell? ⟨g,6,none⟩=some (.slice v.Al v.nl v.cl):=cell_rowV D4.row rfl
 clear hn2
 clear D4 HD3 HB3 b34 hb4 c4 i0 i1 r3
 go_wp2_with fail
 refine HV2.out.mono ?_
 rintro e w5 ⟨rfl,hb5⟩
 have hE:=Lib.hid (HB4.out.trans hb5)
 go_wp2_with fail
 exact⟨rfl,rfl,hE.out⟩
theorem instr_ok2(B g n:Nat)(v:RVs)(s:AS)(ws:List Wd)(w:World)(h:RD B g n w s ws v)(x:List UInt8)(z:Nat)(hf:findL x=some 2)(hcl:s.code.length < 1024)(hV:(argL s 2 (nextW n ws).1).2=0) :
  Calls Tryz.prog 89 #[.pointer (some ⟨g,0,none⟩),.agg #[.string (strB x),.int .i64 (z:Int)]] w fun e w'=>e=.returned (.tuple #[])∧Below B w w'∧∃ v',RD B g n w' { s with code:=s.code++[⟨((2:Nat):Int),(((argL s 2 (nextW n ws).1).1:Nat):Int)⟩] } ws.tail v':=by
 have hgl:=h.row.lt
 have hB:=h.hB
 have b0:=balloc (Below.refl w.heap.size w) (.cells #[.string (strB x),.int .i64 (z:Int)] 172)
 have r1:=rowV.new w 172 #[.string (strB x),.int .i64 (z:Int)]
 obtain⟨w1,hw1⟩:∃ w1,w1=w.alloc (.cells #[.string (strB x),.int .i64 (z:Int)] 172):=⟨_,rfl⟩
 rw [←hw1] at b0 r1
 have D1:=h.below b0
 have HB1:Hid (Below B w w1):=b0.mono (by omega)
 have HF:Hid (∀ W,Calls Tryz.prog 124 #[.string (strB x)] W fun e w'=>e=.returned (.tuple #[.int .i64 2,.bool true])∧Below W.heap.size W w'):=fun W=>by
  have:=find_any x W
  rw [hf,findN_some hf] at this
  exact this
 have hncl:v.nc=s.code.length:=(h.oc.length (fun _=>rfl) (by decide)).symm
 have dc:decide ((v.nc:Int) < 1024)=true:=by simp;omega
 have dc':decide (v.nc < 1024)=true:=by simp;omega
 have hm:Hid (v.nc+1≤maxLen∧(v.nc+1) * 16≤140737488355328∨True):=.inr trivial
 have hmc:Hid (v.nc+1≤maxLen∧(v.nc+1) * 16≤140737488355328):=⟨by simp [maxLen];omega,by omega⟩
 have HFM:=Lib.hid h.fm
 have HFEW:=Lib.hid h.few
 have HCL:=Lib.hid hcl
 clear hcl
 have HV:=Lib.hid hV
 have HIN:=Lib.hid (argL_ok h.fm (op:=2) (by decide) hV)
 have hlt:(argL s 2 (nextW n ws).1).1 < 4294967296:=by have:=(argL_ok h.fm (op:=2) (by decide) hV).2.2.2.1;dsimp only at this;omega
 obtain⟨y,zy,hy⟩:∃ y zy,nextW n ws=(y,zy):=⟨_,_,rfl⟩
 obtain⟨nn,hnn⟩:∃ nn,nn=(argL s 2 (nextW n ws).1).1:=⟨_,rfl⟩
 have HER:Hid (nn=(argL s 2 (nextW n ws).1).1∧nextW n ws=(y,zy)):=⟨hnn,hy⟩
 rw [←hnn] at hlt HIN ⊢
 have hwr:=wrap32u nn hlt
 clear hf hncl b0 h hV hnn hy hlt
 go_enter Tryz.func89,Tryz.ntmps89
 go_wp2_with fail
 refine (HF.out _).mono ?_
 rintro e w2 ⟨rfl,hb2⟩
 rw [←hw1] at hb2
 have D2:=D1.below hb2
 have r2:=r1.below hb2 r1.lt
 obtain⟨a0,a1⟩:=two_cellsV r2
 have HB2:=Lib.hid (HB1.out.trans (hb2.mono D1.le))
 have HD2:=Lib.hid D2
 clear D1 D2 hb2 HB1 r1 hw1
 go_wp2_with fail
 refine (demand_ok x z 4 _).mono ?_
 rintro e w3 ⟨rfl,hb3⟩
 have D3:=HD2.out.below hb3
 have r3:=r2.below hb3 r2.lt
 obtain⟨i0,i1⟩:=two_cellsV r3
 have HB3:=Lib.hid (HB2.out.trans (hb3.mono HD2.out.le))
 have c4:w3.cell? ⟨g,4,none⟩=some (.slice v.Ac v.nc v.cc):=cell_rowV D3.row rfl
 have HD3:=Lib.hid D3
 clear D3 HD2 HB2 hb3 a0 a1 r2
 go_wp2_with fail
 refine wp_region_quiet_tail 8 (by kernel_rfl) (by kernel_rfl) ?_
 simp only [List.take_succ_cons,List.take_zero,List.drop_succ_cons,List.drop_zero]
 repeat (go_big_quiet_step (fail))
 refine wpQuiet_nil ?_
 intro _ hw'
 obtain⟨nr,hw''⟩:=hw'
 subst hw''
 go_wp2_with fail
 refine (demand_ok x z 6 _).mono ?_
 rintro e w4 ⟨rfl,hb4⟩
 have b34:Below w3.heap.size w3 w4:=(bdrew (Below.refl _ _) nr).trans (hb4.mono (Nat.le_refl _))
 have D4:=HD3.out.below b34
 have HB4:=Lib.hid (HB3.out.trans (b34.mono HD3.out.le))
 have hn2:v.nl≤100000:=by have h1:=D4.ol.length (fun _=>rfl) (by decide);have h2:=HFM.out.few;have h3:=HFM.out.an;have h4:=HFM.out.locs;omega
 have HV2:Hid (Calls Tryz.prog 127 #[.pointer (some ⟨g,0,none⟩),.slice v.Al v.nl v.cl] w4 fun e w'=>∃ A4 k4 c4,e=.returned (.int .i64 (nn:Int))∧RD B g n w' s ws.tail (v.at_ A4 k4 c4)∧w4.grownBy w' (some g)):=by
  show Calls _ _ _ _ _
  have:=asmIndex_ok B g n v s ws w4 D4 v.Al v.nl v.cl s.ln D4.ol hn2 HV.out
  have hv1:(indexL s.ln (nextW n ws).1).1=nn:=HER.out.1.symm
  rw [hv1] at this
  refine this.mono ?_
  rintro e w' ⟨rfl,hN⟩
  obtain⟨A4,k4,c4,D5,hg5⟩:=D4.next (ws':=ws.tail) (by rw [List.length_tail];omega) hN
  exact⟨A4,k4,c4,rfl,D5,hg5⟩
 have e4:w4.cell? ⟨g,6,none⟩=some (.slice v.Al v.nl v.cl):=cell_rowV D4.row rfl
 have HD4:=Lib.hid D4
 clear D4 HD3 HB3 b34 hb4 c4 i0 i1 r3 hn2
 go_wp2_with fail
 refine HV2.out.mono ?_
 rintro e w5 ⟨A4,k4,c4',rfl,D5,hg5⟩
 have HBF:=Lib.hid (HB4.out.trans (HD4.out.toBelow hg5))
 have HDF:=Lib.hid D5
 have c45:w5.cell? ⟨g,4,none⟩=some (.slice v.Ac v.nc v.cc):=cell_rowV D5.row rfl
 clear D5 HD4 HV2 hg5 e4
 go_wp2_with (at_builtin;refine wpList_pushT (enc:=encIn) rfl (.tmp 70) (.tmp 75) rfl uIn infoIn encIn_one rfl (fun _=>rfl) (by decide) rfl HDF.out.oc HDF.out.le (⟨((2:Nat):Int),(nn:Int)⟩:Ins) _ rfl rfl hmc.out.1 hmc.out.2 ?_;intro A9 c9 w9 ho9 hb9 hg9 hf9;have rX:=HDF.out.row.grown hg9 (fun e=>(HDF.out.oc.ne_row HDF.out.row (by decide)) _ e.symm rfl);have e94:w9.cell? ⟨g,4,none⟩=some (.slice v.Ac v.nc v.cc):=cell_rowV rX rfl;have f94:=frozen_rowV' rX 4)
 have D10:=HDF.out.toRC.push_code ho9 hb9 hg9 hf9
 refine⟨rfl,_,results_none rfl _ _ _,rfl,HBF.out.trans (hb9.trans (Below.setG HDF.out.hB _)),_,RC.code D10 ?_ HFM.out HCL.out ?_⟩
 ·have:=HFEW.out
  have h2:ws.tail.length≤ws.length:=by rw [List.length_tail];omega
  show s.cn.length+ws.tail.length≤9000
  omega
 ·exact HIN.out
theorem instr_bad2(B g n:Nat)(v:RVs)(s:AS)(ws:List Wd)(w:World)(h:RD B g n w s ws v)(x:List UInt8)(z:Nat)(hf:findL x=some 2)(hcl:s.code.length < 1024)(hV:(argL s 2 (nextW n ws).1).2≠0) :
  Calls Tryz.prog 89 #[.pointer (some ⟨g,0,none⟩),.agg #[.string (strB x),.int .i64 (z:Int)]] w fun e w'=>FailsB B w ((nextW n ws).2:Int) (argL s 2 (nextW n ws).1).2 e w':=by
 have hgl:=h.row.lt
 have hB:=h.hB
 have b0:=balloc (Below.refl w.heap.size w) (.cells #[.string (strB x),.int .i64 (z:Int)] 172)
 have r1:=rowV.new w 172 #[.string (strB x),.int .i64 (z:Int)]
 obtain⟨w1,hw1⟩:∃ w1,w1=w.alloc (.cells #[.string (strB x),.int .i64 (z:Int)] 172):=⟨_,rfl⟩
 rw [←hw1] at b0 r1
 have D1:=h.below b0
 have HB1:Hid (Below B w w1):=b0.mono (by omega)
 have HF:Hid (∀ W,Calls Tryz.prog 124 #[.string (strB x)] W fun e w'=>e=.returned (.tuple #[.int .i64 2,.bool true])∧Below W.heap.size W w'):=fun W=>by
  have:=find_any x W
  rw [hf,findN_some hf] at this
  exact this
 have hncl:v.nc=s.code.length:=(h.oc.length (fun _=>rfl) (by decide)).symm
 have dc:decide ((v.nc:Int) < 1024)=true:=by simp;omega
 have dc':decide (v.nc < 1024)=true:=by simp;omega
 have hm:Hid (v.nc+1≤maxLen∧(v.nc+1) * 16≤140737488355328∨True):=.inr trivial
 have hmc:Hid (v.nc+1≤maxLen∧(v.nc+1) * 16≤140737488355328):=⟨by simp [maxLen];omega,by omega⟩
 have HFM:=Lib.hid h.fm
 have HFEW:=Lib.hid h.few
 have HCL:=Lib.hid hcl
 clear hcl
 have HV:=Lib.hid hV
 obtain⟨y,zy,hy⟩:∃ y zy,nextW n ws=(y,zy):=⟨_,_,rfl⟩
 obtain⟨er,her⟩:∃ er,er=(argL s 2 (nextW n ws).1).2:=⟨_,rfl⟩
 have HER:Hid (er=(argL s 2 (nextW n ws).1).2∧nextW n ws=(y,zy)):=⟨her,hy⟩
 rw [←her,hy]
 clear hf hncl b0 h hV her hy
 go_enter Tryz.func89,Tryz.ntmps89
 go_wp2_with fail
 refine (HF.out _).mono ?_
 rintro e w2 ⟨rfl,hb2⟩
 rw [←hw1] at hb2
 have D2:=D1.below hb2
 have r2:=r1.below hb2 r1.lt
 obtain⟨a0,a1⟩:=two_cellsV r2
 have HB2:=Lib.hid (HB1.out.trans (hb2.mono D1.le))
 have HD2:=Lib.hid D2
 clear D1 D2 hb2 HB1 r1 hw1
 go_wp2_with fail
 refine (demand_ok x z 4 _).mono ?_
 rintro e w3 ⟨rfl,hb3⟩
 have D3:=HD2.out.below hb3
 have r3:=r2.below hb3 r2.lt
 obtain⟨i0,i1⟩:=two_cellsV r3
 have HB3:=Lib.hid (HB2.out.trans (hb3.mono HD2.out.le))
 have c4:w3.cell? ⟨g,4,none⟩=some (.slice v.Ac v.nc v.cc):=cell_rowV D3.row rfl
 have HD3:=Lib.hid D3
 clear D3 HD2 HB2 hb3 a0 a1 r2
 go_wp2_with fail
 refine wp_region_quiet_tail 8 (by kernel_rfl) (by kernel_rfl) ?_
 simp only [List.take_succ_cons,List.take_zero,List.drop_succ_cons,List.drop_zero]
 repeat (go_big_quiet_step (fail))
 refine wpQuiet_nil ?_
 intro _ hw'
 obtain⟨nr,hw''⟩:=hw'
 subst hw''
 go_wp2_with fail
 refine (demand_ok x z 6 _).mono ?_
 rintro e w4 ⟨rfl,hb4⟩
 have b34:Below w3.heap.size w3 w4:=(bdrew (Below.refl _ _) nr).trans (hb4.mono (Nat.le_refl _))
 have D4:=HD3.out.below b34
 have HB4:=Lib.hid (HB3.out.trans (b34.mono HD3.out.le))
 have hn2:v.nl≤100000:=by have h1:=D4.ol.length (fun _=>rfl) (by decide);have h2:=HFM.out.few;have h3:=HFM.out.an;have h4:=HFM.out.locs;omega
 have HV2:Hid (Calls Tryz.prog 127 #[.pointer (some ⟨g,0,none⟩),.slice v.Al v.nl v.cl] w4 fun e w'=>FailsB B w4 zy er e w'):=by
  show Calls _ _ _ _ _
  have:=asmIndex_bad B g n v s ws w4 D4 v.Al v.nl v.cl s.ln D4.ol hn2 HV.out
  have h1:(indexL s.ln (nextW n ws).1).2=er:=HER.out.1.symm
  rw [h1,HER.out.2] at this
  exact this
 have e4:w4.cell? ⟨g,6,none⟩=some (.slice v.Al v.nl v.cl):=cell_rowV D4.row rfl
 clear hn2
 clear D4 HD3 HB3 b34 hb4 c4 i0 i1 r3
 go_wp2_with fail
 refine HV2.out.mono ?_
 rintro e w5 ⟨rfl,hb5⟩
 have hE:=Lib.hid (HB4.out.trans hb5)
 go_wp2_with fail
 exact⟨rfl,rfl,hE.out⟩
theorem instr_ok3(B g n:Nat)(v:RVs)(s:AS)(ws:List Wd)(w:World)(h:RD B g n w s ws v)(x:List UInt8)(z:Nat)(hf:findL x=some 3)(hcl:s.code.length < 1024)(hV:(argL s 3 (nextW n ws).1).2=0) :
  Calls Tryz.prog 89 #[.pointer (some ⟨g,0,none⟩),.agg #[.string (strB x),.int .i64 (z:Int)]] w fun e w'=>e=.returned (.tuple #[])∧Below B w w'∧∃ v',RD B g n w' { s with code:=s.code++[⟨((3:Nat):Int),(((argL s 3 (nextW n ws).1).1:Nat):Int)⟩] } ws.tail v':=by
 have hgl:=h.row.lt
 have hB:=h.hB
 have b0:=balloc (Below.refl w.heap.size w) (.cells #[.string (strB x),.int .i64 (z:Int)] 172)
 have r1:=rowV.new w 172 #[.string (strB x),.int .i64 (z:Int)]
 obtain⟨w1,hw1⟩:∃ w1,w1=w.alloc (.cells #[.string (strB x),.int .i64 (z:Int)] 172):=⟨_,rfl⟩
 rw [←hw1] at b0 r1
 have D1:=h.below b0
 have HB1:Hid (Below B w w1):=b0.mono (by omega)
 have HF:Hid (∀ W,Calls Tryz.prog 124 #[.string (strB x)] W fun e w'=>e=.returned (.tuple #[.int .i64 3,.bool true])∧Below W.heap.size W w'):=fun W=>by
  have:=find_any x W
  rw [hf,findN_some hf] at this
  exact this
 have hncl:v.nc=s.code.length:=(h.oc.length (fun _=>rfl) (by decide)).symm
 have dc:decide ((v.nc:Int) < 1024)=true:=by simp;omega
 have dc':decide (v.nc < 1024)=true:=by simp;omega
 have hm:Hid (v.nc+1≤maxLen∧(v.nc+1) * 16≤140737488355328∨True):=.inr trivial
 have hmc:Hid (v.nc+1≤maxLen∧(v.nc+1) * 16≤140737488355328):=⟨by simp [maxLen];omega,by omega⟩
 have HFM:=Lib.hid h.fm
 have HFEW:=Lib.hid h.few
 have HCL:=Lib.hid hcl
 clear hcl
 have HV:=Lib.hid hV
 have HIN:=Lib.hid (argL_ok h.fm (op:=3) (by decide) hV)
 have hlt:(argL s 3 (nextW n ws).1).1 < 4294967296:=by have:=(argL_ok h.fm (op:=3) (by decide) hV).2.2.2.1;dsimp only at this;omega
 obtain⟨y,zy,hy⟩:∃ y zy,nextW n ws=(y,zy):=⟨_,_,rfl⟩
 obtain⟨nn,hnn⟩:∃ nn,nn=(argL s 3 (nextW n ws).1).1:=⟨_,rfl⟩
 have HER:Hid (nn=(argL s 3 (nextW n ws).1).1∧nextW n ws=(y,zy)):=⟨hnn,hy⟩
 rw [←hnn] at hlt HIN ⊢
 have hwr:=wrap32u nn hlt
 clear hf hncl b0 h hV hnn hy hlt
 go_enter Tryz.func89,Tryz.ntmps89
 go_wp2_with fail
 refine (HF.out _).mono ?_
 rintro e w2 ⟨rfl,hb2⟩
 rw [←hw1] at hb2
 have D2:=D1.below hb2
 have r2:=r1.below hb2 r1.lt
 obtain⟨a0,a1⟩:=two_cellsV r2
 have HB2:=Lib.hid (HB1.out.trans (hb2.mono D1.le))
 have HD2:=Lib.hid D2
 clear D1 D2 hb2 HB1 r1 hw1
 go_wp2_with fail
 refine (demand_ok x z 4 _).mono ?_
 rintro e w3 ⟨rfl,hb3⟩
 have D3:=HD2.out.below hb3
 have r3:=r2.below hb3 r2.lt
 obtain⟨i0,i1⟩:=two_cellsV r3
 have HB3:=Lib.hid (HB2.out.trans (hb3.mono HD2.out.le))
 have c4:w3.cell? ⟨g,4,none⟩=some (.slice v.Ac v.nc v.cc):=cell_rowV D3.row rfl
 have HD3:=Lib.hid D3
 clear D3 HD2 HB2 hb3 a0 a1 r2
 go_wp2_with fail
 refine wp_region_quiet_tail 8 (by kernel_rfl) (by kernel_rfl) ?_
 simp only [List.take_succ_cons,List.take_zero,List.drop_succ_cons,List.drop_zero]
 repeat (go_big_quiet_step (fail))
 refine wpQuiet_nil ?_
 intro _ hw'
 obtain⟨nr,hw''⟩:=hw'
 subst hw''
 go_wp2_with fail
 refine (demand_ok x z 6 _).mono ?_
 rintro e w4 ⟨rfl,hb4⟩
 have b34:Below w3.heap.size w3 w4:=(bdrew (Below.refl _ _) nr).trans (hb4.mono (Nat.le_refl _))
 have D4:=HD3.out.below b34
 have HB4:=Lib.hid (HB3.out.trans (b34.mono HD3.out.le))
 have hn2:v.nn≤100000:=by have h1:=D4.on.length (fun _=>rfl) (by decide);have h2:=HFM.out.few;have h3:=HFM.out.an;have h4:=HFM.out.locs;omega
 have HV2:Hid (Calls Tryz.prog 127 #[.pointer (some ⟨g,0,none⟩),.slice v.An v.nn v.cn] w4 fun e w'=>∃ A4 k4 c4,e=.returned (.int .i64 (nn:Int))∧RD B g n w' s ws.tail (v.at_ A4 k4 c4)∧w4.grownBy w' (some g)):=by
  show Calls _ _ _ _ _
  have:=asmIndex_ok B g n v s ws w4 D4 v.An v.nn v.cn s.an D4.on hn2 HV.out
  have hv1:(indexL s.an (nextW n ws).1).1=nn:=HER.out.1.symm
  rw [hv1] at this
  refine this.mono ?_
  rintro e w' ⟨rfl,hN⟩
  obtain⟨A4,k4,c4,D5,hg5⟩:=D4.next (ws':=ws.tail) (by rw [List.length_tail];omega) hN
  exact⟨A4,k4,c4,rfl,D5,hg5⟩
 have e4:w4.cell? ⟨g,5,none⟩=some (.slice v.An v.nn v.cn):=cell_rowV D4.row rfl
 have HD4:=Lib.hid D4
 clear D4 HD3 HB3 b34 hb4 c4 i0 i1 r3 hn2
 go_wp2_with fail
 refine HV2.out.mono ?_
 rintro e w5 ⟨A4,k4,c4',rfl,D5,hg5⟩
 have HBF:=Lib.hid (HB4.out.trans (HD4.out.toBelow hg5))
 have HDF:=Lib.hid D5
 have c45:w5.cell? ⟨g,4,none⟩=some (.slice v.Ac v.nc v.cc):=cell_rowV D5.row rfl
 clear D5 HD4 HV2 hg5 e4
 go_wp2_with (at_builtin;refine wpList_pushT (enc:=encIn) rfl (.tmp 70) (.tmp 75) rfl uIn infoIn encIn_one rfl (fun _=>rfl) (by decide) rfl HDF.out.oc HDF.out.le (⟨((3:Nat):Int),(nn:Int)⟩:Ins) _ rfl rfl hmc.out.1 hmc.out.2 ?_;intro A9 c9 w9 ho9 hb9 hg9 hf9;have rX:=HDF.out.row.grown hg9 (fun e=>(HDF.out.oc.ne_row HDF.out.row (by decide)) _ e.symm rfl);have e94:w9.cell? ⟨g,4,none⟩=some (.slice v.Ac v.nc v.cc):=cell_rowV rX rfl;have f94:=frozen_rowV' rX 4)
 have D10:=HDF.out.toRC.push_code ho9 hb9 hg9 hf9
 refine⟨rfl,_,results_none rfl _ _ _,rfl,HBF.out.trans (hb9.trans (Below.setG HDF.out.hB _)),_,RC.code D10 ?_ HFM.out HCL.out ?_⟩
 ·have:=HFEW.out
  have h2:ws.tail.length≤ws.length:=by rw [List.length_tail];omega
  show s.cn.length+ws.tail.length≤9000
  omega
 ·exact HIN.out
theorem instr_bad3(B g n:Nat)(v:RVs)(s:AS)(ws:List Wd)(w:World)(h:RD B g n w s ws v)(x:List UInt8)(z:Nat)(hf:findL x=some 3)(hcl:s.code.length < 1024)(hV:(argL s 3 (nextW n ws).1).2≠0) :
  Calls Tryz.prog 89 #[.pointer (some ⟨g,0,none⟩),.agg #[.string (strB x),.int .i64 (z:Int)]] w fun e w'=>FailsB B w ((nextW n ws).2:Int) (argL s 3 (nextW n ws).1).2 e w':=by
 have hgl:=h.row.lt
 have hB:=h.hB
 have b0:=balloc (Below.refl w.heap.size w) (.cells #[.string (strB x),.int .i64 (z:Int)] 172)
 have r1:=rowV.new w 172 #[.string (strB x),.int .i64 (z:Int)]
 obtain⟨w1,hw1⟩:∃ w1,w1=w.alloc (.cells #[.string (strB x),.int .i64 (z:Int)] 172):=⟨_,rfl⟩
 rw [←hw1] at b0 r1
 have D1:=h.below b0
 have HB1:Hid (Below B w w1):=b0.mono (by omega)
 have HF:Hid (∀ W,Calls Tryz.prog 124 #[.string (strB x)] W fun e w'=>e=.returned (.tuple #[.int .i64 3,.bool true])∧Below W.heap.size W w'):=fun W=>by
  have:=find_any x W
  rw [hf,findN_some hf] at this
  exact this
 have hncl:v.nc=s.code.length:=(h.oc.length (fun _=>rfl) (by decide)).symm
 have dc:decide ((v.nc:Int) < 1024)=true:=by simp;omega
 have dc':decide (v.nc < 1024)=true:=by simp;omega
 have hm:Hid (v.nc+1≤maxLen∧(v.nc+1) * 16≤140737488355328∨True):=.inr trivial
 have hmc:Hid (v.nc+1≤maxLen∧(v.nc+1) * 16≤140737488355328):=⟨by simp [maxLen];omega,by omega⟩
 have HFM:=Lib.hid h.fm
 have HFEW:=Lib.hid h.few
 have HCL:=Lib.hid hcl
 clear hcl
 have HV:=Lib.hid hV
 obtain⟨y,zy,hy⟩:∃ y zy,nextW n ws=(y,zy):=⟨_,_,rfl⟩
 obtain⟨er,her⟩:∃ er,er=(argL s 3 (nextW n ws).1).2:=⟨_,rfl⟩
 have HER:Hid (er=(argL s 3 (nextW n ws).1).2∧nextW n ws=(y,zy)):=⟨her,hy⟩
 rw [←her,hy]
 clear hf hncl b0 h hV her hy
 go_enter Tryz.func89,Tryz.ntmps89
 go_wp2_with fail
 refine (HF.out _).mono ?_
 rintro e w2 ⟨rfl,hb2⟩
 rw [←hw1] at hb2
 have D2:=D1.below hb2
 have r2:=r1.below hb2 r1.lt
 obtain⟨a0,a1⟩:=two_cellsV r2
 have HB2:=Lib.hid (HB1.out.trans (hb2.mono D1.le))
 have HD2:=Lib.hid D2
 clear D1 D2 hb2 HB1 r1 hw1
 go_wp2_with fail
 refine (demand_ok x z 4 _).mono ?_
 rintro e w3 ⟨rfl,hb3⟩
 have D3:=HD2.out.below hb3
 have r3:=r2.below hb3 r2.lt
 obtain⟨i0,i1⟩:=two_cellsV r3
 have HB3:=Lib.hid (HB2.out.trans (hb3.mono HD2.out.le))
 have c4:w3.cell? ⟨g,4,none⟩=some (.slice v.Ac v.nc v.cc):=cell_rowV D3.row rfl
 have HD3:=Lib.hid D3
 clear D3 HD2 HB2 hb3 a0 a1 r2
 go_wp2_with fail
 refine wp_region_quiet_tail 8 (by kernel_rfl) (by kernel_rfl) ?_
 simp only [List.take_succ_cons,List.take_zero,List.drop_succ_cons,List.drop_zero]
 repeat (go_big_quiet_step (fail))
 refine wpQuiet_nil ?_
 intro _ hw'
 obtain⟨nr,hw''⟩:=hw'
 subst hw''
 go_wp2_with fail
 refine (demand_ok x z 6 _).mono ?_
 rintro e w4 ⟨rfl,hb4⟩
 have b34:Below w3.heap.size w3 w4:=(bdrew (Below.refl _ _) nr).trans (hb4.mono (Nat.le_refl _))
 have D4:=HD3.out.below b34
 have HB4:=Lib.hid (HB3.out.trans (b34.mono HD3.out.le))
 have hn2:v.nn≤100000:=by have h1:=D4.on.length (fun _=>rfl) (by decide);have h2:=HFM.out.few;have h3:=HFM.out.an;have h4:=HFM.out.locs;omega
 have HV2:Hid (Calls Tryz.prog 127 #[.pointer (some ⟨g,0,none⟩),.slice v.An v.nn v.cn] w4 fun e w'=>FailsB B w4 zy er e w'):=by
  show Calls _ _ _ _ _
  have:=asmIndex_bad B g n v s ws w4 D4 v.An v.nn v.cn s.an D4.on hn2 HV.out
  have h1:(indexL s.an (nextW n ws).1).2=er:=HER.out.1.symm
  rw [h1,HER.out.2] at this
  exact this
 have e4:w4.cell? ⟨g,5,none⟩=some (.slice v.An v.nn v.cn):=cell_rowV D4.row rfl
 clear hn2
 clear D4 HD3 HB3 b34 hb4 c4 i0 i1 r3
 go_wp2_with fail
 refine HV2.out.mono ?_
 rintro e w5 ⟨rfl,hb5⟩
 have hE:=Lib.hid (HB4.out.trans hb5)
 go_wp2_with fail
 exact⟨rfl,rfl,hE.out⟩
theorem instr_ok4(B g n:Nat)(v:RVs)(s:AS)(ws:List Wd)(w:World)(h:RD B g n w s ws v)(x:List UInt8)(z:Nat)(hf:findL x=some 4)(hcl:s.code.length < 1024)(hV:(argL s 4 (nextW n ws).1).2=0) :
  Calls Tryz.prog 89 #[.pointer (some ⟨g,0,none⟩),.agg #[.string (strB x),.int .i64 (z:Int)]] w fun e w'=>e=.returned (.tuple #[])∧Below B w w'∧∃ v',RD B g n w' { s with code:=s.code++[⟨((4:Nat):Int),(((argL s 4 (nextW n ws).1).1:Nat):Int)⟩] } ws.tail v':=by
 have hgl:=h.row.lt
 have hB:=h.hB
 have b0:=balloc (Below.refl w.heap.size w) (.cells #[.string (strB x),.int .i64 (z:Int)] 172)
 have r1:=rowV.new w 172 #[.string (strB x),.int .i64 (z:Int)]
 obtain⟨w1,hw1⟩:∃ w1,w1=w.alloc (.cells #[.string (strB x),.int .i64 (z:Int)] 172):=⟨_,rfl⟩
 rw [←hw1] at b0 r1
 have D1:=h.below b0
 have HB1:Hid (Below B w w1):=b0.mono (by omega)
 have HF:Hid (∀ W,Calls Tryz.prog 124 #[.string (strB x)] W fun e w'=>e=.returned (.tuple #[.int .i64 4,.bool true])∧Below W.heap.size W w'):=fun W=>by
  have:=find_any x W
  rw [hf,findN_some hf] at this
  exact this
 have hncl:v.nc=s.code.length:=(h.oc.length (fun _=>rfl) (by decide)).symm
 have dc:decide ((v.nc:Int) < 1024)=true:=by simp;omega
 have dc':decide (v.nc < 1024)=true:=by simp;omega
 have hm:Hid (v.nc+1≤maxLen∧(v.nc+1) * 16≤140737488355328∨True):=.inr trivial
 have hmc:Hid (v.nc+1≤maxLen∧(v.nc+1) * 16≤140737488355328):=⟨by simp [maxLen];omega,by omega⟩
 have HFM:=Lib.hid h.fm
 have HFEW:=Lib.hid h.few
 have HCL:=Lib.hid hcl
 clear hcl
 have HV:=Lib.hid hV
 have HIN:=Lib.hid (argL_ok h.fm (op:=4) (by decide) hV)
 have hlt:(argL s 4 (nextW n ws).1).1 < 4294967296:=by have:=(argL_ok h.fm (op:=4) (by decide) hV).2.2.2.1;dsimp only at this;omega
 obtain⟨y,zy,hy⟩:∃ y zy,nextW n ws=(y,zy):=⟨_,_,rfl⟩
 obtain⟨nn,hnn⟩:∃ nn,nn=(argL s 4 (nextW n ws).1).1:=⟨_,rfl⟩
 have HER:Hid (nn=(argL s 4 (nextW n ws).1).1∧nextW n ws=(y,zy)):=⟨hnn,hy⟩
 rw [←hnn] at hlt HIN ⊢
 have hwr:=wrap32u nn hlt
 clear hf hncl b0 h hV hnn hy hlt
 go_enter Tryz.func89,Tryz.ntmps89
 go_wp2_with fail
 refine (HF.out _).mono ?_
 rintro e w2 ⟨rfl,hb2⟩
 rw [←hw1] at hb2
 have D2:=D1.below hb2
 have r2:=r1.below hb2 r1.lt
 obtain⟨a0,a1⟩:=two_cellsV r2
 have HB2:=Lib.hid (HB1.out.trans (hb2.mono D1.le))
 have HD2:=Lib.hid D2
 clear D1 D2 hb2 HB1 r1 hw1
 go_wp2_with fail
 refine (demand_ok x z 4 _).mono ?_
 rintro e w3 ⟨rfl,hb3⟩
 have D3:=HD2.out.below hb3
 have r3:=r2.below hb3 r2.lt
 obtain⟨i0,i1⟩:=two_cellsV r3
 have HB3:=Lib.hid (HB2.out.trans (hb3.mono HD2.out.le))
 have c4:w3.cell? ⟨g,4,none⟩=some (.slice v.Ac v.nc v.cc):=cell_rowV D3.row rfl
 have HD3:=Lib.hid D3
 clear D3 HD2 HB2 hb3 a0 a1 r2
 go_wp2_with fail
 refine wp_region_quiet_tail 8 (by kernel_rfl) (by kernel_rfl) ?_
 simp only [List.take_succ_cons,List.take_zero,List.drop_succ_cons,List.drop_zero]
 repeat (go_big_quiet_step (fail))
 refine wpQuiet_nil ?_
 intro _ hw'
 obtain⟨nr,hw''⟩:=hw'
 subst hw''
 go_wp2_with fail
 refine (demand_ok x z 6 _).mono ?_
 rintro e w4 ⟨rfl,hb4⟩
 have b34:Below w3.heap.size w3 w4:=(bdrew (Below.refl _ _) nr).trans (hb4.mono (Nat.le_refl _))
 have D4:=HD3.out.below b34
 have HB4:=Lib.hid (HB3.out.trans (b34.mono HD3.out.le))
 have hn2:v.nn≤100000:=by have h1:=D4.on.length (fun _=>rfl) (by decide);have h2:=HFM.out.few;have h3:=HFM.out.an;have h4:=HFM.out.locs;omega
 have HV2:Hid (Calls Tryz.prog 127 #[.pointer (some ⟨g,0,none⟩),.slice v.An v.nn v.cn] w4 fun e w'=>∃ A4 k4 c4,e=.returned (.int .i64 (nn:Int))∧RD B g n w' s ws.tail (v.at_ A4 k4 c4)∧w4.grownBy w' (some g)):=by
  show Calls _ _ _ _ _
  have:=asmIndex_ok B g n v s ws w4 D4 v.An v.nn v.cn s.an D4.on hn2 HV.out
  have hv1:(indexL s.an (nextW n ws).1).1=nn:=HER.out.1.symm
  rw [hv1] at this
  refine this.mono ?_
  rintro e w' ⟨rfl,hN⟩
  obtain⟨A4,k4,c4,D5,hg5⟩:=D4.next (ws':=ws.tail) (by rw [List.length_tail];omega) hN
  exact⟨A4,k4,c4,rfl,D5,hg5⟩
 have e4:w4.cell? ⟨g,5,none⟩=some (.slice v.An v.nn v.cn):=cell_rowV D4.row rfl
 have HD4:=Lib.hid D4
 clear D4 HD3 HB3 b34 hb4 c4 i0 i1 r3 hn2
 go_wp2_with fail
 refine HV2.out.mono ?_
 rintro e w5 ⟨A4,k4,c4',rfl,D5,hg5⟩
 have HBF:=Lib.hid (HB4.out.trans (HD4.out.toBelow hg5))
 have HDF:=Lib.hid D5
 have c45:w5.cell? ⟨g,4,none⟩=some (.slice v.Ac v.nc v.cc):=cell_rowV D5.row rfl
 clear D5 HD4 HV2 hg5 e4
 go_wp2_with (at_builtin;refine wpList_pushT (enc:=encIn) rfl (.tmp 70) (.tmp 75) rfl uIn infoIn encIn_one rfl (fun _=>rfl) (by decide) rfl HDF.out.oc HDF.out.le (⟨((4:Nat):Int),(nn:Int)⟩:Ins) _ rfl rfl hmc.out.1 hmc.out.2 ?_;intro A9 c9 w9 ho9 hb9 hg9 hf9;have rX:=HDF.out.row.grown hg9 (fun e=>(HDF.out.oc.ne_row HDF.out.row (by decide)) _ e.symm rfl);have e94:w9.cell? ⟨g,4,none⟩=some (.slice v.Ac v.nc v.cc):=cell_rowV rX rfl;have f94:=frozen_rowV' rX 4)
 have D10:=HDF.out.toRC.push_code ho9 hb9 hg9 hf9
 refine⟨rfl,_,results_none rfl _ _ _,rfl,HBF.out.trans (hb9.trans (Below.setG HDF.out.hB _)),_,RC.code D10 ?_ HFM.out HCL.out ?_⟩
 ·have:=HFEW.out
  have h2:ws.tail.length≤ws.length:=by rw [List.length_tail];omega
  show s.cn.length+ws.tail.length≤9000
  omega
 ·exact HIN.out
theorem instr_bad4(B g n:Nat)(v:RVs)(s:AS)(ws:List Wd)(w:World)(h:RD B g n w s ws v)(x:List UInt8)(z:Nat)(hf:findL x=some 4)(hcl:s.code.length < 1024)(hV:(argL s 4 (nextW n ws).1).2≠0) :
  Calls Tryz.prog 89 #[.pointer (some ⟨g,0,none⟩),.agg #[.string (strB x),.int .i64 (z:Int)]] w fun e w'=>FailsB B w ((nextW n ws).2:Int) (argL s 4 (nextW n ws).1).2 e w':=by
 have hgl:=h.row.lt
 have hB:=h.hB
 have b0:=balloc (Below.refl w.heap.size w) (.cells #[.string (strB x),.int .i64 (z:Int)] 172)
 have r1:=rowV.new w 172 #[.string (strB x),.int .i64 (z:Int)]
 obtain⟨w1,hw1⟩:∃ w1,w1=w.alloc (.cells #[.string (strB x),.int .i64 (z:Int)] 172):=⟨_,rfl⟩
 rw [←hw1] at b0 r1
 have D1:=h.below b0
 have HB1:Hid (Below B w w1):=b0.mono (by omega)
 have HF:Hid (∀ W,Calls Tryz.prog 124 #[.string (strB x)] W fun e w'=>e=.returned (.tuple #[.int .i64 4,.bool true])∧Below W.heap.size W w'):=fun W=>by
  have:=find_any x W
  rw [hf,findN_some hf] at this
  exact this
 have hncl:v.nc=s.code.length:=(h.oc.length (fun _=>rfl) (by decide)).symm
 have dc:decide ((v.nc:Int) < 1024)=true:=by simp;omega
 have dc':decide (v.nc < 1024)=true:=by simp;omega
 have hm:Hid (v.nc+1≤maxLen∧(v.nc+1) * 16≤140737488355328∨True):=.inr trivial
 have hmc:Hid (v.nc+1≤maxLen∧(v.nc+1) * 16≤140737488355328):=⟨by simp [maxLen];omega,by omega⟩
 have HFM:=Lib.hid h.fm
 have HFEW:=Lib.hid h.few
 have HCL:=Lib.hid hcl
 clear hcl
 have HV:=Lib.hid hV
 obtain⟨y,zy,hy⟩:∃ y zy,nextW n ws=(y,zy):=⟨_,_,rfl⟩
 obtain⟨er,her⟩:∃ er,er=(argL s 4 (nextW n ws).1).2:=⟨_,rfl⟩
 have HER:Hid (er=(argL s 4 (nextW n ws).1).2∧nextW n ws=(y,zy)):=⟨her,hy⟩
 rw [←her,hy]
 clear hf hncl b0 h hV her hy
 go_enter Tryz.func89,Tryz.ntmps89
 go_wp2_with fail
 refine (HF.out _).mono ?_
 rintro e w2 ⟨rfl,hb2⟩
 rw [←hw1] at hb2
 have D2:=D1.below hb2
 have r2:=r1.below hb2 r1.lt
 obtain⟨a0,a1⟩:=two_cellsV r2
 have HB2:=Lib.hid (HB1.out.trans (hb2.mono D1.le))
 have HD2:=Lib.hid D2
 clear D1 D2 hb2 HB1 r1 hw1
 go_wp2_with fail
 refine (demand_ok x z 4 _).mono ?_
 rintro e w3 ⟨rfl,hb3⟩
 have D3:=HD2.out.below hb3
 have r3:=r2.below hb3 r2.lt
 obtain⟨i0,i1⟩:=two_cellsV r3
 have HB3:=Lib.hid (HB2.out.trans (hb3.mono HD2.out.le))
 have c4:w3.cell? ⟨g,4,none⟩=some (.slice v.Ac v.nc v.cc):=cell_rowV D3.row rfl
 have HD3:=Lib.hid D3
 clear D3 HD2 HB2 hb3 a0 a1 r2
 go_wp2_with fail
 refine wp_region_quiet_tail 8 (by kernel_rfl) (by kernel_rfl) ?_
 simp only [List.take_succ_cons,List.take_zero,List.drop_succ_cons,List.drop_zero]
 repeat (go_big_quiet_step (fail))
 refine wpQuiet_nil ?_
 intro _ hw'
 obtain⟨nr,hw''⟩:=hw'
 subst hw''
 go_wp2_with fail
 refine (demand_ok x z 6 _).mono ?_
 rintro e w4 ⟨rfl,hb4⟩
 have b34:Below w3.heap.size w3 w4:=(bdrew (Below.refl _ _) nr).trans (hb4.mono (Nat.le_refl _))
 have D4:=HD3.out.below b34
 have HB4:=Lib.hid (HB3.out.trans (b34.mono HD3.out.le))
 have hn2:v.nn≤100000:=by have h1:=D4.on.length (fun _=>rfl) (by decide);have h2:=HFM.out.few;have h3:=HFM.out.an;have h4:=HFM.out.locs;omega
 have HV2:Hid (Calls Tryz.prog 127 #[.pointer (some ⟨g,0,none⟩),.slice v.An v.nn v.cn] w4 fun e w'=>FailsB B w4 zy er e w'):=by
  show Calls _ _ _ _ _
  have:=asmIndex_bad B g n v s ws w4 D4 v.An v.nn v.cn s.an D4.on hn2 HV.out
  have h1:(indexL s.an (nextW n ws).1).2=er:=HER.out.1.symm
  rw [h1,HER.out.2] at this
  exact this
 have e4:w4.cell? ⟨g,5,none⟩=some (.slice v.An v.nn v.cn):=cell_rowV D4.row rfl
 clear hn2
 clear D4 HD3 HB3 b34 hb4 c4 i0 i1 r3
 go_wp2_with fail
 refine HV2.out.mono ?_
 rintro e w5 ⟨rfl,hb5⟩
 have hE:=Lib.hid (HB4.out.trans hb5)
 go_wp2_with fail
 exact⟨rfl,rfl,hE.out⟩
theorem instr_okn(B g n:Nat)(v:RVs)(s:AS)(ws:List Wd)(w:World)(h:RD B g n w s ws v)(x:List UInt8)(z:Nat)(op:Nat)(hf:findL x=some op)(hcl:s.code.length < 1024)(hop:¬ (op≤4∨op=35)) :
  Calls Tryz.prog 89 #[.pointer (some ⟨g,0,none⟩),.agg #[.string (strB x),.int .i64 (z:Int)]] w fun e w'=>e=.returned (.tuple #[])∧Below B w w'∧∃ v',RD B g n w' { s with code:=s.code++[⟨(op:Int),0⟩] } ws v':=by
 have hgl:=h.row.lt
 have hB:=h.hB
 have b0:=balloc (Below.refl w.heap.size w) (.cells #[.string (strB x),.int .i64 (z:Int)] 172)
 have r1:=rowV.new w 172 #[.string (strB x),.int .i64 (z:Int)]
 obtain⟨w1,hw1⟩:∃ w1,w1=w.alloc (.cells #[.string (strB x),.int .i64 (z:Int)] 172):=⟨_,rfl⟩
 rw [←hw1] at b0 r1
 have D1:=h.below b0
 have HB1:Hid (Below B w w1):=b0.mono (by omega)
 have HF:Hid (∀ W,Calls Tryz.prog 124 #[.string (strB x)] W fun e w'=>e=.returned (.tuple #[.int .i64 (op:Int),.bool true])∧Below W.heap.size W w'):=fun W=>by
  have:=find_any x W
  rw [hf,findN_some hf] at this
  exact this
 have hncl:v.nc=s.code.length:=(h.oc.length (fun _=>rfl) (by decide)).symm
 have dc:decide ((v.nc:Int) < 1024)=true:=by simp;omega
 have dc':decide (v.nc < 1024)=true:=by simp;omega
 have hm:Hid (v.nc+1≤maxLen∧(v.nc+1) * 16≤140737488355328∨True):=.inr trivial
 have hmc:Hid (v.nc+1≤maxLen∧(v.nc+1) * 16≤140737488355328):=⟨by simp [maxLen];omega,by omega⟩
 have HFM:=Lib.hid h.fm
 have HFEW:=Lib.hid h.few
 have HCL:=Lib.hid hcl
 clear hcl
 have h36:=(findL_some hf).1
 have HIN:Hid (InsOk s.arrs.length s.ln.length ⟨(op:Int),0⟩):=⟨by dsimp only;omega,by dsimp only;omega,Int.le_refl _,by dsimp only;omega,fun h=>by dsimp only at h;omega,fun h=>by dsimp only at h;omega,fun h=>by dsimp only at h;omega,fun _ _=>rfl⟩
 have d0:((op:Int)==0)=false:=by simp;omega
 have d1:((op:Int)==1)=false:=by simp;omega
 have d2:((op:Int)==2)=false:=by simp;omega
 have d3:((op:Int)==3)=false:=by simp;omega
 have d4:((op:Int)==4)=false:=by simp;omega
 have d35:((op:Int)==35)=false:=by simp;omega
 clear hf hncl b0 h hop h36
 go_enter Tryz.func89,Tryz.ntmps89
 go_wp2_with fail
 refine (HF.out _).mono ?_
 rintro e w2 ⟨rfl,hb2⟩
 rw [←hw1] at hb2
 have D2:=D1.below hb2
 have r2:=r1.below hb2 r1.lt
 obtain⟨a0,a1⟩:=two_cellsV r2
 have HB2:=Lib.hid (HB1.out.trans (hb2.mono D1.le))
 have HD2:=Lib.hid D2
 clear D1 D2 hb2 HB1 r1 hw1
 go_wp2_with fail
 refine (demand_ok x z 4 _).mono ?_
 rintro e w3 ⟨rfl,hb3⟩
 have D3:=HD2.out.below hb3
 have r3:=r2.below hb3 r2.lt
 obtain⟨i0,i1⟩:=two_cellsV r3
 have HB3:=Lib.hid (HB2.out.trans (hb3.mono HD2.out.le))
 have c4:w3.cell? ⟨g,4,none⟩=some (.slice v.Ac v.nc v.cc):=cell_rowV D3.row rfl
 have HD3:=Lib.hid D3
 clear D3 HD2 HB2 hb3 a0 a1 r2
 go_wp2_with fail
 refine wp_region_quiet_tail 8 (by kernel_rfl) (by kernel_rfl) ?_
 simp only [List.take_succ_cons,List.take_zero,List.drop_succ_cons,List.drop_zero]
 repeat (go_big_quiet_step (fail))
 refine wpQuiet_nil ?_
 intro _ hw'
 obtain⟨nr,hw''⟩:=hw'
 subst hw''
 go_wp2_with fail
 refine (demand_ok x z 6 _).mono ?_
 rintro e w4 ⟨rfl,hb4⟩
 have b34:Below w3.heap.size w3 w4:=(bdrew (Below.refl _ _) nr).trans (hb4.mono (Nat.le_refl _))
 have D4:=HD3.out.below b34
 have HB4:=Lib.hid (HB3.out.trans (b34.mono HD3.out.le))
 have HDF:=Lib.hid D4
 have HBF:=HB4
 have c45:w4.cell? ⟨g,4,none⟩=some (.slice v.Ac v.nc v.cc):=cell_rowV D4.row rfl
 clear D4 HD3 HB3 b34 hb4 c4 i0 i1 r3
 go_wp2_with (at_builtin;refine wpList_pushT (enc:=encIn) rfl (.tmp 70) (.tmp 75) rfl uIn infoIn encIn_one rfl (fun _=>rfl) (by decide) rfl HDF.out.oc HDF.out.le (⟨(op:Int),0⟩:Ins) _ rfl rfl hmc.out.1 hmc.out.2 ?_;intro A9 c9 w9 ho9 hb9 hg9 hf9;have rX:=HDF.out.row.grown hg9 (fun e=>(HDF.out.oc.ne_row HDF.out.row (by decide)) _ e.symm rfl);have e94:w9.cell? ⟨g,4,none⟩=some (.slice v.Ac v.nc v.cc):=cell_rowV rX rfl;have f94:=frozen_rowV' rX 4)
 have D10:=HDF.out.toRC.push_code ho9 hb9 hg9 hf9
 refine⟨rfl,_,results_none rfl _ _ _,rfl,HBF.out.trans (hb9.trans (Below.setG HDF.out.hB _)),_,RC.code D10 ?_ HFM.out HCL.out ?_⟩
 ·have:=HFEW.out
  exact this
 ·exact HIN.out
theorem instr_any(B g n:Nat)(v:RVs)(s:AS)(ws:List Wd)(w:World)(x:List UInt8)(z:Nat)(h:RD B g n w s ws v) :
  Calls Tryz.prog 89 #[.pointer (some ⟨g,0,none⟩),.agg #[.string (strB x),.int .i64 (z:Int)]] w (DoesL B g n w (instrL n (x,z) s ws)):=by
 rw [instrL_eq]
 dsimp only
 cases hf:findL x with
 | none=>exact instr_none B g n v s ws w h x z hf
 | some op=>
  dsimp only
  by_cases hcl:1024≤s.code.length
  ·rw [if_pos hcl];exact instr_many B g n v s ws w h x z op hf hcl
  ·rw [if_neg hcl]
   have hcl':s.code.length < 1024:=by omega
   by_cases ho:op≤4∨op=35
   ·rw [if_pos ho]
    by_cases hV:(argL s op (nextW n ws).1).2=0
    ·rw [if_neg (by simp [hV])]
     rcases (by omega:op=0∨op=35∨op=1∨op=2∨op=3∨op=4) with rfl | rfl | rfl | rfl | rfl | rfl
     ·exact instr_ok0 B g n v s ws w h x z hf hcl' hV
     ·exact instr_ok35 B g n v s ws w h x z hf hcl' hV
     ·exact instr_ok1 B g n v s ws w h x z hf hcl' hV
     ·exact instr_ok2 B g n v s ws w h x z hf hcl' hV
     ·exact instr_ok3 B g n v s ws w h x z hf hcl' hV
     ·exact instr_ok4 B g n v s ws w h x z hf hcl' hV
    ·rw [if_pos hV]
     rcases (by omega:op=0∨op=35∨op=1∨op=2∨op=3∨op=4) with rfl | rfl | rfl | rfl | rfl | rfl
     ·exact instr_bad0 B g n v s ws w h x z hf hcl' hV
     ·have e35:argL s 35 (nextW n ws).1=((valueL s (nextW n ws).1).1,if (valueL s (nextW n ws).1).2≠0 then (valueL s (nextW n ws).1).2 else if 16≤(valueL s (nextW n ws).1).1 then 2 else 0):=rfl
      rw [e35] at hV ⊢
      dsimp only at hV ⊢
      by_cases hv:(valueL s (nextW n ws).1).2≠0
      ·rw [if_pos hv];exact instr_bad35 B g n v s ws w h x z hf hcl' hv
      ·rw [if_neg hv] at hV ⊢
       by_cases h16:16≤(valueL s (nextW n ws).1).1
       ·rw [if_pos h16];exact instr_bad35r B g n v s ws w h x z hf hcl' (by simpa using hv) h16
       ·rw [if_neg h16] at hV;exact absurd rfl hV
     ·exact instr_bad1 B g n v s ws w h x z hf hcl' hV
     ·exact instr_bad2 B g n v s ws w h x z hf hcl' hV
     ·exact instr_bad3 B g n v s ws w h x z hf hcl' hV
     ·exact instr_bad4 B g n v s ws w h x z hf hcl' hV
   ·rw [if_neg ho];exact instr_okn B g n v s ws w h x z op hf hcl' ho
end Go.Proofs.YtepoclhdklgnhaaGreatDoor
