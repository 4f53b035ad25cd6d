/- Xs. -/
import Derived.Test.YtpaplehcafeeaaaGreatDoorLE27
import Derived.Test.YtpaplehcafeeaaaGreatDoorLE28
import Derived.Deep.RegionHeld3
set_option maxRecDepth 100000
set_option maxHeartbeats 40000000
set_option linter.unusedVariables false
set_option linter.unusedSimpArgs false
set_option linter.unusedSectionVars false
namespace Go.Proofs.YtpaplehcafeeaaaGreatDoor
open Go.RowKit Go.Proofs
variable [Inhabited ArgB]
theorem stored_any{c:List Ins}{lo hi i:Nat}:stored c lo hi i=anyIn ((c.drop lo).take (hi-lo)) ⟨2,(i:Int)⟩ (hi-lo):=by
 unfold stored anyIn
 rw [List.take_take,Nat.min_self]
 congr 1
 funext y
 obtain⟨o,a⟩:=y
 simp only [Ins.mk.injEq]
 exact decide_eq_decide.2 ⟨fun h=>⟨h.1.symm,h.2.symm⟩,fun h=>⟨h.1.symm,h.2.symm⟩⟩
theorem cutIns_lh(A:Option Addr)(n c:Nat)(l h:Int)(h0:0≤l)(hlh:l≤h)(hc:h≤c)(W:World):(Instr.slice 23 (.slice A n c) (some (.int .i64 l)) (some (.int .i64 h)) none).run Tryz.prog W=.ok (.slice (if c=l.toNat then A else A.map (·.add (l.toNat * 2))) (h.toNat-l.toNat) (c-l.toNat)) W:=by
 rw [run_slice_lh W _ A n c (show Tryz.prog.underlying 23=some (.slice (Tryz.prog.elem 23)) by kernel_rfl) .i64 .i64 l h h0 hlh hc,show Tryz.prog.elem 23=44 by kernel_rfl,show (sizeOf 44).run Tryz.prog W=.ok 2 W by kernel_rfl]
 simp only [Result.andThen,sliced]
theorem Codes.sub{w:World}{A:Option Addr}{n c:Nat}{l:List Ins}(h:Codes w A n c l){lo hi:Nat}(h1:lo≤hi)(h2:hi≤n):Codes w (if c=lo then A else A.map (·.add (lo * 2))) (hi-lo) (c-lo) ((l.drop lo).take (hi-lo)):=by
 refine⟨by rw [List.length_take,List.length_drop,h.1];omega,by have:=h.2.1;omega,fun x hx=>h.2.2.1 x (List.mem_of_mem_drop (List.mem_of_mem_take hx)),fun hn=>?_⟩
 obtain⟨b,off,rfl,hlt,hc⟩:=h.2.2.2 (by omega)
 have hcn:=h.2.1
 rw [if_neg (by omega)]
 refine⟨b,off+lo * 2,by rw [Option.map_some,addr_add],hlt,fun i hi2=>?_⟩
 have e:gI ((l.drop lo).take (hi-lo)) i=gI l (lo+i):=by
  simp [gI,List.getD_eq_getElem?_getD,hi2,List.getElem?_drop]
 have h3:=hc (lo+i) (by omega)
 dsimp only at h3 ⊢
 rw [e,show off+lo * 2+i * 2=off+(lo+i) * 2 by omega]
 exact h3
theorem entC_widen(wB:World)(v:WV)(p:Prg)(n:Nat)(hf:v.f1=.func (.func 79) #[] #[]):EntC wB v p n .widen:=by
 refine⟨79,#[],hf,enters_of Tryz.func79 (by kernel_rfl) rfl,fun w lo most A c locs hb hlo h29 h0 h1 hiv hlk hB=>?_⟩
 show Calls Tryz.prog 79 #[.int .i64 (lo:Int),.int .i64 most,.slice A n c] w _
 go_enter Tryz.func79,Tryz.ntmps79
 go_wp2_with fail
 refine bodyPost_ret (v:=.tuple #[.slice A n c,.int .i64 most]) (by simp [results,Tryz.results79,go_sem]) rfl ?_
 exact⟨⟨A,c,rfl,hiv⟩,Below.refl _ _⟩
def nextK(c:List Ins)(lo hi pass:Nat)(head fin:List Iv)(k:Nat):List Iv:=(nextH c lo hi pass head fin).take k++head.drop k
def nextV(c:List Ins)(lo hi pass:Nat)(head fin:List Iv)(i:Nat):Iv:=if pass < 3 then ivWiden (gL head i) (ivJoin (gL head i) (gL fin i)) else if stored c lo hi i then ivFull else gL head i
theorem nextH_get(c:List Ins)(lo hi pass:Nat)(head fin:List Iv){i:Nat}(h:i < head.length):(nextH c lo hi pass head fin)[i]'(by rw [nextH_length];exact h)=nextV c lo hi pass head fin i:=by
 simp [nextH,nextV]
theorem nextK_step{c:List Ins}{lo hi pass:Nat}{head fin:List Iv}{k:Nat}(h:k < head.length):(nextK c lo hi pass head fin k).set k (nextV c lo hi pass head fin k)=nextK c lo hi pass head fin (k+1):=by
 have hl:=nextH_length c lo hi pass head fin
 unfold nextK
 have h1:((nextH c lo hi pass head fin).take k).length=k:=by rw [List.length_take];omega
 rw [List.set_append_right _ _ (by omega),h1,Nat.sub_self,List.drop_eq_getElem_cons h,List.set_cons_zero,List.take_succ_eq_append_getElem (by omega:k < (nextH c lo hi pass head fin).length),nextH_get c lo hi pass head fin h,List.append_assoc,List.singleton_append]
theorem nextK_gL{c:List Ins}{lo hi pass:Nat}{head fin:List Iv}{k:Nat}(h:k < head.length):gL (nextK c lo hi pass head fin k) k=gL head k:=by
 have hl:=nextH_length c lo hi pass head fin
 unfold nextK gL
 rw [List.getD_eq_getElem?_getD,List.getD_eq_getElem?_getD,List.getElem?_append_right (by rw [List.length_take];omega),List.getElem?_drop]
 congr 2
 rw [List.length_take];omega
theorem next_mid{w wr w2:World}{ob n c k:Nat}{L:List Iv}(h:OwnS encIv 2 wr w.heap.size 148 (some ⟨ob,0,none⟩) n c L)(hb:Below w.heap.size w wr)(hb2:Below wr.heap.size wr w2)(hk:k < n) :
  w2.cell? ⟨ob,k * 2,none⟩=some (.int .i64 (gL L k).lo)∧w2.cell? ⟨ob,k * 2+1,none⟩=some (.int .i64 (gL L k).hi)∧w2.frozen? ⟨ob,k * 2,none⟩=false∧w2.frozen? ⟨ob,k * 2+1,none⟩=false∧Hid (OwnS encIv 2 w2 w.heap.size 148 (some ⟨ob,0,none⟩) n c L∧Below w.heap.size w w2):=by
 have ho2:=OwnS.below h hb2
 obtain⟨g2,hg2,-,-,hc2⟩:=ho2.get (fun _=>rfl) (by decide) ⟨0,0⟩ (by omega)
 injection hg2 with hg2
 injection hg2 with hg2
 subst hg2
 exact⟨hc2 k 0 _ hk rfl,hc2 k 1 _ hk rfl,World.ownsRow.frozenAt ho2 (k * 2),World.ownsRow.frozenAt ho2 (k * 2+1),Lib.hid ⟨ho2,hb.trans (hb2.mono hb.size)⟩⟩
theorem agnC_widen(wB:World)(v:WV)(p:Prg)(P:List Int)(n:Nat)(hk:PK wB v p P)(hn:n≤16)(pb:Nat)(hf:v.f2=.func (.func 80) #[] #[.pointer (some ⟨pb,0,none⟩)])(hpr:rowV wB pb 25 #[.slice v.aA v.an v.ac,.int .i64 v.L,.slice v.cA v.cn v.cc]):AgnC wB v p n .widen:=by
 refine⟨80,#[.pointer (some ⟨pb,0,none⟩)],hf,enters_of Tryz.func80 (by kernel_rfl) rfl,fun w lo hi pass A D c c' head fin hb hlh hhi hpass hhd hlk hfn hlf hB=>?_⟩
 show Calls Tryz.prog 80 #[.int .i64 (lo:Int),.int .i64 (hi:Int),.int .i64 (pass:Int),.slice A n c,.slice D n c',.pointer (some ⟨pb,0,none⟩)] w fun e w'=>(∃ A c',e=.returned (.slice A n c')∧IvK wB.heap.size w' A n c' (nextH p.code lo hi pass head fin))∧Below w.heap.size w w'
 have hcl:=cloneIv_any A n c head w hhd.1 (by omega)
 have hcn:=hk.cn
 have hcc:=hk.code.2.1
 have hlen:=hk.ok.len
 have x2:w.cell? ⟨pb,2,none⟩=some (.slice v.cA v.cn v.cc):=(hb.cell (p:=⟨pb,2,none⟩) hpr.lt).trans (cell_rowV hpr rfl)
 have hpl:pb < w.heap.size:=Nat.lt_of_lt_of_le hpr.lt hb.size
 have r5:=cutIns_lh v.cA v.cn v.cc (lo:Int) (hi:Int) (by omega) (by omega) (by omega)
 have hsub:=(hk.code.below hb).sub hlh (hi:=hi) (by omega)
 simp only [Int.toNat_natCast] at r5
 obtain⟨sA,hsA⟩:∃ a,a=(if v.cc=lo then v.cA else v.cA.map (·.add (lo * 2))):=⟨_,rfl⟩
 rw [←hsA] at r5 hsub
 obtain⟨m,hm⟩:∃ m,m=hi-lo:=⟨_,rfl⟩
 have hst:∀ i:Nat,stored p.code lo hi i=anyIn ((p.code.drop lo).take m) ⟨2,(i:Int)⟩ m:=fun i=>by rw [stored_any,hm]
 rw [←hm] at r5 hsub
 obtain⟨cn,hcn'⟩:∃ x,x=v.cn:=⟨_,rfl⟩
 obtain⟨cc,hcc'⟩:∃ x,x=v.cc:=⟨_,rfl⟩
 rw [←hcn',←hcc'] at r5 x2
 rw [←hcc'] at hsub
 obtain⟨sc,hsc⟩:∃ x,x=cc-lo:=⟨_,rfl⟩
 rw [←hsc] at r5 hsub
 have hm2:m≤2000:=by omega
 have HCT:Hid (∀ (i:Nat) W,Below w.heap.size w W→Calls Tryz.prog 82 #[.slice sA m sc,.agg #[.int .i64 2,.int .u32 (i:Int)]] W fun e w'=>e=.returned (.bool (stored p.code lo hi i))∧Below W.heap.size W w'):=fun i W hW=>by
  have h1:=containsIns_any sA m sc _ ⟨2,(i:Int)⟩ W (hsub.below hW) hm2
  rw [←hst] at h1
  exact h1
 have HCl:=Lib.hid hcl
 have HX:=Lib.hid hhd
 have HY:=Lib.hid hfn
 have HL:=Lib.hid (And.intro hlk.1 hlf.1)
 have HB:=Lib.hid hB
 clear hcl hhd hfn hlk hlf hcn' hcc' hsc hsub hst hm hsA hcn hcc hlen hpr hk hb hf hB hhi hm2
 go_enter Tryz.func80,Tryz.ntmps80
 go_wp2_with fail
 refine HCl.out.mono ?_
 rintro e w1 ⟨A2,c2,rfl,ho1,hb1⟩
 have HO1:Hid (OwnS encIv 2 w1 w.heap.size 148 A2 n c2 (nextK p.code lo hi pass head fin 0)∧Below w.heap.size w w1):=⟨by unfold nextK;rw [List.take_zero,List.nil_append,List.drop_zero];exact ho1,hb1⟩
 clear ho1 hb1 HCl
 go_wp2_with fail
 go_loopw [13,14,19,31] (fun _ _ i _ wr=>∃ k:Nat,k≤n∧i=.int .i64 (k:Int)∧Hid (OwnS encIv 2 wr w.heap.size 148 A2 n c2 (nextK p.code lo hi pass head fin k)∧Below w.heap.size w wr)) (fun _ _ i _ _=>n-(intOf i).toNat)
 case atStart=>exact⟨0,Nat.zero_le _,rfl,HO1⟩
 case round=>
  clear HO1
  obtain⟨k,hk,rfl,HR⟩:=hrel
  by_cases hlt:k < n
  ·have d0:decide ((k:Int) < (n:Int))=true:=by simp;omega
   have d0':decide (k < n)=true:=by simp;omega
   have ew:IntKind.u32.wrap (k:Int)=k:=by simp [IntKind.wrap,IntKind.bits,IntKind.signed];omega
   have y2:=(HR.out.2.cell (p:=⟨pb,2,none⟩) hpl).trans x2
   have HC:=Lib.hid (HCT.out k wr HR.out.2)
   have hsp:Hid (nextK p.code lo hi pass head fin (k+1)=(nextK p.code lo hi pass head fin k).set k (nextV p.code lo hi pass head fin k)):=(nextK_step (by rw [HL.out.1];exact hlt)).symm
   obtain⟨b,hsb⟩:∃ b,b=stored p.code lo hi k:=⟨_,rfl⟩
   rw [←hsb] at HC
   by_cases hp3:pass < 3
   ·have d3:decide ((pass:Int) < 3)=true:=by simp;omega
    have hnv:Hid (nextV p.code lo hi pass head fin k=ivWiden (gL head k) (ivJoin (gL head k) (gL fin k))):=by show _=_;unfold nextV;rw [if_pos hp3]
    clear hsb
    go_wp2_with fail
    refine HC.out.mono ?_
    rintro e w2 ⟨rfl,hb2⟩
    have hb2':Below w.heap.size w w2:=HR.out.2.trans (hb2.mono HR.out.2.size)
    obtain⟨ab,ao,rfl,ha1,ha2⟩:=HX.out.1.2.2 (by omega)
    obtain⟨db,do',rfl,hd1,hd2⟩:=HY.out.1.2.2 (by omega)
    have a1:w2.cell? ⟨ab,ao+k * 2,none⟩=some (.int .i64 (gL head k).lo):=(hb2'.cell (p:=⟨ab,ao+k * 2,none⟩) ha1).trans (ha2 k hlt).1
    have a2:w2.cell? ⟨ab,ao+k * 2+1,none⟩=some (.int .i64 (gL head k).hi):=(hb2'.cell (p:=⟨ab,ao+k * 2+1,none⟩) ha1).trans (ha2 k hlt).2
    have b1:w2.cell? ⟨db,do'+k * 2,none⟩=some (.int .i64 (gL fin k).lo):=(hb2'.cell (p:=⟨db,do'+k * 2,none⟩) hd1).trans (hd2 k hlt).1
    have b2:w2.cell? ⟨db,do'+k * 2+1,none⟩=some (.int .i64 (gL fin k).hi):=(hb2'.cell (p:=⟨db,do'+k * 2+1,none⟩) hd1).trans (hd2 k hlt).2
    have HO2:=Lib.hid (And.intro (HR.out.1.below hb2) hb2')
    obtain⟨ob,rfl,hob1,hob2,hoc⟩:=HO2.out.1.get (fun _=>rfl) (by decide) ⟨0,0⟩ (by omega)
    have hnab:Hid (some ab≠some ob):=fun e=>by injection e with e;omega
    have hndb:Hid (some db≠some ob):=fun e=>by injection e with e;omega
    have hal:ab < w2.heap.size:=Nat.lt_of_lt_of_le ha1 hb2'.size
    have hdl:db < w2.heap.size:=Nat.lt_of_lt_of_le hd1 hb2'.size
    clear ha2 hd2 hoc hb2 hb2' HC HCT y2 x2 r5 ew
    have HJ:=Lib.hid (join_any (gL head k) (gL fin k))
    have HWd:=Lib.hid (widen_any (gL head k) (ivJoin (gL head k) (gL fin k)))
    obtain⟨⟨zl,zh⟩,hz⟩:∃ z,z=ivJoin (gL head k) (gL fin k):=⟨_,rfl⟩
    rw [←hz] at HJ HWd hnv
    obtain⟨⟨ul,uh⟩,hu⟩:∃ z,z=ivWiden (gL head k) ⟨zl,zh⟩:=⟨_,rfl⟩
    rw [←hu] at HWd hnv
    obtain⟨⟨xl,xh⟩,hx⟩:∃ x,x=gL head k:=⟨_,rfl⟩
    obtain⟨⟨yl,yh⟩,hy⟩:∃ y,y=gL fin k:=⟨_,rfl⟩
    rw [←hx] at HJ HWd a1 a2
    rw [←hy] at HJ b1 b2
    clear hx hy hz hu
    dsimp only at HJ HWd a1 a2 b1 b2
    go_wp2_with fail
    go_region_held3 (fun W=>W.cell? ⟨ab,ao+k * 2,none⟩=some (.int .i64 xl)∧W.cell? ⟨ab,ao+k * 2+1,none⟩=some (.int .i64 xh)∧W.cell? ⟨db,do'+k * 2,none⟩=some (.int .i64 yl)∧W.cell? ⟨db,do'+k * 2+1,none⟩=some (.int .i64 yh))
     (first | go_keep | exact⟨s1,s2,s3,s4⟩ | exact⟨t1,t2,t3,t4⟩ | exact⟨q1,q2,q3,q4⟩)
     (first
      | (go_at_call 84;refine (HJ.out _).mono ?_;rintro e w3 ⟨rfl,hb3⟩;have s1:=(hb3.cell (p:=⟨ab,ao+k * 2,none⟩) hal).trans a1;have s2:=(hb3.cell (p:=⟨ab,ao+k * 2+1,none⟩) hal).trans a2;have s3:=(hb3.cell (p:=⟨db,do'+k * 2,none⟩) hdl).trans b1;have s4:=(hb3.cell (p:=⟨db,do'+k * 2+1,none⟩) hdl).trans b2)
      | (go_at_call 83;refine (HWd.out _).mono ?_;rintro e w4 ⟨rfl,hb4⟩;have hb34:=hb3.trans (hb4.mono hb3.size);have t1:=(hb34.cell (p:=⟨ab,ao+k * 2,none⟩) hal).trans a1;have t2:=(hb34.cell (p:=⟨ab,ao+k * 2+1,none⟩) hal).trans a2;have t3:=(hb34.cell (p:=⟨db,do'+k * 2,none⟩) hdl).trans b1;have t4:=(hb34.cell (p:=⟨db,do'+k * 2+1,none⟩) hdl).trans b2;obtain⟨y0,y1,f0,f1,HO4⟩:=join_mid HO2.out.1 HO2.out.2 hb34 hlt;have hsz:=hb34.size;have hgq:=(HO4.out.1.setIv k hlt ⟨ul,uh⟩).2;have q1:=(World.cell?_of_block (a:=⟨ab,ao+k * 2,none⟩) (hgq.block ab (Nat.lt_of_lt_of_le hal hsz) hnab.out)).trans t1;have q2:=(World.cell?_of_block (a:=⟨ab,ao+k * 2+1,none⟩) (hgq.block ab (Nat.lt_of_lt_of_le hal hsz) hnab.out)).trans t2;have q3:=(World.cell?_of_block (a:=⟨db,do'+k * 2,none⟩) (hgq.block db (Nat.lt_of_lt_of_le hdl hsz) hndb.out)).trans t3;have q4:=(World.cell?_of_block (a:=⟨db,do'+k * 2+1,none⟩) (hgq.block db (Nat.lt_of_lt_of_le hdl hsz) hndb.out)).trans t4))
    all_goals
     obtain⟨ho3,hg3⟩:=HO4.out.1.setIv k hlt ⟨ul,uh⟩
     have hb5:Below w.heap.size w ((w4.setCell ⟨ob,k * 2,none⟩ (.int .i64 ul)).setCell ⟨ob,k * 2+1,none⟩ (.int .i64 uh)):=HO4.out.2.grown hg3 HO4.out.2.size (fun k hk=>by injection hk with hk;rw [←hk];exact hob1)
     have HN:Hid (OwnS encIv 2 ((w4.setCell ⟨ob,k * 2,none⟩ (.int .i64 ul)).setCell ⟨ob,k * 2+1,none⟩ (.int .i64 uh)) w.heap.size 148 (some ⟨ob,0,none⟩) n c2 (nextK p.code lo hi pass head fin (k+1))∧Below w.heap.size w ((w4.setCell ⟨ob,k * 2,none⟩ (.int .i64 ul)).setCell ⟨ob,k * 2+1,none⟩ (.int .i64 uh))):=⟨by rw [hsp.out,hnv.out];exact ho3,hb5⟩
     clear ho3 hg3 hb5
     go_wp2_with fail
     go_roundw
     case rel=>exact⟨k+1,by omega,by go_num,HN⟩
     case measure=>(simp [intOf]) <;> omega
   ·have d3:decide ((pass:Int) < 3)=false:=by simp;omega
    cases b with
    | false=>
     have hnv:Hid (nextV p.code lo hi pass head fin k=gL (nextK p.code lo hi pass head fin k) k):=by show _=_;unfold nextV;rw [if_neg hp3,←hsb,if_neg (by decide),nextK_gL (by rw [HL.out.1];exact hlt)]
     clear hsb
     go_wp2_with fail
     refine HC.out.mono ?_
     rintro e w2 ⟨rfl,hb2⟩
     have hset:(nextK p.code lo hi pass head fin k).set k (gL (nextK p.code lo hi pass head fin k) k)=nextK p.code lo hi pass head fin k:=by
      rw [gL_get (by have:=HR.out.1.length (fun _=>rfl) (by decide);omega)]
      exact List.set_getElem_self _
     have HN:Hid (OwnS encIv 2 w2 w.heap.size 148 A2 n c2 (nextK p.code lo hi pass head fin (k+1))∧Below w.heap.size w w2):=⟨by rw [hsp.out,hnv.out,hset];exact HR.out.1.below hb2,HR.out.2.trans (hb2.mono HR.out.2.size)⟩
     clear hset hb2
     go_wp2_with fail
     go_roundw
     case rel=>exact⟨k+1,by omega,by go_num,HN⟩
     case measure=>(simp [intOf]) <;> omega
    | true=>
     have hnv:Hid (nextV p.code lo hi pass head fin k=⟨0,4294967295⟩):=by show _=_;unfold nextV;rw [if_neg hp3,←hsb,if_pos rfl];rfl
     clear hsb
     go_wp2_with fail
     refine HC.out.mono ?_
     rintro e w2 ⟨rfl,hb2⟩
     have HO2:=Lib.hid (And.intro (HR.out.1.below hb2) (HR.out.2.trans (hb2.mono HR.out.2.size)))
     obtain⟨ob,rfl,hob1,hob2,hoc⟩:=HO2.out.1.get (fun _=>rfl) (by decide) ⟨0,0⟩ (by omega)
     clear hoc hb2 HC HCT y2 x2 r5 ew
     go_wp2_with fail
     refine (full_any _).mono ?_
     rintro e w4 ⟨rfl,hb4⟩
     obtain⟨y0,y1,f0,f1,HO4⟩:=next_mid HO2.out.1 HO2.out.2 hb4 hlt
     clear hb4
     go_upto_region 10 with fail
     all_goals
      obtain⟨ho3,hg3⟩:=HO4.out.1.setIv k hlt ⟨0,4294967295⟩
      have hb5:Below w.heap.size w ((w4.setCell ⟨ob,k * 2,none⟩ (.int .i64 0)).setCell ⟨ob,k * 2+1,none⟩ (.int .i64 4294967295)):=HO4.out.2.grown hg3 HO4.out.2.size (fun k hk=>by injection hk with hk;rw [←hk];exact hob1)
      have HN:Hid (OwnS encIv 2 ((w4.setCell ⟨ob,k * 2,none⟩ (.int .i64 0)).setCell ⟨ob,k * 2+1,none⟩ (.int .i64 4294967295)) w.heap.size 148 (some ⟨ob,0,none⟩) n c2 (nextK p.code lo hi pass head fin (k+1))∧Below w.heap.size w ((w4.setCell ⟨ob,k * 2,none⟩ (.int .i64 0)).setCell ⟨ob,k * 2+1,none⟩ (.int .i64 4294967295))):=⟨by rw [hsp.out,hnv.out];exact ho3,hb5⟩
      clear ho3 hg3 hb5
      go_wp2_with fail
      go_roundw
      case rel=>exact⟨k+1,by omega,by go_num,HN⟩
      case measure=>(simp [intOf]) <;> omega
  ·obtain rfl:k=n:=by omega
   have d0:decide ((k:Int) < (k:Int))=false:=by simp
   go_wp2_with fail
   go_ret
   refine⟨⟨A2,c2,rfl,?_⟩,HR.out.2⟩
   have h1:=HR.out.1
   unfold nextK at h1
   rw [List.take_of_length_le (by rw [nextH_length,HL.out.1];exact Nat.le_refl _),List.drop_of_length_le (by rw [HL.out.1];exact Nat.le_refl _),List.append_nil] at h1
   exact IvK.of_own h1
end Go.Proofs.YtpaplehcafeeaaaGreatDoor
