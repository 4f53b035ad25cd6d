/- Ag. -/
import Derived.Test.YtpaplehcafeeaaaGreatDoorLE08
import Derived.Test.YtpaplehcafeeaaaGreatDoorLE09
set_option maxRecDepth 100000
set_option maxHeartbeats 40000000
set_option linter.unusedVariables false
set_option linter.unusedSimpArgs false
namespace Go.Proofs.YtpaplehcafeeaaaGreatDoor
open Go.RowKit Go.Proofs
theorem strB_extract(x:List UInt8)(i j:Nat):(strB x).extract i j=strB ((x.drop i).take (j-i)):=by
 apply ByteArray.ext
 simp [strB,ByteArray.data_extract]
theorem run_cutS_l(x:List UInt8){i:Nat}(hi:i≤x.length)(W:World):(Instr.slice 9 (.string (strB x)) (some (.int .i64 (i:Int))) none none).run Tryz.prog W=.ok (.string (strB (x.drop i))) W:=by
 rw [run_slice_string_l W 9 (strB x) uS .i64 (i:Int) (by omega) (by rw [strB_size'];omega),strB_extract,Int.toNat_natCast,strB_size',List.take_of_length_le (by rw [List.length_drop];omega)]
theorem run_cutS_lh(x:List UInt8){i j:Nat}(hi:i≤j)(hj:j≤x.length)(W:World):(Instr.slice 9 (.string (strB x)) (some (.int .i64 (i:Int))) (some (.int .i64 (j:Int))) none).run Tryz.prog W=.ok (.string (strB ((x.drop i).take (j-i)))) W:=by
 rw [run_slice_string_if W 9 (strB x) .i64 .i64 (i:Int) (j:Int) uS,if_pos ⟨by omega,by rw [strB_size'];omega⟩,if_pos ⟨by omega,by omega⟩,strB_extract,Int.toNat_natCast,Int.toNat_natCast]
def encW(x:Wd):List Value:=[.string (strB x.1),.int .i64 (x.2:Int)]
theorem encW_one(x:Wd):∀ u∈encW x,u.oneCell'=true:=by
 intro u hu
 simp [encW] at hu
 rcases hu with rfl | rfl <;> rfl
theorem infoW:(Tryz.prog.info? 214).map (fun i=>(i.zero,i.size,i.bytes))=some (some (.agg #[.string ⟨#[]⟩,.int .i64 0]),2,24):=by kernel_rfl
theorem uW:Tryz.prog.underlying 170=some (.slice 214):=by kernel_rfl
theorem gap_iff(b:UInt8):gapB b=(b==59 || [32,9,10].contains b):=by
 unfold gapB
 by_cases h1:b=32
 ·subst h1;rfl
 by_cases h2:b=9
 ·subst h2;rfl
 by_cases h3:b=10
 ·subst h3;rfl
 by_cases h4:b=59
 ·subst h4;rfl
 simp [h1,h2,h3,h4]
theorem gapIx_run{x:List UInt8}:(0≤gapIx x→gapIx x=((x.takeWhile (fun c=>!gapB c)).length:Int))∧(gapIx x < 0→(x.takeWhile (fun c=>!gapB c)).length=x.length):=by
 unfold gapIx
 by_cases h:x.any gapB=true
 ·rw [if_pos h]
  exact⟨fun _=>rfl,fun h2=>by omega⟩
 ·rw [if_neg h]
  refine⟨fun h2=>by omega,fun _=>takeWhile_all (fun b hb=>?_)⟩
  have:x.any gapB=false:=by simpa using h
  rw [List.any_eq_false] at this
  simpa using this b hb
theorem nlIx_run{x:List UInt8}:(0≤Lib.indexByte x 10→Lib.indexByte x 10=((x.takeWhile (· != 10)).length:Int))∧(Lib.indexByte x 10 < 0→(x.takeWhile (· != 10)).length=x.length):=by
 rw [indexByte_run]
 by_cases h:x.contains 10=true
 ·rw [if_pos h]
  exact⟨fun _=>rfl,fun h2=>by omega⟩
 ·rw [if_neg h]
  refine⟨fun h2=>by omega,fun _=>takeWhile_all (fun b hb=>?_)⟩
  have h2:b≠10:=fun e=>h (by rw [←e];simpa using hb)
  simpa using h2
def IxAny:Prop:=∀ (x:List UInt8) (W:World),x.length≤9000→Calls Tryz.prog 152 #[.string (strB x),.string ⟨#[32,9,10,59]⟩] W fun e w'=>e=.returned (.int .i64 (gapIx x))∧Below W.heap.size W w'
theorem split_any(hIx:IxAny)(src:List UInt8)(w:World)(hs:src.length≤8192) :
  Calls Tryz.prog 117 #[.string (strB src)] w fun e w'=>∃ A n c,e=.returned (.slice A n c)∧OwnS encW 2 w' w.heap.size 214 A n c (wordsL src)∧Below w.heap.size w w':=by
 have hsz:=strB_size' src
 have HIx:=Lib.hid hIx
 have HI:=Lib.hid (fun k hk W=>run_index_strB src (k:=k) hk W)
 have HC1:=Lib.hid (fun i hi W=>run_cutS_l src (i:=i) hi W)
 have HC2:=Lib.hid (fun i j hi hj W=>run_cutS_lh src (i:=i) (j:=j) hi hj W)
 have hz3:Hid ((⟨#[32,9,10]⟩:ByteArray)=strB [32,9,10]):=rfl
 have ho0:=OwnS.nil encW 2 w w.heap.size 214
 have HW0:Hid ([]++wordsA src 0=wordsL src):=rfl
 go_enter Tryz.func117,Tryz.ntmps117
 go_wp2_with fail
 go_loopw [3,4] (fun d i wr=>∃ (k m c3:Nat) (A3:Option Addr) (ys:List Wd),k≤src.length∧m≤k∧i=.int .i64 (k:Int)∧d=.slice A3 m c3∧OwnS encW 2 wr w.heap.size 214 A3 m c3 ys∧Hid (ys++wordsA src k=wordsL src)∧Below w.heap.size w wr) (fun _ i _=>src.length-(intOf i).toNat)
 case atStart=>exact⟨0,0,0,none,[],Nat.zero_le _,Nat.zero_le _,rfl,rfl,ho0,HW0.out,Below.refl _ _⟩
 case round=>
  clear ho0 HW0
  obtain⟨k,m,c3,A3,ys,hk,hmk,rfl,rfl,ho,HW,hb⟩:=hrel
  by_cases hlt:k < src.length
  ·have e1:decide ((k:Int) < (src.length:Int))=true:=by simp;omega
   have e1':decide (k < src.length)=true:=by simp;omega
   have hi:=HI.out k hlt
   have hc1:=HC1.out k (by omega)
   unfold gb at hi
   have HA:=Lib.hid (fun h=>wordsA_comment (src:=src) (i:=k) hlt h)
   have HB:=Lib.hid (fun h h'=>wordsA_gap (src:=src) (i:=k) hlt h h')
   have HC:=Lib.hid (fun h=>wordsA_word (src:=src) (i:=k) hlt h)
   have HP:=Lib.hid (fun p h=>runTo_pos (p:=p) (src:=src) (i:=k) hlt h)
   have HL:=Lib.hid (fun p=>runTo_le p (src:=src) (i:=k) (by omega))
   obtain⟨b,hbe⟩:∃ b,b=src.getD k 0:=⟨_,rfl⟩
   rw [←hbe] at hi HA HB HC HP
   clear hbe
   by_cases h59:b=59
   ·subst h59
    have HA':=Lib.hid (HA.out rfl)
    have hp:=HP.out (· != 10) rfl
    have hl:=HL.out (· != 10)
    have hn:=nlIx_run (x:=src.drop k)
    have H1:=Lib.hid (indexByteS_any (src.drop k) 10 wr)
    have hdl:(src.drop k).length=src.length-k:=List.length_drop
    obtain⟨r,hr⟩:∃ r,r=runTo (· != 10) src k:=⟨_,rfl⟩
    rw [←hr] at HA' hp hl
    have hr':((src.drop k).takeWhile (· != 10)).length=r:=hr.symm
    rw [hr',hdl] at hn
    obtain⟨z,hz⟩:∃ z,z=Lib.indexByte (src.drop k) 10:=⟨_,rfl⟩
    rw [←hz] at H1 hn
    clear hr hr' hz hdl HA HB HC HP HL
    by_cases hz0:0≤z
    ·have hze:=hn.1 hz0
     have d1:decide ((0:Int)≤z)=true:=by simpa using hz0
     subst hze
     clear hn hz0
     go_wp2_with fail
     refine H1.out.mono ?_
     rintro e w1 ⟨rfl,hw1⟩
     obtain rfl:wr=w1:=hw1.symm
     go_wp2_with fail
     go_roundw
     case rel=>exact⟨k+r,m,c3,A3,ys,by omega,by omega,by go_num,rfl,ho,by show _=_;rw [←HA'.out];exact HW.out,hb⟩
     case measure=>simp [intOf];omega
    ·have hze:=hn.2 (by omega)
     have d1:decide ((0:Int)≤z)=false:=by simpa using hz0
     clear hn
     go_wp2_with fail
     refine H1.out.mono ?_
     rintro e w1 ⟨rfl,hw1⟩
     obtain rfl:wr=w1:=hw1.symm
     go_wp2_with fail
     go_roundw
     case rel=>exact⟨src.length,m,c3,A3,ys,by omega,by omega,rfl,rfl,ho,by show _=_;rw [show src.length=k+r by omega,←HA'.out];exact HW.out,hb⟩
     case measure=>simp [intOf];omega
   ·have d59:(((b.toNat:Int))==59)=false:=by
     have:b.toNat≠59:=fun e=>h59 (UInt8.toNat_inj.1 (by rw [e];rfl))
     simp;omega
    have H1:=Lib.hid (indexByteS_any [32,9,10] b wr)
    have hm:=indexByte_mem [32,9,10] b
    have hgi:=gap_iff b
    rw [show (b==59)=false by simpa using h59,Bool.false_or] at hgi
    rw [←hgi] at hm
    obtain⟨z,hz⟩:∃ z,z=Lib.indexByte [32,9,10] b:=⟨_,rfl⟩
    rw [←hz] at H1 hm
    have hzz:decide (0≤z)=gapB b:=by
     cases hg:gapB b with
     | true=>rw [hg] at hm;have:¬ z < 0:=by simpa using hm
             exact decide_eq_true (by omega)
     | false=>rw [hg] at hm;have:z < 0:=by simpa using hm
              exact decide_eq_false (by omega)
    clear hz hgi hm
    rw [←hz3.out] at H1
    cases hg:gapB b with
    | true=>
     rw [hg] at hzz
     have HB':=Lib.hid (HB.out h59 hg)
     clear HA HB HC HP HL hg h59
     go_wp2_with fail
     refine H1.out.mono ?_
     rintro e w1 ⟨rfl,hw1⟩
     obtain rfl:wr=w1:=hw1.symm
     go_wp2_with fail
     go_roundw
     case rel=>exact⟨k+1,m,c3,A3,ys,by omega,by omega,by go_num,rfl,ho,by show _=_;rw [←HB'.out];exact HW.out,hb⟩
     case measure=>simp [intOf];omega
    | false=>
     rw [hg] at hzz
     have HC':=Lib.hid (HC.out hg)
     have hp:=HP.out (fun c=>!gapB c) (by simp [hg])
     have hl:=HL.out (fun c=>!gapB c)
     have hn:=gapIx_run (x:=src.drop k)
     have hdl:(src.drop k).length=src.length-k:=List.length_drop
     have H2:=Lib.hid (HIx.out (src.drop k) wr (by rw [hdl];omega))
     obtain⟨r,hr⟩:∃ r,r=runTo (fun c=>!gapB c) src k:=⟨_,rfl⟩
     rw [←hr] at HC' hp hl
     have hr':((src.drop k).takeWhile (fun c=>!gapB c)).length=r:=hr.symm
     rw [hr',hdl] at hn
     obtain⟨y,hy⟩:∃ y,y=gapIx (src.drop k):=⟨_,rfl⟩
     rw [←hy] at H2 hn
     have hc2:=HC2.out k (k+r) (by omega) (by omega)
     rw [show k+r-k=r by omega] at hc2
     have hc2':∀ W:World,(Instr.slice 9 (.string (strB src)) (some (.int .i64 (k:Int))) (some (.int .i64 ((k:Int)+(r:Int)))) none).run Tryz.prog W=.ok (.string (strB ((src.drop k).take r))) W:=fun W=>by
      have:=hc2 W
      rwa [show ((k+r:Nat):Int)=(k:Int)+(r:Int) by omega] at this
     have HE:Hid (encW ((src.drop k).take r,k)=[.string (strB ((src.drop k).take r)),.int .i64 (k:Int)]):=rfl
     have HX:Hid ((ys++[((src.drop k).take r,k)])++wordsA src (k+r)=wordsL src):=by
      show _=_
      rw [List.append_assoc,List.singleton_append,←HC'.out];exact HW.out
     obtain⟨wd,hwd⟩:∃ wd,wd=(src.drop k).take r:=⟨_,rfl⟩
     have HWD:=Lib.hid hwd
     rw [←hwd] at hc2' HE HX
     have m1:Hid (m+1≤maxLen∧(m+1) * 24≤140737488355328):=⟨by simp [maxLen];omega,by omega⟩
     clear hr hr' hy hdl HA HB HC HP HL hg h59 HC' hc2 hwd HW
     by_cases hy0:0≤y
     ·have hye:=hn.1 hy0
      have d1:decide (y < 0)=false:=by simp;omega
      subst hye
      clear hn hy0
      go_wp2_with fail
      refine H1.out.mono ?_
      rintro e w1 ⟨rfl,hw1⟩
      obtain rfl:wr=w1:=hw1.symm
      go_wp2_with fail
      refine H2.out.mono ?_
      rintro e w2 ⟨rfl,hb2⟩
      have ho2:=ho.below hb2
      have b2:=hb.trans (hb2.mono hb.size)
      have hB2:=b2.size
      clear ho hb hb2 H1 H2
      go_wp2_with (at_builtin;refine wpList_pushS (enc:=encW) rfl (.tmp 25) (.tmp 34) rfl uW infoW encW_one rfl (fun _=>rfl) (by omega) rfl ho2 hB2 (wd,k) _ (congrArg List.toArray HE.out) rfl m1.out.1 m1.out.2 ?_;intro A6 c6 w6 ho6 hb6 hg6)
      have b6:=b2.trans hb6
      go_roundw
      case rel=>exact⟨k+r,m+1,c6,A6,_,by omega,by omega,by go_num,rfl,ho6,HX.out,b6⟩
      case measure=>simp [intOf];omega
     ·have hye:=hn.2 (by omega)
      have d1:decide (y < 0)=true:=by simp;omega
      have hsub:(src.length:Int)-(k:Int)=(r:Int):=by omega
      have HE2:Hid (encW (wd,k)=[.string ((strB src).extract k src.length),.int .i64 (k:Int)]):=by
       show _=_
       rw [HE.out,strB_extract,HWD.out,show src.length-k=r by omega]
      clear hn hy0
      go_wp2_with fail
      refine H1.out.mono ?_
      rintro e w1 ⟨rfl,hw1⟩
      obtain rfl:wr=w1:=hw1.symm
      go_wp2_with fail
      refine H2.out.mono ?_
      rintro e w2 ⟨rfl,hb2⟩
      have ho2:=ho.below hb2
      have b2:=hb.trans (hb2.mono hb.size)
      have hB2:=b2.size
      clear ho hb hb2 H1 H2
      go_wp2_with (at_builtin;refine wpList_pushS (enc:=encW) rfl (.tmp 25) (.tmp 34) rfl uW infoW encW_one rfl (fun _=>rfl) (by omega) rfl ho2 hB2 (wd,k) _ (congrArg List.toArray HE2.out) rfl m1.out.1 m1.out.2 ?_;intro A6 c6 w6 ho6 hb6 hg6)
      have b6:=b2.trans hb6
      go_roundw
      case rel=>exact⟨k+r,m+1,c6,A6,_,by omega,by omega,by go_num,rfl,ho6,HX.out,b6⟩
      case measure=>simp [intOf];omega
  ·have e1:decide ((k:Int) < (src.length:Int))=false:=by simp;omega
   have e1':decide (k < src.length)=false:=by simp;omega
   have HE:Hid (ys=wordsL src):=by show _=_;rw [←HW.out,wordsA_end (by omega),List.append_nil]
   go_wp2_with fail
   go_ret
   exact⟨_,_,_,rfl,HE.out ▸ ho,hb⟩
end Go.Proofs.YtpaplehcafeeaaaGreatDoor
