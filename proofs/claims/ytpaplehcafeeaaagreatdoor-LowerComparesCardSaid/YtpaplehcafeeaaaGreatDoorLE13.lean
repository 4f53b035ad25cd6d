/- Av. -/
import Derived.Test.YtpaplehcafeeaaaGreatDoorLE11
import Derived.Test.YtpaplehcafeeaaaGreatDoorLE12
set_option maxRecDepth 100000
set_option maxHeartbeats 40000000
set_option linter.unusedVariables false
set_option linter.unusedSimpArgs false
namespace Go.Proofs.YtpaplehcafeeaaaGreatDoor
open Go.RowKit Go.Proofs
def ErrR(w:World):Prop:=∃ ev,w.cell? ⟨2,0,none⟩=some ev∧(ev=.nilIface∨∃ te pe,ev=.iface te pe)
theorem ErrR.below{w w':World}(h:ErrR w)(hb:Below w.heap.size w w'):ErrR w':=by
 obtain⟨ev,h1,h2⟩:=h
 exact⟨ev,(hb.cell (p:=⟨2,0,none⟩) (World.block_lt_of_cell? w _ h1)).trans h1,h2⟩
def NumPost(x:List UInt8)(w:World)(e:Ending)(w':World):Prop:=∃ v:Int,e=.returned (.tuple #[.int .i64 v,.bool (numL x).isSome])∧(∀ n,numL x=some n→v=(n:Int))∧Below w.heap.size w w'
theorem NumPost.none{x:List UInt8}{w w':World}{v:Int}(h:numL x=.none)(hb:Below w.heap.size w w'):NumPost x w (.returned (.tuple #[.int .i64 v,.bool false])) w':=
 ⟨v,by rw [h];rfl,fun n hn=>by rw [h] at hn;(cases hn),hb⟩
theorem NumPost.some{x:List UInt8}{w w':World}{n:Nat}(h:numL x=.some n)(hb:Below w.heap.size w w'):NumPost x w (.returned (.tuple #[.int .i64 (n:Int),.bool true])) w':=
 ⟨n,by rw [h];rfl,fun m hn=>by rw [h] at hn;(injection hn with hn;rw [hn]),hb⟩
def hexS:List UInt8:=[48,49,50,51,52,53,54,55,56,57,97,98,99,100,101,102]
def decDS:List UInt8:=[48,49,50,51,52,53,54,55,56,57]
theorem hexS_iff(b:UInt8):hexS.contains b=decide (hexD b < 16):=by
 have:∀ c:Fin 256,hexS.contains (UInt8.ofNat c.val)=decide (hexD (UInt8.ofNat c.val) < 16):=by decide +kernel
 have:=this ⟨b.toNat,b.toNat_lt⟩
 simpa using this
theorem decDS_iff(b:UInt8):decDS.contains b=decide (hexD b < 10):=by
 have:∀ c:Fin 256,decDS.contains (UInt8.ofNat c.val)=decide (hexD (UInt8.ofNat c.val) < 10):=by decide +kernel
 have:=this ⟨b.toNat,b.toNat_lt⟩
 simpa using this
theorem digF_some(base:Nat)(cs:List UInt8)(hc:∀ b,cs.contains b=decide (hexD b < base)):∀ (x:List UInt8) (acc:Nat),(digF base x acc).isSome=onlyL x cs
 | [],acc=>rfl
 | b :: t,acc=>by
  have ih:=digF_some base cs hc t (base * acc+hexD b)
  rw [digF]
  unfold onlyL at ih ⊢
  rw [List.all_cons,hc b]
  by_cases h:base≤hexD b
  ·rw [if_pos h,decide_eq_false (by omega)];rfl
  ·rw [if_neg h,decide_eq_true (by omega),ih,Bool.true_and]
theorem digF_lt(base:Nat)(hb:0 < base):∀ (x:List UInt8) (acc n:Nat),digF base x acc=some n→n < (acc+1) * base ^ x.length
 | [],acc,n,h=>by
  have:some acc=some n:=h
  injection this with this
  simp;omega
 | b :: t,acc,n,h=>by
  obtain⟨h1,h2⟩:=digF_cons h
  have ih:=digF_lt base hb t _ n h2
  have h3:(base * acc+hexD b+1) * base ^ t.length≤((acc+1) * base) * base ^ t.length:=Nat.mul_le_mul_right _ (by rw [Nat.add_mul,Nat.mul_comm base acc];omega)
  rw [List.length_cons,Nat.pow_succ,Nat.mul_comm (base ^ t.length) base,←Nat.mul_assoc]
  omega
theorem digF_ge(base:Nat)(hb:0 < base):∀ (x:List UInt8) (acc n:Nat),digF base x acc=some n→acc≤n
 | [],acc,n,h=>by
  have:some acc=some n:=h
  injection this with this
  omega
 | b :: t,acc,n,h=>by
  obtain⟨h1,h2⟩:=digF_cons h
  have ih:=digF_ge base hb t _ n h2
  have:acc≤base * acc:=Nat.le_mul_of_pos_left _ hb
  omega
theorem parse10:∀ (x:List UInt8) (acc n:Nat),digF 10 x acc=some n→acc≤4294967295→Lib.parseUintM 4294967295 acc x=if n≤4294967295 then .ok n else .range
 | [],acc,n,h,ha=>by
  have:some acc=some n:=h
  injection this with this
  subst this
  rw [if_pos ha];rfl
 | b :: t,acc,n,h,ha=>by
  obtain⟨h1,h2⟩:=digF_cons h
  rcases hexD_cases (by omega:hexD b < 16) with ⟨q0,q1,q2⟩ | ⟨q0,q1,q2⟩
  ·have e:10 * acc+hexD b=acc * 10+(b.toNat-48):=by omega
   rw [e] at h2
   rw [Lib.parseUintM,if_pos ⟨q0,q1⟩,if_neg (by omega)]
   by_cases h3:4294967295 < acc * 10+(b.toNat-48)
   ·have:=digF_ge 10 (by decide) t _ n h2
    rw [if_pos h3,if_neg (by omega)]
   ·rw [if_neg h3]
    exact parse10 t _ n h2 (by omega)
  ·omega
theorem numL_hex{x:List UInt8}(h2:2 < x.length)(hp:x.take 2=[48,120]):numL x=if 8 < (x.drop 2).length then none else (digF 16 (x.drop 2) 0).bind fun n=>if n < 4294967296 then some n else none:=by
 unfold numL;rw [if_pos ⟨h2,hp⟩]
theorem numL_dec{x:List UInt8}(h:¬ (2 < x.length∧x.take 2=[48,120])):numL x=if 1 < x.length∧x.head?=some 48 then none else if x.length < 1∨10 < x.length then none else (digF 10 x 0).bind fun n=>if n < 4294967296 then some n else none:=by
 unfold numL;rw [if_neg h]
theorem cutPrefix_any(x:List UInt8)(w:World):Calls Tryz.prog 221 #[.string (strB x),.string ⟨#[48,120]⟩] w fun e w'=>e=.returned (.tuple #[.string (strB (Lib.trimPrefix x [48,120])),.bool (Lib.hasPrefix x [48,120])])∧w'=w:=
 Tryz.strings_CutPrefix (strB x) ⟨#[48,120]⟩ w
theorem strB_isEmpty(x:List UInt8):(strB x).toList.isEmpty=decide (x.length=0):=by
 rw [strB_toList]
 cases x <;> simp
theorem parseHex_any(x:List UInt8)(n:Nat)(h0:0 < x.length)(h8:x.length≤8)(hd:digF 16 x 0=some n)(w:World) :
  Calls Tryz.prog 223 #[.string (strB x),.int .i64 16,.int .i64 32] w fun e w'=>e=.returned (.tuple #[.int .u64 (n:Int),.nilIface])∧Below w.heap.size w w':=by
 have H:=Lib.hid (hexInner x n h0 h8 hd w)
 clear hd
 go_enter Tryz.func223,Tryz.ntmps223
 go_wp2_with fail
 refine H.out.mono ?_
 rintro e w1 ⟨rfl,hb⟩
 go_wp2_with fail
 go_ret2
 exact⟨rfl,hb⟩
theorem number_hexa(x:List UInt8)(w:World)(hx:x.length≤9000)(h2:2 < x.length)(hp:x.take 2=[48,120]):Calls Tryz.prog 191 #[.string (strB x)] w (NumPost x w):=by
 have hpre:Lib.hasPrefix x [48,120]=true:=by
  rcases x with _ | ⟨a,_ | ⟨b,t⟩⟩
  ·simp at h2
  ·simp at h2
  ·simp at hp;rw [hp.1,hp.2];rfl
 have hcut:Lib.trimPrefix x [48,120]=x.drop 2:=by unfold Lib.trimPrefix;rw [if_pos hpre];rfl
 have HC:=cutPrefix_any x w
 rw [hpre,hcut] at HC
 have HC':=Lib.hid HC
 have hn:=numL_hex h2 hp
 obtain⟨y,hy⟩:∃ y,y=x.drop 2:=⟨_,rfl⟩
 have hyl:y.length=x.length-2:=by rw [hy,List.length_drop]
 rw [←hy] at HC' hn
 have hem:(strB y).toList.isEmpty=false:=by rw [strB_isEmpty];exact decide_eq_false (by omega)
 have hys:=strB_size' y
 clear hy HC hcut hpre hp
 by_cases h8:8 < y.length
 ·rw [if_pos h8] at hn
  have HN:=Lib.hid hn
  clear hn
  have d8:decide ((8:Int) < (y.length:Int))=true:=by simp;omega
  have d8':decide (8 < y.length)=true:=by simp;omega
  go_enter Tryz.func191,Tryz.ntmps191
  go_wp2_with fail
  refine HC'.out.mono ?_
  rintro e w1 ⟨rfl,hw1⟩
  obtain rfl:w=w1:=hw1.symm
  go_wp2_with fail
  go_ret2
  exact NumPost.none HN.out (Below.refl _ _)
 ·rw [if_neg h8] at hn
  have d8:decide ((8:Int) < (y.length:Int))=false:=by simp;omega
  have d8':decide (8 < y.length)=false:=by simp;omega
  have HO:Calls Tryz.prog 222 #[.string (strB y),.string ⟨#[48,49,50,51,52,53,54,55,56,57,97,98,99,100,101,102]⟩] w fun e w'=>e=.returned (.bool (onlyL y hexS))∧w'=w:=only_any y hexS w (by omega)
  rw [←digF_some 16 hexS hexS_iff y 0] at HO
  cases hdg:digF 16 y 0 with
  | none=>
   rw [hdg] at HO hn
   have HO':=Lib.hid HO
   have HN:=Lib.hid hn
   clear HO hn hdg
   go_enter Tryz.func191,Tryz.ntmps191
   go_wp2_with fail
   refine HC'.out.mono ?_
   rintro e w1 ⟨rfl,hw1⟩
   obtain rfl:w=w1:=hw1.symm
   go_wp2_with fail
   refine HO'.out.mono ?_
   rintro e w1 ⟨rfl,hw1⟩
   obtain rfl:w=w1:=hw1.symm
   go_wp2_with fail
   go_ret2
   exact NumPost.none HN.out (Below.refl _ _)
  | some n=>
   rw [hdg] at HO hn
   have hlt:=digF_lt 16 (by decide) y 0 n hdg
   have hpow:16 ^ y.length≤16 ^ 8:=Nat.pow_le_pow_right (by decide) (by omega)
   have h32:n < 4294967296:=by
    have:(16:Nat) ^ 8=4294967296:=by decide
    omega
   have hn':numL x=.some n:=by rw [hn];show (if n < 4294967296 then Option.some n else .none)=_;rw [if_pos h32]
   have HO':=Lib.hid HO
   have HN:=Lib.hid hn'
   have HP:=Lib.hid (parseHex_any y n (by omega) (by omega) hdg w)
   clear HO hn hdg hlt hpow hn'
   go_enter Tryz.func191,Tryz.ntmps191
   go_wp2_with fail
   refine HC'.out.mono ?_
   rintro e w1 ⟨rfl,hw1⟩
   obtain rfl:w=w1:=hw1.symm
   go_wp2_with fail
   refine HO'.out.mono ?_
   rintro e w1 ⟨rfl,hw1⟩
   obtain rfl:w=w1:=hw1.symm
   go_wp2_with fail
   refine HP.out.mono ?_
   rintro e w1 ⟨rfl,hb⟩
   go_wp2_with fail
   go_quiet (fail)
   go_wp2_with fail
   go_ret2
   exact NumPost.some HN.out (bdrew hb _)
theorem parseDec_ok(x:List UInt8)(n:Nat)(w:World)(hx:x.length≤9000)(h:Lib.parseUintB 32 (strB x).data.toList=.ok n) :
  Calls Tryz.prog 223 #[.string (strB x),.int .i64 10,.int .i64 32] w fun e w'=>e=.returned (.tuple #[.int .u64 (n:Int),.nilIface])∧Below w.heap.size w w':=by
 refine (Tryz.strconv_ParseUint_10_at32_ok (strB x) (by rw [strB_size'];omega) n h w).mono ?_
 rintro e w' ⟨rfl,rfl | rfl⟩
 ·exact⟨rfl,Below.refl _ _⟩
 ·refine⟨rfl,?_⟩
  unfold Lib.bytesWorld
  exact Lib.below_freeze (balloc (w:=w) (w1:=w.drew) ((Drawn.drewN w 1).below _) _) (p:=⟨w.heap.size,_,none⟩) (Nat.le_refl _) _
theorem parseDec_range(x:List UInt8)(w:World)(hx:x.length≤9000)(h:Lib.parseUintB 32 (strB x).data.toList=.range)(ev:Value)(hv:w.cell? ⟨2,0,none⟩=some ev)(hev:ev=.nilIface∨∃ te pe,ev=.iface te pe) :
  Calls Tryz.prog 223 #[.string (strB x),.int .i64 10,.int .i64 32] w fun e w'=>∃ N,e=.returned (.tuple #[.int .u64 4294967295,.iface 321 (.pointer (some ⟨N,0,none⟩))])∧Below w.heap.size w w':=by
 refine (Tryz.strconv_ParseUint_10_at32_range (strB x) (by rw [strB_size'];omega) h ev w hv hev).mono ?_
 rintro e w' ⟨N,rfl,_,_,hb⟩
 exact⟨N,rfl,hb⟩
theorem head_getD{x:List UInt8}(h:0 < x.length):(x.head?=some 48)=(x.getD 0 0=48):=by
 cases x with
 | nil=>simp at h
 | cons b t=>simp
theorem number_deci(x:List UInt8)(w:World)(hx:x.length≤9000)(h2:¬ (2 < x.length∧x.take 2=[48,120]))(hE:ErrR w):Calls Tryz.prog 191 #[.string (strB x)] w (NumPost x w):=by
 have hn:=numL_dec h2
 have HC:=cutPrefix_any x w
 obtain⟨y,hy⟩:∃ y,y=Lib.trimPrefix x [48,120]:=⟨_,rfl⟩
 obtain⟨p,hp⟩:∃ p,p=Lib.hasPrefix x [48,120]:=⟨_,rfl⟩
 have hpy:p=true→y.length=0:=fun h=>by
  rw [hp] at h
  rw [hy];unfold Lib.trimPrefix;rw [if_pos h]
  rcases x with _ | ⟨a,_ | ⟨b,t⟩⟩
  ·rfl
  ·simp [Lib.hasPrefix] at h
  ·simp only [Lib.hasPrefix,List.isPrefixOf,Bool.and_eq_true,beq_iff_eq] at h
   rcases t with _ | ⟨c,t⟩
   ·rfl
   ·exact absurd ⟨by simp,by simp [←h.1,←h.2.1]⟩ h2
 rw [←hy,←hp] at HC
 have HC':=Lib.hid HC
 have hem:p=true→(strB y).toList.isEmpty=true:=fun h=>by rw [strB_isEmpty];exact decide_eq_true (hpy h)
 have hxs:=strB_size' x
 clear HC hy hp hpy h2
 by_cases h0:x.length=0
 ·have hxe:(strB x).toList.isEmpty=true:=by rw [strB_isEmpty];exact decide_eq_true h0
  have HN:Hid (numL x=.none):=by show _=_;rw [hn,if_neg (by omega),if_pos (.inl (by omega))]
  clear hn hE h0
  cases p with
  | true=>
   have hem':=hem rfl
   go_enter Tryz.func191,Tryz.ntmps191
   go_wp2_with fail
   refine HC'.out.mono ?_
   rintro e w1 ⟨rfl,hw1⟩
   obtain rfl:w=w1:=hw1.symm
   go_wp2_with fail
   go_ret2
   exact NumPost.none HN.out (Below.refl _ _)
  | false=>
   go_enter Tryz.func191,Tryz.ntmps191
   go_wp2_with fail
   refine HC'.out.mono ?_
   rintro e w1 ⟨rfl,hw1⟩
   obtain rfl:w=w1:=hw1.symm
   go_wp2_with fail
   go_ret2
   exact NumPost.none HN.out (Below.refl _ _)
 have hxe:(strB x).toList.isEmpty=false:=by rw [strB_isEmpty];exact decide_eq_false h0
 by_cases h10:10 < x.length
 ·have d10:decide ((10:Int) < (x.length:Int))=true:=by simp;omega
  have d10':decide (10 < x.length)=true:=by simp;omega
  have HN:Hid (numL x=.none):=by
   show _=_
   rw [hn];split
   ·rfl
   ·rw [if_pos (.inr h10)]
  clear hn hE h0
  cases p with
  | true=>
   have hem':=hem rfl
   go_enter Tryz.func191,Tryz.ntmps191
   go_wp2_with fail
   refine HC'.out.mono ?_
   rintro e w1 ⟨rfl,hw1⟩
   obtain rfl:w=w1:=hw1.symm
   go_wp2_with fail
   go_ret2
   exact NumPost.none HN.out (Below.refl _ _)
  | false=>
   go_enter Tryz.func191,Tryz.ntmps191
   go_wp2_with fail
   refine HC'.out.mono ?_
   rintro e w1 ⟨rfl,hw1⟩
   obtain rfl:w=w1:=hw1.symm
   go_wp2_with fail
   go_ret2
   exact NumPost.none HN.out (Below.refl _ _)
 have d10:decide ((10:Int) < (x.length:Int))=false:=by simp;omega
 have d10':decide (10 < x.length)=false:=by simp;omega
 simp only [head_getD (show 0 < x.length by omega)] at hn
 by_cases h1:1 < x.length
 ·have d1:decide ((1:Int) < (x.length:Int))=true:=by simp;omega
  have d1':decide (1 < x.length)=true:=by simp;omega
  have hi:=fun W=>run_index_strB x (k:=0) (by omega) W
  unfold gb at hi
  obtain⟨b,hbe⟩:∃ b,b=x.getD 0 0:=⟨_,rfl⟩
  rw [←hbe] at hi hn
  have hi':∀ W:World,(Instr.index 9 (.string (strB x)) (.int .i64 0)).run Tryz.prog W=.ok (.int .u8 (b.toNat:Int)) W:=hi
  clear hi hbe
  by_cases hb:b=48
  ·have db:((b.toNat:Int)==48)=true:=by rw [hb];rfl
   have HN:Hid (numL x=.none):=by show _=_;rw [hn,if_pos ⟨h1,hb⟩]
   clear hn hE h0 hb
   cases p with
   | true=>
    have hem':=hem rfl
    go_enter Tryz.func191,Tryz.ntmps191
    go_wp2_with fail
    refine HC'.out.mono ?_
    rintro e w1 ⟨rfl,hw1⟩
    obtain rfl:w=w1:=hw1.symm
    go_wp2_with fail
    go_ret2
    exact NumPost.none HN.out (Below.refl _ _)
   | false=>
    go_enter Tryz.func191,Tryz.ntmps191
    go_wp2_with fail
    refine HC'.out.mono ?_
    rintro e w1 ⟨rfl,hw1⟩
    obtain rfl:w=w1:=hw1.symm
    go_wp2_with fail
    go_ret2
    exact NumPost.none HN.out (Below.refl _ _)
  ·have db:((b.toNat:Int)==48)=false:=by
    have:b.toNat≠48:=fun e=>hb (UInt8.toNat_inj.1 (by rw [e];rfl))
    simp;omega
   rw [if_neg (fun h=>hb h.2),if_neg (by omega)] at hn
   clear hb
   have HO:Calls Tryz.prog 222 #[.string (strB x),.string ⟨#[48,49,50,51,52,53,54,55,56,57]⟩] w fun e w'=>e=.returned (.bool (onlyL x decDS))∧w'=w:=only_any x decDS w (by omega)
   rw [←digF_some 10 decDS decDS_iff x 0] at HO
   cases hdg:digF 10 x 0 with
   | none=>
    rw [hdg] at HO hn
    have HO':=Lib.hid HO
    have HN:Hid (numL x=.none):=hn
    clear HO hn hdg hE
    cases p with
    | true=>
     have hem':=hem rfl
     go_enter Tryz.func191,Tryz.ntmps191
     go_wp2_with fail
     refine HC'.out.mono ?_
     rintro e w1 ⟨rfl,hw1⟩
     obtain rfl:w=w1:=hw1.symm
     go_wp2_with fail
     refine HO'.out.mono ?_
     rintro e w1 ⟨rfl,hw1⟩
     obtain rfl:w=w1:=hw1.symm
     go_wp2_with fail
     go_ret2
     exact NumPost.none HN.out (Below.refl _ _)
    | false=>
     go_enter Tryz.func191,Tryz.ntmps191
     go_wp2_with fail
     refine HC'.out.mono ?_
     rintro e w1 ⟨rfl,hw1⟩
     obtain rfl:w=w1:=hw1.symm
     go_wp2_with fail
     refine HO'.out.mono ?_
     rintro e w1 ⟨rfl,hw1⟩
     obtain rfl:w=w1:=hw1.symm
     go_wp2_with fail
     go_ret2
     exact NumPost.none HN.out (Below.refl _ _)
   | some n=>
    rw [hdg] at HO hn
    have HO':=Lib.hid HO
    have hpb:Lib.parseUintB 32 (strB x).data.toList=if n≤4294967295 then .ok n else .range:=by
     unfold Lib.parseUintB
     rw [if_neg (show ¬ (strB x).data.toList=[] from fun e=>h0 (by have:x=[]:=e;rw [this];rfl))]
     exact parse10 x 0 n hdg (by decide)
    by_cases h32:n < 4294967296
    ·have HN:Hid (numL x=.some n):=by
      show _=_
      rw [hn];show (if n < 4294967296 then Option.some n else .none)=_;rw [if_pos h32]
     rw [if_pos (by omega)] at hpb
     have HP:=Lib.hid (parseDec_ok x n w (by omega) hpb)
     clear HO hn hdg hE hpb
     cases p with
     | true=>
      have hem':=hem rfl
      go_enter Tryz.func191,Tryz.ntmps191
      go_wp2_with fail
      refine HC'.out.mono ?_
      rintro e w1 ⟨rfl,hw1⟩
      obtain rfl:w=w1:=hw1.symm
      go_wp2_with fail
      refine HO'.out.mono ?_
      rintro e w1 ⟨rfl,hw1⟩
      obtain rfl:w=w1:=hw1.symm
      go_wp2_with fail
      refine HP.out.mono ?_
      rintro e w1 ⟨rfl,hb⟩
      go_wp2_with fail
      go_quiet (fail)
      go_wp2_with fail
      go_ret2
      exact NumPost.some HN.out (bdrew hb _)
     | false=>
      go_enter Tryz.func191,Tryz.ntmps191
      go_wp2_with fail
      refine HC'.out.mono ?_
      rintro e w1 ⟨rfl,hw1⟩
      obtain rfl:w=w1:=hw1.symm
      go_wp2_with fail
      refine HO'.out.mono ?_
      rintro e w1 ⟨rfl,hw1⟩
      obtain rfl:w=w1:=hw1.symm
      go_wp2_with fail
      refine HP.out.mono ?_
      rintro e w1 ⟨rfl,hb⟩
      go_wp2_with fail
      go_quiet (fail)
      go_wp2_with fail
      go_ret2
      exact NumPost.some HN.out (bdrew hb _)
    ·have HN:Hid (numL x=.none):=by
      show _=_
      rw [hn];show (if n < 4294967296 then Option.some n else .none)=_;rw [if_neg h32]
     rw [if_neg (by omega)] at hpb
     obtain⟨ev,hv,hev⟩:=hE
     have HP:=Lib.hid (parseDec_range x w (by omega) hpb ev hv hev)
     clear HO hn hdg hpb hv hev
     cases p with
     | true=>
      have hem':=hem rfl
      go_enter Tryz.func191,Tryz.ntmps191
      go_wp2_with fail
      refine HC'.out.mono ?_
      rintro e w1 ⟨rfl,hw1⟩
      obtain rfl:w=w1:=hw1.symm
      go_wp2_with fail
      refine HO'.out.mono ?_
      rintro e w1 ⟨rfl,hw1⟩
      obtain rfl:w=w1:=hw1.symm
      go_wp2_with fail
      refine HP.out.mono ?_
      rintro e w1 ⟨N,rfl,hb⟩
      go_wp2_with fail
      go_quiet (fail)
      go_wp2_with fail
      go_ret2
      exact NumPost.none HN.out (bdrew hb _)
     | false=>
      go_enter Tryz.func191,Tryz.ntmps191
      go_wp2_with fail
      refine HC'.out.mono ?_
      rintro e w1 ⟨rfl,hw1⟩
      obtain rfl:w=w1:=hw1.symm
      go_wp2_with fail
      refine HO'.out.mono ?_
      rintro e w1 ⟨rfl,hw1⟩
      obtain rfl:w=w1:=hw1.symm
      go_wp2_with fail
      refine HP.out.mono ?_
      rintro e w1 ⟨N,rfl,hb⟩
      go_wp2_with fail
      go_quiet (fail)
      go_wp2_with fail
      go_ret2
      exact NumPost.none HN.out (bdrew hb _)
 ·have d1:decide ((1:Int) < (x.length:Int))=false:=by simp;omega
  have d1':decide (1 < x.length)=false:=by simp;omega
  rw [if_neg (fun h=>h1 h.1),if_neg (by omega)] at hn
  have HO:Calls Tryz.prog 222 #[.string (strB x),.string ⟨#[48,49,50,51,52,53,54,55,56,57]⟩] w fun e w'=>e=.returned (.bool (onlyL x decDS))∧w'=w:=only_any x decDS w (by omega)
  rw [←digF_some 10 decDS decDS_iff x 0] at HO
  cases hdg:digF 10 x 0 with
  | none=>
   rw [hdg] at HO hn
   have HO':=Lib.hid HO
   have HN:Hid (numL x=.none):=hn
   clear HO hn hdg hE
   cases p with
   | true=>
    have hem':=hem rfl
    go_enter Tryz.func191,Tryz.ntmps191
    go_wp2_with fail
    refine HC'.out.mono ?_
    rintro e w1 ⟨rfl,hw1⟩
    obtain rfl:w=w1:=hw1.symm
    go_wp2_with fail
    refine HO'.out.mono ?_
    rintro e w1 ⟨rfl,hw1⟩
    obtain rfl:w=w1:=hw1.symm
    go_wp2_with fail
    go_ret2
    exact NumPost.none HN.out (Below.refl _ _)
   | false=>
    go_enter Tryz.func191,Tryz.ntmps191
    go_wp2_with fail
    refine HC'.out.mono ?_
    rintro e w1 ⟨rfl,hw1⟩
    obtain rfl:w=w1:=hw1.symm
    go_wp2_with fail
    refine HO'.out.mono ?_
    rintro e w1 ⟨rfl,hw1⟩
    obtain rfl:w=w1:=hw1.symm
    go_wp2_with fail
    go_ret2
    exact NumPost.none HN.out (Below.refl _ _)
  | some n=>
   rw [hdg] at HO hn
   have HO':=Lib.hid HO
   have hpb:Lib.parseUintB 32 (strB x).data.toList=if n≤4294967295 then .ok n else .range:=by
    unfold Lib.parseUintB
    rw [if_neg (show ¬ (strB x).data.toList=[] from fun e=>h0 (by have:x=[]:=e;rw [this];rfl))]
    exact parse10 x 0 n hdg (by decide)
   by_cases h32:n < 4294967296
   ·have HN:Hid (numL x=.some n):=by
     show _=_
     rw [hn];show (if n < 4294967296 then Option.some n else .none)=_;rw [if_pos h32]
    rw [if_pos (by omega)] at hpb
    have HP:=Lib.hid (parseDec_ok x n w (by omega) hpb)
    clear HO hn hdg hE hpb
    cases p with
    | true=>
     have hem':=hem rfl
     go_enter Tryz.func191,Tryz.ntmps191
     go_wp2_with fail
     refine HC'.out.mono ?_
     rintro e w1 ⟨rfl,hw1⟩
     obtain rfl:w=w1:=hw1.symm
     go_wp2_with fail
     refine HO'.out.mono ?_
     rintro e w1 ⟨rfl,hw1⟩
     obtain rfl:w=w1:=hw1.symm
     go_wp2_with fail
     refine HP.out.mono ?_
     rintro e w1 ⟨rfl,hb⟩
     go_wp2_with fail
     go_quiet (fail)
     go_wp2_with fail
     go_ret2
     exact NumPost.some HN.out (bdrew hb _)
    | false=>
     go_enter Tryz.func191,Tryz.ntmps191
     go_wp2_with fail
     refine HC'.out.mono ?_
     rintro e w1 ⟨rfl,hw1⟩
     obtain rfl:w=w1:=hw1.symm
     go_wp2_with fail
     refine HO'.out.mono ?_
     rintro e w1 ⟨rfl,hw1⟩
     obtain rfl:w=w1:=hw1.symm
     go_wp2_with fail
     refine HP.out.mono ?_
     rintro e w1 ⟨rfl,hb⟩
     go_wp2_with fail
     go_quiet (fail)
     go_wp2_with fail
     go_ret2
     exact NumPost.some HN.out (bdrew hb _)
   ·have HN:Hid (numL x=.none):=by
     show _=_
     rw [hn];show (if n < 4294967296 then Option.some n else .none)=_;rw [if_neg h32]
    rw [if_neg (by omega)] at hpb
    obtain⟨ev,hv,hev⟩:=hE
    have HP:=Lib.hid (parseDec_range x w (by omega) hpb ev hv hev)
    clear HO hn hdg hpb hv hev
    cases p with
    | true=>
     have hem':=hem rfl
     go_enter Tryz.func191,Tryz.ntmps191
     go_wp2_with fail
     refine HC'.out.mono ?_
     rintro e w1 ⟨rfl,hw1⟩
     obtain rfl:w=w1:=hw1.symm
     go_wp2_with fail
     refine HO'.out.mono ?_
     rintro e w1 ⟨rfl,hw1⟩
     obtain rfl:w=w1:=hw1.symm
     go_wp2_with fail
     refine HP.out.mono ?_
     rintro e w1 ⟨N,rfl,hb⟩
     go_wp2_with fail
     go_quiet (fail)
     go_wp2_with fail
     go_ret2
     exact NumPost.none HN.out (bdrew hb _)
    | false=>
     go_enter Tryz.func191,Tryz.ntmps191
     go_wp2_with fail
     refine HC'.out.mono ?_
     rintro e w1 ⟨rfl,hw1⟩
     obtain rfl:w=w1:=hw1.symm
     go_wp2_with fail
     refine HO'.out.mono ?_
     rintro e w1 ⟨rfl,hw1⟩
     obtain rfl:w=w1:=hw1.symm
     go_wp2_with fail
     refine HP.out.mono ?_
     rintro e w1 ⟨N,rfl,hb⟩
     go_wp2_with fail
     go_quiet (fail)
     go_wp2_with fail
     go_ret2
     exact NumPost.none HN.out (bdrew hb _)
theorem asmNumber_any(x:List UInt8)(w:World)(hx:x.length≤9000)(hE:ErrR w):Calls Tryz.prog 191 #[.string (strB x)] w (NumPost x w):=by
 by_cases h:2 < x.length∧x.take 2=[48,120]
 ·exact number_hexa x w hx h.1 h.2
 ·exact number_deci x w hx h hE
end Go.Proofs.YtpaplehcafeeaaaGreatDoor
