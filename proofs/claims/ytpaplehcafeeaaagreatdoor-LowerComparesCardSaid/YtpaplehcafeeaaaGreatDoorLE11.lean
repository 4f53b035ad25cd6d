/- An. -/
import Derived.Test.YtpaplehcafeeaaaGreatDoorLE10
import Derived.Test.YtpaplehcafeeaaaGreatDoorLE05
import Derived.Lib.ConvBytes
import Derived.Lib.UnsafeStr
set_option maxRecDepth 100000
set_option maxHeartbeats 40000000
set_option linter.unusedVariables false
set_option linter.unusedSimpArgs false
namespace Go.Proofs.YtpaplehcafeeaaaGreatDoor
open Go.RowKit Go.Proofs
theorem or_hex:∀ c:Fin 256,97≤c.val∧c.val≤102→bits BinOp.or IntKind.u8 (c.val:Int) 32=(c.val:Int):=by decide +kernel
theorem lower_hex(c:UInt8)(h:97≤c.toNat∧c.toNat≤102)(w:World):Calls Tryz.prog 257 #[.int .u8 (c.toNat:Int)] w fun e w'=>e=.returned (.int .u8 (c.toNat:Int))∧w'=w:=by
 have hb:=or_hex ⟨c.toNat,c.toNat_lt⟩ h
 dsimp only at hb
 go_enter Tryz.func257,Tryz.ntmps257
 go_wp2_with fail
 go_ret
 exact⟨rfl,rfl⟩
theorem hexD_cases{b:UInt8}(h:hexD b < 16):(48≤b.toNat∧b.toNat≤57∧hexD b=b.toNat-48)∨(97≤b.toNat∧b.toNat≤102∧hexD b=b.toNat-87):=by
 unfold hexD at h ⊢
 by_cases h1:48≤b∧b≤57
 ·rw [if_pos h1]
  exact .inl ⟨UInt8.le_iff_toNat_le.1 h1.1,UInt8.le_iff_toNat_le.1 h1.2,rfl⟩
 ·rw [if_neg h1] at h ⊢
  by_cases h2:97≤b∧b≤102
  ·rw [if_pos h2]
   exact .inr ⟨UInt8.le_iff_toNat_le.1 h2.1,UInt8.le_iff_toNat_le.1 h2.2,rfl⟩
  ·rw [if_neg h2] at h;omega
theorem digF_cons{base:Nat}{b:UInt8}{t:List UInt8}{acc n:Nat}(h:digF base (b :: t) acc=some n):hexD b < base∧digF base t (base * acc+hexD b)=some n:=by
 rw [digF] at h
 by_cases h1:base≤hexD b
 ·rw [if_pos h1] at h;cases h
 ·rw [if_neg h1] at h;exact⟨by omega,h⟩
theorem hexInner(x:List UInt8)(n:Nat)(h0:0 < x.length)(h8:x.length≤8)(hd:digF 16 x 0=some n)(w:World) :
  Calls Tryz.prog 254 #[.string (strB x),.int .i64 16,.int .i64 32] w fun e w'=>e=.returned (.tuple #[.int .u64 (n:Int),.nilIface])∧Below w.heap.size w w':=by
 obtain⟨t,ht⟩:∃ t,t=strB x:=⟨_,rfl⟩
 rw [←ht]
 have hts:t.size=x.length:=by rw [ht];rfl
 have hne:t.size≠0:=by omega
 have hemp:t.toList.isEmpty=false:=by
  rw [←decide_eq_emptyBytes]
  exact decide_eq_false (fun h=>hne (by rw [h];rfl))
 have hcv:=Lib.run_convert_string_bytes (P:=Tryz.prog) w 9 131 5 t (u:=.string) uS uB u8
 have hB:∀ j,j < t.size→(Lib.bytesWorld w 5 t).cell? ⟨w.heap.size,j,none⟩=some (.int .u8 (t.data.toList.getD j 0).toNat):=fun j hj=>Lib.bytesWorld_cell w 5 t j hj
 have hbel:Below w.heap.size w (Lib.bytesWorld w 5 t):=by
  unfold Lib.bytesWorld
  exact Lib.below_freeze (balloc (w:=w) (w1:=w.drew) ((Drawn.drewN w 1).below _) _) (p:=⟨w.heap.size,_,none⟩) (Nat.le_refl _) _
 obtain⟨W1,hW1⟩:∃ W1,W1=Lib.bytesWorld w 5 t:=⟨_,rfl⟩
 rw [←hW1] at hcv hB hbel
 have HB:=Lib.hid hbel
 clear hW1 hbel
 have hL:t.data.toList=x:=by rw [ht];rfl
 rw [hL] at hB
 clear hL ht
 have hmv:IntKind.u64.wrap (IntKind.u64.wrap 4294967296-1)=4294967295:=by
  rw [IntKind.wrap_u64,IntKind.wrap_u64]
  decide
 go_enter Tryz.func254,Tryz.ntmps254
 go_wp2_with fail
 go_loop [12,13,101] (fun vu vn vi=>∃ (k acc:Nat) (a:Int),vu=.bool false∧vn=.int .u64 a∧vi=.int .i64 (k:Int)∧k≤t.size∧Hid (a=(acc:Int)∧acc < 16 ^ k∧digF 16 (x.drop k) acc=some n))
  (fun _ _ vi=>t.size-(intOf vi).toNat)
 case atStart=>exact⟨0,0,0,rfl,rfl,rfl,by omega,rfl,by decide,hd⟩
 case round=>
  obtain⟨k,acc,a,rfl,rfl,rfl,hk,hh⟩:=hrel
  obtain⟨ha,hacc,hdec⟩:=hh.out
  clear hh hd
  have a0:0≤a:=by omega
  by_cases hkn:k < t.size
  ·have hc:=hB k hkn
   have hdrop:x.drop k=x.getD k 0 :: x.drop (k+1):=drop_getD (by omega)
   rw [hdrop] at hdec
   generalize x.getD k 0=c at hc hdec
   have hpow:16 ^ k≤16 ^ 7:=Nat.pow_le_pow_right (by decide) (by omega)
   have a1:a≤268435455:=by
    have:(16:Nat) ^ 7=268435456:=by decide
    omega
   have hp1:(16:Nat) ^ (k+1)=16 * 16 ^ k:=by rw [Nat.pow_succ,Nat.mul_comm]
   clear hB hdrop hpow
   obtain⟨hd1,hd2⟩:=digF_cons hdec
   rcases hexD_cases hd1 with ⟨q0,q1,q2⟩ | ⟨q0,q1,q2⟩
   ·have HN:Hid (a * 16+((c.toNat:Int)-48)=((16 * acc+hexD c:Nat):Int)∧16 * acc+hexD c < 16 ^ (k+1)∧digF 16 (x.drop (k+1)) (16 * acc+hexD c)=some n):=Lib.hid ⟨by omega,by omega,hd2⟩
    clear hacc hdec ha hp1 hd1 hd2 q2
    go_wp2_with fail
    go_round
    case rel=>exact⟨k+1,16 * acc+hexD c,a * 16+((c.toNat:Int)-48),rfl,(by first | rfl | (congr 1;omega)),(by first | rfl | (congr 1;omega)),by omega,HN⟩
    case measure=>simp [intOf];omega
   ·have HN:Hid (a * 16+((c.toNat:Int)-87)=((16 * acc+hexD c:Nat):Int)∧16 * acc+hexD c < 16 ^ (k+1)∧digF 16 (x.drop (k+1)) (16 * acc+hexD c)=some n):=Lib.hid ⟨by omega,by omega,hd2⟩
    have Hlow:=Lib.hid (lower_hex c ⟨q0,q1⟩ W1)
    clear hacc hdec ha hp1 hd1 hd2 q2
    go_wp2_with (go_at_call 257;refine Hlow.out.mono ?_;rintro e w1 ⟨rfl,hw1⟩;obtain rfl:W1=w1:=hw1.symm)
    go_round
    case rel=>exact⟨k+1,16 * acc+hexD c,a * 16+((c.toNat:Int)-87),rfl,(by first | rfl | (congr 1;omega)),(by first | rfl | (congr 1;omega)),by omega,HN⟩
    case measure=>simp [intOf];omega
  ·have hkk:k=t.size:=by omega
   subst hkk
   have hF:x.drop t.size=[]:=List.drop_eq_nil_of_le (by omega)
   rw [hF] at hdec
   have hn:a=(n:Int):=by
    have:some acc=some n:=hdec
    injection this with this
    omega
   subst hn
   clear hacc ha hdec
   go_wp2_with fail
   go_ret2
   exact⟨rfl,HB.out⟩
end Go.Proofs.YtpaplehcafeeaaaGreatDoor
