/- Vi Vj Vk Vl Vm Vn Vo Vs Vx. -/
import Derived.Test.YtpaplehcafeeaaaGreatDoorLE20
set_option maxRecDepth 100000
set_option maxHeartbeats 40000000
set_option linter.unusedVariables false
set_option linter.unusedSimpArgs false
namespace Go.Proofs.YtpaplehcafeeaaaGreatDoor
open Go.RowKit Go.Proofs
theorem wrapU(n:Int):IntKind.u32.wrap n=n % 4294967296:=by simp [IntKind.wrap,IntKind.bits,IntKind.signed]
theorem bits32_and(a b:Nat)(ha:a < 4294967296)(hb:b < 4294967296):bits .and .u32 (a:Int) (b:Int)=((a &&& b:Nat):Int):=by
 have hx:a &&& b < 2 ^ 32:=Nat.and_lt_two_pow _ (by omega)
 have h1:(BitVec.ofInt 32 (a:Int)).toNat=a:=by
  rw [BitVec.ofInt_natCast,BitVec.toNat_ofNat];exact Nat.mod_eq_of_lt (by omega)
 have h2:(BitVec.ofInt 32 (b:Int)).toNat=b:=by
  rw [BitVec.ofInt_natCast,BitVec.toNat_ofNat];exact Nat.mod_eq_of_lt (by omega)
 show IntKind.u32.wrap ((BitVec.ofInt 32 (a:Int) &&& BitVec.ofInt 32 (b:Int)).toNat:Int)=_
 rw [BitVec.toNat_and,h1,h2,wrapU]
 omega
theorem bits32_or(a b:Nat)(ha:a < 4294967296)(hb:b < 4294967296):bits .or .u32 (a:Int) (b:Int)=((a ||| b:Nat):Int):=by
 have hx:a ||| b < 2 ^ 32:=Nat.or_lt_two_pow (by omega) (by omega)
 have h1:(BitVec.ofInt 32 (a:Int)).toNat=a:=by
  rw [BitVec.ofInt_natCast,BitVec.toNat_ofNat];exact Nat.mod_eq_of_lt (by omega)
 have h2:(BitVec.ofInt 32 (b:Int)).toNat=b:=by
  rw [BitVec.ofInt_natCast,BitVec.toNat_ofNat];exact Nat.mod_eq_of_lt (by omega)
 show IntKind.u32.wrap ((BitVec.ofInt 32 (a:Int) ||| BitVec.ofInt 32 (b:Int)).toNat:Int)=_
 rw [BitVec.toNat_or,h1,h2,wrapU]
 omega
theorem bits32_xor(a b:Nat)(ha:a < 4294967296)(hb:b < 4294967296):bits .xor .u32 (a:Int) (b:Int)=((a ^^^ b:Nat):Int):=by
 have hx:a ^^^ b < 2 ^ 32:=Nat.xor_lt_two_pow (by omega) (by omega)
 have h1:(BitVec.ofInt 32 (a:Int)).toNat=a:=by
  rw [BitVec.ofInt_natCast,BitVec.toNat_ofNat];exact Nat.mod_eq_of_lt (by omega)
 have h2:(BitVec.ofInt 32 (b:Int)).toNat=b:=by
  rw [BitVec.ofInt_natCast,BitVec.toNat_ofNat];exact Nat.mod_eq_of_lt (by omega)
 show IntKind.u32.wrap ((BitVec.ofInt 32 (a:Int) ^^^ BitVec.ofInt 32 (b:Int)).toNat:Int)=_
 rw [BitVec.toNat_xor,h1,h2,wrapU]
 omega
theorem fa_1(a b:Nat)(ha:a < 4294967296)(hb:b < 4294967296)(w:World):Calls Tryz.prog 234 #[.int .u32 a,.int .u32 b] w fun e w'=>e=.returned (.int .u32 (((a:Int)+b) % 4294967296))∧w'=w:=by
 go_enter Tryz.func234,Tryz.ntmps234
 go_wp2_with fail
 go_ret
 exact⟨rfl,rfl⟩
theorem fe_1(a b:Nat)(ha:a < 4294967296)(hb:b < 4294967296):((a:Int)+b) % 4294967296=((arN 8 a b:Nat):Int):=by
 unfold arN
 rw [if_pos rfl]
 omega
theorem f_1(a b:Nat)(ha:a < 4294967296)(hb:b < 4294967296)(w:World):Calls Tryz.prog 234 #[.int .u32 a,.int .u32 b] w fun e w'=>e=.returned (.int .u32 (arN 8 a b:Nat))∧w'=w:=by
 have h:=fa_1 a b ha hb w
 rw [fe_1 a b ha hb] at h
 exact h
theorem fa_2(a b:Nat)(ha:a < 4294967296)(hb:b < 4294967296)(w:World):Calls Tryz.prog 235 #[.int .u32 a,.int .u32 b] w fun e w'=>e=.returned (.int .u32 (((a:Int)-b) % 4294967296))∧w'=w:=by
 go_enter Tryz.func235,Tryz.ntmps235
 go_wp2_with fail
 go_ret
 exact⟨rfl,rfl⟩
theorem fe_2(a b:Nat)(ha:a < 4294967296)(hb:b < 4294967296):((a:Int)-b) % 4294967296=((arN 9 a b:Nat):Int):=by
 unfold arN
 rw [if_neg (by decide),if_pos rfl]
 omega
theorem f_2(a b:Nat)(ha:a < 4294967296)(hb:b < 4294967296)(w:World):Calls Tryz.prog 235 #[.int .u32 a,.int .u32 b] w fun e w'=>e=.returned (.int .u32 (arN 9 a b:Nat))∧w'=w:=by
 have h:=fa_2 a b ha hb w
 rw [fe_2 a b ha hb] at h
 exact h
theorem fa_3(a b:Nat)(ha:a < 4294967296)(hb:b < 4294967296)(w:World):Calls Tryz.prog 236 #[.int .u32 a,.int .u32 b] w fun e w'=>e=.returned (.int .u32 ((a:Int) * b % 4294967296))∧w'=w:=by
 go_enter Tryz.func236,Tryz.ntmps236
 go_wp2_with fail
 go_ret
 exact⟨rfl,rfl⟩
theorem fe_3(a b:Nat)(ha:a < 4294967296)(hb:b < 4294967296):(a:Int) * b % 4294967296=((arN 10 a b:Nat):Int):=by
 unfold arN
 rw [if_neg (by decide),if_neg (by decide),if_pos rfl]
 rw [Int.natCast_emod,Int.natCast_mul];rfl
theorem f_3(a b:Nat)(ha:a < 4294967296)(hb:b < 4294967296)(w:World):Calls Tryz.prog 236 #[.int .u32 a,.int .u32 b] w fun e w'=>e=.returned (.int .u32 (arN 10 a b:Nat))∧w'=w:=by
 have h:=fa_3 a b ha hb w
 rw [fe_3 a b ha hb] at h
 exact h
theorem fa_4(a b:Nat)(ha:a < 4294967296)(hb:b < 4294967296)(h0:b≠0)(w:World):Calls Tryz.prog 237 #[.int .u32 a,.int .u32 b] w fun e w'=>e=.returned (.int .u32 ((a:Int) / b % 4294967296))∧w'=w:=by
 have q1:((b:Int)==0)=false:=by simp;omega
 have q2:(b:Int)≠0:=by omega
 go_enter Tryz.func237,Tryz.ntmps237
 go_wp2_with fail
 go_ret
 exact⟨rfl,rfl⟩
theorem fe_4(a b:Nat)(ha:a < 4294967296)(hb:b < 4294967296):(a:Int) / b % 4294967296=((arN 11 a b:Nat):Int):=by
 unfold arN
 rw [if_neg (by decide),if_neg (by decide),if_neg (by decide),if_pos rfl]
 have h1:a / b≤a:=Nat.div_le_self _ _;have h2:((a:Int) / (b:Int))=((a / b:Nat):Int):=(Int.natCast_ediv a b).symm;obtain⟨z,hz⟩:∃ z,z=a / b:=⟨_,rfl⟩;rw [←hz] at h1 h2 ⊢;rw [h2];omega
theorem f_4(a b:Nat)(ha:a < 4294967296)(hb:b < 4294967296)(h0:b≠0)(w:World):Calls Tryz.prog 237 #[.int .u32 a,.int .u32 b] w fun e w'=>e=.returned (.int .u32 (arN 11 a b:Nat))∧w'=w:=by
 have h:=fa_4 a b ha hb h0 w
 rw [fe_4 a b ha hb] at h
 exact h
theorem fa_5(a b:Nat)(ha:a < 4294967296)(hb:b < 4294967296)(h0:b≠0)(w:World):Calls Tryz.prog 238 #[.int .u32 a,.int .u32 b] w fun e w'=>e=.returned (.int .u32 ((a:Int) % b))∧w'=w:=by
 have q1:((b:Int)==0)=false:=by simp;omega
 have q2:(b:Int)≠0:=by omega
 go_enter Tryz.func238,Tryz.ntmps238
 go_wp2_with fail
 go_ret
 exact⟨rfl,rfl⟩
theorem fe_5(a b:Nat)(ha:a < 4294967296)(hb:b < 4294967296):(a:Int) % b=((arN 12 a b:Nat):Int):=by
 unfold arN
 rw [if_neg (by decide),if_neg (by decide),if_neg (by decide),if_neg (by decide),if_pos rfl]
 exact (Int.natCast_emod a b).symm
theorem f_5(a b:Nat)(ha:a < 4294967296)(hb:b < 4294967296)(h0:b≠0)(w:World):Calls Tryz.prog 238 #[.int .u32 a,.int .u32 b] w fun e w'=>e=.returned (.int .u32 (arN 12 a b:Nat))∧w'=w:=by
 have h:=fa_5 a b ha hb h0 w
 rw [fe_5 a b ha hb] at h
 exact h
theorem fa_6(a b:Nat)(ha:a < 4294967296)(hb:b < 4294967296)(w:World):Calls Tryz.prog 239 #[.int .u32 a,.int .u32 b] w fun e w'=>e=.returned (.int .u32 (bits .and .u32 (a:Int) (b:Int)))∧w'=w:=by
 go_enter Tryz.func239,Tryz.ntmps239
 go_wp2_with fail
 go_ret
 exact⟨rfl,rfl⟩
theorem fe_6(a b:Nat)(ha:a < 4294967296)(hb:b < 4294967296):bits .and .u32 (a:Int) (b:Int)=((arN 13 a b:Nat):Int):=by
 unfold arN
 rw [if_neg (by decide),if_neg (by decide),if_neg (by decide),if_neg (by decide),if_neg (by decide),if_pos rfl]
 exact bits32_and a b ha hb
theorem f_6(a b:Nat)(ha:a < 4294967296)(hb:b < 4294967296)(w:World):Calls Tryz.prog 239 #[.int .u32 a,.int .u32 b] w fun e w'=>e=.returned (.int .u32 (arN 13 a b:Nat))∧w'=w:=by
 have h:=fa_6 a b ha hb w
 rw [fe_6 a b ha hb] at h
 exact h
theorem fa_7(a b:Nat)(ha:a < 4294967296)(hb:b < 4294967296)(w:World):Calls Tryz.prog 240 #[.int .u32 a,.int .u32 b] w fun e w'=>e=.returned (.int .u32 (bits .or .u32 (a:Int) (b:Int)))∧w'=w:=by
 go_enter Tryz.func240,Tryz.ntmps240
 go_wp2_with fail
 go_ret
 exact⟨rfl,rfl⟩
theorem fe_7(a b:Nat)(ha:a < 4294967296)(hb:b < 4294967296):bits .or .u32 (a:Int) (b:Int)=((arN 14 a b:Nat):Int):=by
 unfold arN
 rw [if_neg (by decide),if_neg (by decide),if_neg (by decide),if_neg (by decide),if_neg (by decide),if_neg (by decide),if_pos rfl]
 exact bits32_or a b ha hb
theorem f_7(a b:Nat)(ha:a < 4294967296)(hb:b < 4294967296)(w:World):Calls Tryz.prog 240 #[.int .u32 a,.int .u32 b] w fun e w'=>e=.returned (.int .u32 (arN 14 a b:Nat))∧w'=w:=by
 have h:=fa_7 a b ha hb w
 rw [fe_7 a b ha hb] at h
 exact h
theorem fa_8(a b:Nat)(ha:a < 4294967296)(hb:b < 4294967296)(w:World):Calls Tryz.prog 241 #[.int .u32 a,.int .u32 b] w fun e w'=>e=.returned (.int .u32 (bits .xor .u32 (a:Int) (b:Int)))∧w'=w:=by
 go_enter Tryz.func241,Tryz.ntmps241
 go_wp2_with fail
 go_ret
 exact⟨rfl,rfl⟩
theorem fe_8(a b:Nat)(ha:a < 4294967296)(hb:b < 4294967296):bits .xor .u32 (a:Int) (b:Int)=((arN 15 a b:Nat):Int):=by
 unfold arN
 rw [if_neg (by decide),if_neg (by decide),if_neg (by decide),if_neg (by decide),if_neg (by decide),if_neg (by decide),if_neg (by decide),if_pos rfl]
 exact bits32_xor a b ha hb
theorem f_8(a b:Nat)(ha:a < 4294967296)(hb:b < 4294967296)(w:World):Calls Tryz.prog 241 #[.int .u32 a,.int .u32 b] w fun e w'=>e=.returned (.int .u32 (arN 15 a b:Nat))∧w'=w:=by
 have h:=fa_8 a b ha hb w
 rw [fe_8 a b ha hb] at h
 exact h
theorem fa_9(a b:Nat)(ha:a < 4294967296)(hb:b < 4294967296)(w:World):Calls Tryz.prog 242 #[.int .u32 a,.int .u32 b] w fun e w'=>e=.returned (.int .u32 ((a:Int) * 2 ^ (b % 32) % 4294967296))∧w'=w:=by
 go_enter Tryz.func242,Tryz.ntmps242
 go_wp2_with fail
 go_ret
 exact⟨rfl,rfl⟩
theorem fe_9(a b:Nat)(ha:a < 4294967296)(hb:b < 4294967296):(a:Int) * 2 ^ (b % 32) % 4294967296=((arN 16 a b:Nat):Int):=by
 unfold arN
 rw [if_neg (by decide),if_neg (by decide),if_neg (by decide),if_neg (by decide),if_neg (by decide),if_neg (by decide),if_neg (by decide),if_neg (by decide),if_pos rfl]
 rw [Int.natCast_emod,Int.natCast_mul,Int.natCast_pow];rfl
theorem f_9(a b:Nat)(ha:a < 4294967296)(hb:b < 4294967296)(w:World):Calls Tryz.prog 242 #[.int .u32 a,.int .u32 b] w fun e w'=>e=.returned (.int .u32 (arN 16 a b:Nat))∧w'=w:=by
 have h:=fa_9 a b ha hb w
 rw [fe_9 a b ha hb] at h
 exact h
theorem fa_10(a b:Nat)(ha:a < 4294967296)(hb:b < 4294967296)(w:World):Calls Tryz.prog 243 #[.int .u32 a,.int .u32 b] w fun e w'=>e=.returned (.int .u32 ((a:Int) / 2 ^ (b % 32)))∧w'=w:=by
 go_enter Tryz.func243,Tryz.ntmps243
 go_wp2_with fail
 go_ret
 exact⟨rfl,rfl⟩
theorem fe_10(a b:Nat)(ha:a < 4294967296)(hb:b < 4294967296):(a:Int) / 2 ^ (b % 32)=((arN 17 a b:Nat):Int):=by
 unfold arN
 rw [if_neg (by decide),if_neg (by decide),if_neg (by decide),if_neg (by decide),if_neg (by decide),if_neg (by decide),if_neg (by decide),if_neg (by decide),if_neg (by decide),if_pos rfl]
 rw [Int.natCast_ediv,Int.natCast_pow];rfl
theorem f_10(a b:Nat)(ha:a < 4294967296)(hb:b < 4294967296)(w:World):Calls Tryz.prog 243 #[.int .u32 a,.int .u32 b] w fun e w'=>e=.returned (.int .u32 (arN 17 a b:Nat))∧w'=w:=by
 have h:=fa_10 a b ha hb w
 rw [fe_10 a b ha hb] at h
 exact h
theorem fa_11(a b:Nat)(ha:a < 4294967296)(hb:b < 4294967296)(w:World):Calls Tryz.prog 244 #[.int .u32 a,.int .u32 b] w fun e w'=>e=.returned (.int .u32 (min (a:Int) (b:Int)))∧w'=w:=by
 go_enter Tryz.func244,Tryz.ntmps244
 go_wp2_with fail
 go_ret
 exact⟨rfl,rfl⟩
theorem fe_11(a b:Nat)(ha:a < 4294967296)(hb:b < 4294967296):min (a:Int) (b:Int)=((arN 18 a b:Nat):Int):=by
 unfold arN
 rw [if_neg (by decide),if_neg (by decide),if_neg (by decide),if_neg (by decide),if_neg (by decide),if_neg (by decide),if_neg (by decide),if_neg (by decide),if_neg (by decide),if_neg (by decide),if_pos rfl]
 omega
theorem f_11(a b:Nat)(ha:a < 4294967296)(hb:b < 4294967296)(w:World):Calls Tryz.prog 244 #[.int .u32 a,.int .u32 b] w fun e w'=>e=.returned (.int .u32 (arN 18 a b:Nat))∧w'=w:=by
 have h:=fa_11 a b ha hb w
 rw [fe_11 a b ha hb] at h
 exact h
theorem fa_12(a b:Nat)(ha:a < 4294967296)(hb:b < 4294967296)(w:World):Calls Tryz.prog 245 #[.int .u32 a,.int .u32 b] w fun e w'=>e=.returned (.int .u32 (max (a:Int) (b:Int)))∧w'=w:=by
 go_enter Tryz.func245,Tryz.ntmps245
 go_wp2_with fail
 go_ret
 exact⟨rfl,rfl⟩
theorem fe_12(a b:Nat)(ha:a < 4294967296)(hb:b < 4294967296):max (a:Int) (b:Int)=((arN 19 a b:Nat):Int):=by
 unfold arN
 rw [if_neg (by decide),if_neg (by decide),if_neg (by decide),if_neg (by decide),if_neg (by decide),if_neg (by decide),if_neg (by decide),if_neg (by decide),if_neg (by decide),if_neg (by decide),if_neg (by decide),if_pos rfl]
 omega
theorem f_12(a b:Nat)(ha:a < 4294967296)(hb:b < 4294967296)(w:World):Calls Tryz.prog 245 #[.int .u32 a,.int .u32 b] w fun e w'=>e=.returned (.int .u32 (arN 19 a b:Nat))∧w'=w:=by
 have h:=fa_12 a b ha hb w
 rw [fe_12 a b ha hb] at h
 exact h
theorem hash_a(a b:Nat)(ha:a < 4294967296)(hb:b < 4294967296)(w:World):Calls Tryz.prog 246 #[.int .u32 a,.int .u32 b] w fun e w'=>e=.returned (.int .u32 (bits .xor .u32 ((bits .xor .u32 (a:Int) ((b:Int) * 2654435761 % 4294967296)) * 2246822519 % 4294967296) (((bits .xor .u32 (a:Int) ((b:Int) * 2654435761 % 4294967296)) * 2246822519 % 4294967296) / 65536)))∧w'=w:=by
 go_enter Tryz.func246,Tryz.ntmps246
 go_wp2_with fail
 go_ret
 exact⟨rfl,rfl⟩
theorem hash_e(a b:Nat)(ha:a < 4294967296)(hb:b < 4294967296):bits .xor .u32 ((bits .xor .u32 (a:Int) ((b:Int) * 2654435761 % 4294967296)) * 2246822519 % 4294967296) (((bits .xor .u32 (a:Int) ((b:Int) * 2654435761 % 4294967296)) * 2246822519 % 4294967296) / 65536)=((hashN a b:Nat):Int):=by
 obtain⟨c,hc⟩:∃ c,c=b * 2654435761 % 4294967296:=⟨_,rfl⟩
 have hc':c < 4294967296:=by rw [hc];exact Nat.mod_lt _ (by decide)
 have e1:((b:Int) * 2654435761) % 4294967296=(c:Int):=by rw [hc];omega
 unfold hashN
 rw [←hc,e1,bits32_xor a c ha hc']
 obtain⟨x,hx⟩:∃ x,x=a ^^^ c:=⟨_,rfl⟩
 rw [←hx]
 obtain⟨y,hy⟩:∃ y,y=x * 2246822519 % 4294967296:=⟨_,rfl⟩
 have hy':y < 4294967296:=by rw [hy];exact Nat.mod_lt _ (by decide)
 have e3:((x:Int) * 2246822519) % 4294967296=(y:Int):=by rw [hy];omega
 rw [e3,←hy]
 have e4:(y:Int) / 65536=((y / 65536:Nat):Int):=by omega
 rw [e4]
 exact bits32_xor y (y / 65536) hy' (by omega)
theorem fe_20(a b:Nat):arN 20 a b=hashN a b:=by
 unfold arN
 rw [if_neg (by decide),if_neg (by decide),if_neg (by decide),if_neg (by decide),if_neg (by decide),if_neg (by decide),if_neg (by decide),if_neg (by decide),if_neg (by decide),if_neg (by decide),if_neg (by decide),if_neg (by decide)]
theorem hash_any(a b:Nat)(ha:a < 4294967296)(hb:b < 4294967296)(w:World):Calls Tryz.prog 246 #[.int .u32 a,.int .u32 b] w fun e w'=>e=.returned (.int .u32 (arN 20 a b:Nat))∧w'=w:=by
 have h:=hash_a a b ha hb w
 rw [hash_e a b ha hb,←fe_20 a b] at h
 exact h
def combosF:Int→Option Value:=
 zput (zput (zput (zput (zput (zput (zput (zput (zput (zput (zput (zput (zput (zput (zput (zput (zput (zput (zput (fun _=>none) 8 (.func (.func 234) #[] #[])) 9 (.func (.func 235) #[] #[])) 10 (.func (.func 236) #[] #[])) 11 (.func (.func 237) #[] #[])) 12 (.func (.func 238) #[] #[])) 13 (.func (.func 239) #[] #[])) 14 (.func (.func 240) #[] #[])) 15 (.func (.func 241) #[] #[])) 16 (.func (.func 242) #[] #[])) 17 (.func (.func 243) #[] #[])) 18 (.func (.func 244) #[] #[])) 19 (.func (.func 245) #[] #[])) 20 (.func (.func 246) #[] #[])) 21 (.func (.func 247) #[] #[])) 22 (.func (.func 248) #[] #[])) 23 (.func (.func 249) #[] #[])) 24 (.func (.func 250) #[] #[])) 25 (.func (.func 251) #[] #[])) 26 (.func (.func 252) #[] #[])
theorem combos_any(w:World):Calls Tryz.prog 215 #[] w fun e w'=>∃ b,e=.returned (.map (some b))∧MapZ Tryz.prog 3 .i64 w' b 19 combosF∧Below w.heap.size w w':=by
 have h0:MapZ Tryz.prog 3 .i64 (w.alloc (.map #[] 0)) w.heap.size 0 (fun _=>none):=MapZ.made w
 have b0:Below w.heap.size w (w.alloc (.map #[] 0)):=balloc (Below.refl _ _) _
 have uK:Tryz.prog.underlying 3=some (.int .i64):=by kernel_rfl
 have uM:Tryz.prog.underlying 302=some (.map 3 300):=by kernel_rfl
 have hmk:∀ W:World,(Instr.makeMap 302 none).run Tryz.prog W=.ok (.map (some W.heap.size)) (W.alloc (.map #[] 0)):=fun W=>run_makeMap_plain W _
 obtain⟨W0,hW0⟩:∃ W0,W0=w.alloc (.map #[] 0):=⟨_,rfl⟩
 rw [←hW0] at h0 b0
 obtain⟨W1,e1,h1,g1⟩:=h0.step (t:=302) uK uM (by unfold maxLen;omega) 8 (by decide) (.func (.func 234) #[] #[])
 have b1:=b0.grown g1 b0.size (fun k hk=>by injection hk with hk;omega)
 clear h0 g1 b0
 obtain⟨W2,e2,h2,g2⟩:=h1.step (t:=302) uK uM (by unfold maxLen;omega) 9 (by decide) (.func (.func 235) #[] #[])
 have b2:=b1.grown g2 b1.size (fun k hk=>by injection hk with hk;omega)
 clear h1 g2 b1
 obtain⟨W3,e3,h3,g3⟩:=h2.step (t:=302) uK uM (by unfold maxLen;omega) 10 (by decide) (.func (.func 236) #[] #[])
 have b3:=b2.grown g3 b2.size (fun k hk=>by injection hk with hk;omega)
 clear h2 g3 b2
 obtain⟨W4,e4,h4,g4⟩:=h3.step (t:=302) uK uM (by unfold maxLen;omega) 11 (by decide) (.func (.func 237) #[] #[])
 have b4:=b3.grown g4 b3.size (fun k hk=>by injection hk with hk;omega)
 clear h3 g4 b3
 obtain⟨W5,e5,h5,g5⟩:=h4.step (t:=302) uK uM (by unfold maxLen;omega) 12 (by decide) (.func (.func 238) #[] #[])
 have b5:=b4.grown g5 b4.size (fun k hk=>by injection hk with hk;omega)
 clear h4 g5 b4
 obtain⟨W6,e6,h6,g6⟩:=h5.step (t:=302) uK uM (by unfold maxLen;omega) 13 (by decide) (.func (.func 239) #[] #[])
 have b6:=b5.grown g6 b5.size (fun k hk=>by injection hk with hk;omega)
 clear h5 g6 b5
 obtain⟨W7,e7,h7,g7⟩:=h6.step (t:=302) uK uM (by unfold maxLen;omega) 14 (by decide) (.func (.func 240) #[] #[])
 have b7:=b6.grown g7 b6.size (fun k hk=>by injection hk with hk;omega)
 clear h6 g7 b6
 obtain⟨W8,e8,h8,g8⟩:=h7.step (t:=302) uK uM (by unfold maxLen;omega) 15 (by decide) (.func (.func 241) #[] #[])
 have b8:=b7.grown g8 b7.size (fun k hk=>by injection hk with hk;omega)
 clear h7 g8 b7
 obtain⟨W9,e9,h9,g9⟩:=h8.step (t:=302) uK uM (by unfold maxLen;omega) 16 (by decide) (.func (.func 242) #[] #[])
 have b9:=b8.grown g9 b8.size (fun k hk=>by injection hk with hk;omega)
 clear h8 g9 b8
 obtain⟨W10,e10,h10,g10⟩:=h9.step (t:=302) uK uM (by unfold maxLen;omega) 17 (by decide) (.func (.func 243) #[] #[])
 have b10:=b9.grown g10 b9.size (fun k hk=>by injection hk with hk;omega)
 clear h9 g10 b9
 obtain⟨W11,e11,h11,g11⟩:=h10.step (t:=302) uK uM (by unfold maxLen;omega) 18 (by decide) (.func (.func 244) #[] #[])
 have b11:=b10.grown g11 b10.size (fun k hk=>by injection hk with hk;omega)
 clear h10 g11 b10
 obtain⟨W12,e12,h12,g12⟩:=h11.step (t:=302) uK uM (by unfold maxLen;omega) 19 (by decide) (.func (.func 245) #[] #[])
 have b12:=b11.grown g12 b11.size (fun k hk=>by injection hk with hk;omega)
 clear h11 g12 b11
 obtain⟨W13,e13,h13,g13⟩:=h12.step (t:=302) uK uM (by unfold maxLen;omega) 20 (by decide) (.func (.func 246) #[] #[])
 have b13:=b12.grown g13 b12.size (fun k hk=>by injection hk with hk;omega)
 clear h12 g13 b12
 obtain⟨W14,e14,h14,g14⟩:=h13.step (t:=302) uK uM (by unfold maxLen;omega) 21 (by decide) (.func (.func 247) #[] #[])
 have b14:=b13.grown g14 b13.size (fun k hk=>by injection hk with hk;omega)
 clear h13 g14 b13
 obtain⟨W15,e15,h15,g15⟩:=h14.step (t:=302) uK uM (by unfold maxLen;omega) 22 (by decide) (.func (.func 248) #[] #[])
 have b15:=b14.grown g15 b14.size (fun k hk=>by injection hk with hk;omega)
 clear h14 g15 b14
 obtain⟨W16,e16,h16,g16⟩:=h15.step (t:=302) uK uM (by unfold maxLen;omega) 23 (by decide) (.func (.func 249) #[] #[])
 have b16:=b15.grown g16 b15.size (fun k hk=>by injection hk with hk;omega)
 clear h15 g16 b15
 obtain⟨W17,e17,h17,g17⟩:=h16.step (t:=302) uK uM (by unfold maxLen;omega) 24 (by decide) (.func (.func 250) #[] #[])
 have b17:=b16.grown g17 b16.size (fun k hk=>by injection hk with hk;omega)
 clear h16 g17 b16
 obtain⟨W18,e18,h18,g18⟩:=h17.step (t:=302) uK uM (by unfold maxLen;omega) 25 (by decide) (.func (.func 251) #[] #[])
 have b18:=b17.grown g18 b17.size (fun k hk=>by injection hk with hk;omega)
 clear h17 g18 b17
 obtain⟨W19,e19,h19,g19⟩:=h18.step (t:=302) uK uM (by unfold maxLen;omega) 26 (by decide) (.func (.func 252) #[] #[])
 have b19:=b18.grown g19 b18.size (fun k hk=>by injection hk with hk;omega)
 clear h18 g19 b18
 have HH:=Lib.hid (And.intro h19 b19)
 clear h19 b19
 rw [hW0] at e1
 clear hW0
 go_enter Tryz.func215,Tryz.ntmps215
 go_wp2_with fail
 go_ret
 exact⟨_,rfl,HH.out.1,HH.out.2⟩
def rulesF:Int→Option Value:=
 zput (zput (zput (zput (zput (zput (zput (zput (zput (zput (zput (zput (zput (fun _=>none) 8 (.func (.func 202) #[] #[])) 9 (.func (.func 203) #[] #[])) 10 (.func (.func 204) #[] #[])) 11 (.func (.func 205) #[] #[])) 12 (.func (.func 206) #[] #[])) 13 (.func (.func 207) #[] #[])) 14 (.func (.func 208) #[] #[])) 15 (.func (.func 209) #[] #[])) 16 (.func (.func 210) #[] #[])) 17 (.func (.func 211) #[] #[])) 18 (.func (.func 212) #[] #[])) 19 (.func (.func 213) #[] #[])) 20 (.func (.func 214) #[] #[])
theorem rules_any(w:World):Calls Tryz.prog 183 #[] w fun e w'=>∃ b,e=.returned (.map (some b))∧MapZ Tryz.prog 3 .i64 w' b 13 rulesF∧Below w.heap.size w w':=by
 have h0:MapZ Tryz.prog 3 .i64 (w.alloc (.map #[] 0)) w.heap.size 0 (fun _=>none):=MapZ.made w
 have b0:Below w.heap.size w (w.alloc (.map #[] 0)):=balloc (Below.refl _ _) _
 have uK:Tryz.prog.underlying 3=some (.int .i64):=by kernel_rfl
 have uM:Tryz.prog.underlying 281=some (.map 3 279):=by kernel_rfl
 have hmk:∀ W:World,(Instr.makeMap 281 none).run Tryz.prog W=.ok (.map (some W.heap.size)) (W.alloc (.map #[] 0)):=fun W=>run_makeMap_plain W _
 obtain⟨W0,hW0⟩:∃ W0,W0=w.alloc (.map #[] 0):=⟨_,rfl⟩
 rw [←hW0] at h0 b0
 obtain⟨W1,e1,h1,g1⟩:=h0.step (t:=281) uK uM (by unfold maxLen;omega) 8 (by decide) (.func (.func 202) #[] #[])
 have b1:=b0.grown g1 b0.size (fun k hk=>by injection hk with hk;omega)
 clear h0 g1 b0
 obtain⟨W2,e2,h2,g2⟩:=h1.step (t:=281) uK uM (by unfold maxLen;omega) 9 (by decide) (.func (.func 203) #[] #[])
 have b2:=b1.grown g2 b1.size (fun k hk=>by injection hk with hk;omega)
 clear h1 g2 b1
 obtain⟨W3,e3,h3,g3⟩:=h2.step (t:=281) uK uM (by unfold maxLen;omega) 10 (by decide) (.func (.func 204) #[] #[])
 have b3:=b2.grown g3 b2.size (fun k hk=>by injection hk with hk;omega)
 clear h2 g3 b2
 obtain⟨W4,e4,h4,g4⟩:=h3.step (t:=281) uK uM (by unfold maxLen;omega) 11 (by decide) (.func (.func 205) #[] #[])
 have b4:=b3.grown g4 b3.size (fun k hk=>by injection hk with hk;omega)
 clear h3 g4 b3
 obtain⟨W5,e5,h5,g5⟩:=h4.step (t:=281) uK uM (by unfold maxLen;omega) 12 (by decide) (.func (.func 206) #[] #[])
 have b5:=b4.grown g5 b4.size (fun k hk=>by injection hk with hk;omega)
 clear h4 g5 b4
 obtain⟨W6,e6,h6,g6⟩:=h5.step (t:=281) uK uM (by unfold maxLen;omega) 13 (by decide) (.func (.func 207) #[] #[])
 have b6:=b5.grown g6 b5.size (fun k hk=>by injection hk with hk;omega)
 clear h5 g6 b5
 obtain⟨W7,e7,h7,g7⟩:=h6.step (t:=281) uK uM (by unfold maxLen;omega) 14 (by decide) (.func (.func 208) #[] #[])
 have b7:=b6.grown g7 b6.size (fun k hk=>by injection hk with hk;omega)
 clear h6 g7 b6
 obtain⟨W8,e8,h8,g8⟩:=h7.step (t:=281) uK uM (by unfold maxLen;omega) 15 (by decide) (.func (.func 209) #[] #[])
 have b8:=b7.grown g8 b7.size (fun k hk=>by injection hk with hk;omega)
 clear h7 g8 b7
 obtain⟨W9,e9,h9,g9⟩:=h8.step (t:=281) uK uM (by unfold maxLen;omega) 16 (by decide) (.func (.func 210) #[] #[])
 have b9:=b8.grown g9 b8.size (fun k hk=>by injection hk with hk;omega)
 clear h8 g9 b8
 obtain⟨W10,e10,h10,g10⟩:=h9.step (t:=281) uK uM (by unfold maxLen;omega) 17 (by decide) (.func (.func 211) #[] #[])
 have b10:=b9.grown g10 b9.size (fun k hk=>by injection hk with hk;omega)
 clear h9 g10 b9
 obtain⟨W11,e11,h11,g11⟩:=h10.step (t:=281) uK uM (by unfold maxLen;omega) 18 (by decide) (.func (.func 212) #[] #[])
 have b11:=b10.grown g11 b10.size (fun k hk=>by injection hk with hk;omega)
 clear h10 g11 b10
 obtain⟨W12,e12,h12,g12⟩:=h11.step (t:=281) uK uM (by unfold maxLen;omega) 19 (by decide) (.func (.func 213) #[] #[])
 have b12:=b11.grown g12 b11.size (fun k hk=>by injection hk with hk;omega)
 clear h11 g12 b11
 obtain⟨W13,e13,h13,g13⟩:=h12.step (t:=281) uK uM (by unfold maxLen;omega) 20 (by decide) (.func (.func 214) #[] #[])
 have b13:=b12.grown g13 b12.size (fun k hk=>by injection hk with hk;omega)
 clear h12 g13 b12
 have HH:=Lib.hid (And.intro h13 b13)
 clear h13 b13
 rw [hW0] at e1
 clear hW0
 go_enter Tryz.func183,Tryz.ntmps183
 go_wp2_with fail
 go_ret
 exact⟨_,rfl,HH.out.1,HH.out.2⟩
theorem uMcb:Tryz.prog.underlying 302=some (.map 3 300):=by kernel_rfl
theorem uMr:Tryz.prog.underlying 281=some (.map 3 279):=by kernel_rfl
theorem wf64{a:Int}(h1:-9223372036854775808≤a)(h2:a≤9223372036854775807):(Lit.int .i64 a).wf=true:=by
 simp [Lit.wf,IntKind.min,IntKind.max,IntKind.bits,IntKind.signed];omega
theorem combos_at{op:Int}(h1:8≤op)(h2:op≤20):∃ id,combosF op=some (.func (.func id) #[] #[])∧(∀ (args:Array Value) (W:World),(callFunc id args).run Tryz.prog W=.ok (.enter id args) W)∧∀ (a b:Nat) (w:World),a < 4294967296→b < 4294967296→(b≠0∨(op≠11∧op≠12))→Calls Tryz.prog id #[.int .u32 a,.int .u32 b] w fun e w'=>e=.returned (.int .u32 (arN op a b:Nat))∧w'=w:=by
 have hc:op=8∨op=9∨op=10∨op=11∨op=12∨op=13∨op=14∨op=15∨op=16∨op=17∨op=18∨op=19∨op=20:=by omega
 rcases hc with rfl | rfl | rfl | rfl | rfl | rfl | rfl | rfl | rfl | rfl | rfl | rfl | rfl
 ·exact⟨_,rfl,fun _ _=>by kernel_rfl,fun a b w ha hb h0=>f_1 a b ha hb w⟩
 ·exact⟨_,rfl,fun _ _=>by kernel_rfl,fun a b w ha hb h0=>f_2 a b ha hb w⟩
 ·exact⟨_,rfl,fun _ _=>by kernel_rfl,fun a b w ha hb h0=>f_3 a b ha hb w⟩
 ·exact⟨_,rfl,fun _ _=>by kernel_rfl,fun a b w ha hb h0=>f_4 a b ha hb (by omega) w⟩
 ·exact⟨_,rfl,fun _ _=>by kernel_rfl,fun a b w ha hb h0=>f_5 a b ha hb (by omega) w⟩
 ·exact⟨_,rfl,fun _ _=>by kernel_rfl,fun a b w ha hb h0=>f_6 a b ha hb w⟩
 ·exact⟨_,rfl,fun _ _=>by kernel_rfl,fun a b w ha hb h0=>f_7 a b ha hb w⟩
 ·exact⟨_,rfl,fun _ _=>by kernel_rfl,fun a b w ha hb h0=>f_8 a b ha hb w⟩
 ·exact⟨_,rfl,fun _ _=>by kernel_rfl,fun a b w ha hb h0=>f_9 a b ha hb w⟩
 ·exact⟨_,rfl,fun _ _=>by kernel_rfl,fun a b w ha hb h0=>f_10 a b ha hb w⟩
 ·exact⟨_,rfl,fun _ _=>by kernel_rfl,fun a b w ha hb h0=>f_11 a b ha hb w⟩
 ·exact⟨_,rfl,fun _ _=>by kernel_rfl,fun a b w ha hb h0=>f_12 a b ha hb w⟩
 ·exact⟨_,rfl,fun _ _=>by kernel_rfl,fun a b w ha hb h0=>hash_any a b ha hb w⟩
theorem rules_at{op:Int}(h1:8≤op)(h2:op≤20):∃ id,rulesF op=some (.func (.func id) #[] #[])∧(∀ (args:Array Value) (W:World),(callFunc id args).run Tryz.prog W=.ok (.enter id args) W)∧∀ (a b c d:Int) (w:World),0≤a→a≤b→b≤4294967295→0≤c→c≤d→d≤4294967295→(c≠0∨(op≠11∧op≠12))→Calls Tryz.prog id #[.agg #[.int .i64 a,.int .i64 b,.int .i64 c,.int .i64 d]] w fun e w'=>e=.returned (ivV (ruleI op a b c d))∧Below w.heap.size w w':=by
 have hc:op=8∨op=9∨op=10∨op=11∨op=12∨op=13∨op=14∨op=15∨op=16∨op=17∨op=18∨op=19∨op=20:=by omega
 rcases hc with rfl | rfl | rfl | rfl | rfl | rfl | rfl | rfl | rfl | rfl | rfl | rfl | rfl
 ·exact⟨_,rfl,fun _ _=>by kernel_rfl,fun a b c d w k1 k2 k3 k4 k5 k6 h0=>m_add a b c d k1 k2 k3 k4 k5 k6 w⟩
 ·exact⟨_,rfl,fun _ _=>by kernel_rfl,fun a b c d w k1 k2 k3 k4 k5 k6 h0=>m_sub a b c d k1 k2 k3 k4 k5 k6 w⟩
 ·exact⟨_,rfl,fun _ _=>by kernel_rfl,fun a b c d w k1 k2 k3 k4 k5 k6 h0=>m_mul a b c d k1 k2 k3 k4 k5 k6 w⟩
 ·exact⟨_,rfl,fun _ _=>by kernel_rfl,fun a b c d w k1 k2 k3 k4 k5 k6 h0=>m_div a b c d k1 k2 k3 k4 k5 k6 (by omega) w⟩
 ·exact⟨_,rfl,fun _ _=>by kernel_rfl,fun a b c d w k1 k2 k3 k4 k5 k6 h0=>m_mod a b c d k1 k2 k3 k4 k5 k6 (by omega) w⟩
 ·exact⟨_,rfl,fun _ _=>by kernel_rfl,fun a b c d w k1 k2 k3 k4 k5 k6 h0=>m_and a b c d k1 k2 k3 k4 k5 k6 w⟩
 ·exact⟨_,rfl,fun _ _=>by kernel_rfl,fun a b c d w k1 k2 k3 k4 k5 k6 h0=>m_or a b c d k1 k2 k3 k4 k5 k6 w⟩
 ·exact⟨_,rfl,fun _ _=>by kernel_rfl,fun a b c d w k1 k2 k3 k4 k5 k6 h0=>m_xor a b c d k1 k2 k3 k4 k5 k6 w⟩
 ·exact⟨_,rfl,fun _ _=>by kernel_rfl,fun a b c d w k1 k2 k3 k4 k5 k6 h0=>m_shl a b c d k1 k2 k3 k4 k5 k6 w⟩
 ·exact⟨_,rfl,fun _ _=>by kernel_rfl,fun a b c d w k1 k2 k3 k4 k5 k6 h0=>m_shr a b c d k1 k2 k3 k4 k5 k6 w⟩
 ·exact⟨_,rfl,fun _ _=>by kernel_rfl,fun a b c d w k1 k2 k3 k4 k5 k6 h0=>m_least a b c d k1 k2 k3 k4 k5 k6 w⟩
 ·exact⟨_,rfl,fun _ _=>by kernel_rfl,fun a b c d w k1 k2 k3 k4 k5 k6 h0=>m_greatest a b c d k1 k2 k3 k4 k5 k6 w⟩
 ·exact⟨_,rfl,fun _ _=>by kernel_rfl,fun a b c d w k1 k2 k3 k4 k5 k6 h0=>m_hash a b c d k1 k2 k3 k4 k5 k6 w⟩
theorem applyN_any(op:Int)(a b:Nat)(h1:8≤op)(h2:op≤20)(ha:a < 4294967296)(hb:b < 4294967296)(h0:b≠0∨(op≠11∧op≠12))(w:World) :
  Calls Tryz.prog 184 #[.int .i64 op,.int .u32 a,.int .u32 b] w fun e w'=>e=.returned (.tuple #[.int .u32 (arN op a b:Nat),.int .i64 0])∧Below w.heap.size w w':=by
 obtain⟨id,hid,hcf,hf⟩:=combos_at h1 h2
 have hwf:=wf64 (a:=op) (by omega) (by omega)
 have hz:∀ W:World,(zeroValue 300).run Tryz.prog W=.ok .nilFunc W:=fun W=>by kernel_rfl
 have Hf:=Lib.hid (fun W=>hf a b W ha hb h0)
 obtain⟨v,hv⟩:∃ v,v=arN op a b:=⟨_,rfl⟩
 rw [←hv] at Hf ⊢
 clear hv hf
 by_cases hb0:b=0
 ·subst hb0
  have Hf0:Hid (∀ W,Calls Tryz.prog id #[.int .u32 a,.int .u32 0] W fun e w'=>e=.returned (.int .u32 (v:Int))∧w'=W):=Hf.out
  clear Hf
  have d1:(op==11)=false:=by simp;omega
  have d2:(op==12)=false:=by simp;omega
  go_enter Tryz.func184,Tryz.ntmps184
  go_wp2_with fail
  refine (combos_any _).mono ?_
  rintro e w1 ⟨m,rfl,hm,hb1⟩
  have hlk:=hm.look (t:=302) uInt uMcb (hz w1) op hwf
  rw [hid] at hlk
  clear hm
  go_wp2_with fail
  refine (Hf0.out _).mono ?_
  rintro e w2 ⟨rfl,hw2⟩
  obtain rfl:=hw2.symm
  go_wp2_with fail
  go_ret2
  exact⟨rfl,hb1⟩
 ·have d0:((b:Int)==0)=false:=by simp;omega
  go_enter Tryz.func184,Tryz.ntmps184
  go_wp2_with fail
  refine (combos_any _).mono ?_
  rintro e w1 ⟨m,rfl,hm,hb1⟩
  have hlk:=hm.look (t:=302) uInt uMcb (hz w1) op hwf
  rw [hid] at hlk
  clear hm
  go_wp2_with fail
  refine (Hf.out _).mono ?_
  rintro e w2 ⟨rfl,hw2⟩
  obtain rfl:=hw2.symm
  go_wp2_with fail
  go_ret2
  exact⟨rfl,hb1⟩
def resI(x:Option Iv):Value:=match x with
 | none=>.tuple #[.agg #[.int .i64 0,.int .i64 0],.int .i64 17]
 | some z=>.tuple #[ivV z,.int .i64 0]
theorem slice_world{w w0:World}{a b c d:Int}(hs:w0.heap.size=w.heap.size+1+1+1)(g0:Below w.heap.size w w0)(r1:rowV w0 w.heap.size 148 #[.int .i64 a,.int .i64 b])(r2:rowV w0 (w.heap.size+1) 148 #[.int .i64 c,.int .i64 d])(r3:rowV w0 (w.heap.size+1+1) 148 #[.int .i64 0,.int .i64 0]) :
  ∃ w2,w2=w0.alloc (.cells #[.int .i64 a,.int .i64 b,.int .i64 c,.int .i64 d] 148)∧Below w.heap.size w w2∧rowV w2 w.heap.size 148 #[.int .i64 a,.int .i64 b]∧rowV w2 (w.heap.size+1) 148 #[.int .i64 c,.int .i64 d]∧rowV w2 (w.heap.size+1+1) 148 #[.int .i64 0,.int .i64 0]∧rowV w2 (w.heap.size+1+1+1) 148 #[.int .i64 a,.int .i64 b,.int .i64 c,.int .i64 d]:=by
 have k:=balloc (Below.refl _ w0) (.cells #[.int .i64 a,.int .i64 b,.int .i64 c,.int .i64 d] 148)
 have r4:=rowV.new w0 148 #[.int .i64 a,.int .i64 b,.int .i64 c,.int .i64 d]
 rw [hs] at r4
 exact⟨_,rfl,g0.trans (k.mono g0.size),r1.below k r1.lt,r2.below k r2.lt,r3.below k r3.lt,r4⟩
theorem applyI_any(op:Int)(x y:Iv)(h1:8≤op)(h2:op≤20)(hx:ivOk x=true)(hy:ivOk y=true)(w:World) :
  Calls Tryz.prog 149 #[.int .i64 op,.agg #[.int .i64 x.lo,.int .i64 x.hi],.agg #[.int .i64 y.lo,.int .i64 y.hi]] w fun e w'=>e=.returned (resI (apI op x y))∧Below w.heap.size w w':=by
 have hX:=Lib.hid (fun W=>by have:=checkI_any x W;rw [ivE_iff.2 hx] at this;exact this)
 have hY:=Lib.hid (fun W=>by have:=checkI_any y W;rw [ivE_iff.2 hy] at this;exact this)
 obtain⟨id,hid,hcf,hf⟩:=rules_at h1 h2
 have hwf:=wf64 (a:=op) (by omega) (by omega)
 have hz:∀ W:World,(zeroValue 279).run Tryz.prog W=.ok .nilFunc W:=fun W=>by kernel_rfl
 obtain⟨w0,hw0,g0,r1,r2,r3⟩:=boxes3 w x.lo x.hi y.lo y.hi 0 0
 rw [ivOk_iff] at hx hy
 obtain⟨a,b⟩:=x
 obtain⟨c,d⟩:=y
 dsimp only at hX hY hx hy hw0 r1 r2 ⊢
 obtain⟨ha,hab,hb⟩:=hx
 obtain⟨hc,hcd,hd⟩:=hy
 have hs0:w0.heap.size=w.heap.size+1+1+1:=by rw [hw0];simp
 have hw:=Lib.hid hw0;clear hw0
 have hE:apI op ⟨a,b⟩ ⟨c,d⟩=if c=0∧(op=11∨op=12) then none else if a=b∧c=d then some ⟨(arN op a.toNat c.toNat:Nat),(arN op a.toNat c.toNat:Nat)⟩ else some (ruleI op a b c d):=rfl
 have HE:=Lib.hid hE;clear hE
 have dA:decide (op < 21)=true:=decide_eq_true (by omega)
 have dB:decide (26 < op)=false:=decide_eq_false (by omega)
 by_cases hz0:c=0∧(op=11∨op=12)
 ·rw [HE.out,if_pos hz0]
  obtain⟨rfl,hop⟩:=hz0
  obtain⟨p1,hp1⟩:∃ p,(op==11)=p:=⟨_,rfl⟩
  cases p1 with
  | true=>
   obtain rfl:op=11:=by simpa using hp1
   go_enter Tryz.func149,Tryz.ntmps149
   go_wp2_with fail
   rw [←hw.out]
   obtain⟨w2,hw2,g2,s1,s2,s3,s4⟩:=slice_world hs0 g0 r1 r2 r3
   rw [←hw2]
   clear hw2 hw g0 r1 r2 r3 hs0
   obtain⟨e1,e2,e3,e4⟩:=four_cellsV s4
   refine wp_loop_rounds 3 ?_
   rw [rounds_succ]
   go_wp2_with fail
   refine (hX.out _).mono ?_
   rintro e w3 ⟨rfl,hb3⟩
   have k3:=(balloc (Below.refl _ w2) _).trans (hb3.mono (by simp))
   have g3:=g2.trans (k3.mono g2.size)
   have s1:=s1.below k3 s1.lt;have s2:=s2.below k3 s2.lt;have s3:=s3.below k3 s3.lt;have s4:=s4.below k3 s4.lt
   clear k3 hb3 g2 e1 e2 e3 e4
   obtain⟨e1,e2,e3,e4⟩:=four_cellsV s4
   go_wp2_with fail
   rw [rounds_succ]
   go_wp2_with fail
   refine (hY.out _).mono ?_
   rintro e w4 ⟨rfl,hb4⟩
   have k4:=(balloc (Below.refl _ w3) _).trans (hb4.mono (by simp))
   have g4:=g3.trans (k4.mono g3.size)
   have s1:=s1.below k4 s1.lt;have s2:=s2.below k4 s2.lt;have s3:=s3.below k4 s3.lt
   clear k4 hb4 g3 s4 e1 e2 e3 e4
   go_wp2_with fail
   rw [rounds_succ]
   go_wp2_with fail
   refine (rules_any _).mono ?_
   rintro e w5 ⟨m,rfl,hm,hb5⟩
   have hlk:=hm.look (t:=281) uInt uMr (hz w5) _ hwf
   rw [hid] at hlk
   have g5:=g4.trans (hb5.mono g4.size)
   have s1:=s1.below hb5 s1.lt;have s2:=s2.below hb5 s2.lt;have s3:=s3.below hb5 s3.lt
   clear hm hb5 g4 hX hY
   obtain⟨e1,e2⟩:=two_cellsV s1
   obtain⟨e3,e4⟩:=two_cellsV s2
   have Hr:=Lib.hid s3
   go_wp2_with (refine wpList_store_row rfl 148 (.tmp 6) (.tmp 64) rfl _ #[.int .i64 0,.int .i64 0] rfl rfl _ _ Hr.out (hI2 _ _) rfl (hA2 _ _) ?_)
   obtain⟨z1,z2⟩:=two_cellsV (setRow_heap w5 (w.heap.size+1+1) _ #[.int .i64 0,.int .i64 0] _ _ Hr.out)
   refine bodyPost_ret (v:=.tuple #[.agg #[.int .i64 0,.int .i64 0],.int .i64 17]) (by simp [results,Tryz.results149,go_sem,z1,z2]) rfl ⟨rfl,belowRow g5 (by omega) _⟩
  | false=>
   obtain rfl:op=12:=by simp at hp1;omega
   go_enter Tryz.func149,Tryz.ntmps149
   go_wp2_with fail
   rw [←hw.out]
   obtain⟨w2,hw2,g2,s1,s2,s3,s4⟩:=slice_world hs0 g0 r1 r2 r3
   rw [←hw2]
   clear hw2 hw g0 r1 r2 r3 hs0
   obtain⟨e1,e2,e3,e4⟩:=four_cellsV s4
   refine wp_loop_rounds 3 ?_
   rw [rounds_succ]
   go_wp2_with fail
   refine (hX.out _).mono ?_
   rintro e w3 ⟨rfl,hb3⟩
   have k3:=(balloc (Below.refl _ w2) _).trans (hb3.mono (by simp))
   have g3:=g2.trans (k3.mono g2.size)
   have s1:=s1.below k3 s1.lt;have s2:=s2.below k3 s2.lt;have s3:=s3.below k3 s3.lt;have s4:=s4.below k3 s4.lt
   clear k3 hb3 g2 e1 e2 e3 e4
   obtain⟨e1,e2,e3,e4⟩:=four_cellsV s4
   go_wp2_with fail
   rw [rounds_succ]
   go_wp2_with fail
   refine (hY.out _).mono ?_
   rintro e w4 ⟨rfl,hb4⟩
   have k4:=(balloc (Below.refl _ w3) _).trans (hb4.mono (by simp))
   have g4:=g3.trans (k4.mono g3.size)
   have s1:=s1.below k4 s1.lt;have s2:=s2.below k4 s2.lt;have s3:=s3.below k4 s3.lt
   clear k4 hb4 g3 s4 e1 e2 e3 e4
   go_wp2_with fail
   rw [rounds_succ]
   go_wp2_with fail
   refine (rules_any _).mono ?_
   rintro e w5 ⟨m,rfl,hm,hb5⟩
   have hlk:=hm.look (t:=281) uInt uMr (hz w5) _ hwf
   rw [hid] at hlk
   have g5:=g4.trans (hb5.mono g4.size)
   have s1:=s1.below hb5 s1.lt;have s2:=s2.below hb5 s2.lt;have s3:=s3.below hb5 s3.lt
   clear hm hb5 g4 hX hY
   obtain⟨e1,e2⟩:=two_cellsV s1
   obtain⟨e3,e4⟩:=two_cellsV s2
   have Hr:=Lib.hid s3
   go_wp2_with (refine wpList_store_row rfl 148 (.tmp 6) (.tmp 64) rfl _ #[.int .i64 0,.int .i64 0] rfl rfl _ _ Hr.out (hI2 _ _) rfl (hA2 _ _) ?_)
   obtain⟨z1,z2⟩:=two_cellsV (setRow_heap w5 (w.heap.size+1+1) _ #[.int .i64 0,.int .i64 0] _ _ Hr.out)
   refine bodyPost_ret (v:=.tuple #[.agg #[.int .i64 0,.int .i64 0],.int .i64 17]) (by simp [results,Tryz.results149,go_sem,z1,z2]) rfl ⟨rfl,belowRow g5 (by omega) _⟩
 rw [HE.out,if_neg hz0]
 clear HE
 have hq:(c==0)=false∨c=0∧(op==11)=false∧(op==12)=false:=by
  by_cases h:c=0
  ·right;simp;omega
  ·left;simpa using h
 by_cases hex:a=b∧c=d
 ·rw [if_pos hex]
  obtain⟨rfl,rfl⟩:=hex
  have t1:(a==a)=true:=by simp
  have t2:(c==c)=true:=by simp
  obtain⟨n,rfl⟩:∃ n:Nat,a=(n:Int):=⟨a.toNat,by omega⟩
  rw [Int.toNat_natCast]
  have u1:IntKind.u32.wrap (n:Int)=n:=by rw [wrapU];omega
  clear hf
  rcases hq with q1 | ⟨rfl,q2,q3⟩
  ·obtain⟨m',rfl⟩:∃ m:Nat,c=(m:Int):=⟨c.toNat,by omega⟩
   rw [Int.toNat_natCast]
   have hA:=Lib.hid (applyN_any op n m' h1 h2 (by omega) (by omega) (by omega))
   have hlt:=arN_lt (op:=op) (a:=n) (b:=m') (by omega) (by omega) (by omega)
   obtain⟨v,hv⟩:∃ v,v=arN op n m':=⟨_,rfl⟩
   rw [←hv] at hA hlt ⊢
   clear hv
   have u2:IntKind.u32.wrap (m':Int)=m':=by rw [wrapU];omega
   have hXe:=Lib.hid (exact_any v hlt)
   go_enter Tryz.func149,Tryz.ntmps149
   go_wp2_with fail
   rw [←hw.out]
   obtain⟨w2,hw2,g2,s1,s2,s3,s4⟩:=slice_world hs0 g0 r1 r2 r3
   rw [←hw2]
   clear hw2 hw g0 r1 r2 r3 hs0
   obtain⟨e1,e2,e3,e4⟩:=four_cellsV s4
   refine wp_loop_rounds 3 ?_
   rw [rounds_succ]
   go_wp2_with fail
   refine (hX.out _).mono ?_
   rintro e w3 ⟨rfl,hb3⟩
   have k3:=(balloc (Below.refl _ w2) _).trans (hb3.mono (by simp))
   have g3:=g2.trans (k3.mono g2.size)
   have s1:=s1.below k3 s1.lt;have s2:=s2.below k3 s2.lt;have s3:=s3.below k3 s3.lt;have s4:=s4.below k3 s4.lt
   clear k3 hb3 g2 e1 e2 e3 e4
   obtain⟨e1,e2,e3,e4⟩:=four_cellsV s4
   go_wp2_with fail
   rw [rounds_succ]
   go_wp2_with fail
   refine (hY.out _).mono ?_
   rintro e w4 ⟨rfl,hb4⟩
   have k4:=(balloc (Below.refl _ w3) _).trans (hb4.mono (by simp))
   have g4:=g3.trans (k4.mono g3.size)
   have s1:=s1.below k4 s1.lt;have s2:=s2.below k4 s2.lt;have s3:=s3.below k4 s3.lt
   clear k4 hb4 g3 s4 e1 e2 e3 e4
   go_wp2_with fail
   rw [rounds_succ]
   go_wp2_with fail
   refine (rules_any _).mono ?_
   rintro e w5 ⟨m,rfl,hm,hb5⟩
   have hlk:=hm.look (t:=281) uInt uMr (hz w5) _ hwf
   rw [hid] at hlk
   have g5:=g4.trans (hb5.mono g4.size)
   have s1:=s1.below hb5 s1.lt;have s2:=s2.below hb5 s2.lt;have s3:=s3.below hb5 s3.lt
   clear hm hb5 g4 hX hY
   obtain⟨e1,e2⟩:=two_cellsV s1
   obtain⟨e3,e4⟩:=two_cellsV s2
   go_wp2_with fail
   refine (hA.out _).mono ?_
   rintro e w6 ⟨rfl,hb6⟩
   have g6:=g5.trans (hb6.mono g5.size)
   have s3:=s3.below hb6 s3.lt
   clear hb6 g5 e1 e2 e3 e4 s1 s2
   go_wp2_with fail
   refine (hXe.out _).mono ?_
   rintro e w7 ⟨rfl,hb7⟩
   have g7:=g6.trans (hb7.mono g6.size)
   have Hr:=Lib.hid (s3.below hb7 s3.lt)
   go_wp2_with (refine wpList_store_row rfl 148 (.tmp 6) (.tmp 90) rfl _ #[.int .i64 v,.int .i64 v] rfl rfl _ _ Hr.out (hI2 _ _) rfl (hA2 _ _) ?_)
   obtain⟨z1,z2⟩:=two_cellsV (setRow_heap w7 (w.heap.size+1+1) _ #[.int .i64 v,.int .i64 v] _ _ Hr.out)
   refine bodyPost_ret (v:=.tuple #[.agg #[.int .i64 v,.int .i64 v],.int .i64 0]) (by simp [results,Tryz.results149,go_sem,z1,z2]) rfl ⟨rfl,belowRow g7 (by omega) _⟩
  ·have hop:op≠11∧op≠12:=by simp at q2 q3;exact⟨q2,q3⟩
   have hA0:=applyN_any op n 0 h1 h2 (by omega) (by omega) (.inr hop)
   have hlt:=arN_lt (op:=op) (a:=n) (b:=0) (by omega) (by omega) (.inr hop)
   rw [show (0:Int).toNat=0 from rfl]
   obtain⟨v,hv⟩:∃ v,v=arN op n 0:=⟨_,rfl⟩
   rw [←hv] at hA0 hlt ⊢
   clear hv
   have hA:Hid (∀ W,Calls Tryz.prog 184 #[.int .i64 op,.int .u32 n,.int .u32 0] W fun e w'=>e=.returned (.tuple #[.int .u32 (v:Int),.int .i64 0])∧Below W.heap.size W w'):=hA0
   clear hA0
   have u2:IntKind.u32.wrap 0=0:=by decide
   have hXe:=Lib.hid (exact_any v hlt)
   go_enter Tryz.func149,Tryz.ntmps149
   go_wp2_with fail
   rw [←hw.out]
   obtain⟨w2,hw2,g2,s1,s2,s3,s4⟩:=slice_world hs0 g0 r1 r2 r3
   rw [←hw2]
   clear hw2 hw g0 r1 r2 r3 hs0
   obtain⟨e1,e2,e3,e4⟩:=four_cellsV s4
   refine wp_loop_rounds 3 ?_
   rw [rounds_succ]
   go_wp2_with fail
   refine (hX.out _).mono ?_
   rintro e w3 ⟨rfl,hb3⟩
   have k3:=(balloc (Below.refl _ w2) _).trans (hb3.mono (by simp))
   have g3:=g2.trans (k3.mono g2.size)
   have s1:=s1.below k3 s1.lt;have s2:=s2.below k3 s2.lt;have s3:=s3.below k3 s3.lt;have s4:=s4.below k3 s4.lt
   clear k3 hb3 g2 e1 e2 e3 e4
   obtain⟨e1,e2,e3,e4⟩:=four_cellsV s4
   go_wp2_with fail
   rw [rounds_succ]
   go_wp2_with fail
   refine (hY.out _).mono ?_
   rintro e w4 ⟨rfl,hb4⟩
   have k4:=(balloc (Below.refl _ w3) _).trans (hb4.mono (by simp))
   have g4:=g3.trans (k4.mono g3.size)
   have s1:=s1.below k4 s1.lt;have s2:=s2.below k4 s2.lt;have s3:=s3.below k4 s3.lt
   clear k4 hb4 g3 s4 e1 e2 e3 e4
   go_wp2_with fail
   rw [rounds_succ]
   go_wp2_with fail
   refine (rules_any _).mono ?_
   rintro e w5 ⟨m,rfl,hm,hb5⟩
   have hlk:=hm.look (t:=281) uInt uMr (hz w5) _ hwf
   rw [hid] at hlk
   have g5:=g4.trans (hb5.mono g4.size)
   have s1:=s1.below hb5 s1.lt;have s2:=s2.below hb5 s2.lt;have s3:=s3.below hb5 s3.lt
   clear hm hb5 g4 hX hY
   obtain⟨e1,e2⟩:=two_cellsV s1
   obtain⟨e3,e4⟩:=two_cellsV s2
   go_wp2_with fail
   refine (hA.out _).mono ?_
   rintro e w6 ⟨rfl,hb6⟩
   have g6:=g5.trans (hb6.mono g5.size)
   have s3:=s3.below hb6 s3.lt
   clear hb6 g5 e1 e2 e3 e4 s1 s2
   go_wp2_with fail
   refine (hXe.out _).mono ?_
   rintro e w7 ⟨rfl,hb7⟩
   have g7:=g6.trans (hb7.mono g6.size)
   have Hr:=Lib.hid (s3.below hb7 s3.lt)
   go_wp2_with (refine wpList_store_row rfl 148 (.tmp 6) (.tmp 90) rfl _ #[.int .i64 v,.int .i64 v] rfl rfl _ _ Hr.out (hI2 _ _) rfl (hA2 _ _) ?_)
   obtain⟨z1,z2⟩:=two_cellsV (setRow_heap w7 (w.heap.size+1+1) _ #[.int .i64 v,.int .i64 v] _ _ Hr.out)
   refine bodyPost_ret (v:=.tuple #[.agg #[.int .i64 v,.int .i64 v],.int .i64 0]) (by simp [results,Tryz.results149,go_sem,z1,z2]) rfl ⟨rfl,belowRow g7 (by omega) _⟩
 ·rw [if_neg hex]
  have hf:=Lib.hid (fun W=>hf a b c d W ha hab hb hc hcd hd (by omega))
  obtain⟨⟨lo,hi⟩,hv⟩:∃ z,z=ruleI op a b c d:=⟨_,rfl⟩
  rw [←hv] at hf ⊢
  clear hv
  unfold ivV at hf
  dsimp only at hf
  have ht:(a==b)=false∨a=b∧(c==d)=false:=by
   by_cases h:a=b
   ·right;simp;omega
   ·left;simpa using h
  rcases hq with q1 | ⟨rfl,q2,q3⟩
  ·rcases ht with t1 | ⟨rfl,t2⟩
   ·skip
    go_enter Tryz.func149,Tryz.ntmps149
    go_wp2_with fail
    rw [←hw.out]
    obtain⟨w2,hw2,g2,s1,s2,s3,s4⟩:=slice_world hs0 g0 r1 r2 r3
    rw [←hw2]
    clear hw2 hw g0 r1 r2 r3 hs0
    obtain⟨e1,e2,e3,e4⟩:=four_cellsV s4
    refine wp_loop_rounds 3 ?_
    rw [rounds_succ]
    go_wp2_with fail
    refine (hX.out _).mono ?_
    rintro e w3 ⟨rfl,hb3⟩
    have k3:=(balloc (Below.refl _ w2) _).trans (hb3.mono (by simp))
    have g3:=g2.trans (k3.mono g2.size)
    have s1:=s1.below k3 s1.lt;have s2:=s2.below k3 s2.lt;have s3:=s3.below k3 s3.lt;have s4:=s4.below k3 s4.lt
    clear k3 hb3 g2 e1 e2 e3 e4
    obtain⟨e1,e2,e3,e4⟩:=four_cellsV s4
    go_wp2_with fail
    rw [rounds_succ]
    go_wp2_with fail
    refine (hY.out _).mono ?_
    rintro e w4 ⟨rfl,hb4⟩
    have k4:=(balloc (Below.refl _ w3) _).trans (hb4.mono (by simp))
    have g4:=g3.trans (k4.mono g3.size)
    have s1:=s1.below k4 s1.lt;have s2:=s2.below k4 s2.lt;have s3:=s3.below k4 s3.lt
    clear k4 hb4 g3 s4 e1 e2 e3 e4
    go_wp2_with fail
    rw [rounds_succ]
    go_wp2_with fail
    refine (rules_any _).mono ?_
    rintro e w5 ⟨m,rfl,hm,hb5⟩
    have hlk:=hm.look (t:=281) uInt uMr (hz w5) _ hwf
    rw [hid] at hlk
    have g5:=g4.trans (hb5.mono g4.size)
    have s1:=s1.below hb5 s1.lt;have s2:=s2.below hb5 s2.lt;have s3:=s3.below hb5 s3.lt
    clear hm hb5 g4 hX hY
    obtain⟨e1,e2⟩:=two_cellsV s1
    obtain⟨e3,e4⟩:=two_cellsV s2
    go_wp2_with fail
    refine (hf.out _).mono ?_
    rintro e w6 ⟨rfl,hb6⟩
    have g6:=g5.trans (hb6.mono g5.size)
    have s3:=s3.below hb6 s3.lt
    clear hb6 g5 e1 e2 e3 e4 s1 s2
    have Hr:=Lib.hid s3
    go_wp2_with (refine wpList_store_row rfl 148 (.tmp 6) (.tmp 102) rfl _ #[.int .i64 lo,.int .i64 hi] rfl rfl _ _ Hr.out (hI2 _ _) rfl (hA2 _ _) ?_)
    obtain⟨z1,z2⟩:=two_cellsV (setRow_heap w6 (w.heap.size+1+1) _ #[.int .i64 lo,.int .i64 hi] _ _ Hr.out)
    refine bodyPost_ret (v:=.tuple #[.agg #[.int .i64 lo,.int .i64 hi],.int .i64 0]) (by simp [results,Tryz.results149,go_sem,z1,z2]) rfl ⟨rfl,belowRow g6 (by omega) _⟩
   ·skip
    go_enter Tryz.func149,Tryz.ntmps149
    go_wp2_with fail
    rw [←hw.out]
    obtain⟨w2,hw2,g2,s1,s2,s3,s4⟩:=slice_world hs0 g0 r1 r2 r3
    rw [←hw2]
    clear hw2 hw g0 r1 r2 r3 hs0
    obtain⟨e1,e2,e3,e4⟩:=four_cellsV s4
    refine wp_loop_rounds 3 ?_
    rw [rounds_succ]
    go_wp2_with fail
    refine (hX.out _).mono ?_
    rintro e w3 ⟨rfl,hb3⟩
    have k3:=(balloc (Below.refl _ w2) _).trans (hb3.mono (by simp))
    have g3:=g2.trans (k3.mono g2.size)
    have s1:=s1.below k3 s1.lt;have s2:=s2.below k3 s2.lt;have s3:=s3.below k3 s3.lt;have s4:=s4.below k3 s4.lt
    clear k3 hb3 g2 e1 e2 e3 e4
    obtain⟨e1,e2,e3,e4⟩:=four_cellsV s4
    go_wp2_with fail
    rw [rounds_succ]
    go_wp2_with fail
    refine (hY.out _).mono ?_
    rintro e w4 ⟨rfl,hb4⟩
    have k4:=(balloc (Below.refl _ w3) _).trans (hb4.mono (by simp))
    have g4:=g3.trans (k4.mono g3.size)
    have s1:=s1.below k4 s1.lt;have s2:=s2.below k4 s2.lt;have s3:=s3.below k4 s3.lt
    clear k4 hb4 g3 s4 e1 e2 e3 e4
    go_wp2_with fail
    rw [rounds_succ]
    go_wp2_with fail
    refine (rules_any _).mono ?_
    rintro e w5 ⟨m,rfl,hm,hb5⟩
    have hlk:=hm.look (t:=281) uInt uMr (hz w5) _ hwf
    rw [hid] at hlk
    have g5:=g4.trans (hb5.mono g4.size)
    have s1:=s1.below hb5 s1.lt;have s2:=s2.below hb5 s2.lt;have s3:=s3.below hb5 s3.lt
    clear hm hb5 g4 hX hY
    obtain⟨e1,e2⟩:=two_cellsV s1
    obtain⟨e3,e4⟩:=two_cellsV s2
    go_wp2_with fail
    refine (hf.out _).mono ?_
    rintro e w6 ⟨rfl,hb6⟩
    have g6:=g5.trans (hb6.mono g5.size)
    have s3:=s3.below hb6 s3.lt
    clear hb6 g5 e1 e2 e3 e4 s1 s2
    have Hr:=Lib.hid s3
    go_wp2_with (refine wpList_store_row rfl 148 (.tmp 6) (.tmp 102) rfl _ #[.int .i64 lo,.int .i64 hi] rfl rfl _ _ Hr.out (hI2 _ _) rfl (hA2 _ _) ?_)
    obtain⟨z1,z2⟩:=two_cellsV (setRow_heap w6 (w.heap.size+1+1) _ #[.int .i64 lo,.int .i64 hi] _ _ Hr.out)
    refine bodyPost_ret (v:=.tuple #[.agg #[.int .i64 lo,.int .i64 hi],.int .i64 0]) (by simp [results,Tryz.results149,go_sem,z1,z2]) rfl ⟨rfl,belowRow g6 (by omega) _⟩
  ·rcases ht with t1 | ⟨rfl,t2⟩
   ·skip
    go_enter Tryz.func149,Tryz.ntmps149
    go_wp2_with fail
    rw [←hw.out]
    obtain⟨w2,hw2,g2,s1,s2,s3,s4⟩:=slice_world hs0 g0 r1 r2 r3
    rw [←hw2]
    clear hw2 hw g0 r1 r2 r3 hs0
    obtain⟨e1,e2,e3,e4⟩:=four_cellsV s4
    refine wp_loop_rounds 3 ?_
    rw [rounds_succ]
    go_wp2_with fail
    refine (hX.out _).mono ?_
    rintro e w3 ⟨rfl,hb3⟩
    have k3:=(balloc (Below.refl _ w2) _).trans (hb3.mono (by simp))
    have g3:=g2.trans (k3.mono g2.size)
    have s1:=s1.below k3 s1.lt;have s2:=s2.below k3 s2.lt;have s3:=s3.below k3 s3.lt;have s4:=s4.below k3 s4.lt
    clear k3 hb3 g2 e1 e2 e3 e4
    obtain⟨e1,e2,e3,e4⟩:=four_cellsV s4
    go_wp2_with fail
    rw [rounds_succ]
    go_wp2_with fail
    refine (hY.out _).mono ?_
    rintro e w4 ⟨rfl,hb4⟩
    have k4:=(balloc (Below.refl _ w3) _).trans (hb4.mono (by simp))
    have g4:=g3.trans (k4.mono g3.size)
    have s1:=s1.below k4 s1.lt;have s2:=s2.below k4 s2.lt;have s3:=s3.below k4 s3.lt
    clear k4 hb4 g3 s4 e1 e2 e3 e4
    go_wp2_with fail
    rw [rounds_succ]
    go_wp2_with fail
    refine (rules_any _).mono ?_
    rintro e w5 ⟨m,rfl,hm,hb5⟩
    have hlk:=hm.look (t:=281) uInt uMr (hz w5) _ hwf
    rw [hid] at hlk
    have g5:=g4.trans (hb5.mono g4.size)
    have s1:=s1.below hb5 s1.lt;have s2:=s2.below hb5 s2.lt;have s3:=s3.below hb5 s3.lt
    clear hm hb5 g4 hX hY
    obtain⟨e1,e2⟩:=two_cellsV s1
    obtain⟨e3,e4⟩:=two_cellsV s2
    go_wp2_with fail
    refine (hf.out _).mono ?_
    rintro e w6 ⟨rfl,hb6⟩
    have g6:=g5.trans (hb6.mono g5.size)
    have s3:=s3.below hb6 s3.lt
    clear hb6 g5 e1 e2 e3 e4 s1 s2
    have Hr:=Lib.hid s3
    go_wp2_with (refine wpList_store_row rfl 148 (.tmp 6) (.tmp 102) rfl _ #[.int .i64 lo,.int .i64 hi] rfl rfl _ _ Hr.out (hI2 _ _) rfl (hA2 _ _) ?_)
    obtain⟨z1,z2⟩:=two_cellsV (setRow_heap w6 (w.heap.size+1+1) _ #[.int .i64 lo,.int .i64 hi] _ _ Hr.out)
    refine bodyPost_ret (v:=.tuple #[.agg #[.int .i64 lo,.int .i64 hi],.int .i64 0]) (by simp [results,Tryz.results149,go_sem,z1,z2]) rfl ⟨rfl,belowRow g6 (by omega) _⟩
   ·skip
    go_enter Tryz.func149,Tryz.ntmps149
    go_wp2_with fail
    rw [←hw.out]
    obtain⟨w2,hw2,g2,s1,s2,s3,s4⟩:=slice_world hs0 g0 r1 r2 r3
    rw [←hw2]
    clear hw2 hw g0 r1 r2 r3 hs0
    obtain⟨e1,e2,e3,e4⟩:=four_cellsV s4
    refine wp_loop_rounds 3 ?_
    rw [rounds_succ]
    go_wp2_with fail
    refine (hX.out _).mono ?_
    rintro e w3 ⟨rfl,hb3⟩
    have k3:=(balloc (Below.refl _ w2) _).trans (hb3.mono (by simp))
    have g3:=g2.trans (k3.mono g2.size)
    have s1:=s1.below k3 s1.lt;have s2:=s2.below k3 s2.lt;have s3:=s3.below k3 s3.lt;have s4:=s4.below k3 s4.lt
    clear k3 hb3 g2 e1 e2 e3 e4
    obtain⟨e1,e2,e3,e4⟩:=four_cellsV s4
    go_wp2_with fail
    rw [rounds_succ]
    go_wp2_with fail
    refine (hY.out _).mono ?_
    rintro e w4 ⟨rfl,hb4⟩
    have k4:=(balloc (Below.refl _ w3) _).trans (hb4.mono (by simp))
    have g4:=g3.trans (k4.mono g3.size)
    have s1:=s1.below k4 s1.lt;have s2:=s2.below k4 s2.lt;have s3:=s3.below k4 s3.lt
    clear k4 hb4 g3 s4 e1 e2 e3 e4
    go_wp2_with fail
    rw [rounds_succ]
    go_wp2_with fail
    refine (rules_any _).mono ?_
    rintro e w5 ⟨m,rfl,hm,hb5⟩
    have hlk:=hm.look (t:=281) uInt uMr (hz w5) _ hwf
    rw [hid] at hlk
    have g5:=g4.trans (hb5.mono g4.size)
    have s1:=s1.below hb5 s1.lt;have s2:=s2.below hb5 s2.lt;have s3:=s3.below hb5 s3.lt
    clear hm hb5 g4 hX hY
    obtain⟨e1,e2⟩:=two_cellsV s1
    obtain⟨e3,e4⟩:=two_cellsV s2
    go_wp2_with fail
    refine (hf.out _).mono ?_
    rintro e w6 ⟨rfl,hb6⟩
    have g6:=g5.trans (hb6.mono g5.size)
    have s3:=s3.below hb6 s3.lt
    clear hb6 g5 e1 e2 e3 e4 s1 s2
    have Hr:=Lib.hid s3
    go_wp2_with (refine wpList_store_row rfl 148 (.tmp 6) (.tmp 102) rfl _ #[.int .i64 lo,.int .i64 hi] rfl rfl _ _ Hr.out (hI2 _ _) rfl (hA2 _ _) ?_)
    obtain⟨z1,z2⟩:=two_cellsV (setRow_heap w6 (w.heap.size+1+1) _ #[.int .i64 lo,.int .i64 hi] _ _ Hr.out)
    refine bodyPost_ret (v:=.tuple #[.agg #[.int .i64 lo,.int .i64 hi],.int .i64 0]) (by simp [results,Tryz.results149,go_sem,z1,z2]) rfl ⟨rfl,belowRow g6 (by omega) _⟩



theorem effect_any(op:Int)(w:World):Calls Tryz.prog 29 #[.int .i64 op] w fun e w'=>e=.returned (.tuple #[.string (strB (opX op).pops),.string (strB (opX op).pushes),.bool (okX op)])∧Below w.heap.size w w':=by
 have H:=Lib.hid (known_any op w)
 obtain⟨x,hx⟩:∃ x,x=opX op:=⟨_,rfl⟩
 obtain⟨o,ho⟩:∃ o,o=okX op:=⟨_,rfl⟩
 rw [←hx,←ho] at H ⊢
 unfold aggO at H
 clear hx ho
 go_enter Tryz.func29,Tryz.ntmps29
 go_wp2_with fail
 refine H.out.mono ?_
 rintro e w1 ⟨rfl,hb1⟩
 go_wp2_with fail
 go_quiet (fail)
 go_wp2_with fail
 go_ret3
 exact⟨rfl,bdrew (balloc hb1 _) _⟩
def failW(at_ e:Int):Value:=.iface 138 (.agg #[.int .i64 at_,.int .i64 e])
theorem failW_any(a e:Int)(w:World):Calls Tryz.prog 86 #[.int .i64 a,.int .i64 e] w fun en w'=>en=.panicked [{ v:=failW a e,recovered:=false }]∧w'=w:=by
 go_enter Tryz.func86,Tryz.ntmps86
 go_wp2_with fail
 exact⟨rfl,rfl,rfl⟩
theorem demandW_ok(a e:Int)(w:World):Calls Tryz.prog 41 #[.bool true,.int .i64 a,.int .i64 e] w fun en w'=>en=.returned (.tuple #[])∧w'=w:=by
 go_enter Tryz.func41,Tryz.ntmps41
 go_wp2_with fail
 exact⟨rfl,_,results_none rfl _ _ _,rfl,rfl⟩
theorem demandW_bad(a e:Int)(w:World):Calls Tryz.prog 41 #[.bool false,.int .i64 a,.int .i64 e] w fun en w'=>en=.panicked [{ v:=failW a e,recovered:=false }]∧w'=w:=by
 go_enter Tryz.func41,Tryz.ntmps41
 go_wp2_with fail
 refine (failW_any _ _ _).mono ?_
 rintro en w1 ⟨rfl,hw1⟩
 subst hw1
 exact⟨rfl,rfl,rfl⟩
theorem numeric_any(lo hi:Int)(w:World):Calls Tryz.prog 147 #[.agg #[.int .i64 lo,.int .i64 hi]] w fun e w'=>e=.returned (.agg #[.bool false,.int .i64 lo,.int .i64 hi])∧Below w.heap.size w w':=by
 go_enter Tryz.func147,Tryz.ntmps147
 go_wp2_with fail
 refine bodyPost_ret (v:=.agg #[.bool false,.int .i64 lo,.int .i64 hi]) (by simp [results,Tryz.results147,go_sem]) rfl ⟨rfl,balloc (balloc (Below.refl _ _) _) _⟩
theorem plus_any(a b c d:Int)(ha:0≤a∧a≤281474976710657)(hb:0≤b∧b≤281474976710657)(hc:0≤c∧c≤281474976710657)(hd:0≤d∧d≤281474976710657)(w:World):Calls Tryz.prog 113 #[.agg #[.int .i64 a,.int .i64 b],.agg #[.int .i64 c,.int .i64 d]] w fun e w'=>e=.returned (.agg #[.int .i64 (capS a c),.int .i64 (capS b d)])∧Below w.heap.size w w':=by
 unfold capS tooMany
 go_enter Tryz.func113,Tryz.ntmps113
 go_wp2_with fail
 refine bodyPost_ret (v:=.agg #[.int .i64 (min (a+c) 281474976710657),.int .i64 (min (b+d) 281474976710657)]) (by simp [results,Tryz.results113,go_sem]) rfl ⟨rfl,balloc (balloc (balloc (Below.refl _ _) _) _) _⟩
theorem product_any(x n:Int)(pb:Nat)(hx:0≤x∧x≤281474976710657)(hn:0≤n∧n≤65536)(w:World)(hb:w.cell? ⟨pb,0,none⟩=some (.int .i64 n)):Calls Tryz.prog 182 #[.int .i64 x,.pointer (some ⟨pb,0,none⟩)] w fun e w'=>e=.returned (.int .i64 (prodS x n))∧w'=w:=by
 have hE:Hid (prodS x n=if 0 < n∧281474976710657 / n < x then 281474976710657 else min (x * n) 281474976710657):=rfl
 have t1:Int.tdiv 281474976710657 n=281474976710657 / n:=Int.tdiv_eq_ediv_of_nonneg (by omega)
 have u1:=Int.ediv_nonneg (by omega:(0:Int)≤281474976710657) hn.1
 have u2:=Int.ediv_le_self n (by omega:(0:Int)≤281474976710657)
 by_cases h1:0 < n
 ·have d1:decide (0 < n)=true:=decide_eq_true h1
  have q1:(n==0)=false:=by simp;omega
  have q3:n≠0:=by omega
  by_cases h2:281474976710657 / n < x
  ·have d2:decide (281474976710657 / n < x)=true:=decide_eq_true h2
   rw [if_pos ⟨h1,h2⟩] at hE
   rw [hE.out]
   go_enter Tryz.func182,Tryz.ntmps182
   go_wp2_with fail
   go_ret
   exact⟨rfl,rfl⟩
  ·have d2:decide (281474976710657 / n < x)=false:=decide_eq_false h2
   rw [if_neg (by omega)] at hE
   rw [hE.out]
   have k1:x≤281474976710657 / n:=by omega
   have k2:=Int.mul_le_mul_of_nonneg_right k1 (Int.le_of_lt h1)
   have k3:=Int.ediv_mul_le 281474976710657 (by omega:n≠0)
   have k4:x * n≤281474976710657:=Int.le_trans k2 k3
   have k5:0≤x * n:=Int.mul_nonneg hx.1 hn.1
   clear k2 k3
   go_enter Tryz.func182,Tryz.ntmps182
   go_wp2_with fail
   go_ret
   exact⟨rfl,rfl⟩
 ·have d1:decide (0 < n)=false:=decide_eq_false h1
  obtain rfl:n=0:=by omega
  rw [if_neg (by omega)] at hE
  rw [hE.out]
  go_enter Tryz.func182,Tryz.ntmps182
  go_wp2_with fail
  go_ret
  exact⟨by simp,rfl⟩
theorem hIb(a b:Int):(Tryz.prog.info? 151).map (·.size)=some (#[Value.int .i64 a,.int .i64 b]:Array Value).size:=by kernel_rfl
theorem times_boxes(w:World)(s e n:Int):∃ w3,w3=((w.alloc (.cells #[.int .i64 s,.int .i64 e] 151)).alloc (.cells #[.int .i64 n] 3)).alloc (.cells #[.int .i64 0,.int .i64 0] 151)∧Below w.heap.size w w3∧rowV w3 w.heap.size 151 #[.int .i64 s,.int .i64 e]∧rowV w3 (w.heap.size+1) 3 #[.int .i64 n]∧rowV w3 (w.heap.size+1+1) 151 #[.int .i64 0,.int .i64 0]:=by
 have r1:=rowV.new w 151 #[.int .i64 s,.int .i64 e]
 have r2:=rowV.new (w.alloc (.cells #[.int .i64 s,.int .i64 e] 151)) 3 #[.int .i64 n]
 have r3:=rowV.new ((w.alloc (.cells #[.int .i64 s,.int .i64 e] 151)).alloc (.cells #[.int .i64 n] 3)) 151 #[.int .i64 0,.int .i64 0]
 have k1:=balloc (Below.refl _ (w.alloc (.cells #[.int .i64 s,.int .i64 e] 151))) (.cells #[.int .i64 n] 3)
 have k2:=balloc (Below.refl _ ((w.alloc (.cells #[.int .i64 s,.int .i64 e] 151)).alloc (.cells #[.int .i64 n] 3))) (.cells #[.int .i64 0,.int .i64 0] 151)
 have e1:(w.alloc (.cells #[.int .i64 s,.int .i64 e] 151)).heap.size=w.heap.size+1:=by simp
 have e2:((w.alloc (.cells #[.int .i64 s,.int .i64 e] 151)).alloc (.cells #[.int .i64 n] 3)).heap.size=w.heap.size+1+1:=by simp
 have q1:=r1.below k1 r1.lt
 rw [e1] at r2
 rw [e2] at r3
 exact⟨_,rfl,balloc (balloc (balloc (Below.refl _ _) _) _) _,q1.below k2 q1.lt,r2.below k2 r2.lt,r3⟩
theorem times_any(s e n:Int)(hs:0≤s∧s≤281474976710657)(he:0≤e∧e≤281474976710657)(hn:0≤n∧n≤65536)(w:World) :
  Calls Tryz.prog 144 #[.agg #[.int .i64 s,.int .i64 e],.int .i64 n] w fun en w'=>en=.returned (.agg #[.int .i64 (prodS (capS s 1) n),.int .i64 (prodS e n)])∧Below w.heap.size w w':=by
 obtain⟨w3,hw3,g3,r1,r2,r3⟩:=times_boxes w s e n
 obtain⟨a1,a2⟩:=two_cellsV r1
 have b1:=cell_rowV r2 (j:=0) rfl
 have hw:=Lib.hid hw3
 clear hw3
 have hc:min (s+1) 281474976710657=capS s 1:=rfl
 have hcb:0≤capS s 1∧capS s 1≤281474976710657:=by unfold capS tooMany;omega
 have H1:=Lib.hid (fun q=>product_any (capS s 1) n (w.heap.size+1) hcb hn (w3.drewN q) b1)
 have H2:=Lib.hid (fun q=>product_any e n (w.heap.size+1) he hn (w3.drewN q) b1)
 obtain⟨x,hx⟩:∃ x,x=capS s 1:=⟨_,rfl⟩
 rw [←hx] at H1 hc hcb ⊢
 clear hx
 obtain⟨P1,hP1⟩:∃ z,z=prodS x n:=⟨_,rfl⟩
 obtain⟨P2,hP2⟩:∃ z,z=prodS e n:=⟨_,rfl⟩
 rw [←hP1] at H1 ⊢
 rw [←hP2] at H2 ⊢
 clear hP1 hP2
 go_enter Tryz.func144,Tryz.ntmps144
 go_wp2_with fail
 rw [←hw.out]
 refine wp_region_quiet_tail 11 (by kernel_rfl) (by kernel_rfl) ?_
 simp only [List.take_succ_cons,List.take_zero,List.drop_succ_cons,List.drop_zero]
 repeat (go_big_quiet_step (first | (go_at_call_of 182 (Value.int .i64 x);exact (H1.out _).mono fun e w2 h=>⟨h.1,_,h.2⟩) | (go_at_call_of 182 (Value.int .i64 e);exact (H2.out _).mono fun e w2 h=>⟨h.1,_,h.2⟩)))
 refine wpQuiet_nil ?_
 intro _ hw'
 obtain⟨nr,hw''⟩:=hw'
 subst hw''
 have Hr:=Lib.hid (show rowV (w3.drewN nr) (w.heap.size+1+1) 151 #[.int .i64 0,.int .i64 0] from r3)
 go_wp2_with (refine wpList_store_row rfl 151 (.tmp 4) (.tmp 17) rfl _ #[.int .i64 P1,.int .i64 P2] rfl rfl _ _ Hr.out (hIb _ _) rfl (hA2 _ _) ?_)
 obtain⟨z1,z2⟩:=two_cellsV (setRow_heap (w3.drewN nr) (w.heap.size+1+1) _ #[.int .i64 P1,.int .i64 P2] _ _ Hr.out)
 refine bodyPost_ret (v:=.agg #[.int .i64 P1,.int .i64 P2]) (by simp [results,Tryz.results144,go_sem,z1,z2]) rfl ⟨rfl,belowRow (bdrew g3 nr) (by omega) _⟩
end Go.Proofs.YtpaplehcafeeaaaGreatDoor
