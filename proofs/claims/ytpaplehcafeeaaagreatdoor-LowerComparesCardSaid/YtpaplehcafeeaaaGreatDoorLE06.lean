/- Ie. -/
import Derived.Test.YtpaplehcafeeaaaGreatDoorLE04
import Derived.Test.YtpaplehcafeeaaaGreatDoorLE05
import Derived.WalkSpells
import Derived.Lib.ItoaNum
set_option maxRecDepth 100000
set_option maxHeartbeats 40000000
set_option linter.unusedVariables false
set_option linter.unusedSimpArgs false
namespace Go.Proofs.YtpaplehcafeeaaaGreatDoor
open Go.RowKit Go.Proofs
def RetOwn(B:Nat)(w:World)(xs:List UInt8)(e:Ending)(w':World):Prop:=∃ A n c,e=.returned (.slice A n c)∧Own encB w' B 5 A n c xs∧Below B w w'
theorem RetOwn.mk{B:Nat}{w w':World}{xs:List UInt8}{A:Option Addr}{n c:Nat}(h:Own encB w' B 5 A n c xs)(hb:Below B w w'):RetOwn B w xs (.returned (.slice A n c)) w':=⟨A,n,c,rfl,h,hb⟩
theorem number_any(n:Nat)(w:World)(hn:n≤9007199254740991):Calls Tryz.prog 176 #[.int .i64 (n:Int)] w fun e w'=>e=.returned (.int .i64 (n:Int))∧w'=w:=by
 have d1:decide ((n:Int) < 0)=false:=by simp
 have d2:decide ((9007199254740991:Int) < (n:Int))=false:=by simp;omega
 go_enter Tryz.func176,Tryz.ntmps176
 go_wp2
 go_ret
 exact⟨rfl,rfl⟩
def furL(n:Nat):Nat:=(Lib.bitLen n-1) / 7
theorem further_any(n:Nat)(w:World)(hn:n < 4611686018427387904):Calls Tryz.prog 177 #[.int .i64 (n:Int)] w fun e w'=>e=.returned (.int .i64 ((furL n:Nat):Int))∧w'=w:=by
 have hcal:=Tryz.bits_Len (n:Int) w (by omega) (by omega)
 rw [Int.toNat_natCast] at hcal
 have Hcal:=Lib.hid hcal;clear hcal
 have hbl:Lib.bitLen n≤62:=Lib.bitLen_le n 62 (by omega) (by omega)
 have hf:Hid (furL n=(Lib.bitLen n-1) / 7):=rfl
 obtain⟨bl,hb⟩:∃ bl,bl=Lib.bitLen n:=⟨_,rfl⟩
 rw [←hb] at Hcal hbl hf
 clear hb
 have hw:IntKind.u64.wrap (n:Int)=(n:Int):=by simp [IntKind.wrap,IntKind.bits,IntKind.signed];omega
 go_enter Tryz.func177,Tryz.ntmps177
 go_wp2_with fail
 refine Hcal.out.mono ?_
 rintro e w1 ⟨rfl,hw1⟩
 obtain rfl:w=w1:=hw1.symm
 go_wp2_with fail
 go_ret
 exact⟨ret_int (by rw [hf.out];omega),rfl⟩
theorem furL_le{n:Nat}(hn:n≤9007199254740991):furL n≤7:=by
 have:Lib.bitLen n≤53:=Lib.bitLen_le n 53 (by omega) (by omega)
 unfold furL;omega
theorem lt_bitLen:∀ (f x:Nat),x < 2 ^ f→f≤64→x < 2 ^ Lib.bitLen x
 | 0,x,h,_=>by
  have:x=0:=by simp at h;exact h
  subst this
  exact Nat.two_pow_pos _
 | f+1,x,h,hf=>by
  rcases Nat.eq_zero_or_pos x with h0 | h0
  ·subst h0;exact Nat.two_pow_pos _
  ·have h1:x < 2 ^ 64:=Nat.lt_of_lt_of_le h (Nat.pow_le_pow_right (by omega) hf)
   rw [Lib.bitLen_half x (by omega) h1,Nat.pow_add]
   have:=lt_bitLen f (x / 2) (by rw [Nat.pow_succ] at h;omega) (by omega)
   omega
theorem furL_lt{n:Nat}(hn:n≤9007199254740991):n < 2 ^ (7 * (furL n+1)):=by
 have h:=lt_bitLen 64 n (by omega) (Nat.le_refl _)
 have h2:Lib.bitLen n≤7 * (furL n+1):=by unfold furL;omega
 exact Nat.lt_of_lt_of_le h (Nat.pow_le_pow_right (by omega) h2)
def headG(n:Nat):UInt8:=UInt8.ofNat (256-2 ^ (8-furL n)+n / 2 ^ (8 * furL n))
def tailG(n:Nat):Nat→List UInt8
 | 0=>[]
 | i+1=>UInt8.ofNat (n / 2 ^ (8 * i)) :: tailG n i
def putG(n:Nat):List UInt8:=headG n :: tailG n (furL n)
theorem tailG_length(n:Nat):∀ i,(tailG n i).length=i
 | 0=>rfl
 | i+1=>by rw [tailG,List.length_cons,tailG_length n i]
theorem putG_length(n:Nat):(putG n).length=furL n+1:=by rw [putG,List.length_cons,tailG_length]
theorem or_mark:∀ k:Fin 8,∀ x:Fin 128,x.val < 2 ^ (7-k.val)→bits BinOp.or IntKind.u8 (255 * 2 ^ (8-k.val) % 256) (x.val:Int)=((256-2 ^ (8-k.val)+x.val:Nat):Int):=by decide +kernel
theorem encB_ofNat{x:Nat}(h:x < 256):encB (UInt8.ofNat x)=.int .u8 (x:Int):=by unfold encB;rw [UInt8.toNat_ofNat',Nat.mod_eq_of_lt h]
theorem encB_mod(x:Nat):encB (UInt8.ofNat x)=.int .u8 ((x % 256:Nat):Int):=by unfold encB;rw [UInt8.toNat_ofNat']
theorem cast_div(n i:Nat):(n:Int) / 2 ^ (8 * i) % 256=((n / 2 ^ (8 * i) % 256:Nat):Int):=by rw [Int.natCast_emod,Int.natCast_ediv,Int.natCast_pow];rfl
theorem head_val{n:Nat}(hn:n≤9007199254740991):encB (headG n)=.int .u8 (bits BinOp.or IntKind.u8 (255 * 2 ^ (8-furL n) % 256) ((n:Int) / 2 ^ (8 * furL n) % 256)):=by
 have hk:=furL_le hn
 have h1:=furL_lt hn
 obtain⟨k,hke⟩:∃ k,k=furL n:=⟨_,rfl⟩
 unfold headG
 rw [←hke] at hk h1 ⊢
 have h2:n / 2 ^ (8 * k) < 2 ^ (7-k):=by
  rw [Nat.div_lt_iff_lt_mul (Nat.two_pow_pos _),←Nat.pow_add,show 7-k+8 * k=7 * (k+1) by omega]
  exact h1
 have h3:2 ^ (7-k)≤2 ^ 7:=Nat.pow_le_pow_right (by omega) (by omega)
 have h4:2 ^ (8-k)=2 * 2 ^ (7-k):=by rw [show 8-k=(7-k)+1 by omega,Nat.pow_succ,Nat.mul_comm]
 have h5:2 ^ 7=128:=rfl
 have h6:=or_mark ⟨k,by omega⟩ ⟨n / 2 ^ (8 * k),by omega⟩ h2
 have h7:(n:Int) / 2 ^ (8 * k) % 256=((n / 2 ^ (8 * k):Nat):Int):=by rw [cast_div,Nat.mod_eq_of_lt (by omega)]
 rw [h7]
 dsimp only at h6
 rw [h6,encB_ofNat (by omega)]
theorem put_any(B:Nat)(A:Option Addr)(m c:Nat)(xs:List UInt8)(n:Nat)(w:World)(hown:Own encB w B 5 A m c xs)(hB:B≤w.heap.size)(hm:m≤1000000)(hn:n≤9007199254740991) :
  Calls Tryz.prog 135 #[.slice A m c,.int .i64 (n:Int)] w (RetOwn B w (xs++putG n)):=by
 have h1:=Lib.hid (number_any n w (by omega))
 have H2:=Lib.hid (further_any n w (by omega))
 have hk:=furL_le hn
 have hv:=Lib.hid (head_val hn)
 have hP:Hid (xs++putG n=(xs++[headG n])++tailG n (furL n)):=by show _=_;rw [List.append_assoc];rfl
 obtain⟨k,hke⟩:∃ k,k=furL n:=⟨_,rfl⟩
 rw [←hke] at H2 hk hv hP
 clear hke
 obtain⟨hd,hhd⟩:∃ hd,hd=headG n:=⟨_,rfl⟩
 rw [←hhd] at hv hP
 clear hhd
 have m1:Hid (m+1≤maxLen∧(m+1) * 1≤140737488355328):=⟨by simp [maxLen];omega,by omega⟩
 go_enter Tryz.func135,Tryz.ntmps135
 go_wp2_with (first
  | (go_at_call 176;refine h1.out.mono ?_;rintro e w1 ⟨rfl,hw1⟩;obtain rfl:w=w1:=hw1.symm)
  | (go_at_call 177;refine H2.out.mono ?_;rintro e w1 ⟨rfl,hw1⟩;obtain rfl:w=w1:=hw1.symm)
  | (at_builtin;refine wpList_pushv (enc:=encB) rfl (.tmp 15) (.tmp 23) rfl uB infoB encB_one rfl rfl hown hB hd _ hv.out rfl m1.out.1 m1.out.2 ?_;intro A6 c6 W6 ho6 hb6))
 clear h1 H2 hv m1
 go_loopw [0,7] (fun d i wr=>∃ (j n3 c3:Nat) (A3:Option Addr) (ys:List UInt8),j≤k∧i=.int .i64 ((j:Int)-1)∧d=.slice A3 n3 c3∧n3≤m+1+(k-j)∧Own encB wr B 5 A3 n3 c3 ys∧Hid (ys++tailG n j=xs++putG n)∧Below B w wr) (fun _ i _=>(intOf i+1).toNat)
 case atStart=>exact⟨k,_,_,_,_,Nat.le_refl _,rfl,rfl,by omega,ho6,hP.out.symm,hb6⟩
 case round=>
  clear ho6 hb6
  obtain⟨j,n3,c3,A3,ys,hj,rfl,rfl,hn3,ho3,HY,hb3⟩:=hrel
  cases j with
  | zero=>
   have HY':Hid (ys=xs++putG n):=by show _=_;rw [←HY.out];exact (List.append_nil _).symm
   have d1:decide ((0:Int)≤((0:Nat):Int)-1)=false:=by decide
   go_wp2_with fail
   go_ret
   rw [HY'.out] at ho3
   exact RetOwn.mk ho3 hb3
  | succ j=>
   have hv:Hid (encB (UInt8.ofNat (n / 2 ^ (8 * j)))=.int .u8 ((n:Int) / 2 ^ (8 * j) % 256)):=by show _=_;rw [cast_div];exact encB_mod _
   have m1:Hid (n3+1≤maxLen∧(n3+1) * 1≤140737488355328):=⟨by simp [maxLen];omega,by omega⟩
   have hB3:B≤wr.heap.size:=Nat.le_trans hB hb3.size
   have HY':Hid ((ys++[UInt8.ofNat (n / 2 ^ (8 * j))])++tailG n j=xs++putG n):=by show _=_;rw [←HY.out,List.append_assoc];rfl
   have e1:((j+1:Nat):Int)-1=(j:Int):=by omega
   rw [e1]
   obtain⟨bt,hbt⟩:∃ bt,bt=UInt8.ofNat (n / 2 ^ (8 * j)):=⟨_,rfl⟩
   rw [←hbt] at hv HY'
   clear hbt HY e1
   go_wp2_with (at_builtin;refine wpList_pushv (enc:=encB) rfl (.tmp 31) (.tmp 37) rfl uB infoB encB_one rfl rfl ho3 hB3 bt _ hv.out rfl m1.out.1 m1.out.2 ?_;intro A7 c7 W7 ho7 hb7)
   go_roundw
   case rel=>exact⟨j,n3+1,c7,A7,_,by omega,by go_num,rfl,by omega,ho7,HY'.out,hb3.trans hb7⟩
   case measure=>simp [intOf]
end Go.Proofs.YtpaplehcafeeaaaGreatDoor
namespace Go.Proofs.YtpaplehcafeeaaaGreatDoor
open Go.RowKit Go.Proofs
theorem own_empty(w:World)(e:TypeId):Own encB (w.alloc (.cells #[] e)) w.heap.size e (some ⟨w.heap.size,0,none⟩) 0 0 []:=
 ⟨rfl,.inr ⟨w.heap.size,0,#[],rfl,Nat.le_refl _,heap_alloc_new w _,Nat.le_refl _,by simp [maxLen],rfl,rfl⟩⟩
theorem clone_any(A:Option Addr)(m c:Nat)(xs:List UInt8)(w:World)(hx:Bytes w A m c xs)(hm:m≤1000000) :
  Calls Tryz.prog 136 #[.slice A m c] w (RetOwn w.heap.size w xs):=by
 have hq:=Lib.run_eql_slice_nil (P:=Tryz.prog)
 cases A with
 | none=>
  have h0:m=0:=by
   rcases Nat.eq_zero_or_pos m with h | h
   ·exact h
   ·obtain⟨b,off,e,_⟩:=hx.2.2 h;cases e
  subst h0
  have hxs:xs=[]:=List.length_eq_zero_iff.1 hx.1
  subst hxs
  have hr:∀ w:World,(binOp .eql 131 (.slice none 0 c) (.slice none 0 0)).run Tryz.prog w=.ok (.bool true) w:=fun w=>by rw [hq w _ _ _ _ _ _ _ uB];rfl
  clear hq
  go_enter Tryz.func136,Tryz.ntmps136
  go_wp2_with fail
  go_ret
  exact RetOwn.mk (Own.nil _ _ _ _) (Below.refl _ _)
 | some a=>
  have hr:∀ w:World,(binOp .eql 131 (.slice (some a) m c) (.slice none 0 0)).run Tryz.prog w=.ok (.bool false) w:=fun w=>by rw [hq w _ _ _ _ _ _ _ uB];rfl
  clear hq
  have hb0:Below w.heap.size w (w.alloc (.cells #[] 5)):=(Below.refl _ _).alloc (Nat.le_refl _) _
  have hx1:=hx.below hb0
  have m1:Hid (0+m≤maxLen∧(0+m) * 1≤140737488355328):=⟨by simp [maxLen];omega,by omega⟩
  have hB:Hid (w.heap.size≤(w.alloc (.cells #[] 5)).heap.size):=hb0.size
  go_enter Tryz.func136,Tryz.ntmps136
  go_wp2_with (at_builtin;refine wpList_app (enc:=encB) rfl (.tmp 5) (.tmp 6) rfl uB infoB encB_one rfl rfl (own_empty w _) hB.out (some a) m c xs 0 hx1.1 hx1.2.2 rfl m1.out.1 m1.out.2 ?_;intro A6 c6 W6 ho6 hb6 hg6)
  go_ret
  rw [List.nil_append,Nat.zero_add] at ho6
  exact RetOwn.mk ho6 (hb0.trans hb6)
theorem putInt_any(A:Option Addr)(m c:Nat)(xs:List UInt8)(n:Nat)(w:World)(hx:Bytes w A m c xs)(hm:m≤900000)(hn:n≤9007199254740991) :
  Calls Tryz.prog 103 #[.slice A m c,.int .i64 (n:Int)] w (RetOwn w.heap.size w (xs++putG n)):=by
 have hcal:=Lib.hid (clone_any A m c xs w hx (by omega))
 have Hm:=Lib.hid hx.1
 go_enter Tryz.func103,Tryz.ntmps103
 go_wp2_with fail
 refine hcal.out.mono ?_
 rintro e w1 ⟨A1,n1,c1,rfl,ho1,hb1⟩
 have hn1:n1≤900000:=by rw [←ho1.length,Hm.out];exact hm
 have hcal2:=Lib.hid (put_any w.heap.size A1 n1 c1 xs n w1 ho1 hb1.size (by omega) hn)
 go_wp2_with fail
 refine hcal2.out.mono ?_
 rintro e w2 ⟨A2,n2,c2,rfl,ho2,hb2⟩
 go_wp2_with fail
 go_ret
 exact RetOwn.mk ho2 (hb1.trans hb2)
def pw(k:Nat):Nat:=2 ^ k
theorem bitLen_bounds{n:Nat}(h:n < 18446744073709551616)(h0:n≠0):1≤Lib.bitLen n∧2 ^ (Lib.bitLen n-1)≤n∧n < 2 ^ Lib.bitLen n:=Lib.bitLenAux_bounds 64 n (by omega) h0
end Go.Proofs.YtpaplehcafeeaaaGreatDoor
