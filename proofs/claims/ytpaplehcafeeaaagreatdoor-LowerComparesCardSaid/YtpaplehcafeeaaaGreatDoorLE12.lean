/- Ai Au. -/
import Derived.Test.YtpaplehcafeeaaaGreatDoorLE10
import Derived.Test.YtpaplehcafeeaaaGreatDoorLE05
import Derived.Laws.RangeAny
import Derived.WalkMore
import Derived.Lib.OthersKept
set_option maxRecDepth 100000
set_option maxHeartbeats 40000000
set_option linter.unusedVariables false
set_option linter.unusedSimpArgs false
namespace Go.Proofs.YtpaplehcafeeaaaGreatDoor
open Go.RowKit Go.Proofs
theorem indexAny_gap:∀ x:List UInt8,Lib.indexAny x [32,9,10,59]=gapIx x
 | []=>rfl
 | b :: l=>by
  have ih:=indexAny_gap l
  have hb:([32,9,10,59]:List UInt8).contains b=gapB b:=by
   unfold gapB
   by_cases h1:b=32
   ·subst h1;rfl
   by_cases h2:b=9
   ·subst h2;rfl
   by_cases h3:b=10
   ·subst h3;rfl
   by_cases h4:b=59
   ·subst h4;rfl
   simp [h1,h2,h3,h4]
  rw [Lib.indexAny,hb]
  unfold gapIx
  cases hg:gapB b with
  | true=>simp [hg]
  | false=>
   rw [if_neg (by simp),ih,List.takeWhile_cons_of_pos (by simp [hg])]
   have ha:(b :: l).any gapB=l.any gapB:=by simp [hg]
   rw [ha]
   unfold gapIx
   by_cases h:l.any gapB=true
   ·rw [if_pos h,if_pos h,if_neg (by rw [beq_iff_eq];omega)];simp
   ·rw [if_neg h,if_neg h];rfl
theorem ixLong(x:List UInt8)(W:World)(h8:8 < x.length)(hx:x.length≤9000):Calls Tryz.prog 152 #[.string (strB x),.string ⟨#[32,9,10,59]⟩] W fun e w'=>e=.returned (.int .i64 (gapIx x))∧Below W.heap.size W w':=by
 refine (Tryz.strings_IndexAny_long (Go.zero_of_info (n:=256) (by kernel_rfl)).1 (strB x) ⟨#[32,9,10,59]⟩ W (by decide) h8 (by rw [strB_size'];omega) (by decide) (fun j b hb=>?_)).mono ?_
 ·have hm:b∈([32,9,10,59]:List UInt8):=List.mem_of_getElem? hb
  exact (by decide:∀ b∈([32,9,10,59]:List UInt8),b.toNat < 128) b hm
 ·rintro e w' ⟨rfl,hw⟩
  refine⟨?_,?_⟩
  ·show Ending.returned (.int .i64 (Lib.indexAny x [32,9,10,59]))=_
   rw [indexAny_gap]
  ·rw [hw]
   exact balloc (balloc (Below.refl _ _) _) _
end Go.Proofs.YtpaplehcafeeaaaGreatDoor
namespace Go.Proofs.YtpaplehcafeeaaaGreatDoor
open Go.RowKit Go.Proofs
def HiR(r:Nat):Prop:=128≤r∧(r < 55296∨57344≤r)∧r≤1114111
theorem u8_of(n:Nat)(h:n < 256):(UInt8.ofNat n).toNat=n:=by simp;omega
theorem encode_hi{r:Nat}(h:HiR r):∃ (L:Nat) (ys:List UInt8),Utf8.encode (r:Int)=strB ys∧ys.length=L+1∧1≤L∧L≤3∧128≤(ys.getD L 0).toNat:=by
 obtain⟨h1,h2,h3⟩:=h
 have v:Utf8.valid (r:Int)=true:=by simp [Utf8.valid];omega
 unfold Utf8.encode
 rw [if_pos v]
 simp only [Int.toNat_natCast]
 rw [if_neg (by omega)]
 by_cases c2:r < 2048
 ·rw [if_pos c2]
  refine⟨1,[_,_],rfl,rfl,by omega,by omega,?_⟩
  show 128≤(UInt8.ofNat (128+r % 64)).toNat
  rw [u8_of _ (by omega)];omega
 rw [if_neg c2]
 by_cases c3:r < 65536
 ·rw [if_pos c3]
  refine⟨2,[_,_,_],rfl,rfl,by omega,by omega,?_⟩
  show 128≤(UInt8.ofNat (128+r % 64)).toNat
  rw [u8_of _ (by omega)];omega
 rw [if_neg c3]
 refine⟨3,[_,_,_,_],rfl,rfl,by omega,by omega,?_⟩
 show 128≤(UInt8.ofNat (128+r % 64)).toNat
 rw [u8_of _ (by omega)];omega
theorem cont_of{s:ByteArray}{i:Nat}(h:(decide (i < s.size) && (s.get! i).toNat / 64==2)=true):i < s.size∧128≤(s.get! i).toNat:=by
 simp at h
 exact⟨h.1,by omega⟩
theorem decode_hi(s:ByteArray)(pos:Nat)(h:pos < s.size)(ha:128≤(s.get! pos).toNat):HiR (Utf8.decode s pos).1∧1≤(Utf8.decode s pos).2∧pos+(Utf8.decode s pos).2≤s.size∧∀ j,pos≤j→j < pos+(Utf8.decode s pos).2→128≤(s.get! j).toNat:=by
 have bad:HiR ((Utf8.runeError,1):Nat × Nat).1∧1≤((Utf8.runeError,1):Nat × Nat).2∧pos+((Utf8.runeError,1):Nat × Nat).2≤s.size∧∀ j,pos≤j→j < pos+((Utf8.runeError,1):Nat × Nat).2→128≤(s.get! j).toNat:=by
  refine⟨by unfold HiR Utf8.runeError;omega,by decide,by dsimp only;omega,fun j h1 h2=>?_⟩
  dsimp only at h2
  obtain rfl:j=pos:=by omega
  exact ha
 have hl:∀ k,(s.get! k).toNat < 256:=fun k=>UInt8.toNat_lt _
 have hv:∀ c:Nat,Utf8.valid (c:Int)=true→(c < 55296∨57344≤c)∧c≤1114111:=fun c hc=>by
  simp [Utf8.valid] at hc;omega
 unfold Utf8.decode
 simp only [Nat.add_zero]
 rw [if_neg (by omega)]
 split
 ·rename_i g
  rw [Bool.and_eq_true] at g
  obtain⟨l1,m1⟩:=cont_of g.2
  split
  ·rename_i g2
   refine⟨?_,by dsimp only;omega,by dsimp only;omega,fun j h1 h2=>?_⟩
   ·unfold HiR;dsimp only;have:=hl (pos+1);simp at g;omega
   ·dsimp only at h2
    rcases (by omega:j=pos∨j=pos+1) with rfl | rfl
    ·exact ha
    ·exact m1
  ·exact bad
 split
 ·rename_i g
  rw [Bool.and_eq_true,Bool.and_eq_true] at g
  obtain⟨l1,m1⟩:=cont_of g.1.2
  obtain⟨l2,m2⟩:=cont_of g.2
  split
  ·rename_i g2
   rw [Bool.and_eq_true] at g2
   have hq:=hv _ g2.2
   have g3:=of_decide_eq_true g2.1
   refine⟨?_,by dsimp only;omega,by dsimp only;omega,fun j h1 h2=>?_⟩
   ·unfold HiR;dsimp only;omega
   ·dsimp only at h2
    rcases (by omega:j=pos∨j=pos+1∨j=pos+2) with rfl | rfl | rfl
    ·exact ha
    ·exact m1
    ·exact m2
  ·exact bad
 split
 ·rename_i g
  rw [Bool.and_eq_true,Bool.and_eq_true,Bool.and_eq_true] at g
  obtain⟨l1,m1⟩:=cont_of g.1.1.2
  obtain⟨l2,m2⟩:=cont_of g.1.2
  obtain⟨l3,m3⟩:=cont_of g.2
  split
  ·rename_i g2
   rw [Bool.and_eq_true] at g2
   have hq:=hv _ g2.2
   have g3:=of_decide_eq_true g2.1
   refine⟨?_,by dsimp only;omega,by dsimp only;omega,fun j h1 h2=>?_⟩
   ·unfold HiR;dsimp only;omega
   ·dsimp only at h2
    rcases (by omega:j=pos∨j=pos+1∨j=pos+2∨j=pos+3) with rfl | rfl | rfl | rfl
    ·exact ha
    ·exact m1
    ·exact m2
    ·exact m3
  ·exact bad
 ·exact bad
theorem validRune_hi(r:Nat)(w:World)(h:HiR r):Calls Tryz.prog 217 #[.int .i32 (r:Int)] w fun e w'=>e=.returned (.bool true)∧w'=w:=by
 obtain⟨h1,h2,h3⟩:=h
 have e1:decide ((0:Int)≤(r:Int))=true:=by simp
 have e3:decide ((r:Int)≤1114111)=true:=by simp;omega
 have e3':decide (r≤1114111)=true:=by simpa using h3
 by_cases h4:r < 55296
 ·have e2:decide ((r:Int) < 55296)=true:=by simp;omega
  have e2':decide (r < 55296)=true:=by simpa using h4
  go_enter Tryz.func217,Tryz.ntmps217
  go_wp2_with fail
  go_ret
  exact⟨rfl,rfl⟩
 ·have e2:decide ((r:Int) < 55296)=false:=by simp;omega
  have e2':decide (r < 55296)=false:=by simp;omega
  have e4:decide ((57343:Int) < (r:Int))=true:=by simp;omega
  have e4':decide (57343 < r)=true:=by simp;omega
  go_enter Tryz.func217,Tryz.ntmps217
  go_wp2_with fail
  go_ret
  exact⟨rfl,rfl⟩
theorem ascii_none{x:List UInt8}(hx:∀ b∈x,b.toNat < 128){y:UInt8}(hy:128≤y.toNat)(k:Nat):decide (Lib.indexByte (x.drop k) y < 0)=true:=by
 rw [indexByte_mem]
 have:(x.drop k).contains y=false:=by
  rw [List.contains_eq_mem]
  exact decide_eq_false (fun h=>by have:=hx y (List.mem_of_mem_drop h);omega)
 rw [this];rfl
theorem indexRune_hi(x:List UInt8)(hx4:x.length=4)(hxa:∀ b∈x,b.toNat < 128)(r:Nat)(hr:HiR r)(w:World) :
  Calls Tryz.prog 186 #[.string (strB x),.int .i32 (r:Int)] w fun e w'=>e=.returned (.int .i64 (-1))∧Below w.heap.size w w':=by
 have HA:=Lib.hid hxa
 have HR:=Lib.hid hr
 have HV:=Lib.hid (fun W=>validRune_hi r W hr)
 obtain⟨h1,h2,h3⟩:=hr
 have hsz:(strB x).size=4:=hx4
 have e0:decide ((0:Int)≤(r:Int))=true:=by simp
 have e1:decide ((r:Int) < 128)=false:=by simp;omega
 have e1':decide (r < 128)=false:=by simp;omega
 clear hxa
 by_cases hre:r=65533
 ·subst hre
  go_enter Tryz.func186,Tryz.ntmps186
  go_wp2_with fail
  go_loopg [5,6] 4 (fun g _ _ wx=>∃ i:Nat,i+g=4∧wx=w.iter (strB x) i)
  case atStart=>exact⟨0,by omega,rfl⟩
  case round=>
   obtain⟨i,hig,rfl⟩:=hrel
   cases gk with
   | zero=>
    obtain rfl:i=(strB x).size:=by omega
    have hnx:=fun ty=>run_next_end (P:=Tryz.prog) w (strB x) (strB x).size ty (Nat.lt_irrefl _)
    rw [hsz] at hnx
    go_wp2_with fail
    go_ret
    exact⟨rfl,balloc (Below.refl _ _) _⟩
   | succ g=>
    have hi:i < (strB x).size:=by omega
    obtain⟨y,hy⟩:∃ y:UInt8,(strB x)[i]'hi=y:=⟨_,rfl⟩
    have hyl:y.toNat < 128:=HA.out y (by rw [←hy];exact List.getElem_mem (l:=x) (by rw [hx4];omega))
    have hnx:=fun ty=>run_next_ascii (P:=Tryz.prog) w (strB x) i ty hi (by rw [hy];exact hyl)
    rw [hy] at hnx
    have d1:(((y.toNat:Int))==65533)=false:=by simp;omega
    clear hy
    go_wp2_with fail
    go_roundg g
    case measure=>omega
    case rel=>exact⟨i+1,by omega,rfl⟩
 ·have d0:(((r:Int))==65533)=false:=by simp;omega
  obtain⟨L,ys,hE,hyl,hL1,hL3,hyh⟩:=encode_hi HR.out
  obtain⟨y,hy⟩:∃ y,y=ys.getD L 0:=⟨_,rfl⟩
  have hys:(strB ys).size=L+1:=hyl
  have hiy:∀ W:World,(Instr.index 9 (.string (strB ys)) (.int .i64 (L:Int))).run Tryz.prog W=.ok (.int .u8 (y.toNat:Int)) W:=fun W=>by
   rw [run_index_strB ys (k:=L) (by omega) W,hy];rfl
  obtain⟨z,hz⟩:∃ z,z=x.getD L 0:=⟨_,rfl⟩
  have hix:∀ W:World,(Instr.index 9 (.string (strB x)) (.int .i64 (L:Int))).run Tryz.prog W=.ok (.int .u8 (z.toNat:Int)) W:=fun W=>by
   rw [run_index_strB x (k:=L) (by omega) W,hz];rfl
  have hzl:z.toNat < 128:=HA.out z (by rw [hz,List.getD_eq_getElem?_getD,List.getElem?_eq_getElem (by omega:L < x.length)];exact List.getElem_mem _)
  rw [←hy] at hyh
  have hne:((z.toNat:Int)==(y.toNat:Int))=false:=by simp;omega
  have hwr:IntKind.i64.wrap ((L:Int)+1)=(L:Int)+1:=by
   rcases (by omega:L=1∨L=2∨L=3) with h | h | h <;> rw [h] <;> decide
  have hnb:((z.toNat:Int) != (y.toNat:Int))=true:=by simp;omega
  have hne':(z==y)=false:=by simp;intro e;rw [e] at hzl;omega
  have hcut:∀ W:World,(Instr.slice 9 (.string (strB x)) (some (.int .i64 ((L:Int)+1))) none none).run Tryz.prog W=.ok (.string (strB (x.drop (L+1)))) W:=fun W=>run_cutS_l x (i:=L+1) (by omega) W
  have HI:=Lib.hid (fun W=>indexByteS_any (x.drop (L+1)) y W)
  have hlt:=ascii_none HA.out hyh (L+1)
  obtain⟨q,hq⟩:∃ q,q=Lib.indexByte (x.drop (L+1)) y:=⟨_,rfl⟩
  rw [←hq] at HI hlt
  have e4:decide ((L:Int) < 4)=true:=by simp;omega
  have e4':decide (L < 4)=true:=by simp;omega
  clear hq hy hz
  go_enter Tryz.func186,Tryz.ntmps186
  go_wp2_with fail
  refine (HV.out _).mono ?_
  rintro e w1 ⟨rfl,hw1⟩
  obtain rfl:w=w1:=hw1.symm
  go_wp2_with fail
  go_step3
  go_wp2_with fail
  go_loop [9,10,11] (fun i j _=>i=.int .i64 (L:Int)∧j=.int .i64 0) (fun _ _ _=>1)
  case atStart=>exact⟨rfl,rfl⟩
  case round=>
   obtain⟨rfl,rfl⟩:=hrel
   go_wp2_with fail
   go_step3
   go_wp2_with fail
   go_quiet (fail)
   go_wp2_with fail
   go_quiet (first | (go_at_call 151;exact (HI.out _).mono fun e w2 h=>⟨h.1,_,h.2⟩))
   go_wp2_with fail
   show bodyPost Tryz.prog Tryz.f186 (fun e w'=>e=.returned (.int .i64 (-1))∧Below w.heap.size w w') .ret _ _
   go_ret
   refine⟨rfl,?_⟩
   first | exact (Drawn.drewN _ _).below _ | exact ((Drawn.drewN _ _).step _).below _
end Go.Proofs.YtpaplehcafeeaaaGreatDoor
namespace Go.Proofs.YtpaplehcafeeaaaGreatDoor
open Go.RowKit Go.Proofs
theorem gapIx_at:∀ (x:List UInt8) (p:Nat),p < x.length→(∀ j,j < p→gapB (x.getD j 0)=false)→gapB (x.getD p 0)=true→gapIx x=(p:Int)
 | [],p,h,_,_=>by simp at h
 | b :: l,0,_,_,hg=>by
  have hb:gapB b=true:=by simpa using hg
  unfold gapIx
  simp [hb]
 | b :: l,p+1,h,hj,hg=>by
  have hb:gapB b=false:=by simpa using hj 0 (by omega)
  have ih:=gapIx_at l p (by simpa using h) (fun j hjp=>by have:=hj (j+1) (by omega);simpa using this) (by simpa using hg)
  unfold gapIx at ih ⊢
  by_cases ha:l.any gapB=true
  ·rw [if_pos ha] at ih
   rw [if_pos (by simp [ha]),List.takeWhile_cons_of_pos (by simp [hb])]
   simp only [List.length_cons]
   omega
  ·rw [if_neg ha] at ih;omega
theorem gapIx_none{x:List UInt8}(h:∀ j,j < x.length→gapB (x.getD j 0)=false):gapIx x=-1:=by
 unfold gapIx
 rw [if_neg]
 intro ha
 rw [List.any_eq_true] at ha
 obtain⟨b,hb,hg⟩:=ha
 obtain⟨k,hk,rfl⟩:=List.getElem_of_mem hb
 have:=h k hk
 rw [List.getD_eq_getElem?_getD,List.getElem?_eq_getElem hk] at this
 rw [Option.getD_some,hg] at this
 cases this
theorem gapB_hi{b:UInt8}(h:128≤b.toNat):gapB b=false:=by
 have:∀ c:Fin 256,128≤c.val→gapB (UInt8.ofNat c.val)=false:=by decide +kernel
 have:=this ⟨b.toNat,b.toNat_lt⟩ h
 simpa using this
theorem shouldUse_any(n:Nat)(w:World)(h:n≤8):Calls Tryz.prog 187 #[.int .i64 (n:Int)] w fun e w'=>e=.returned (.bool false)∧w'=w:=by
 have d:decide ((8:Int) < (n:Int))=false:=by simp;omega
 have d':decide (8 < n)=false:=by simp;omega
 go_enter Tryz.func187,Tryz.ntmps187
 go_wp2_with fail
 go_ret
 exact⟨rfl,rfl⟩
theorem gaps_contains(b:UInt8):([32,9,10,59]:List UInt8).contains b=gapB b:=by
 have:∀ c:Fin 256,([32,9,10,59]:List UInt8).contains (UInt8.ofNat c.val)=gapB (UInt8.ofNat c.val):=by decide +kernel
 have:=this ⟨b.toNat,b.toNat_lt⟩
 simpa using this
theorem strB_at(x:List UInt8){p:Nat}(h:p < (strB x).size):(strB x)[p]'h=x.getD p 0:=by
 have h':p < x.length:=h
 rw [List.getD_eq_getElem?_getD,List.getElem?_eq_getElem h']
 rfl
theorem ixShort(x:List UInt8)(w:World)(h8:x.length≤8):Calls Tryz.prog 152 #[.string (strB x),.string ⟨#[32,9,10,59]⟩] w fun e w'=>e=.returned (.int .i64 (gapIx x))∧Below w.heap.size w w':=by
 have hsz:=strB_size' x
 have HS:=Lib.hid (fun W=>shouldUse_any x.length W h8)
 obtain⟨z,hz⟩:∃ z,z=gapIx x:=⟨_,rfl⟩
 rw [←hz]
 have HZ:=Lib.hid hz
 clear hz
 have hk0:(w.iter (strB x) 0).heap[w.heap.size]?=some (.stringIter (strB x) 0):=World.iter_heap _ _ _
 have hb0:Below w.heap.size w (w.iter (strB x) 0):=balloc (Below.refl _ _) _
 have HK0:=Lib.hid hk0
 have HB0:=Lib.hid hb0
 clear hk0 hb0
 go_enter Tryz.func152,Tryz.ntmps152
 go_wp2_with fail
 refine (HS.out _).mono ?_
 rintro e w1 ⟨rfl,hw1⟩
 obtain rfl:w=w1:=hw1.symm
 go_wp2_with fail
 go_loopw [9,10] (fun _ _ wr=>∃ pos:Nat,pos≤x.length∧wr.heap[w.heap.size]?=some (.stringIter (strB x) pos)∧Below w.heap.size w wr∧Hid (∀ j,j < pos→gapB (x.getD j 0)=false)) (fun _ _ wr=>x.length-wr.iterPos w.heap.size)
 case atStart=>exact⟨0,Nat.zero_le _,HK0.out,HB0.out,fun j hj=>absurd hj (by omega)⟩
 case round=>
  clear HS HK0 HB0
  obtain⟨pos,hp,hk,hb,HJ⟩:=hrel
  have hmu:wr.iterPos w.heap.size=pos:=by simp [World.iterPos,hk]
  by_cases hlt:pos < x.length
  ·have hlt':pos < (strB x).size:=hlt
   have hat:=strB_at x hlt'
   by_cases h128:(x.getD pos 0).toNat < 128
   ·have hnext:∀ ty,(Instr.next (.pointer (some ⟨w.heap.size,0,none⟩)) true ty).run Tryz.prog wr=_:=fun ty=>Lib.run_next_ascii_at wr w.heap.size (strB x) pos ty hk hlt' (by rw [hat];exact h128)
    have hk1:=Lib.iterAt_heap wr w.heap.size (strB x) pos (pos+1) hk
    have hb1:Below w.heap.size w (wr.iterAt w.heap.size (strB x) (pos+1)):=Lib.below_iterAt hb (Nat.le_refl _) (strB x) (pos+1)
    generalize wr.iterAt w.heap.size (strB x) (pos+1)=W1 at hnext hk1 hb1
    rw [hat] at hnext
    have HA:=Lib.hid (fun h=>gapIx_at x pos hlt HJ.out h)
    have HN:Hid (gapB (x.getD pos 0)=false→∀ j,j < pos+1→gapB (x.getD j 0)=false):=fun h j hj=>by
     rcases Nat.lt_or_ge j pos with h1 | h1
     ·exact HJ.out j h1
     ·obtain rfl:j=pos:=by omega
      exact h
    obtain⟨b,hbe⟩:∃ b,b=x.getD pos 0:=⟨_,rfl⟩
    rw [←hbe] at hnext h128 HA HN
    have H1:=Tryz.strings_IndexRune_ascii ⟨#[32,9,10,59]⟩ (b.toNat:Int) W1 (by omega) (by omega)
    rw [show ((b.toNat:Int)).toNat.toUInt8=b by simp] at H1
    have hm:=indexByte_mem [32,9,10,59] b
    rw [gaps_contains] at hm
    have H1':Calls Tryz.prog 186 #[.string ⟨#[32,9,10,59]⟩,.int .i32 (b.toNat:Int)] W1 fun e w'=>e=.returned (.int .i64 (Lib.indexByte [32,9,10,59] b))∧w'=W1:=H1
    obtain⟨q,hq⟩:∃ q,q=Lib.indexByte [32,9,10,59] b:=⟨_,rfl⟩
    rw [←hq] at H1' hm
    have HR:=Lib.hid H1'
    clear hbe hq hat H1 H1' HJ hb hk
    cases hg:gapB b with
    | true=>
     rw [hg] at hm
     have HA':=Lib.hid (HA.out hg)
     have dq:decide (0≤q)=true:=by
      have:¬ q < 0:=by simpa using hm
      exact decide_eq_true (by omega)
     clear HA HN hg hm
     go_wp2_with fail
     refine HR.out.mono ?_
     rintro e w2 ⟨rfl,hw2⟩
     obtain rfl:W1=w2:=hw2.symm
     go_wp2_with fail
     go_ret
     exact⟨ret_int (by rw [HZ.out,HA'.out]),hb1⟩
    | false=>
     rw [hg] at hm
     have HN':=Lib.hid (HN.out hg)
     have dq:decide (0≤q)=false:=by
      have:q < 0:=by simpa using hm
      exact decide_eq_false (by omega)
     clear HA HN hg hm
     go_wp2_with fail
     refine HR.out.mono ?_
     rintro e w2 ⟨rfl,hw2⟩
     obtain rfl:W1=w2:=hw2.symm
     go_wp2_with fail
     go_roundw
     case rel=>exact⟨pos+1,by omega,hk1,hb1,HN'.out⟩
     case measure=>
      have:W1.iterPos w.heap.size=pos+1:=by simp [World.iterPos,hk1]
      rw [this,hmu];omega
   ·have hdec:=decode_hi (strB x) pos hlt' (by
     have:(strB x).get! pos=(strB x)[pos]'hlt':=by
      have:=get_at (strB x) pos hlt'
      simpa using this
     rw [this,hat];omega)
    have hnext:∀ ty,(Instr.next (.pointer (some ⟨w.heap.size,0,none⟩)) true ty).run Tryz.prog wr=_:=fun ty=>Lib.run_next_any_at wr w.heap.size (strB x) pos ty hk hlt'
    obtain⟨r,hr⟩:∃ r,r=(Utf8.decode (strB x) pos).1:=⟨_,rfl⟩
    obtain⟨k,hkk⟩:∃ k,k=(Utf8.decode (strB x) pos).2:=⟨_,rfl⟩
    rw [←hr,←hkk] at hdec hnext
    have hk1:=Lib.iterAt_heap wr w.heap.size (strB x) pos (pos+k) hk
    have hb1:Below w.heap.size w (wr.iterAt w.heap.size (strB x) (pos+k)):=Lib.below_iterAt hb (Nat.le_refl _) (strB x) (pos+k)
    generalize wr.iterAt w.heap.size (strB x) (pos+k)=W1 at hnext hk1 hb1
    obtain⟨d1,d2,d3,d4⟩:=hdec
    have HN:Hid (∀ j,j < pos+k→gapB (x.getD j 0)=false):=fun j hj=>by
     rcases Nat.lt_or_ge j pos with h1 | h1
     ·exact HJ.out j h1
     ·have hjl:j < (strB x).size:=Nat.lt_of_lt_of_le hj d3
      have h5:=d4 j h1 hj
      have:(strB x).get! j=(strB x)[j]'hjl:=by
       have:=get_at (strB x) j hjl
       simpa using this
      rw [this,strB_at x hjl] at h5
      exact gapB_hi h5
    have hlk:pos+k≤x.length:=d3
    have HR:=Lib.hid (indexRune_hi [32,9,10,59] rfl (by decide) r d1 W1)
    have hlt1:w.heap.size < W1.heap.size:=by
     rcases Nat.lt_or_ge w.heap.size W1.heap.size with h | h
     ·exact h
     ·rw [Array.getElem?_eq_none h] at hk1;cases hk1
    have hz4:Hid ((⟨#[32,9,10,59]⟩:ByteArray)=strB [32,9,10,59]):=rfl
    rw [←hz4.out] at HR
    clear hr hkk d1 d4 HJ hb hk hat h128 hz4
    go_wp2_with fail
    refine HR.out.mono ?_
    rintro e w2 ⟨rfl,hb2⟩
    have hk2:w2.heap[w.heap.size]?=some (.stringIter (strB x) (pos+k)):=(hb2.block _ hlt1).trans hk1
    have hb3:=hb1.trans (hb2.mono hb1.size)
    go_wp2_with fail
    go_roundw
    case rel=>exact⟨pos+k,hlk,hk2,hb3,HN.out⟩
    case measure=>
     have:w2.iterPos w.heap.size=pos+k:=by simp [World.iterPos,hk2]
     rw [this,hmu];omega
  ·obtain rfl:pos=x.length:=by omega
   have hnext:∀ ty,(Instr.next (.pointer (some ⟨w.heap.size,0,none⟩)) true ty).run Tryz.prog wr=_:=fun ty=>Lib.run_next_end_at wr w.heap.size (strB x) x.length ty hk (by show ¬ x.length < x.length;omega)
   have HA:=Lib.hid (gapIx_none HJ.out)
   clear HJ
   go_wp2_with fail
   go_ret
   exact⟨ret_int (by rw [HZ.out,HA.out]),hb⟩
theorem ixAny:IxAny:=fun x W hx=>by
 rcases Nat.lt_or_ge 8 x.length with h | h
 ·exact ixLong x W h hx
 ·exact ixShort x W h
end Go.Proofs.YtpaplehcafeeaaaGreatDoor
