/- Vh Vi Vj. -/
import Derived.Test.YtepoclhdklgnhaaGreatDoorRC19
import Derived.Test.YtepoclhdklgnhaaGreatDoorRC03
set_option maxRecDepth 100000
set_option maxHeartbeats 40000000
set_option linter.unusedVariables false
set_option linter.unusedSimpArgs false
namespace Go.Proofs.YtepoclhdklgnhaaGreatDoor
open Go.RowKit Go.Proofs
def ivV(x:Iv):Value:=.agg #[.int .i64 x.lo,.int .i64 x.hi]
theorem four_cellsV{w:World}{g:Nat}{t:TypeId}{a b c d:Value}(h:rowV w g t #[a,b,c,d]):w.cell? ⟨g,0,none⟩=some a∧w.cell? ⟨g,1,none⟩=some b∧w.cell? ⟨g,2,none⟩=some c∧w.cell? ⟨g,3,none⟩=some d:=⟨cell_rowV h rfl,cell_rowV h rfl,cell_rowV h rfl,cell_rowV h rfl⟩
theorem boxesO(w:World)(a b c d:Int):∃ w0,w0=(w.alloc (.cells #[.int .i64 a,.int .i64 b,.int .i64 c,.int .i64 d] 260)).alloc (.cells #[.int .i64 0,.int .i64 0] 55)∧Below w.heap.size w w0∧rowV w0 w.heap.size 260 #[.int .i64 a,.int .i64 b,.int .i64 c,.int .i64 d]∧rowV w0 (w.heap.size+1) 55 #[.int .i64 0,.int .i64 0]:=by
 have r1:=rowV.new w 260 #[.int .i64 a,.int .i64 b,.int .i64 c,.int .i64 d]
 have r2:=rowV.new (w.alloc (.cells #[.int .i64 a,.int .i64 b,.int .i64 c,.int .i64 d] 260)) 55 #[.int .i64 0,.int .i64 0]
 have k1:=balloc (Below.refl _ (w.alloc (.cells #[.int .i64 a,.int .i64 b,.int .i64 c,.int .i64 d] 260))) (.cells #[.int .i64 0,.int .i64 0] 55)
 have e1:(w.alloc (.cells #[.int .i64 a,.int .i64 b,.int .i64 c,.int .i64 d] 260)).heap.size=w.heap.size+1:=by simp
 rw [e1] at r2
 exact⟨_,rfl,balloc (balloc (Below.refl _ _) _) _,r1.below k1 r1.lt,r2⟩
theorem shifted_any(lo hi:Int)(h1:-8589934592≤lo)(h2:hi≤17179869184)(h3:lo≤hi)(w:World):Calls Tryz.prog 207 #[.int .i64 lo,.int .i64 hi] w fun e w'=>e=.returned (ivV (shiftI lo hi))∧Below w.heap.size w w':=by
 unfold shiftI
 by_cases c1:0≤lo
 ·have d1:decide (0≤lo)=true:=decide_eq_true c1
  by_cases c2:hi≤4294967295
  ·have d2:decide (hi≤4294967295)=true:=decide_eq_true c2
   rw [if_pos ⟨c1,c2⟩]
   go_enter Tryz.func207,Tryz.ntmps207
   go_wp2_with fail
   refine bodyPost_ret (v:=.agg #[.int .i64 lo,.int .i64 hi]) (by simp [results,Tryz.results207,go_sem]) rfl ⟨rfl,balloc (Below.refl _ _) _⟩
  ·have d2:decide (hi≤4294967295)=false:=decide_eq_false c2
   rw [if_neg (by omega)]
   by_cases c3:4294967295 < lo
   ·have d3:decide (4294967295 < lo)=true:=decide_eq_true c3
    rw [if_pos c3]
    have e1:lo-4294967295-1=lo-4294967296:=by omega
    have e2:hi-4294967295-1=hi-4294967296:=by omega
    go_enter Tryz.func207,Tryz.ntmps207
    go_wp2_with fail
    refine bodyPost_ret (v:=.agg #[.int .i64 (lo-4294967296),.int .i64 (hi-4294967296)]) (by simp [results,Tryz.results207,go_sem]) rfl ⟨rfl,balloc (Below.refl _ _) _⟩
   ·have d3:decide (4294967295 < lo)=false:=decide_eq_false c3
    have d4:decide (hi < 0)=false:=decide_eq_false (by omega)
    rw [if_neg c3,if_neg (by omega)]
    go_enter Tryz.func207,Tryz.ntmps207
    have r2:=rowV.new w 55 #[.int .i64 0,.int .i64 0]
    go_wp2_with fail
    refine (full_any _).mono ?_
    rintro e w1 ⟨rfl,hb1⟩
    have Hr:=Lib.hid (r2.below hb1 r2.lt)
    go_wp2_with (refine wpList_store_row rfl 55 (.tmp 4) (.tmp 35) rfl _ #[.int .i64 0,.int .i64 4294967295] rfl rfl _ _ Hr.out (hI2 _ _) rfl (hA2 _ _) ?_)
    obtain⟨z1,z2⟩:=two_cellsV (setRow_heap w1 w.heap.size _ #[.int .i64 0,.int .i64 4294967295] _ _ Hr.out)
    refine bodyPost_ret (v:=.agg #[.int .i64 0,.int .i64 4294967295]) (by simp [results,Tryz.results207,go_sem,z1,z2]) rfl ⟨rfl,belowRow ((balloc (Below.refl _ _) _).trans (hb1.mono (by simp))) (by omega) _⟩
 ·have d1:decide (0≤lo)=false:=decide_eq_false c1
  rw [if_neg (by omega)]
  have d3:decide (4294967295 < lo)=false:=decide_eq_false (by omega)
  rw [if_neg (by omega)]
  by_cases c4:hi < 0
  ·have d4:decide (hi < 0)=true:=decide_eq_true c4
   rw [if_pos c4]
   have e1:lo+4294967295+1=lo+4294967296:=by omega
   have e2:hi+4294967295+1=hi+4294967296:=by omega
   go_enter Tryz.func207,Tryz.ntmps207
   go_wp2_with fail
   refine bodyPost_ret (v:=.agg #[.int .i64 (lo+4294967296),.int .i64 (hi+4294967296)]) (by simp [results,Tryz.results207,go_sem]) rfl ⟨rfl,balloc (Below.refl _ _) _⟩
  ·have d4:decide (hi < 0)=false:=decide_eq_false c4
   rw [if_neg c4]
   go_enter Tryz.func207,Tryz.ntmps207
   have r2:=rowV.new w 55 #[.int .i64 0,.int .i64 0]
   go_wp2_with fail
   refine (full_any _).mono ?_
   rintro e w1 ⟨rfl,hb1⟩
   have Hr:=Lib.hid (r2.below hb1 r2.lt)
   go_wp2_with (refine wpList_store_row rfl 55 (.tmp 4) (.tmp 35) rfl _ #[.int .i64 0,.int .i64 4294967295] rfl rfl _ _ Hr.out (hI2 _ _) rfl (hA2 _ _) ?_)
   obtain⟨z1,z2⟩:=two_cellsV (setRow_heap w1 w.heap.size _ #[.int .i64 0,.int .i64 4294967295] _ _ Hr.out)
   refine bodyPost_ret (v:=.agg #[.int .i64 0,.int .i64 4294967295]) (by simp [results,Tryz.results207,go_sem,z1,z2]) rfl ⟨rfl,belowRow ((balloc (Below.refl _ _) _).trans (hb1.mono (by simp))) (by omega) _⟩
theorem onesN_bits{n:Nat}(hn:n < 4294967296):onesN n=2 ^ Lib.bitLen n-1∧Lib.bitLen n≤32:=by
 unfold onesN
 by_cases h0:n=0
 ·subst h0
  exact⟨by decide,by decide⟩
 ·obtain⟨h1,h2,h3⟩:=bitLen_bounds (n:=n) (by omega) h0
  have h4:n.log2=Lib.bitLen n-1:=(Nat.log2_eq_iff h0).2 ⟨h2,by rw [Nat.sub_add_cancel h1];exact h3⟩
  have h5:n.log2 < 32:=(Nat.log2_lt h0).2 (by omega)
  rw [if_neg h0,h4,Nat.sub_add_cancel h1]
  exact⟨rfl,by omega⟩
theorem ones_any(n:Nat)(hn:n < 4294967296)(w:World):Calls Tryz.prog 208 #[.int .i64 n] w fun e w'=>e=.returned (.int .i64 (onesN n:Nat))∧w'=w:=by
 have H:=Tryz.bits_Len (n:Int) w (by omega) (by omega)
 rw [Int.toNat_natCast] at H
 obtain⟨h1,h2⟩:=onesN_bits hn
 rw [h1]
 obtain⟨k,hk⟩:∃ k,k=Lib.bitLen n:=⟨_,rfl⟩
 rw [←hk] at H h2 ⊢
 clear hk h1
 have HH:=Lib.hid H;clear H
 have hw:IntKind.u64.wrap (n:Int)=(n:Int):=by simp [IntKind.wrap,IntKind.bits,IntKind.signed];omega
 go_enter Tryz.func208,Tryz.ntmps208
 go_wp2_with fail
 refine HH.out.mono ?_
 rintro e w1 ⟨rfl,hw1⟩
 obtain rfl:w=w1:=hw1.symm
 go_wp2_with fail
 have e1:wrap64 (wrap64 (2 ^ k)-1)=((2 ^ k-1:Nat):Int):=(by decide +kernel:∀ k:Fin 33,wrap64 (wrap64 (2 ^ k.val)-1)=((2 ^ k.val-1:Nat):Int)) ⟨k,by omega⟩
 rw [e1]
 go_ret
 exact⟨rfl,rfl⟩
theorem m_add(a b c d:Int)(ha:0≤a)(hab:a≤b)(hb:b≤4294967295)(hc:0≤c)(hcd:c≤d)(hd:d≤4294967295)(w:World):Calls Tryz.prog 184 #[.agg #[.int .i64 a,.int .i64 b,.int .i64 c,.int .i64 d]] w fun e w'=>e=.returned (ivV (ruleI 8 a b c d))∧Below w.heap.size w w':=by
 rw [show ruleI 8 a b c d=shiftI (a+c) (b+d) from rfl]
 obtain⟨w0,hw0,g0,r1,r2⟩:=boxesO w a b c d
 have hw:=Lib.hid hw0;clear hw0
 have H:=Lib.hid (shifted_any (a+c) (b+d) (by omega) (by omega) (by omega) w0)
 obtain⟨⟨lo,hi⟩,hs⟩:∃ z,z=shiftI (a+c) (b+d):=⟨_,rfl⟩
 rw [←hs] at H ⊢
 clear hs
 unfold ivV at H
 go_enter Tryz.func184,Tryz.ntmps184
 go_wp2_with fail
 rw [←hw.out]
 refine H.out.mono ?_
 rintro e w1 ⟨rfl,hb1⟩
 have Hr:=Lib.hid (r2.below hb1 r2.lt)
 go_wp2_with (refine wpList_store_row rfl 55 (.tmp 2) (.tmp 13) rfl _ #[.int .i64 lo,.int .i64 hi] rfl rfl _ _ Hr.out (hI2 _ _) rfl (hA2 _ _) ?_)
 obtain⟨z1,z2⟩:=two_cellsV (setRow_heap w1 (w.heap.size+1) _ #[.int .i64 lo,.int .i64 hi] _ _ Hr.out)
 refine bodyPost_ret (v:=.agg #[.int .i64 lo,.int .i64 hi]) (by simp [results,Tryz.results184,go_sem,z1,z2]) rfl ⟨rfl,belowRow (g0.trans (hb1.mono g0.size)) (by omega) _⟩
theorem m_sub(a b c d:Int)(ha:0≤a)(hab:a≤b)(hb:b≤4294967295)(hc:0≤c)(hcd:c≤d)(hd:d≤4294967295)(w:World):Calls Tryz.prog 185 #[.agg #[.int .i64 a,.int .i64 b,.int .i64 c,.int .i64 d]] w fun e w'=>e=.returned (ivV (ruleI 9 a b c d))∧Below w.heap.size w w':=by
 rw [show ruleI 9 a b c d=shiftI (a-d) (b-c) from rfl]
 obtain⟨w0,hw0,g0,r1,r2⟩:=boxesO w a b c d
 have hw:=Lib.hid hw0;clear hw0
 have H:=Lib.hid (shifted_any (a-d) (b-c) (by omega) (by omega) (by omega) w0)
 obtain⟨⟨lo,hi⟩,hs⟩:∃ z,z=shiftI (a-d) (b-c):=⟨_,rfl⟩
 rw [←hs] at H ⊢
 clear hs
 unfold ivV at H
 go_enter Tryz.func185,Tryz.ntmps185
 go_wp2_with fail
 rw [←hw.out]
 refine H.out.mono ?_
 rintro e w1 ⟨rfl,hb1⟩
 have Hr:=Lib.hid (r2.below hb1 r2.lt)
 go_wp2_with (refine wpList_store_row rfl 55 (.tmp 2) (.tmp 13) rfl _ #[.int .i64 lo,.int .i64 hi] rfl rfl _ _ Hr.out (hI2 _ _) rfl (hA2 _ _) ?_)
 obtain⟨z1,z2⟩:=two_cellsV (setRow_heap w1 (w.heap.size+1) _ #[.int .i64 lo,.int .i64 hi] _ _ Hr.out)
 refine bodyPost_ret (v:=.agg #[.int .i64 lo,.int .i64 hi]) (by simp [results,Tryz.results185,go_sem,z1,z2]) rfl ⟨rfl,belowRow (g0.trans (hb1.mono g0.size)) (by omega) _⟩
theorem m_least(a b c d:Int)(ha:0≤a)(hab:a≤b)(hb:b≤4294967295)(hc:0≤c)(hcd:c≤d)(hd:d≤4294967295)(w:World):Calls Tryz.prog 194 #[.agg #[.int .i64 a,.int .i64 b,.int .i64 c,.int .i64 d]] w fun e w'=>e=.returned (ivV (ruleI 18 a b c d))∧Below w.heap.size w w':=by
 rw [show ruleI 18 a b c d=⟨min a c,min b d⟩ from rfl]
 go_enter Tryz.func194,Tryz.ntmps194
 go_wp2_with fail
 refine bodyPost_ret (v:=.agg #[.int .i64 (min a c),.int .i64 (min b d)]) (by simp [results,Tryz.results194,go_sem]) rfl ⟨rfl,balloc (balloc (Below.refl _ _) _) _⟩
theorem m_greatest(a b c d:Int)(ha:0≤a)(hab:a≤b)(hb:b≤4294967295)(hc:0≤c)(hcd:c≤d)(hd:d≤4294967295)(w:World):Calls Tryz.prog 195 #[.agg #[.int .i64 a,.int .i64 b,.int .i64 c,.int .i64 d]] w fun e w'=>e=.returned (ivV (ruleI 19 a b c d))∧Below w.heap.size w w':=by
 rw [show ruleI 19 a b c d=⟨max a c,max b d⟩ from rfl]
 go_enter Tryz.func195,Tryz.ntmps195
 go_wp2_with fail
 refine bodyPost_ret (v:=.agg #[.int .i64 (max a c),.int .i64 (max b d)]) (by simp [results,Tryz.results195,go_sem]) rfl ⟨rfl,balloc (balloc (Below.refl _ _) _) _⟩
theorem m_and(a b c d:Int)(ha:0≤a)(hab:a≤b)(hb:b≤4294967295)(hc:0≤c)(hcd:c≤d)(hd:d≤4294967295)(w:World):Calls Tryz.prog 189 #[.agg #[.int .i64 a,.int .i64 b,.int .i64 c,.int .i64 d]] w fun e w'=>e=.returned (ivV (ruleI 13 a b c d))∧Below w.heap.size w w':=by
 rw [show ruleI 13 a b c d=⟨0,min b d⟩ from rfl]
 go_enter Tryz.func189,Tryz.ntmps189
 go_wp2_with fail
 refine bodyPost_ret (v:=.agg #[.int .i64 0,.int .i64 (min b d)]) (by simp [results,Tryz.results189,go_sem]) rfl ⟨rfl,balloc (balloc (Below.refl _ _) _) _⟩
theorem m_hash(a b c d:Int)(ha:0≤a)(hab:a≤b)(hb:b≤4294967295)(hc:0≤c)(hcd:c≤d)(hd:d≤4294967295)(w:World):Calls Tryz.prog 196 #[.agg #[.int .i64 a,.int .i64 b,.int .i64 c,.int .i64 d]] w fun e w'=>e=.returned (ivV (ruleI 20 a b c d))∧Below w.heap.size w w':=by
 rw [show ruleI 20 a b c d=ivFull from rfl]
 obtain⟨w0,hw0,g0,r1,r2⟩:=boxesO w a b c d
 have hw:=Lib.hid hw0;clear hw0
 go_enter Tryz.func196,Tryz.ntmps196
 go_wp2_with fail
 rw [←hw.out]
 refine (full_any _).mono ?_
 rintro e w1 ⟨rfl,hb1⟩
 have Hr:=Lib.hid (r2.below hb1 r2.lt)
 go_wp2_with (refine wpList_store_row rfl 55 (.tmp 2) (.tmp 3) rfl _ #[.int .i64 0,.int .i64 4294967295] rfl rfl _ _ Hr.out (hI2 _ _) rfl (hA2 _ _) ?_)
 obtain⟨z1,z2⟩:=two_cellsV (setRow_heap w1 (w.heap.size+1) _ #[.int .i64 0,.int .i64 4294967295] _ _ Hr.out)
 refine bodyPost_ret (v:=.agg #[.int .i64 0,.int .i64 4294967295]) (by simp [results,Tryz.results196,go_sem,z1,z2]) rfl ⟨rfl,belowRow (g0.trans (hb1.mono g0.size)) (by omega) _⟩
theorem m_mod(a b c d:Int)(ha:0≤a)(hab:a≤b)(hb:b≤4294967295)(hc:0≤c)(hcd:c≤d)(hd:d≤4294967295)(h0:c≠0)(w:World):Calls Tryz.prog 188 #[.agg #[.int .i64 a,.int .i64 b,.int .i64 c,.int .i64 d]] w fun e w'=>e=.returned (ivV (ruleI 12 a b c d))∧Below w.heap.size w w':=by
 rw [show ruleI 12 a b c d=(if b < c then ⟨a,b⟩ else ⟨0,min b (d-1)⟩) from rfl]
 by_cases h1:b < c
 ·have d1:decide (b < c)=true:=decide_eq_true h1
  rw [if_pos h1]
  go_enter Tryz.func188,Tryz.ntmps188
  go_wp2_with fail
  refine bodyPost_ret (v:=.agg #[.int .i64 a,.int .i64 b]) (by simp [results,Tryz.results188,go_sem]) rfl ⟨rfl,balloc (balloc (Below.refl _ _) _) _⟩
 ·have d1:decide (b < c)=false:=decide_eq_false h1
  rw [if_neg h1]
  go_enter Tryz.func188,Tryz.ntmps188
  go_wp2_with fail
  refine bodyPost_ret (v:=.agg #[.int .i64 0,.int .i64 (min b (d-1))]) (by simp [results,Tryz.results188,go_sem]) rfl ⟨rfl,balloc (balloc (Below.refl _ _) _) _⟩
theorem m_div(a b c d:Int)(ha:0≤a)(hab:a≤b)(hb:b≤4294967295)(hc:0≤c)(hcd:c≤d)(hd:d≤4294967295)(h0:c≠0)(w:World):Calls Tryz.prog 187 #[.agg #[.int .i64 a,.int .i64 b,.int .i64 c,.int .i64 d]] w fun e w'=>e=.returned (ivV (ruleI 11 a b c d))∧Below w.heap.size w w':=by
 rw [show ruleI 11 a b c d=⟨a / d,b / c⟩ from rfl]
 have t1:Int.tdiv a d=a / d:=Int.tdiv_eq_ediv_of_nonneg ha
 have t2:Int.tdiv b c=b / c:=Int.tdiv_eq_ediv_of_nonneg (by omega)
 have q1:(d==0)=false:=by simp;omega
 have q2:(c==0)=false:=by simp;omega
 have q3:d≠0:=by omega
 have u1:=Int.ediv_nonneg ha (by omega:0≤d)
 have u2:=Int.ediv_le_self d ha
 have u3:=Int.ediv_nonneg (by omega:0≤b) hc
 have u4:=Int.ediv_le_self c (by omega:0≤b)
 obtain⟨w0,hw0,g0,r1,r2⟩:=boxesO w a b c d
 have hw:=Lib.hid hw0;clear hw0
 obtain⟨c1,c2,c3,c4⟩:=four_cellsV r1
 go_enter Tryz.func187,Tryz.ntmps187
 go_wp2_with fail
 rw [←hw.out]
 refine wp_region_quiet_tail 11 (by kernel_rfl) (by kernel_rfl) ?_
 simp only [List.take_succ_cons,List.take_zero,List.drop_succ_cons,List.drop_zero]
 repeat (go_big_quiet_step (fail))
 refine wpQuiet_nil ?_
 intro _ hw'
 obtain⟨nr,hw''⟩:=hw'
 subst hw''
 have Hr:=Lib.hid (show rowV (w0.drewN nr) (w.heap.size+1) 55 #[.int .i64 0,.int .i64 0] from r2)
 go_wp2_with (refine wpList_store_row rfl 55 (.tmp 2) (.tmp 13) rfl _ #[.int .i64 (a / d),.int .i64 (b / c)] rfl rfl _ _ Hr.out (hI2 _ _) rfl (hA2 _ _) ?_)
 obtain⟨z1,z2⟩:=two_cellsV (setRow_heap (w0.drewN nr) (w.heap.size+1) _ #[.int .i64 (a / d),.int .i64 (b / c)] _ _ Hr.out)
 refine bodyPost_ret (v:=.agg #[.int .i64 (a / d),.int .i64 (b / c)]) (by simp [results,Tryz.results187,go_sem,z1,z2]) rfl ⟨rfl,belowRow (bdrew g0 nr) (by omega) _⟩
theorem m_mul(a b c d:Int)(ha:0≤a)(hab:a≤b)(hb:b≤4294967295)(hc:0≤c)(hcd:c≤d)(hd:d≤4294967295)(w:World):Calls Tryz.prog 186 #[.agg #[.int .i64 a,.int .i64 b,.int .i64 c,.int .i64 d]] w fun e w'=>e=.returned (ivV (ruleI 10 a b c d))∧Below w.heap.size w w':=by
 rw [show ruleI 10 a b c d=(if 0 < d∧4294967295 / d < b then ivFull else ⟨a * c,b * d⟩) from rfl]
 have t1:Int.tdiv 4294967295 d=4294967295 / d:=Int.tdiv_eq_ediv_of_nonneg (by omega)
 have u1:=Int.ediv_nonneg (by omega:(0:Int)≤4294967295) (by omega:0≤d)
 have u2:=Int.ediv_le_self d (by omega:(0:Int)≤4294967295)
 by_cases h1:0 < d
 ·have d1:decide (0 < d)=true:=decide_eq_true h1
  have q1:(d==0)=false:=by simp;omega
  have q3:d≠0:=by omega
  by_cases h2:4294967295 / d < b
  ·have d2:decide (4294967295 / d < b)=true:=decide_eq_true h2
   rw [if_pos ⟨h1,h2⟩]
   obtain⟨w0,hw0,g0,r1,r2⟩:=boxesO w a b c d
   have hw:=Lib.hid hw0;clear hw0
   obtain⟨c1,c2,c3,c4⟩:=four_cellsV r1
   go_enter Tryz.func186,Tryz.ntmps186
   go_wp2_with fail
   rw [←hw.out]
   go_quiet (fail)
   go_wp2_with fail
   refine (full_any _).mono ?_
   rintro e w1 ⟨rfl,hb1⟩
   have Hr:=Lib.hid ((show rowV (w0.drewN nq) (w.heap.size+1) 55 #[.int .i64 0,.int .i64 0] from r2).below hb1 (show w.heap.size+1 < (w0.drewN nq).heap.size from r2.lt))
   go_wp2_with (refine wpList_store_row rfl 55 (.tmp 2) (.tmp 14) rfl _ #[.int .i64 0,.int .i64 4294967295] rfl rfl _ _ Hr.out (hI2 _ _) rfl (hA2 _ _) ?_)
   obtain⟨z1,z2⟩:=two_cellsV (setRow_heap w1 (w.heap.size+1) _ #[.int .i64 0,.int .i64 4294967295] _ _ Hr.out)
   refine bodyPost_ret (v:=.agg #[.int .i64 0,.int .i64 4294967295]) (by simp [results,Tryz.results186,go_sem,z1,z2]) rfl ⟨rfl,belowRow ((bdrew g0 nq).trans (hb1.mono (bdrew g0 nq).size)) (by omega) _⟩
  ·have d2:decide (4294967295 / d < b)=false:=decide_eq_false h2
   rw [if_neg (by omega)]
   have k1:b≤4294967295 / d:=by omega
   have k2:=Int.mul_le_mul_of_nonneg_right k1 (Int.le_of_lt h1)
   have k3:=Int.ediv_mul_le 4294967295 (by omega:d≠0)
   have k4:a * c≤b * d:=Int.mul_le_mul hab hcd hc (by omega)
   have k5:0≤a * c:=Int.mul_nonneg ha hc
   have k6:b * d≤4294967295:=Int.le_trans k2 k3
   have k7:a * c≤4294967295:=Int.le_trans k4 k6
   have k8:0≤b * d:=Int.le_trans k5 k4
   clear k2 k3
   obtain⟨w0,hw0,g0,r1,r2⟩:=boxesO w a b c d
   have hw:=Lib.hid hw0;clear hw0
   obtain⟨c1,c2,c3,c4⟩:=four_cellsV r1
   go_enter Tryz.func186,Tryz.ntmps186
   go_wp2_with fail
   rw [←hw.out]
   go_quiet (fail)
   have Hr:=Lib.hid (show rowV (w0.drewN nq) (w.heap.size+1) 55 #[.int .i64 0,.int .i64 0] from r2)
   go_wp2_with (refine wpList_store_row rfl 55 (.tmp 2) (.tmp 25) rfl _ #[.int .i64 (a * c),.int .i64 (b * d)] rfl rfl _ _ Hr.out (hI2 _ _) rfl (hA2 _ _) ?_)
   obtain⟨z1,z2⟩:=two_cellsV (setRow_heap (w0.drewN nq) (w.heap.size+1) _ #[.int .i64 (a * c),.int .i64 (b * d)] _ _ Hr.out)
   refine bodyPost_ret (v:=.agg #[.int .i64 (a * c),.int .i64 (b * d)]) (by simp [results,Tryz.results186,go_sem,z1,z2]) rfl ⟨rfl,belowRow (bdrew g0 nq) (by omega) _⟩
 ·have d1:decide (0 < d)=false:=decide_eq_false h1
  obtain rfl:d=0:=by omega
  obtain rfl:c=0:=by omega
  rw [if_neg (by omega)]
  have k5:a * 0=0:=by omega
  have k6:b * 0=0:=by omega
  rw [k5,k6]
  obtain⟨w0,hw0,g0,r1,r2⟩:=boxesO w a b 0 0
  have hw:=Lib.hid hw0;clear hw0
  obtain⟨c1,c2,c3,c4⟩:=four_cellsV r1
  go_enter Tryz.func186,Tryz.ntmps186
  go_wp2_with fail
  rw [←hw.out]
  go_quiet (fail)
  have Hr:=Lib.hid (show rowV (w0.drewN nq) (w.heap.size+1) 55 #[.int .i64 0,.int .i64 0] from r2)
  go_wp2_with (refine wpList_store_row rfl 55 (.tmp 2) (.tmp 25) rfl _ #[.int .i64 0,.int .i64 0] rfl rfl _ _ Hr.out (hI2 _ _) rfl (hA2 _ _) ?_)
  obtain⟨z1,z2⟩:=two_cellsV (setRow_heap (w0.drewN nq) (w.heap.size+1) _ #[.int .i64 0,.int .i64 0] _ _ Hr.out)
  refine bodyPost_ret (v:=.agg #[.int .i64 0,.int .i64 0]) (by simp [results,Tryz.results186,go_sem,z1,z2]) rfl ⟨rfl,belowRow (bdrew g0 nq) (by omega) _⟩
theorem m_xor(a b c d:Int)(ha:0≤a)(hab:a≤b)(hb:b≤4294967295)(hc:0≤c)(hcd:c≤d)(hd:d≤4294967295)(w:World):Calls Tryz.prog 191 #[.agg #[.int .i64 a,.int .i64 b,.int .i64 c,.int .i64 d]] w fun e w'=>e=.returned (ivV (ruleI 15 a b c d))∧Below w.heap.size w w':=by
 rw [show ruleI 15 a b c d=⟨0,onesI (max b d)⟩ from rfl]
 obtain⟨n,hn⟩:∃ n:Nat,max b d=(n:Int):=⟨(max b d).toNat,by omega⟩
 have hN:Int.toNat (n:Int)=n:=Int.toNat_natCast n
 unfold onesI
 rw [hn,hN]
 have hn':n < 4294967296:=by omega
 obtain⟨z,hz⟩:∃ z,z=onesN n:=⟨_,rfl⟩
 have H:=Lib.hid (ones_any n hn')
 rw [←hz] at H ⊢
 clear hz hN
 obtain⟨w0,hw0,g0,r1,r2⟩:=boxesO w a b c d
 have hw:=Lib.hid hw0;clear hw0
 obtain⟨c1,c2,c3,c4⟩:=four_cellsV r1
 go_enter Tryz.func191,Tryz.ntmps191
 go_wp2_with fail
 rw [←hw.out]
 refine (H.out _).mono ?_
 rintro e w1 ⟨rfl,hw1⟩
 obtain rfl:w0=w1:=hw1.symm
 have Hr:=Lib.hid (show rowV w0 (w.heap.size+1) 55 #[.int .i64 0,.int .i64 0] from r2)
 go_wp2_with (refine wpList_store_row rfl 55 (.tmp 2) (.tmp 9) rfl _ #[.int .i64 0,.int .i64 z] rfl rfl _ _ Hr.out (hI2 _ _) rfl (hA2 _ _) ?_)
 obtain⟨z1,z2⟩:=two_cellsV (setRow_heap w0 (w.heap.size+1) _ #[.int .i64 0,.int .i64 z] _ _ Hr.out)
 refine bodyPost_ret (v:=.agg #[.int .i64 0,.int .i64 z]) (by simp [results,Tryz.results191,go_sem,z1,z2]) rfl ⟨rfl,belowRow g0 (by omega) _⟩
theorem m_or(a b c d:Int)(ha:0≤a)(hab:a≤b)(hb:b≤4294967295)(hc:0≤c)(hcd:c≤d)(hd:d≤4294967295)(w:World):Calls Tryz.prog 190 #[.agg #[.int .i64 a,.int .i64 b,.int .i64 c,.int .i64 d]] w fun e w'=>e=.returned (ivV (ruleI 14 a b c d))∧Below w.heap.size w w':=by
 rw [show ruleI 14 a b c d=⟨max a c,onesI (max b d)⟩ from rfl]
 obtain⟨n,hn⟩:∃ n:Nat,max b d=(n:Int):=⟨(max b d).toNat,by omega⟩
 have hN:Int.toNat (n:Int)=n:=Int.toNat_natCast n
 unfold onesI
 rw [hn,hN]
 have hn':n < 4294967296:=by omega
 obtain⟨z,hz⟩:∃ z,z=onesN n:=⟨_,rfl⟩
 have H:=Lib.hid (ones_any n hn')
 rw [←hz] at H ⊢
 clear hz hN
 obtain⟨w0,hw0,g0,r1,r2⟩:=boxesO w a b c d
 have hw:=Lib.hid hw0;clear hw0
 obtain⟨c1,c2,c3,c4⟩:=four_cellsV r1
 go_enter Tryz.func190,Tryz.ntmps190
 go_wp2_with fail
 rw [←hw.out]
 refine wp_region_quiet_tail 12 (by kernel_rfl) (by kernel_rfl) ?_
 simp only [List.take_succ_cons,List.take_zero,List.drop_succ_cons,List.drop_zero]
 repeat (go_big_quiet_step (first | (go_at_call_of 208 (Value.int .i64 n);exact (H.out _).mono fun e w2 h=>⟨h.1,_,h.2⟩)))
 refine wpQuiet_nil ?_
 intro _ hw'
 obtain⟨nr,hw''⟩:=hw'
 subst hw''
 have Hr:=Lib.hid (show rowV (w0.drewN nr) (w.heap.size+1) 55 #[.int .i64 0,.int .i64 0] from r2)
 go_wp2_with (refine wpList_store_row rfl 55 (.tmp 2) (.tmp 14) rfl _ #[.int .i64 (max a c),.int .i64 z] rfl rfl _ _ Hr.out (hI2 _ _) rfl (hA2 _ _) ?_)
 obtain⟨z1,z2⟩:=two_cellsV (setRow_heap (w0.drewN nr) (w.heap.size+1) _ #[.int .i64 (max a c),.int .i64 z] _ _ Hr.out)
 refine bodyPost_ret (v:=.agg #[.int .i64 (max a c),.int .i64 z]) (by simp [results,Tryz.results190,go_sem,z1,z2]) rfl ⟨rfl,belowRow (bdrew g0 nr) (by omega) _⟩
theorem m_shl(a b c d:Int)(ha:0≤a)(hab:a≤b)(hb:b≤4294967295)(hc:0≤c)(hcd:c≤d)(hd:d≤4294967295)(w:World):Calls Tryz.prog 192 #[.agg #[.int .i64 a,.int .i64 b,.int .i64 c,.int .i64 d]] w fun e w'=>e=.returned (ivV (ruleI 16 a b c d))∧Below w.heap.size w w':=by
 rw [show ruleI 16 a b c d=(if c≠d∨4294967295 / 2 ^ (c % 32).toNat < b then ivFull else ⟨a * 2 ^ (c % 32).toNat,b * 2 ^ (c % 32).toNat⟩) from rfl]
 obtain⟨k,hk⟩:∃ k:Nat,c % 32=(k:Int):=⟨(c % 32).toNat,by omega⟩
 have hk32:k < 32:=by omega
 have t0:Int.tmod c 32=(k:Int):=by rw [Int.tmod_eq_emod_of_nonneg hc,hk]
 rw [hk,Int.toNat_natCast]
 have p1:=two_pow_int k
 have p2:(2:Int) ^ k≤2 ^ 31:=two_pow_le (by omega)
 have u1:=Int.ediv_nonneg (by omega:(0:Int)≤4294967295) (Int.le_of_lt p1)
 have u2:=Int.ediv_le_self (2 ^ k) (by omega:(0:Int)≤4294967295)
 obtain⟨T,hT⟩:∃ T:Int,T=2 ^ k:=⟨_,rfl⟩
 obtain⟨w0,hw0,g0,r1,r2⟩:=boxesO w a b c d
 have hw:=Lib.hid hw0;clear hw0
 obtain⟨c1,c2,c3,c4⟩:=four_cellsV r1
 by_cases h1:c=d
 ·have q1:(c != d)=false:=by simpa using h1
  by_cases h2:4294967295 / 2 ^ k < b
  ·rw [if_pos (.inr h2)]
   have d2:decide (4294967295 / 2 ^ k < b)=true:=decide_eq_true h2
   subst h1
   go_enter Tryz.func192,Tryz.ntmps192
   go_wp2_with fail
   rw [←hw.out]
   go_quiet (fail)
   go_wp2_with fail
   refine (full_any _).mono ?_
   rintro e w1 ⟨rfl,hb1⟩
   have Hr:=Lib.hid ((show rowV (w0.drewN nq) (w.heap.size+1) 55 #[.int .i64 0,.int .i64 0] from r2).below hb1 (show w.heap.size+1 < (w0.drewN nq).heap.size from r2.lt))
   go_wp2_with (refine wpList_store_row rfl 55 (.tmp 2) (.tmp 19) rfl _ #[.int .i64 0,.int .i64 4294967295] rfl rfl _ _ Hr.out (hI2 _ _) rfl (hA2 _ _) ?_)
   obtain⟨z1,z2⟩:=two_cellsV (setRow_heap w1 (w.heap.size+1) _ #[.int .i64 0,.int .i64 4294967295] _ _ Hr.out)
   refine bodyPost_ret (v:=.agg #[.int .i64 0,.int .i64 4294967295]) (by simp [results,Tryz.results192,go_sem,z1,z2]) rfl ⟨rfl,belowRow ((bdrew g0 nq).trans (hb1.mono (bdrew g0 nq).size)) (by omega) _⟩
  ·rw [if_neg (by omega)]
   have d2:decide (4294967295 / 2 ^ k < b)=false:=decide_eq_false h2
   have k1:b≤4294967295 / 2 ^ k:=by omega
   have k2:=Int.mul_le_mul_of_nonneg_right k1 (Int.le_of_lt p1)
   have k3:=Int.ediv_mul_le 4294967295 (b:=2 ^ k) (by omega)
   have k4:b * 2 ^ k≤4294967295:=Int.le_trans k2 k3
   have k5:=Int.mul_le_mul_of_nonneg_right hab (Int.le_of_lt p1)
   have k6:=Int.mul_nonneg ha (Int.le_of_lt p1)
   have e1:wrap64 (a * 2 ^ k)=a * 2 ^ k:=by unfold wrap64;omega
   have e2:wrap64 (b * 2 ^ k)=b * 2 ^ k:=by unfold wrap64;omega
   clear k2 k3
   subst h1
   go_enter Tryz.func192,Tryz.ntmps192
   go_wp2_with fail
   rw [←hw.out]
   go_quiet (fail)
   go_wp2_with fail
   refine wp_region_quiet_tail 9 (by kernel_rfl) (by kernel_rfl) ?_
   simp only [List.take_succ_cons,List.take_zero,List.drop_succ_cons,List.drop_zero]
   repeat (go_big_quiet_step (fail))
   refine wpQuiet_nil ?_
   intro _ hw'
   obtain⟨nr,hw''⟩:=hw'
   subst hw''
   have Hr:=Lib.hid (show rowV ((w0.drewN nq).drewN nr) (w.heap.size+1) 55 #[.int .i64 0,.int .i64 0] from r2)
   go_wp2_with (refine wpList_store_row rfl 55 (.tmp 2) (.tmp 28) rfl _ #[.int .i64 (a * 2 ^ k),.int .i64 (b * 2 ^ k)] rfl rfl _ _ Hr.out (hI2 _ _) rfl (hA2 _ _) ?_)
   obtain⟨z1,z2⟩:=two_cellsV (setRow_heap (w0.drewN (nq+nr)) (w.heap.size+1) _ #[.int .i64 (a * 2 ^ k),.int .i64 (b * 2 ^ k)] _ _ Hr.out)
   refine bodyPost_ret (v:=.agg #[.int .i64 (a * 2 ^ k),.int .i64 (b * 2 ^ k)]) (by simp [results,Tryz.results192,go_sem,z1,z2]) rfl ⟨rfl,belowRow (bdrew (bdrew g0 nq) nr) (by omega) _⟩
 ·have q1:(c != d)=true:=by simpa using h1
  rw [if_pos (.inl h1)]
  go_enter Tryz.func192,Tryz.ntmps192
  go_wp2_with fail
  rw [←hw.out]
  go_quiet (fail)
  go_wp2_with fail
  refine (full_any _).mono ?_
  rintro e w1 ⟨rfl,hb1⟩
  have Hr:=Lib.hid ((show rowV (w0.drewN nq) (w.heap.size+1) 55 #[.int .i64 0,.int .i64 0] from r2).below hb1 (show w.heap.size+1 < (w0.drewN nq).heap.size from r2.lt))
  go_wp2_with (refine wpList_store_row rfl 55 (.tmp 2) (.tmp 19) rfl _ #[.int .i64 0,.int .i64 4294967295] rfl rfl _ _ Hr.out (hI2 _ _) rfl (hA2 _ _) ?_)
  obtain⟨z1,z2⟩:=two_cellsV (setRow_heap w1 (w.heap.size+1) _ #[.int .i64 0,.int .i64 4294967295] _ _ Hr.out)
  refine bodyPost_ret (v:=.agg #[.int .i64 0,.int .i64 4294967295]) (by simp [results,Tryz.results192,go_sem,z1,z2]) rfl ⟨rfl,belowRow ((bdrew g0 nq).trans (hb1.mono (bdrew g0 nq).size)) (by omega) _⟩
theorem m_shr(a b c d:Int)(ha:0≤a)(hab:a≤b)(hb:b≤4294967295)(hc:0≤c)(hcd:c≤d)(hd:d≤4294967295)(w:World):Calls Tryz.prog 193 #[.agg #[.int .i64 a,.int .i64 b,.int .i64 c,.int .i64 d]] w fun e w'=>e=.returned (ivV (ruleI 17 a b c d))∧Below w.heap.size w w':=by
 rw [show ruleI 17 a b c d=(if d≤31 then ⟨a / 2 ^ d.toNat,b / 2 ^ c.toNat⟩ else if c=d then ⟨a / 2 ^ (c % 32).toNat,b / 2 ^ (c % 32).toNat⟩ else ⟨0,b⟩) from rfl]
 obtain⟨w0,hw0,g0,r1,r2⟩:=boxesO w a b c d
 have hw:=Lib.hid hw0;clear hw0
 obtain⟨c1,c2,c3,c4⟩:=four_cellsV r1
 by_cases h1:d≤31
 ·have d1:decide (d≤31)=true:=decide_eq_true h1
  rw [if_pos h1]
  obtain⟨k,rfl⟩:∃ k:Nat,d=(k:Int):=⟨d.toNat,by omega⟩
  obtain⟨j,rfl⟩:∃ j:Nat,c=(j:Int):=⟨c.toNat,by omega⟩
  rw [Int.toNat_natCast,Int.toNat_natCast]
  have p1:=two_pow_int k
  have p2:=two_pow_int j
  have u1:=Int.ediv_nonneg ha (Int.le_of_lt p1)
  have u2:=Int.ediv_le_self (2 ^ k) ha
  have u3:=Int.ediv_nonneg (by omega:0≤b) (Int.le_of_lt p2)
  have u4:=Int.ediv_le_self (2 ^ j) (by omega:0≤b)
  go_enter Tryz.func193,Tryz.ntmps193
  go_wp2_with fail
  rw [←hw.out]
  refine wp_region_quiet_tail 11 (by kernel_rfl) (by kernel_rfl) ?_
  simp only [List.take_succ_cons,List.take_zero,List.drop_succ_cons,List.drop_zero]
  repeat (go_big_quiet_step (fail))
  refine wpQuiet_nil ?_
  intro _ hw'
  obtain⟨nr,hw''⟩:=hw'
  subst hw''
  have Hr:=Lib.hid (show rowV (w0.drewN nr) (w.heap.size+1) 55 #[.int .i64 0,.int .i64 0] from r2)
  go_wp2_with (refine wpList_store_row rfl 55 (.tmp 2) (.tmp 17) rfl _ #[.int .i64 (a / 2 ^ k),.int .i64 (b / 2 ^ j)] rfl rfl _ _ Hr.out (hI2 _ _) rfl (hA2 _ _) ?_)
  obtain⟨z1,z2⟩:=two_cellsV (setRow_heap (w0.drewN nr) (w.heap.size+1) _ #[.int .i64 (a / 2 ^ k),.int .i64 (b / 2 ^ j)] _ _ Hr.out)
  refine bodyPost_ret (v:=.agg #[.int .i64 (a / 2 ^ k),.int .i64 (b / 2 ^ j)]) (by simp [results,Tryz.results193,go_sem,z1,z2]) rfl ⟨rfl,belowRow (bdrew g0 nr) (by omega) _⟩
 ·have d1:decide (d≤31)=false:=decide_eq_false h1
  rw [if_neg h1]
  by_cases h2:c=d
  ·have q1:(c==d)=true:=by simpa using h2
   rw [if_pos h2]
   obtain⟨k,hk⟩:∃ k:Nat,c % 32=(k:Int):=⟨(c % 32).toNat,by omega⟩
   have t0:Int.tmod c 32=(k:Int):=by rw [Int.tmod_eq_emod_of_nonneg hc,hk]
   rw [hk,Int.toNat_natCast]
   have p1:=two_pow_int k
   have u1:=Int.ediv_nonneg ha (Int.le_of_lt p1)
   have u2:=Int.ediv_le_self (2 ^ k) ha
   have u3:=Int.ediv_nonneg (by omega:0≤b) (Int.le_of_lt p1)
   have u4:=Int.ediv_le_self (2 ^ k) (by omega:0≤b)
   subst h2
   go_enter Tryz.func193,Tryz.ntmps193
   go_wp2_with fail
   rw [←hw.out]
   go_wp2_with fail
   refine wp_region_quiet_tail 13 (by kernel_rfl) (by kernel_rfl) ?_
   simp only [List.take_succ_cons,List.take_zero,List.drop_succ_cons,List.drop_zero]
   repeat (go_big_quiet_step (fail))
   refine wpQuiet_nil ?_
   intro _ hw'
   obtain⟨nr,hw''⟩:=hw'
   subst hw''
   have Hr:=Lib.hid (show rowV (w0.drewN nr) (w.heap.size+1) 55 #[.int .i64 0,.int .i64 0] from r2)
   go_wp2_with (refine wpList_store_row rfl 55 (.tmp 2) (.tmp 36) rfl _ #[.int .i64 (a / 2 ^ k),.int .i64 (b / 2 ^ k)] rfl rfl _ _ Hr.out (hI2 _ _) rfl (hA2 _ _) ?_)
   obtain⟨z1,z2⟩:=two_cellsV (setRow_heap (w0.drewN nr) (w.heap.size+1) _ #[.int .i64 (a / 2 ^ k),.int .i64 (b / 2 ^ k)] _ _ Hr.out)
   refine bodyPost_ret (v:=.agg #[.int .i64 (a / 2 ^ k),.int .i64 (b / 2 ^ k)]) (by simp [results,Tryz.results193,go_sem,z1,z2]) rfl ⟨rfl,belowRow (bdrew g0 nr) (by omega) _⟩
  ·have q1:(c==d)=false:=by simpa using h2
   rw [if_neg h2]
   go_enter Tryz.func193,Tryz.ntmps193
   go_wp2_with fail
   refine bodyPost_ret (v:=.agg #[.int .i64 0,.int .i64 b]) (by simp [results,Tryz.results193,go_sem]) rfl ⟨rfl,balloc (balloc (Below.refl _ _) _) _⟩
theorem wrapU(n:Int):IntKind.u32.wrap n=n % 4294967296:=by simp [IntKind.wrap,IntKind.bits,IntKind.signed]
theorem bits32_and(a b:Nat)(ha:a < 4294967296)(hb:b < 4294967296):bits .and .u32 (a:Int) (b:Int)=((a &&& b:Nat):Int):=by
 have hx:a &&& b < 2 ^ 32:=Nat.and_lt_two_pow _ (by omega)
 have h1:(BitVec.ofInt 32 (a:Int)).toNat=a:=by
  rw [BitVec.ofInt_natCast,BitVec.toNat_ofNat];exact Nat.mod_eq_of_lt (by omega)
 have h2:(BitVec.ofInt 32 (b:Int)).toNat=b:=by
  rw [BitVec.ofInt_natCast,BitVec.toNat_ofNat];exact Nat.mod_eq_of_lt (by omega)
 show IntKind.u32.wrap ((BitVec.ofInt 32 (a:Int) &&& BitVec.ofInt 32 (b:Int)).toNat:Int)=_
 rw [BitVec.toNat_and,h1,h2,wrapU]
 omega
theorem bits32_or(a b:Nat)(ha:a < 4294967296)(hb:b < 4294967296):bits .or .u32 (a:Int) (b:Int)=((a ||| b:Nat):Int):=by
 have hx:a ||| b < 2 ^ 32:=Nat.or_lt_two_pow (by omega) (by omega)
 have h1:(BitVec.ofInt 32 (a:Int)).toNat=a:=by
  rw [BitVec.ofInt_natCast,BitVec.toNat_ofNat];exact Nat.mod_eq_of_lt (by omega)
 have h2:(BitVec.ofInt 32 (b:Int)).toNat=b:=by
  rw [BitVec.ofInt_natCast,BitVec.toNat_ofNat];exact Nat.mod_eq_of_lt (by omega)
 show IntKind.u32.wrap ((BitVec.ofInt 32 (a:Int) ||| BitVec.ofInt 32 (b:Int)).toNat:Int)=_
 rw [BitVec.toNat_or,h1,h2,wrapU]
 omega
theorem bits32_xor(a b:Nat)(ha:a < 4294967296)(hb:b < 4294967296):bits .xor .u32 (a:Int) (b:Int)=((a ^^^ b:Nat):Int):=by
 have hx:a ^^^ b < 2 ^ 32:=Nat.xor_lt_two_pow (by omega) (by omega)
 have h1:(BitVec.ofInt 32 (a:Int)).toNat=a:=by
  rw [BitVec.ofInt_natCast,BitVec.toNat_ofNat];exact Nat.mod_eq_of_lt (by omega)
 have h2:(BitVec.ofInt 32 (b:Int)).toNat=b:=by
  rw [BitVec.ofInt_natCast,BitVec.toNat_ofNat];exact Nat.mod_eq_of_lt (by omega)
 show IntKind.u32.wrap ((BitVec.ofInt 32 (a:Int) ^^^ BitVec.ofInt 32 (b:Int)).toNat:Int)=_
 rw [BitVec.toNat_xor,h1,h2,wrapU]
 omega
theorem fa_1(a b:Nat)(ha:a < 4294967296)(hb:b < 4294967296)(w:World):Calls Tryz.prog 209 #[.int .u32 a,.int .u32 b] w fun e w'=>e=.returned (.int .u32 (((a:Int)+b) % 4294967296))∧w'=w:=by
 go_enter Tryz.func209,Tryz.ntmps209
 go_wp2_with fail
 go_ret
 exact⟨rfl,rfl⟩
theorem fe_1(a b:Nat)(ha:a < 4294967296)(hb:b < 4294967296):((a:Int)+b) % 4294967296=((arN 8 a b:Nat):Int):=by
 unfold arN
 rw [if_pos rfl]
 omega
theorem f_1(a b:Nat)(ha:a < 4294967296)(hb:b < 4294967296)(w:World):Calls Tryz.prog 209 #[.int .u32 a,.int .u32 b] w fun e w'=>e=.returned (.int .u32 (arN 8 a b:Nat))∧w'=w:=by
 have h:=fa_1 a b ha hb w
 rw [fe_1 a b ha hb] at h
 exact h
theorem fa_2(a b:Nat)(ha:a < 4294967296)(hb:b < 4294967296)(w:World):Calls Tryz.prog 210 #[.int .u32 a,.int .u32 b] w fun e w'=>e=.returned (.int .u32 (((a:Int)-b) % 4294967296))∧w'=w:=by
 go_enter Tryz.func210,Tryz.ntmps210
 go_wp2_with fail
 go_ret
 exact⟨rfl,rfl⟩
theorem fe_2(a b:Nat)(ha:a < 4294967296)(hb:b < 4294967296):((a:Int)-b) % 4294967296=((arN 9 a b:Nat):Int):=by
 unfold arN
 rw [if_neg (by decide),if_pos rfl]
 omega
theorem f_2(a b:Nat)(ha:a < 4294967296)(hb:b < 4294967296)(w:World):Calls Tryz.prog 210 #[.int .u32 a,.int .u32 b] w fun e w'=>e=.returned (.int .u32 (arN 9 a b:Nat))∧w'=w:=by
 have h:=fa_2 a b ha hb w
 rw [fe_2 a b ha hb] at h
 exact h
theorem fa_3(a b:Nat)(ha:a < 4294967296)(hb:b < 4294967296)(w:World):Calls Tryz.prog 211 #[.int .u32 a,.int .u32 b] w fun e w'=>e=.returned (.int .u32 ((a:Int) * b % 4294967296))∧w'=w:=by
 go_enter Tryz.func211,Tryz.ntmps211
 go_wp2_with fail
 go_ret
 exact⟨rfl,rfl⟩
theorem fe_3(a b:Nat)(ha:a < 4294967296)(hb:b < 4294967296):(a:Int) * b % 4294967296=((arN 10 a b:Nat):Int):=by
 unfold arN
 rw [if_neg (by decide),if_neg (by decide),if_pos rfl]
 rw [Int.natCast_emod,Int.natCast_mul];rfl
theorem f_3(a b:Nat)(ha:a < 4294967296)(hb:b < 4294967296)(w:World):Calls Tryz.prog 211 #[.int .u32 a,.int .u32 b] w fun e w'=>e=.returned (.int .u32 (arN 10 a b:Nat))∧w'=w:=by
 have h:=fa_3 a b ha hb w
 rw [fe_3 a b ha hb] at h
 exact h
theorem fa_4(a b:Nat)(ha:a < 4294967296)(hb:b < 4294967296)(h0:b≠0)(w:World):Calls Tryz.prog 212 #[.int .u32 a,.int .u32 b] w fun e w'=>e=.returned (.int .u32 ((a:Int) / b % 4294967296))∧w'=w:=by
 have q1:((b:Int)==0)=false:=by simp;omega
 have q2:(b:Int)≠0:=by omega
 go_enter Tryz.func212,Tryz.ntmps212
 go_wp2_with fail
 go_ret
 exact⟨rfl,rfl⟩
theorem fe_4(a b:Nat)(ha:a < 4294967296)(hb:b < 4294967296):(a:Int) / b % 4294967296=((arN 11 a b:Nat):Int):=by
 unfold arN
 rw [if_neg (by decide),if_neg (by decide),if_neg (by decide),if_pos rfl]
 have h1:a / b≤a:=Nat.div_le_self _ _;have h2:((a:Int) / (b:Int))=((a / b:Nat):Int):=(Int.natCast_ediv a b).symm;obtain⟨z,hz⟩:∃ z,z=a / b:=⟨_,rfl⟩;rw [←hz] at h1 h2 ⊢;rw [h2];omega
theorem f_4(a b:Nat)(ha:a < 4294967296)(hb:b < 4294967296)(h0:b≠0)(w:World):Calls Tryz.prog 212 #[.int .u32 a,.int .u32 b] w fun e w'=>e=.returned (.int .u32 (arN 11 a b:Nat))∧w'=w:=by
 have h:=fa_4 a b ha hb h0 w
 rw [fe_4 a b ha hb] at h
 exact h
theorem fa_5(a b:Nat)(ha:a < 4294967296)(hb:b < 4294967296)(h0:b≠0)(w:World):Calls Tryz.prog 213 #[.int .u32 a,.int .u32 b] w fun e w'=>e=.returned (.int .u32 ((a:Int) % b))∧w'=w:=by
 have q1:((b:Int)==0)=false:=by simp;omega
 have q2:(b:Int)≠0:=by omega
 go_enter Tryz.func213,Tryz.ntmps213
 go_wp2_with fail
 go_ret
 exact⟨rfl,rfl⟩
theorem fe_5(a b:Nat)(ha:a < 4294967296)(hb:b < 4294967296):(a:Int) % b=((arN 12 a b:Nat):Int):=by
 unfold arN
 rw [if_neg (by decide),if_neg (by decide),if_neg (by decide),if_neg (by decide),if_pos rfl]
 exact (Int.natCast_emod a b).symm
theorem f_5(a b:Nat)(ha:a < 4294967296)(hb:b < 4294967296)(h0:b≠0)(w:World):Calls Tryz.prog 213 #[.int .u32 a,.int .u32 b] w fun e w'=>e=.returned (.int .u32 (arN 12 a b:Nat))∧w'=w:=by
 have h:=fa_5 a b ha hb h0 w
 rw [fe_5 a b ha hb] at h
 exact h
theorem fa_6(a b:Nat)(ha:a < 4294967296)(hb:b < 4294967296)(w:World):Calls Tryz.prog 214 #[.int .u32 a,.int .u32 b] w fun e w'=>e=.returned (.int .u32 (bits .and .u32 (a:Int) (b:Int)))∧w'=w:=by
 go_enter Tryz.func214,Tryz.ntmps214
 go_wp2_with fail
 go_ret
 exact⟨rfl,rfl⟩
theorem fe_6(a b:Nat)(ha:a < 4294967296)(hb:b < 4294967296):bits .and .u32 (a:Int) (b:Int)=((arN 13 a b:Nat):Int):=by
 unfold arN
 rw [if_neg (by decide),if_neg (by decide),if_neg (by decide),if_neg (by decide),if_neg (by decide),if_pos rfl]
 exact bits32_and a b ha hb
theorem f_6(a b:Nat)(ha:a < 4294967296)(hb:b < 4294967296)(w:World):Calls Tryz.prog 214 #[.int .u32 a,.int .u32 b] w fun e w'=>e=.returned (.int .u32 (arN 13 a b:Nat))∧w'=w:=by
 have h:=fa_6 a b ha hb w
 rw [fe_6 a b ha hb] at h
 exact h
theorem fa_7(a b:Nat)(ha:a < 4294967296)(hb:b < 4294967296)(w:World):Calls Tryz.prog 215 #[.int .u32 a,.int .u32 b] w fun e w'=>e=.returned (.int .u32 (bits .or .u32 (a:Int) (b:Int)))∧w'=w:=by
 go_enter Tryz.func215,Tryz.ntmps215
 go_wp2_with fail
 go_ret
 exact⟨rfl,rfl⟩
theorem fe_7(a b:Nat)(ha:a < 4294967296)(hb:b < 4294967296):bits .or .u32 (a:Int) (b:Int)=((arN 14 a b:Nat):Int):=by
 unfold arN
 rw [if_neg (by decide),if_neg (by decide),if_neg (by decide),if_neg (by decide),if_neg (by decide),if_neg (by decide),if_pos rfl]
 exact bits32_or a b ha hb
theorem f_7(a b:Nat)(ha:a < 4294967296)(hb:b < 4294967296)(w:World):Calls Tryz.prog 215 #[.int .u32 a,.int .u32 b] w fun e w'=>e=.returned (.int .u32 (arN 14 a b:Nat))∧w'=w:=by
 have h:=fa_7 a b ha hb w
 rw [fe_7 a b ha hb] at h
 exact h
theorem fa_8(a b:Nat)(ha:a < 4294967296)(hb:b < 4294967296)(w:World):Calls Tryz.prog 216 #[.int .u32 a,.int .u32 b] w fun e w'=>e=.returned (.int .u32 (bits .xor .u32 (a:Int) (b:Int)))∧w'=w:=by
 go_enter Tryz.func216,Tryz.ntmps216
 go_wp2_with fail
 go_ret
 exact⟨rfl,rfl⟩
theorem fe_8(a b:Nat)(ha:a < 4294967296)(hb:b < 4294967296):bits .xor .u32 (a:Int) (b:Int)=((arN 15 a b:Nat):Int):=by
 unfold arN
 rw [if_neg (by decide),if_neg (by decide),if_neg (by decide),if_neg (by decide),if_neg (by decide),if_neg (by decide),if_neg (by decide),if_pos rfl]
 exact bits32_xor a b ha hb
theorem f_8(a b:Nat)(ha:a < 4294967296)(hb:b < 4294967296)(w:World):Calls Tryz.prog 216 #[.int .u32 a,.int .u32 b] w fun e w'=>e=.returned (.int .u32 (arN 15 a b:Nat))∧w'=w:=by
 have h:=fa_8 a b ha hb w
 rw [fe_8 a b ha hb] at h
 exact h
theorem fa_9(a b:Nat)(ha:a < 4294967296)(hb:b < 4294967296)(w:World):Calls Tryz.prog 217 #[.int .u32 a,.int .u32 b] w fun e w'=>e=.returned (.int .u32 ((a:Int) * 2 ^ (b % 32) % 4294967296))∧w'=w:=by
 go_enter Tryz.func217,Tryz.ntmps217
 go_wp2_with fail
 go_ret
 exact⟨rfl,rfl⟩
theorem fe_9(a b:Nat)(ha:a < 4294967296)(hb:b < 4294967296):(a:Int) * 2 ^ (b % 32) % 4294967296=((arN 16 a b:Nat):Int):=by
 unfold arN
 rw [if_neg (by decide),if_neg (by decide),if_neg (by decide),if_neg (by decide),if_neg (by decide),if_neg (by decide),if_neg (by decide),if_neg (by decide),if_pos rfl]
 rw [Int.natCast_emod,Int.natCast_mul,Int.natCast_pow];rfl
theorem f_9(a b:Nat)(ha:a < 4294967296)(hb:b < 4294967296)(w:World):Calls Tryz.prog 217 #[.int .u32 a,.int .u32 b] w fun e w'=>e=.returned (.int .u32 (arN 16 a b:Nat))∧w'=w:=by
 have h:=fa_9 a b ha hb w
 rw [fe_9 a b ha hb] at h
 exact h
theorem fa_10(a b:Nat)(ha:a < 4294967296)(hb:b < 4294967296)(w:World):Calls Tryz.prog 218 #[.int .u32 a,.int .u32 b] w fun e w'=>e=.returned (.int .u32 ((a:Int) / 2 ^ (b % 32)))∧w'=w:=by
 go_enter Tryz.func218,Tryz.ntmps218
 go_wp2_with fail
 go_ret
 exact⟨rfl,rfl⟩
theorem fe_10(a b:Nat)(ha:a < 4294967296)(hb:b < 4294967296):(a:Int) / 2 ^ (b % 32)=((arN 17 a b:Nat):Int):=by
 unfold arN
 rw [if_neg (by decide),if_neg (by decide),if_neg (by decide),if_neg (by decide),if_neg (by decide),if_neg (by decide),if_neg (by decide),if_neg (by decide),if_neg (by decide),if_pos rfl]
 rw [Int.natCast_ediv,Int.natCast_pow];rfl
theorem f_10(a b:Nat)(ha:a < 4294967296)(hb:b < 4294967296)(w:World):Calls Tryz.prog 218 #[.int .u32 a,.int .u32 b] w fun e w'=>e=.returned (.int .u32 (arN 17 a b:Nat))∧w'=w:=by
 have h:=fa_10 a b ha hb w
 rw [fe_10 a b ha hb] at h
 exact h
theorem fa_11(a b:Nat)(ha:a < 4294967296)(hb:b < 4294967296)(w:World):Calls Tryz.prog 219 #[.int .u32 a,.int .u32 b] w fun e w'=>e=.returned (.int .u32 (min (a:Int) (b:Int)))∧w'=w:=by
 go_enter Tryz.func219,Tryz.ntmps219
 go_wp2_with fail
 go_ret
 exact⟨rfl,rfl⟩
theorem fe_11(a b:Nat)(ha:a < 4294967296)(hb:b < 4294967296):min (a:Int) (b:Int)=((arN 18 a b:Nat):Int):=by
 unfold arN
 rw [if_neg (by decide),if_neg (by decide),if_neg (by decide),if_neg (by decide),if_neg (by decide),if_neg (by decide),if_neg (by decide),if_neg (by decide),if_neg (by decide),if_neg (by decide),if_pos rfl]
 omega
theorem f_11(a b:Nat)(ha:a < 4294967296)(hb:b < 4294967296)(w:World):Calls Tryz.prog 219 #[.int .u32 a,.int .u32 b] w fun e w'=>e=.returned (.int .u32 (arN 18 a b:Nat))∧w'=w:=by
 have h:=fa_11 a b ha hb w
 rw [fe_11 a b ha hb] at h
 exact h
theorem fa_12(a b:Nat)(ha:a < 4294967296)(hb:b < 4294967296)(w:World):Calls Tryz.prog 220 #[.int .u32 a,.int .u32 b] w fun e w'=>e=.returned (.int .u32 (max (a:Int) (b:Int)))∧w'=w:=by
 go_enter Tryz.func220,Tryz.ntmps220
 go_wp2_with fail
 go_ret
 exact⟨rfl,rfl⟩
theorem fe_12(a b:Nat)(ha:a < 4294967296)(hb:b < 4294967296):max (a:Int) (b:Int)=((arN 19 a b:Nat):Int):=by
 unfold arN
 rw [if_neg (by decide),if_neg (by decide),if_neg (by decide),if_neg (by decide),if_neg (by decide),if_neg (by decide),if_neg (by decide),if_neg (by decide),if_neg (by decide),if_neg (by decide),if_neg (by decide),if_pos rfl]
 omega
theorem f_12(a b:Nat)(ha:a < 4294967296)(hb:b < 4294967296)(w:World):Calls Tryz.prog 220 #[.int .u32 a,.int .u32 b] w fun e w'=>e=.returned (.int .u32 (arN 19 a b:Nat))∧w'=w:=by
 have h:=fa_12 a b ha hb w
 rw [fe_12 a b ha hb] at h
 exact h
theorem hash_a(a b:Nat)(ha:a < 4294967296)(hb:b < 4294967296)(w:World):Calls Tryz.prog 221 #[.int .u32 a,.int .u32 b] w fun e w'=>e=.returned (.int .u32 (bits .xor .u32 ((bits .xor .u32 (a:Int) ((b:Int) * 2654435761 % 4294967296)) * 2246822519 % 4294967296) (((bits .xor .u32 (a:Int) ((b:Int) * 2654435761 % 4294967296)) * 2246822519 % 4294967296) / 65536)))∧w'=w:=by
 go_enter Tryz.func221,Tryz.ntmps221
 go_wp2_with fail
 go_ret
 exact⟨rfl,rfl⟩
theorem hash_e(a b:Nat)(ha:a < 4294967296)(hb:b < 4294967296):bits .xor .u32 ((bits .xor .u32 (a:Int) ((b:Int) * 2654435761 % 4294967296)) * 2246822519 % 4294967296) (((bits .xor .u32 (a:Int) ((b:Int) * 2654435761 % 4294967296)) * 2246822519 % 4294967296) / 65536)=((hashN a b:Nat):Int):=by
 obtain⟨c,hc⟩:∃ c,c=b * 2654435761 % 4294967296:=⟨_,rfl⟩
 have hc':c < 4294967296:=by rw [hc];exact Nat.mod_lt _ (by decide)
 have e1:((b:Int) * 2654435761) % 4294967296=(c:Int):=by rw [hc];omega
 unfold hashN
 rw [←hc,e1,bits32_xor a c ha hc']
 obtain⟨x,hx⟩:∃ x,x=a ^^^ c:=⟨_,rfl⟩
 rw [←hx]
 obtain⟨y,hy⟩:∃ y,y=x * 2246822519 % 4294967296:=⟨_,rfl⟩
 have hy':y < 4294967296:=by rw [hy];exact Nat.mod_lt _ (by decide)
 have e3:((x:Int) * 2246822519) % 4294967296=(y:Int):=by rw [hy];omega
 rw [e3,←hy]
 have e4:(y:Int) / 65536=((y / 65536:Nat):Int):=by omega
 rw [e4]
 exact bits32_xor y (y / 65536) hy' (by omega)
theorem fe_20(a b:Nat):arN 20 a b=hashN a b:=by
 unfold arN
 rw [if_neg (by decide),if_neg (by decide),if_neg (by decide),if_neg (by decide),if_neg (by decide),if_neg (by decide),if_neg (by decide),if_neg (by decide),if_neg (by decide),if_neg (by decide),if_neg (by decide),if_neg (by decide)]
theorem hash_any(a b:Nat)(ha:a < 4294967296)(hb:b < 4294967296)(w:World):Calls Tryz.prog 221 #[.int .u32 a,.int .u32 b] w fun e w'=>e=.returned (.int .u32 (arN 20 a b:Nat))∧w'=w:=by
 have h:=hash_a a b ha hb w
 rw [hash_e a b ha hb,←fe_20 a b] at h
 exact h
def combosF:Int→Option Value:=
 zput (zput (zput (zput (zput (zput (zput (zput (zput (zput (zput (zput (zput (zput (zput (zput (zput (zput (zput (fun _=>none) 8 (.func (.func 209) #[] #[])) 9 (.func (.func 210) #[] #[])) 10 (.func (.func 211) #[] #[])) 11 (.func (.func 212) #[] #[])) 12 (.func (.func 213) #[] #[])) 13 (.func (.func 214) #[] #[])) 14 (.func (.func 215) #[] #[])) 15 (.func (.func 216) #[] #[])) 16 (.func (.func 217) #[] #[])) 17 (.func (.func 218) #[] #[])) 18 (.func (.func 219) #[] #[])) 19 (.func (.func 220) #[] #[])) 20 (.func (.func 221) #[] #[])) 21 (.func (.func 222) #[] #[])) 22 (.func (.func 223) #[] #[])) 23 (.func (.func 224) #[] #[])) 24 (.func (.func 225) #[] #[])) 25 (.func (.func 226) #[] #[])) 26 (.func (.func 227) #[] #[])
theorem combos_any(w:World):Calls Tryz.prog 197 #[] w fun e w'=>∃ b,e=.returned (.map (some b))∧MapZ Tryz.prog 3 .i64 w' b 19 combosF∧Below w.heap.size w w':=by
 have h0:MapZ Tryz.prog 3 .i64 (w.alloc (.map #[] 0)) w.heap.size 0 (fun _=>none):=MapZ.made w
 have b0:Below w.heap.size w (w.alloc (.map #[] 0)):=balloc (Below.refl _ _) _
 have uK:Tryz.prog.underlying 3=some (.int .i64):=by kernel_rfl
 have uM:Tryz.prog.underlying 279=some (.map 3 277):=by kernel_rfl
 have hmk:∀ W:World,(Instr.makeMap 279 none).run Tryz.prog W=.ok (.map (some W.heap.size)) (W.alloc (.map #[] 0)):=fun W=>run_makeMap_plain W _
 obtain⟨W0,hW0⟩:∃ W0,W0=w.alloc (.map #[] 0):=⟨_,rfl⟩
 rw [←hW0] at h0 b0
 obtain⟨W1,e1,h1,g1⟩:=h0.step (t:=279) uK uM (by unfold maxLen;omega) 8 (by decide) (.func (.func 209) #[] #[])
 have b1:=b0.grown g1 b0.size (fun k hk=>by injection hk with hk;omega)
 clear h0 g1 b0
 obtain⟨W2,e2,h2,g2⟩:=h1.step (t:=279) uK uM (by unfold maxLen;omega) 9 (by decide) (.func (.func 210) #[] #[])
 have b2:=b1.grown g2 b1.size (fun k hk=>by injection hk with hk;omega)
 clear h1 g2 b1
 obtain⟨W3,e3,h3,g3⟩:=h2.step (t:=279) uK uM (by unfold maxLen;omega) 10 (by decide) (.func (.func 211) #[] #[])
 have b3:=b2.grown g3 b2.size (fun k hk=>by injection hk with hk;omega)
 clear h2 g3 b2
 obtain⟨W4,e4,h4,g4⟩:=h3.step (t:=279) uK uM (by unfold maxLen;omega) 11 (by decide) (.func (.func 212) #[] #[])
 have b4:=b3.grown g4 b3.size (fun k hk=>by injection hk with hk;omega)
 clear h3 g4 b3
 obtain⟨W5,e5,h5,g5⟩:=h4.step (t:=279) uK uM (by unfold maxLen;omega) 12 (by decide) (.func (.func 213) #[] #[])
 have b5:=b4.grown g5 b4.size (fun k hk=>by injection hk with hk;omega)
 clear h4 g5 b4
 obtain⟨W6,e6,h6,g6⟩:=h5.step (t:=279) uK uM (by unfold maxLen;omega) 13 (by decide) (.func (.func 214) #[] #[])
 have b6:=b5.grown g6 b5.size (fun k hk=>by injection hk with hk;omega)
 clear h5 g6 b5
 obtain⟨W7,e7,h7,g7⟩:=h6.step (t:=279) uK uM (by unfold maxLen;omega) 14 (by decide) (.func (.func 215) #[] #[])
 have b7:=b6.grown g7 b6.size (fun k hk=>by injection hk with hk;omega)
 clear h6 g7 b6
 obtain⟨W8,e8,h8,g8⟩:=h7.step (t:=279) uK uM (by unfold maxLen;omega) 15 (by decide) (.func (.func 216) #[] #[])
 have b8:=b7.grown g8 b7.size (fun k hk=>by injection hk with hk;omega)
 clear h7 g8 b7
 obtain⟨W9,e9,h9,g9⟩:=h8.step (t:=279) uK uM (by unfold maxLen;omega) 16 (by decide) (.func (.func 217) #[] #[])
 have b9:=b8.grown g9 b8.size (fun k hk=>by injection hk with hk;omega)
 clear h8 g9 b8
 obtain⟨W10,e10,h10,g10⟩:=h9.step (t:=279) uK uM (by unfold maxLen;omega) 17 (by decide) (.func (.func 218) #[] #[])
 have b10:=b9.grown g10 b9.size (fun k hk=>by injection hk with hk;omega)
 clear h9 g10 b9
 obtain⟨W11,e11,h11,g11⟩:=h10.step (t:=279) uK uM (by unfold maxLen;omega) 18 (by decide) (.func (.func 219) #[] #[])
 have b11:=b10.grown g11 b10.size (fun k hk=>by injection hk with hk;omega)
 clear h10 g11 b10
 obtain⟨W12,e12,h12,g12⟩:=h11.step (t:=279) uK uM (by unfold maxLen;omega) 19 (by decide) (.func (.func 220) #[] #[])
 have b12:=b11.grown g12 b11.size (fun k hk=>by injection hk with hk;omega)
 clear h11 g12 b11
 obtain⟨W13,e13,h13,g13⟩:=h12.step (t:=279) uK uM (by unfold maxLen;omega) 20 (by decide) (.func (.func 221) #[] #[])
 have b13:=b12.grown g13 b12.size (fun k hk=>by injection hk with hk;omega)
 clear h12 g13 b12
 obtain⟨W14,e14,h14,g14⟩:=h13.step (t:=279) uK uM (by unfold maxLen;omega) 21 (by decide) (.func (.func 222) #[] #[])
 have b14:=b13.grown g14 b13.size (fun k hk=>by injection hk with hk;omega)
 clear h13 g14 b13
 obtain⟨W15,e15,h15,g15⟩:=h14.step (t:=279) uK uM (by unfold maxLen;omega) 22 (by decide) (.func (.func 223) #[] #[])
 have b15:=b14.grown g15 b14.size (fun k hk=>by injection hk with hk;omega)
 clear h14 g15 b14
 obtain⟨W16,e16,h16,g16⟩:=h15.step (t:=279) uK uM (by unfold maxLen;omega) 23 (by decide) (.func (.func 224) #[] #[])
 have b16:=b15.grown g16 b15.size (fun k hk=>by injection hk with hk;omega)
 clear h15 g16 b15
 obtain⟨W17,e17,h17,g17⟩:=h16.step (t:=279) uK uM (by unfold maxLen;omega) 24 (by decide) (.func (.func 225) #[] #[])
 have b17:=b16.grown g17 b16.size (fun k hk=>by injection hk with hk;omega)
 clear h16 g17 b16
 obtain⟨W18,e18,h18,g18⟩:=h17.step (t:=279) uK uM (by unfold maxLen;omega) 25 (by decide) (.func (.func 226) #[] #[])
 have b18:=b17.grown g18 b17.size (fun k hk=>by injection hk with hk;omega)
 clear h17 g18 b17
 obtain⟨W19,e19,h19,g19⟩:=h18.step (t:=279) uK uM (by unfold maxLen;omega) 26 (by decide) (.func (.func 227) #[] #[])
 have b19:=b18.grown g19 b18.size (fun k hk=>by injection hk with hk;omega)
 clear h18 g19 b18
 have HH:=Lib.hid (And.intro h19 b19)
 clear h19 b19
 rw [hW0] at e1
 clear hW0
 go_enter Tryz.func197,Tryz.ntmps197
 go_wp2_with fail
 go_ret
 exact⟨_,rfl,HH.out.1,HH.out.2⟩
def rulesF:Int→Option Value:=
 zput (zput (zput (zput (zput (zput (zput (zput (zput (zput (zput (zput (zput (fun _=>none) 8 (.func (.func 184) #[] #[])) 9 (.func (.func 185) #[] #[])) 10 (.func (.func 186) #[] #[])) 11 (.func (.func 187) #[] #[])) 12 (.func (.func 188) #[] #[])) 13 (.func (.func 189) #[] #[])) 14 (.func (.func 190) #[] #[])) 15 (.func (.func 191) #[] #[])) 16 (.func (.func 192) #[] #[])) 17 (.func (.func 193) #[] #[])) 18 (.func (.func 194) #[] #[])) 19 (.func (.func 195) #[] #[])) 20 (.func (.func 196) #[] #[])
theorem rules_any(w:World):Calls Tryz.prog 166 #[] w fun e w'=>∃ b,e=.returned (.map (some b))∧MapZ Tryz.prog 3 .i64 w' b 13 rulesF∧Below w.heap.size w w':=by
 have h0:MapZ Tryz.prog 3 .i64 (w.alloc (.map #[] 0)) w.heap.size 0 (fun _=>none):=MapZ.made w
 have b0:Below w.heap.size w (w.alloc (.map #[] 0)):=balloc (Below.refl _ _) _
 have uK:Tryz.prog.underlying 3=some (.int .i64):=by kernel_rfl
 have uM:Tryz.prog.underlying 255=some (.map 3 253):=by kernel_rfl
 have hmk:∀ W:World,(Instr.makeMap 255 none).run Tryz.prog W=.ok (.map (some W.heap.size)) (W.alloc (.map #[] 0)):=fun W=>run_makeMap_plain W _
 obtain⟨W0,hW0⟩:∃ W0,W0=w.alloc (.map #[] 0):=⟨_,rfl⟩
 rw [←hW0] at h0 b0
 obtain⟨W1,e1,h1,g1⟩:=h0.step (t:=255) uK uM (by unfold maxLen;omega) 8 (by decide) (.func (.func 184) #[] #[])
 have b1:=b0.grown g1 b0.size (fun k hk=>by injection hk with hk;omega)
 clear h0 g1 b0
 obtain⟨W2,e2,h2,g2⟩:=h1.step (t:=255) uK uM (by unfold maxLen;omega) 9 (by decide) (.func (.func 185) #[] #[])
 have b2:=b1.grown g2 b1.size (fun k hk=>by injection hk with hk;omega)
 clear h1 g2 b1
 obtain⟨W3,e3,h3,g3⟩:=h2.step (t:=255) uK uM (by unfold maxLen;omega) 10 (by decide) (.func (.func 186) #[] #[])
 have b3:=b2.grown g3 b2.size (fun k hk=>by injection hk with hk;omega)
 clear h2 g3 b2
 obtain⟨W4,e4,h4,g4⟩:=h3.step (t:=255) uK uM (by unfold maxLen;omega) 11 (by decide) (.func (.func 187) #[] #[])
 have b4:=b3.grown g4 b3.size (fun k hk=>by injection hk with hk;omega)
 clear h3 g4 b3
 obtain⟨W5,e5,h5,g5⟩:=h4.step (t:=255) uK uM (by unfold maxLen;omega) 12 (by decide) (.func (.func 188) #[] #[])
 have b5:=b4.grown g5 b4.size (fun k hk=>by injection hk with hk;omega)
 clear h4 g5 b4
 obtain⟨W6,e6,h6,g6⟩:=h5.step (t:=255) uK uM (by unfold maxLen;omega) 13 (by decide) (.func (.func 189) #[] #[])
 have b6:=b5.grown g6 b5.size (fun k hk=>by injection hk with hk;omega)
 clear h5 g6 b5
 obtain⟨W7,e7,h7,g7⟩:=h6.step (t:=255) uK uM (by unfold maxLen;omega) 14 (by decide) (.func (.func 190) #[] #[])
 have b7:=b6.grown g7 b6.size (fun k hk=>by injection hk with hk;omega)
 clear h6 g7 b6
 obtain⟨W8,e8,h8,g8⟩:=h7.step (t:=255) uK uM (by unfold maxLen;omega) 15 (by decide) (.func (.func 191) #[] #[])
 have b8:=b7.grown g8 b7.size (fun k hk=>by injection hk with hk;omega)
 clear h7 g8 b7
 obtain⟨W9,e9,h9,g9⟩:=h8.step (t:=255) uK uM (by unfold maxLen;omega) 16 (by decide) (.func (.func 192) #[] #[])
 have b9:=b8.grown g9 b8.size (fun k hk=>by injection hk with hk;omega)
 clear h8 g9 b8
 obtain⟨W10,e10,h10,g10⟩:=h9.step (t:=255) uK uM (by unfold maxLen;omega) 17 (by decide) (.func (.func 193) #[] #[])
 have b10:=b9.grown g10 b9.size (fun k hk=>by injection hk with hk;omega)
 clear h9 g10 b9
 obtain⟨W11,e11,h11,g11⟩:=h10.step (t:=255) uK uM (by unfold maxLen;omega) 18 (by decide) (.func (.func 194) #[] #[])
 have b11:=b10.grown g11 b10.size (fun k hk=>by injection hk with hk;omega)
 clear h10 g11 b10
 obtain⟨W12,e12,h12,g12⟩:=h11.step (t:=255) uK uM (by unfold maxLen;omega) 19 (by decide) (.func (.func 195) #[] #[])
 have b12:=b11.grown g12 b11.size (fun k hk=>by injection hk with hk;omega)
 clear h11 g12 b11
 obtain⟨W13,e13,h13,g13⟩:=h12.step (t:=255) uK uM (by unfold maxLen;omega) 20 (by decide) (.func (.func 196) #[] #[])
 have b13:=b12.grown g13 b12.size (fun k hk=>by injection hk with hk;omega)
 clear h12 g13 b12
 have HH:=Lib.hid (And.intro h13 b13)
 clear h13 b13
 rw [hW0] at e1
 clear hW0
 go_enter Tryz.func166,Tryz.ntmps166
 go_wp2_with fail
 go_ret
 exact⟨_,rfl,HH.out.1,HH.out.2⟩
end Go.Proofs.YtepoclhdklgnhaaGreatDoor
