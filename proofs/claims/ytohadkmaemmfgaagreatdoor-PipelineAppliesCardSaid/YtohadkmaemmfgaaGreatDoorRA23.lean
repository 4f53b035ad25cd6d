/- Zy Ob. -/
import Derived.Test.YtohadkmaemmfgaaGreatDoorRA21
import Derived.Test.YtohadkmaemmfgaaGreatDoorRA22
import Derived.Laws.BitsLemmas
set_option maxRecDepth 100000
set_option maxHeartbeats 4000000
namespace Go.Proofs.YtohadkmaemmfgaaGreatDoor
open Go.RowKit Go.Proofs
set_option linter.unusedVariables false
set_option linter.unusedSimpArgs false
attribute [local go_sem] Oper.semAt_some
theorem InvB.step_below {w W W1 W6 : World} {S ob : Nat} {fx : List (Nat × Obj)} {xs : List UInt8} {A2 A6 : Option Addr} {n2 c2 n6 c6 : Nat} (h : InvB w S ob fx xs W) (hobS : ob < S) (hwo : w.heap.size ≤ ob) (hb : Below W.heap.size W W1) (hown : Own encB W S 5 A2 n2 c2 xs)
    (hg : W1.grownBy W6 (Value.slice A2 n2 c2).ownBlock) : Below w.heap.size W (W6.setCell ⟨ob, 0, none⟩ (.slice A6 n6 c6)) := by
  have hsz := h.size
  have s1 := hb.size
  refine Below.setCell (p := ⟨ob, 0, none⟩) ?_ hwo _
  exact (hb.mono (by omega)).grown hg (by omega) (fun r e => by have := (blk_type hown e).1; omega)
section
variable {α : Type} {enc : α → Value} {P : Program} {w : World} {B : Nat} {e t : TypeId} {A : Option Addr} {n c : Nat} {xs : List α} {zero : α} {bytes : Nat} {F : Fence} {nF : Nat}
  {ops : Array Oper} {rest : List Oper} {o : Oper} {a : Act} {K : Act → World → Prop} {Q : Exit → Act → World → Prop} {E : Prop}
theorem wpListIn_appg (hgd : o.guard = none) (s x : Operand) (ho : o.op = .call { callee := .builtin .append, args := #[s, x], argTypes := #[t, t] })
    (ht : P.underlying t = some (.slice e)) (hi : (P.info? e).map (fun i => (i.zero, i.size, i.bytes)) = some (some (enc zero), 1, bytes)) (h1 : ∀ x, (enc x).oneCell' = true) (hz : (enc zero).cells.size = 1)
    (hs : a.eval s = .slice A n c) (hown : Own enc w B e A n c xs) (hB : B ≤ w.heap.size) (A' : Option Addr) (m c' : Nat) (ys : List α) (d : α) (hm : ys.length = m) (hsrc : Cells w A' m (fun i => enc (ys.getD i d)))
    (hx : a.eval x = .slice A' m c') (hl : n + m ≤ maxLen) (hby : (n + m) * bytes ≤ 140737488355328)
    (h : ∀ A2 c2 w', Own enc w' B e A2 (n + m) c2 (xs ++ ys) → w.grownBy w' (Value.slice A n c).ownBlock → wpListIn F nF P ops Q rest (a.put o.dst (.slice A2 (n + m) c2)) w') : wpListIn F nF P ops Q (o :: rest) a w := by
  refine wpListIn_plain hgd fun K' hK' => ?_
  obtain ⟨A2, c2, w', hrun, h2, h3, h4⟩ := run_append_own_any (P := P) o.type ht hi h1 hz hown hB A' m c' ys d hm hsrc hl hby
  unfold Oper.wpIn
  refine ⟨by simp [Oper.about, ho, resolve, Target.leads, Sem.run_pure], ?_⟩
  rw [Oper.semAt_plain F _ _ (by rw [ho]; intro c hc'; cases hc')]
  simp [execOp, ho, resolve, invoke, builtin, hs, hx, hrun, Result.andThen]
  exact hK' _ _ (h A2 c2 w' h2 h4)
end
theorem two_bytesV (W : World) (e : TypeId) (x y : UInt8) : Cells (W.alloc (.cells #[.int .u8 (x.toNat : Int), .int .u8 (y.toNat : Int)] e)) (some ⟨W.heap.size, 0, none⟩) 2 (fun i => encB ([x, y].getD i 0)) := fun _ => by
  refine ⟨W.heap.size, 0, rfl, by simp, fun i hi => ?_⟩
  rcases i with _ | _ | i
  · simp [encB]
  · simp [encB]
  · omega
theorem digR_step {N : Nat} (h : 2 ≤ N) : digR (N - 1) = UInt8.ofNat (N % 2) :: digR (N / 2 - 1) := by
  rw [digR, dif_neg (by omega)]
  by_cases h2 : (N - 1) % 2 = 1
  · rw [if_pos h2, show N % 2 = 0 by omega, show (N - 1 - 1) / 2 = N / 2 - 1 by omega]; rfl
  · rw [if_neg h2, show N % 2 = 1 by omega, show (N - 1 - 2) / 2 = N / 2 - 1 by omega]; rfl
theorem digR_length : ∀ n : Nat, (digR n).length ≤ n := by
  intro n
  induction n using Nat.strongRecOn with
  | _ n ih =>
    rw [digR]
    split
    · exact Nat.zero_le _
    · split
      · have := ih ((n - 1) / 2) (by omega); simp only [List.length_cons]; omega
      · have := ih ((n - 2) / 2) (by omega); simp only [List.length_cons]; omega
def gathR (bs : List UInt8) (k : Nat) : List UInt8 := ((rnQ bs 0).take k).flatMap oneQ
theorem gathR_next {bs : List UInt8} {k : Nat} (h : k < (rnQ bs 0).length) : gathR bs (k + 1) = gathR bs k ++ oneQ (rnG bs k) := by
  have e : rnG bs k = (rnQ bs 0)[k] := by unfold rnG; rw [List.getD_eq_getElem?_getD, List.getElem?_eq_getElem h]; rfl
  unfold gathR
  rw [List.take_succ_eq_append_getElem h, List.flatMap_append, e, List.flatMap_cons, List.flatMap_nil, List.append_nil]
def runEnd (l : List (UInt8 × Nat)) : Nat := (l.map (·.2)).sum
theorem rnQ_sum (bs : List UInt8) : ∀ (d i : Nat), bs.length - i = d → i ≤ bs.length → runEnd (rnQ bs i) = bs.length - i := by
  intro d
  induction d using Nat.strongRecOn with
  | _ d ih =>
    intro i hd hi
    by_cases h : i < bs.length
    · have hz := zrs_le (bs.drop i)
      rw [List.length_drop] at hz
      have := ih _ (by omega) (i + max 1 (zrs (bs.drop i))) rfl (by omega)
      rw [rnQ_more h]
      unfold runEnd at this ⊢
      rw [List.map_cons, List.sum_cons, this]
      show max 1 (zrs (bs.drop i)) + _ = _
      omega
    · rw [rnQ_end (by omega)]
      unfold runEnd
      simp; omega
theorem oneQ_length {bs : List UInt8} (x : UInt8 × Nat) (h : 1 ≤ x.2) : (oneQ x).length ≤ 2 * x.2 := by
  unfold oneQ
  split
  · have := digR_length x.2; omega
  · unfold oneR; split <;> simp <;> omega
theorem rnQ_one (bs : List UInt8) : ∀ (d i : Nat), bs.length - i = d → ∀ x ∈ rnQ bs i, 1 ≤ x.2 := by
  intro d
  induction d using Nat.strongRecOn with
  | _ d ih =>
    intro i hd x hx
    by_cases h : i < bs.length
    · rw [rnQ_more h, List.mem_cons] at hx
      rcases hx with rfl | hx
      · show 1 ≤ max 1 _; omega
      · exact ih _ (by omega) _ rfl x hx
    · rw [rnQ_end (by omega)] at hx; cases hx
theorem flat_len {bs : List UInt8} : ∀ l : List (UInt8 × Nat), (∀ x ∈ l, 1 ≤ x.2) → (l.flatMap oneQ).length ≤ 2 * runEnd l
  | [], _ => Nat.zero_le _
  | x :: r, h => by
    have h1 := oneQ_length (bs := bs) x (h x (List.mem_cons_self ..))
    have h2 := flat_len (bs := bs) r fun y hy => h y (List.mem_cons_of_mem _ hy)
    unfold runEnd at h2 ⊢
    rw [List.flatMap_cons, List.length_append, List.map_cons, List.sum_cons]
    omega
theorem runEnd_take (l : List (UInt8 × Nat)) (k : Nat) : runEnd (l.take k) ≤ runEnd l := by
  have h := List.take_append_drop k l
  have : runEnd l = runEnd (l.take k) + runEnd (l.drop k) := by
    conv => lhs; rw [← h]
    unfold runEnd
    rw [List.map_append, List.sum_append]
  omega
theorem gathR_len (bs : List UInt8) (k : Nat) : (gathR bs k).length ≤ 2 * bs.length := by
  have h1 := flat_len (bs := bs) ((rnQ bs 0).take k) fun x hx => rnQ_one bs _ 0 rfl x (List.mem_of_mem_take hx)
  have h2 := runEnd_take (rnQ bs 0) k
  have h3 := rnQ_sum bs _ 0 rfl (Nat.zero_le _)
  unfold gathR
  omega
theorem rnG_mem {bs : List UInt8} {k : Nat} (h : k < (rnQ bs 0).length) : rnG bs k ∈ rnQ bs 0 := by
  unfold rnG; rw [List.getD_eq_getElem?_getD, List.getElem?_eq_getElem h]; exact List.getElem_mem h
theorem rnG_le {bs : List UInt8} {k : Nat} (h : k < (rnQ bs 0).length) : (rnG bs k).2 ≤ bs.length := by
  have h3 := rnQ_sum bs _ 0 rfl (Nat.zero_le _)
  have h4 : ∀ (l : List (UInt8 × Nat)) (x : UInt8 × Nat), x ∈ l → x.2 ≤ runEnd l := by
    intro l x hx
    induction l with
    | nil => cases hx
    | cons y r ih =>
      unfold runEnd at ih ⊢
      rw [List.map_cons, List.sum_cons]
      rw [List.mem_cons] at hx
      rcases hx with rfl | hx
      · omega
      · have := ih hx; omega
  have := h4 _ _ (rnG_mem h)
  omega
theorem InvB.put {w W : World} {S ob : Nat} {fx : List (Nat × Obj)} {xs : List UInt8} {A2 : Option Addr} {n2 c2 : Nat} (h : InvB w S ob fx xs W) (hf : FxOk S ob fx) (hobS : ob < S) (hwo : w.heap.size ≤ ob) (hob : Boxed W ob 23 (.slice A2 n2 c2)) (hown : Own encB W S 5 A2 n2 c2 xs) {b1 : Nat} {o1 : Obj} (hb1 : (b1, o1) ∈ fx)
    (W1 W6 : World) (A6 : Option Addr) (n6 c6 : Nat) (ys : List UInt8) (hb : Below W.heap.size W W1) (hg : W1.grownBy W6 (Value.slice A2 n2 c2).ownBlock) (ho : Own encB W6 S 5 A6 n6 c6 ys) :
    W6.cell? ⟨ob, 0, none⟩ = some (.slice A2 n2 c2) ∧ W6.frozen? ⟨ob, 0, none⟩ = false ∧ KeepsFrom S W (W6.setCell ⟨ob, 0, none⟩ (.slice A6 n6 c6)) ∧ oneKp w.heap.size b1 W (W6.setCell ⟨ob, 0, none⟩ (.slice A6 n6 c6)) ∧ InvB w S ob fx ys (W6.setCell ⟨ob, 0, none⟩ (.slice A6 n6 c6)) := by
  have t2 : Boxed W1 ob 23 (.slice A2 n2 c2) := (hb.block _ hob.lt).trans hob
  have t6 : Boxed W6 ob 23 (.slice A2 n2 c2) := t2.kept hg (fun e => by
    obtain ⟨_, cur, hc⟩ := blk_type (hown.below hb) e.symm
    unfold Boxed at t2
    rw [t2] at hc
    injection hc with hc
    injection hc with _ hc
    exact absurd hc (by decide))
  obtain ⟨f1, f2, f3⟩ := h.step hf hobS hwo hb hob hown hg ho
  exact ⟨t6.cell, t6.frozen, f1, ⟨f2 _ hb1, h.step_below hobS hwo hb hown hg⟩, f3⟩
theorem and_one (N : Nat) (h : N ≤ 2000000) : bits BinOp.and IntKind.i64 (N : Int) 1 = ((N % 2 : Nat) : Int) := by
  have h1 : (BitVec.ofInt 64 1).toNat = 2 ^ 1 - 1 := by decide
  have key : (BitVec.ofInt 64 (N : Int) &&& BitVec.ofInt 64 1).toNat = ((N : Int) % ((2 ^ 64 : Nat) : Int)).toNat % 2 ^ 1 := by
    rw [BitVec.toNat_and, BitVec.toNat_ofInt, h1, Nat.and_two_pow_sub_one_eq_mod]
  show IntKind.i64.wrap ((BitVec.ofInt 64 (N : Int) &&& BitVec.ofInt 64 1).toNat : Nat) = _
  rw [key, IntKind.wrap_i64]
  omega
theorem runsF_any (A : Option Addr) (n c : Nat) (bs : List UInt8) (w : World) (hx : Bytes w A n c bs) (hn : n ≤ 1000000) :
    Calls Tryz.prog 43 #[.slice A n c] w (RetBytes w (runsP bs).1 (runsP bs).2) := by
  have HX := Lib.hid hx
  have Hn := Lib.hid hx.1
  have hsh := fun W => shortR_any A n c W
  by_cases h6 : 65536 < n
  · simp only [if_pos h6] at hsh
    have HR : Hid (runsP bs = ([], 5)) := by show _ = _; unfold runsP; rw [Hn.out, if_pos h6]
    rw [HR.out]
    have HSH := Lib.hid hsh
    clear hsh h6 hx
    refine calls_of_marks Tryz.func43 rfl ?_
    simp only [Tryz.ntmps43, List.size_toArray, List.length_cons, List.length_nil, Nat.reduceAdd, Nat.reduceSub, Array.replicate_succ, Array.replicate_zero, List.push_toArray, List.append_toArray, List.nil_append, List.cons_append]
    go_wp2_with fail
    refine (HSH.out w).mono ?_
    rintro e w1 ⟨rfl, hw⟩
    obtain rfl : w = w1 := hw.symm
    go_wp2_with fail
    refine markPost_ret (v := .tuple #[.slice none 0 0, .int .i64 5]) (fun W => by simp [results, Tryz.results43, go_sem]) rfl ?_
    exact RetBytes.err rfl (Below.refl _ _)
  · simp only [if_neg h6] at hsh
    have HSH := Lib.hid hsh
    have HR : Hid (runsP bs = if 65536 < (runsL bs).length then ([], 5) else (runsL bs, 0)) := by show _ = _; unfold runsP; rw [Hn.out, if_neg h6]
    have hn6 : n ≤ 65536 := by omega
    obtain ⟨w1, hw1⟩ : ∃ w1, w1 = w.alloc (.cells #[.slice none 0 0] 23) := ⟨_, rfl⟩
    obtain ⟨w2, hw2⟩ : ∃ w2, w2 = w1.alloc (.cells #[.slice A n c] 23) := ⟨_, rfl⟩
    have g1 : Below w.heap.size w w1 := by rw [hw1]; exact balloc (Below.refl _ _) _
    have g2 : Below w1.heap.size w1 w2 := by rw [hw2]; exact balloc (Below.refl _ _) _
    have s1 : w1.heap.size = w.heap.size + 1 := by rw [hw1, World.size_alloc]
    have s2 : w2.heap.size = w.heap.size + 2 := by rw [hw2, World.size_alloc, s1]
    have r1 : rowV w1 w.heap.size 23 #[.slice none 0 0] := by rw [hw1]; exact rowV.new w _ _
    have r2 : rowV w2 (w.heap.size + 1) 23 #[.slice A n c] := by have := rowV.new w1 23 #[.slice A n c]; rw [s1] at this; rw [hw2]; exact this
    have HI0 : Hid (InvB w (w.heap.size + 2) w.heap.size [(w.heap.size + 1, .cells #[.slice A n c] 23)] (gathR bs 0) w2) := by
      refine ⟨fun p hp => ?_, ⟨none, 0, 0, r1.below g2 (by omega), Own.nil _ _ _ _⟩, g1.trans (g2.mono (by omega)), by omega⟩
      rw [List.mem_singleton] at hp
      subst hp
      exact r2
    have HFX : Hid (FxOk (w.heap.size + 2) w.heap.size [(w.heap.size + 1, .cells #[.slice A n c] 23)]) := by
      intro p hp
      rw [List.mem_singleton] at hp
      subst hp
      exact ⟨by omega, by omega, fun cur e => by injection e with _ e; exact absurd e (by decide)⟩
    have HRS := runs_any A n c w1
    rw [← hw2, s1] at HRS
    replace HRS := Lib.hid HRS
    have HW1 := Lib.hid hw1
    have Hs2 := Lib.hid s2
    clear hsh h6 hx hw1 hw2 g1 g2 s1 s2 r1 r2
    refine calls_of_marks Tryz.func43 rfl ?_
    simp only [Tryz.ntmps43, List.size_toArray, List.length_cons, List.length_nil, Nat.reduceAdd, Nat.reduceSub, Array.replicate_succ, Array.replicate_zero, List.push_toArray, List.append_toArray, List.nil_append, List.cons_append]
    go_wp2_with fail
    refine (HSH.out w).mono ?_
    rintro e wq ⟨rfl, hw⟩
    obtain rfl : w = wq := hw.symm
    go_wp2_with fail
    rw [← HW1.out]
    refine HRS.out.mono ?_
    rintro e w5 ⟨rfl, hq⟩
    obtain rfl := hq.symm
    clear HRS
    go_wp2_with fail
    refine wp_rangeFunc_row2 (G := fun u v t => (((t.setIfInBounds 16 u).setIfInBounds 17 v).setIfInBounds 6 u).setIfInBounds 7 v) (u := fun k => .int .u8 ((rnG bs k).1.toNat : Int)) (v := fun k => .int .i64 ((rnG bs k).2 : Int)) rfl (Go.Proofs.enters_of Tryz.func166 (by kernel_rfl) rfl) (runs1_gives w A n c bs HX.out hn (w.heap.size + 1) (by omega))
      (fun o1 o2 => ⟨Boxed.alloc (Boxed.alloc (HI0.out.fix (w.heap.size + 1, _) (by simp)) _) _, (HI0.out.below.alloc HI0.out.below.size _).alloc (by have := HI0.out.below.size; simp; omega) _⟩)
      (fun X Y hab => by subst hab; exact KeepsFrom.refl _ _)
      (fun h1 h2 => ⟨h2.1.trans h1.1, h1.2.trans h2.2⟩)
      (fun W l o o' hl hlo ho => ⟨World.putObj_heap_other (by rw [Hs2.out] at hl; omega), (Below.refl _ _).grown (grownBy_putObj' W l o') (by have := (Array.getElem?_eq_some_iff.1 hlo).1; rw [Hs2.out] at hl; omega) (fun k e => by cases e; rw [Hs2.out] at hl; omega)⟩)
      (fun k => InvB w (w.heap.size + 2) w.heap.size [(w.heap.size + 1, .cells #[.slice A n c] 23)] (gathR bs k)) (fun _ _ _ => False) ?hI (fun _ _ _ _ _ h _ _ => h.elim) (fun k X Y h hab => by subst hab; exact h) (fun _ _ _ _ h _ => h.elim) HI0.out ?assign ?body ?done (fun _ _ _ _ _ _ h _ => h.elim)
    case hI => exact fun s W W' row h hg hr => h.kept HFX.out (by omega) (by omega) hg (fun r e => by have := (hr r e).1; rw [Hs2.out] at this; exact this) (fun r o e ho => by obtain ⟨o', h1, h2⟩ := (hr r e).2; rw [ho] at h1; injection h1 with h1; subst h1; exact h2)
    case assign =>
      intro l k W K hK
      simp only [List.setIfInBounds_toArray, List.set_cons_succ, List.set_cons_zero] at hK ⊢
      gi_wp2
      exact hK
    case done =>
      intro D W hD hI hdef
      rw [Hs2.out] at hD
      obtain ⟨hfix, ⟨A2, n2, c2, hob, hown⟩, hbelW, hsW⟩ := hI
      have q1 := hob.cell
      have hgr : gathR bs (rnQ bs 0).length = runsL bs := by unfold gathR runsL; rw [List.take_length, runF_rnQ bs _ 0 rfl]
      rw [hgr] at hown
      have hn2 := hown.length
      have HS2 := shortR_any A2 n2 c2 W
      by_cases h65 : 65536 < n2
      · simp only [if_pos h65] at HS2
        replace HS2 := Lib.hid HS2
        have HR2 : Hid (runsP bs = ([], 5)) := by show _ = _; rw [HR.out, hn2, if_pos h65]
        clear hn2 h65
        go_wp2_with fail
        refine HS2.out.mono ?_
        rintro e wq ⟨rfl, hw⟩
        obtain rfl : W = wq := hw.symm
        go_wp2_with fail
        refine markPost_mark hdef (v := .tuple #[.slice none 0 0, .int .i64 5]) (fun W => by simp [results, Tryz.results43, go_sem]) rfl ?_
        rw [HR2.out]
        exact RetBytes.err rfl (hbelW.grown (grownBy_putObj' W D _) hbelW.size (fun k e => by cases e; omega))
      · simp only [if_neg h65] at HS2
        replace HS2 := Lib.hid HS2
        have HR2 : Hid (runsP bs = (runsL bs, 0)) := by show _ = _; rw [HR.out, hn2, if_neg h65]
        clear hn2 h65
        go_wp2_with fail
        refine HS2.out.mono ?_
        rintro e wq ⟨rfl, hw⟩
        obtain rfl : W = wq := hw.symm
        go_wp2_with fail
        refine markPost_mark hdef (v := .tuple #[.slice A2 n2 c2, .int .i64 0]) (fun W => by simp [results, Tryz.results43, go_sem]) rfl ?_
        rw [HR2.out]
        refine RetBytes.mk rfl (Own.bytesB (B := w.heap.size + 2) (e := 5) ?_) (hbelW.grown (grownBy_putObj' W D _) hbelW.size (fun k e => by cases e; omega))
        exact own_keepT hown fun g cur hB ho => (World.putObj_heap_other (fun e => by subst e; rw [hdef] at ho; injection ho with ho; cases ho)).trans ho
    case body =>
      intro l k W hk hl hI
      have HI := Lib.hid hI
      obtain ⟨hfix, ⟨A2, n2, c2, hob, hown⟩, hbelW, hsW⟩ := hI
      simp only [List.setIfInBounds_toArray, List.set_cons_succ, List.set_cons_zero]
      have hgn := gathR_next hk
      have hgl := gathR_len bs (k + 1)
      have hzl := rnG_le hk
      have hz1 := rnQ_one bs _ 0 rfl _ (rnG_mem hk)
      rw [Hn.out] at hgl hzl
      have hn2 := hown.length
      obtain ⟨⟨x, z⟩, hxz⟩ : ∃ xz, xz = rnG bs k := ⟨_, rfl⟩
      rw [← hxz] at hgn hzl hz1 ⊢
      dsimp only at hzl hz1 ⊢
      have hll : n2 + (oneQ (x, z)).length ≤ 2 * n := by rw [hgn, List.length_append, hn2] at hgl; exact hgl
      have q1 := hob.cell
      have z1 := hob.frozen
      have PUT := Lib.hid (HI.out.put HFX.out (by omega) (Nat.le_refl _) hob hown (List.mem_singleton.2 rfl))
      clear hfix hk hxz hgl
      by_cases hx0 : x = 0
      · have hq : oneQ (x, z) = digR z := by unfold oneQ; exact if_pos hx0
        rw [hq] at hgn hll
        have HGN := Lib.hid hgn
        have p0 := u8_beq x 0 0 rfl
        rw [decide_eq_true hx0] at p0
        clear hgn hq hown hob q1 z1 PUT hx0
        gi_wp2
        gi_loopw [7] (fun nn wr => ∃ (N : Nat) (ds : List UInt8), nn = .int .i64 (N : Int) ∧ 1 ≤ N ∧ N ≤ z + 1 ∧ Hid (gathR bs k ++ ds ++ digR (N - 1) = gathR bs (k + 1)) ∧ Hid (InvB w (w.heap.size + 2) w.heap.size [(w.heap.size + 1, .cells #[.slice A n c] 23)] (gathR bs k ++ ds) wr ∧ KeepsFrom (w.heap.size + 2) W wr ∧ oneKp w.heap.size (w.heap.size + 1) W wr)) (fun nn _ => (intOf nn).toNat)
        case atStart => exact ⟨z + 1, [], by go_num, by omega, Nat.le_refl _, Lib.hid (by rw [List.append_nil, Nat.add_sub_cancel, ← HGN.out]), Lib.hid ⟨by rw [List.append_nil]; exact HI.out, KeepsFrom.refl _ _, ⟨rfl, Below.refl _ _⟩⟩⟩
        case round =>
          obtain ⟨N, ds, rfl, hN1, hN2, HD, HV⟩ := hrel
          by_cases h2 : 2 ≤ N
          · have d0 : decide ((1 : Int) < (N : Int)) = true := decide_eq_true (by omega)
            have d0' : decide (1 < N) = true := decide_eq_true (by omega)
            obtain ⟨hv1, hv2, hv3⟩ := HV.out
            obtain ⟨-, ⟨A3, n3, c3, hob3, hown3⟩, -, hs3⟩ := hv1
            have PUT := Lib.hid (HV.out.1.put HFX.out (by omega) (Nat.le_refl _) hob3 hown3 (List.mem_singleton.2 rfl))
            have q1 := hob3.cell
            have z1 := hob3.frozen
            have hn3 := hown3.length
            have hdl := HD.out
            have HD2 : Hid (gathR bs k ++ (ds ++ [UInt8.ofNat (N % 2)]) ++ digR (N / 2 - 1) = gathR bs (k + 1)) := by
              show _ = _
              rw [← HD.out, digR_step h2]; simp
            have hl3 : n3 + (digR (N - 1)).length ≤ 2 * n := by
              have h1 := congrArg List.length hdl
              rw [HGN.out, List.length_append, hn3, List.length_append, hn2] at h1
              omega
            have hl4 : n3 ≤ 2 * n := by omega
            have m1 : Hid (n3 + 1 ≤ maxLen ∧ (n3 + 1) * 1 ≤ 140737488355328) := ⟨by simp [maxLen]; omega, by omega⟩
            have ha := and_one N (by omega)
            have hr2 : N % 2 < 2 := Nat.mod_lt _ (by decide)
            have hhalf : (N : Int) / 2 = ((N / 2 : Nat) : Int) := by omega
            obtain ⟨r, hr⟩ : ∃ r, r = N % 2 := ⟨_, rfl⟩
            rw [← hr] at ha hr2 HD2
            have hw8 := wrap8 (k := r) (by omega)
            have hyv : Hid (encB (UInt8.ofNat r) = .int .u8 ((UInt8.ofNat r).toNat : Int)) := rfl
            obtain ⟨N2, hN2'⟩ : ∃ N2, N2 = N / 2 := ⟨_, rfl⟩
            rw [← hN2'] at hhalf HD2
            have hN3 : 1 ≤ N2 ∧ N2 < N := by omega
            clear hr hN2' hdl hl3 hob3
            gi_wp2_with (gi_at_builtin; refine wpListIn_pushg (enc := encB) rfl (.tmp 32) (.tmp 36) rfl uB infoB encB_one rfl rfl hown3 hs3 (UInt8.ofNat r) _ hyv.out rfl m1.out.1 m1.out.2 ?_; intro A6 c6 W6 ho6 hk6; obtain ⟨y1, y2, y3, y4, y5⟩ := PUT.out wr W6 A6 (n3 + 1) c6 _ (Below.refl _ _) hk6 ho6)
            go_roundw
            case rel => exact ⟨N2, ds ++ [UInt8.ofNat r], rfl, hN3.1, by omega, HD2, Lib.hid ⟨by rw [← List.append_assoc]; exact y5, hv2.trans y3, ⟨y4.1.trans hv3.1, hv3.2.trans y4.2⟩⟩⟩
            case measure => (simp [intOf]) <;> omega
          · obtain rfl : N = 1 := by omega
            have d0 : decide ((1 : Int) < ((1 : Nat) : Int)) = false := by decide
            have HF : Hid (gathR bs k ++ ds = gathR bs (k + 1)) := by
              show _ = _
              have := HD.out
              rw [show 1 - 1 = 0 from rfl, digR, dif_pos rfl, List.append_nil] at this
              exact this
            gi_wp2
            have hfin := HV.out.1
            rw [HF.out] at hfin
            rw [Hs2.out]
            exact ⟨HV.out.2.1, HV.out.2.2, hfin⟩
      · have hq : oneQ (x, z) = oneR x := by unfold oneQ; exact if_neg hx0
        rw [hq] at hgn hll
        have HGN := Lib.hid hgn
        have p0 := u8_beq x 0 0 rfl
        rw [decide_eq_false hx0] at p0
        clear hgn hq hx0
        by_cases h254 : 254 ≤ x.toNat
        · have d0 : decide ((254 : Int) ≤ (x.toNat : Int)) = true := decide_eq_true (by omega)
          have d0' : decide (254 ≤ x.toNat) = true := decide_eq_true h254
          have ho : oneR x = [255, x - 254] := by unfold oneR; exact if_pos h254
          have hw8 := wrap_sub8 x 254
          have hw8 : IntKind.u8.wrap ((x.toNat : Int) - 254) = (((x - 254).toNat : Nat) : Int) := hw8
          have hl2 : n2 + 2 ≤ 2 * n := by rw [ho] at hll; exact hll
          have m1 : Hid (n2 + 2 ≤ maxLen ∧ (n2 + 2) * 1 ≤ 140737488355328) := ⟨by simp [maxLen]; omega, by omega⟩
          have HO := Lib.hid ho
          obtain ⟨y, hy⟩ : ∃ y, y = x - 254 := ⟨_, rfl⟩
          rw [← hy] at hw8 HO
          have hown2 : Hid (Own encB (W.alloc (.cells #[.int .u8 255, .int .u8 (y.toNat : Int)] 5)) (w.heap.size + 2) 5 A2 n2 c2 (gathR bs k)) := hown.below (balloc (Below.refl _ _) _)
          have hB2 : Hid (w.heap.size + 2 ≤ (W.alloc (.cells #[.int .u8 255, .int .u8 (y.toNat : Int)] 5)).heap.size) := by show _ ≤ _; rw [World.size_alloc]; omega
          have htwo : Hid (Cells (W.alloc (.cells #[.int .u8 255, .int .u8 (y.toNat : Int)] 5)) (some ⟨W.heap.size, 0, none⟩) 2 (fun i => encB ([255, y].getD i 0))) := two_bytesV W 5 255 y
          have hbal : Hid (Below W.heap.size W (W.alloc (.cells #[.int .u8 255, .int .u8 (y.toNat : Int)] 5))) := balloc (Below.refl _ _) _
          clear hy ho h254
          gi_wp2_with (gi_at_builtin; refine wpListIn_appg (enc := encB) rfl (.tmp 41) (.tmp 44) rfl uB infoB encB_one rfl rfl hown2.out hB2.out (some ⟨W.heap.size, 0, none⟩) 2 2 [255, y] 0 rfl htwo.out rfl m1.out.1 m1.out.2 ?_; intro A6 c6 W6 ho6 hk6; obtain ⟨y1, y2, y3, y4, y5⟩ := PUT.out _ W6 A6 (n2 + 2) c6 _ hbal.out hk6 ho6)
          rw [← HO.out, ← HGN.out] at y5
          rw [Hs2.out]
          exact ⟨y3, y4, y5⟩
        · have d0 : decide ((254 : Int) ≤ (x.toNat : Int)) = false := decide_eq_false (by omega)
          have d0' : decide (254 ≤ x.toNat) = false := decide_eq_false h254
          have ho : oneR x = [x + 1] := by unfold oneR; exact if_neg h254
          have hw8 := wrap_add8 x 1
          have hw8 : IntKind.u8.wrap ((x.toNat : Int) + 1) = (((x + 1).toNat : Nat) : Int) := hw8
          have hl2 : n2 + 1 ≤ 2 * n := by rw [ho] at hll; exact hll
          have m1 : Hid (n2 + 1 ≤ maxLen ∧ (n2 + 1) * 1 ≤ 140737488355328) := ⟨by simp [maxLen]; omega, by omega⟩
          have HO := Lib.hid ho
          obtain ⟨y, hy⟩ : ∃ y, y = x + 1 := ⟨_, rfl⟩
          rw [← hy] at hw8 HO
          have hyv : Hid (encB y = .int .u8 (y.toNat : Int)) := rfl
          clear hy ho h254
          gi_wp2_with (gi_at_builtin; refine wpListIn_pushg (enc := encB) rfl (.tmp 18) (.tmp 21) rfl uB infoB encB_one rfl rfl hown hsW y _ hyv.out rfl m1.out.1 m1.out.2 ?_; intro A6 c6 W6 ho6 hk6; obtain ⟨y1, y2, y3, y4, y5⟩ := PUT.out W W6 A6 (n2 + 1) c6 _ (Below.refl _ _) hk6 ho6)
          rw [← HO.out, ← HGN.out] at y5
          rw [Hs2.out]
          exact ⟨y3, y4, y5⟩
end Go.Proofs.YtohadkmaemmfgaaGreatDoor
namespace Go.Proofs.YtohadkmaemmfgaaGreatDoor
open Go.RowKit Go.Proofs
set_option linter.unusedVariables false
set_option linter.unusedSimpArgs false
theorem valR_snoc (b : UInt8) : ∀ l : List UInt8, valR (l ++ [b]) = valR l + 2 ^ l.length * (b.toNat + 1)
  | [] => by simp [valR]
  | a :: r => by
    rw [List.cons_append, valR, valR, valR_snoc b r, List.length_cons, Nat.pow_succ, Nat.mul_add, ← Nat.mul_assoc, Nat.mul_comm 2 (2 ^ r.length)]
    omega
end Go.Proofs.YtohadkmaemmfgaaGreatDoor
