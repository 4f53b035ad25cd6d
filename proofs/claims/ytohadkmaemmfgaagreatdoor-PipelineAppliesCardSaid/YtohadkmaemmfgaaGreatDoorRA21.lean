/- Zt Zu. -/
import Derived.Test.YtohadkmaemmfgaaGreatDoorRA20
import Derived.Test.YtohadkmaemmfgaaGreatDoorRA10
set_option maxRecDepth 100000
set_option maxHeartbeats 4000000
namespace Go.Proofs.YtohadkmaemmfgaaGreatDoor
open Go.RowKit Go.Proofs
set_option linter.unusedVariables false
set_option linter.unusedSimpArgs false
section
variable {α : Type} {enc : α → Value} {P : Program} {w : World} {B : Nat} {e t : TypeId} {A : Option Addr} {n c : Nat} {xs : List α} {zero : α} {bytes : Nat}
  {ops : Array Oper} {rest : List Oper} {o : Oper} {a : Act} {K : Act → World → Prop} {Q : Exit → Act → World → Prop} {E : Prop}
theorem wpList_pushk (hgd : o.guard = none) (s x : Operand) (ho : o.op = .call { callee := .builtin .append, args := #[s, x], argTypes := #[t, t] })
    (ht : P.underlying t = some (.slice e)) (hi : (P.info? e).map (fun i => (i.zero, i.size, i.bytes)) = some (some (enc zero), 1, bytes)) (h1 : ∀ x, (enc x).oneCell' = true) (hz : (enc zero).cells.size = 1)
    (hs : a.eval s = .slice A n c) (hown : Own enc w B e A n c xs) (hB : B ≤ w.heap.size) (y : α) (v : Value) (hv : enc y = v)
    (hx : a.eval x = .slice (some ⟨w.heap.size, 0, none⟩) 1 1) (hl : n + 1 ≤ maxLen) (hby : (n + 1) * bytes ≤ 140737488355328)
    (h : ∀ A2 c2 w', Own enc w' B e A2 (n + 1) c2 (xs ++ [y]) → w.grownBy w' (Value.slice A n c).ownBlock → wpList P ops Q rest (a.put o.dst (.slice A2 (n + 1) c2)) w') : wpList P ops Q (o :: rest) a (w.alloc (.cells #[v] e)) := by
  subst hv
  refine wpList_plain hgd fun K hK => ?_
  obtain ⟨A2, c2, w', hrun, h2, h3, h4⟩ := run_append_own_one (P := P) o.type ht hi h1 hz hown hB y hl hby
  unfold Oper.wp execOp
  simp only [ho, resolve, invoke, builtin, Sem.run_bind, Sem.run_pure, Result.andThen_ok, List.map_toArray, List.map_cons, List.map_nil, hs, hx, hrun]
  exact hK _ _ (h A2 c2 w' h2 (grownBy.trans' (World.grownBy_alloc w _ _) h4))
end
def recS (bs : List UInt8) : Nat → List UInt8
  | 0 => lst0
  | k + 1 => mov (recS bs k) (plc (recS bs k) (bA bs k))
def recO (bs : List UInt8) (k : Nat) : List UInt8 := (List.range k).map fun j => UInt8.ofNat (plc (recS bs j) (bA bs j))
theorem recS_full (bs : List UInt8) : ∀ k, Full (recS bs k)
  | 0 => lst0_full
  | k + 1 => (recS_full bs k).mov (plc_lt (recS_full bs k) _)
theorem recO_next (bs : List UInt8) (k : Nat) : recO bs (k + 1) = recO bs k ++ [UInt8.ofNat (plc (recS bs k) (bA bs k))] := by unfold recO; rw [List.range_succ, List.map_append]; rfl
theorem recF_at (bs : List UInt8) : ∀ k, k ≤ bs.length → recF lst0 bs = recO bs k ++ recF (recS bs k) (bs.drop k)
  | 0, _ => rfl
  | k + 1, h => by
    rw [recF_at bs k (by omega), drop_bA (show k < bs.length by omega), recF, recO_next, List.append_assoc]
    rfl
theorem recF_all (bs : List UInt8) : recF lst0 bs = recO bs bs.length := by
  rw [recF_at bs bs.length (Nat.le_refl _), List.drop_length, recF, List.append_nil]
structure RecI (w : World) (g : Nat) (l out : List UInt8) (A : Option Addr) (n c : Nat) (W : World) : Prop where
  row : RowR W g l
  own : Own encB W w.heap.size 5 A n c out
  below : Below w.heap.size w W
  ge : w.heap.size ≤ g
section
variable {w W W' : World} {g n c : Nat} {l out : List UInt8} {A : Option Addr}
theorem RecI.lt (h : RecI w g l out A n c W) : g < W.heap.size := h.row.lt
theorem RecI.front {l' : List UInt8} (h : RecI w g l out A n c W) (hr : RowR W' g l') (hg : W.grownBy W' (some g)) : RecI w g l' out A n c W' := by
  obtain ⟨h1, h2, h3, h4⟩ := h
  refine ⟨hr, own_keepT h2 fun j cur hB ho => (hg.block j (Array.getElem?_eq_some_iff.1 ho).1 (fun e => ?_)).trans ho, h3.grown hg h3.size (fun r e => by cases e; exact h4), h4⟩
  injection e with e
  subst e
  have h1' : W.heap[j]? = _ := h1
  rw [h1'] at ho
  injection ho with ho
  injection ho with _ ho
  exact absurd ho (by decide)
theorem RecI.push {A' : Option Addr} {n' c' : Nat} {out' : List UInt8} (h : RecI w g l out A n c W) (ho : Own encB W' w.heap.size 5 A' n' c' out') (hg : W.grownBy W' (Value.slice A n c).ownBlock) : RecI w g l out' A' n' c' W' := by
  obtain ⟨h1, h2, h3, h4⟩ := h
  refine ⟨h1.grown hg (fun e => ?_), ho, h3.grown hg h3.size (fun r e => (blk_type h2 e).1), h4⟩
  obtain ⟨_, cur, hc⟩ := blk_type h2 e.symm
  have h1' : W.heap[g]? = _ := h1
  rw [h1'] at hc
  injection hc with hc
  injection hc with _ hc
  exact absurd hc (by decide)
theorem RecI.drew (h : RecI w g l out A n c W) (q : Nat) : RecI w g l out A n c (W.drewN q) := ⟨h.row, h.own, h.below.trans ((Drawn.drewN W q).below _), h.ge⟩
end
theorem recF_any (A : Option Addr) (n c : Nat) (bs : List UInt8) (w : World) (hx : Bytes w A n c bs) (hn : n ≤ 1000000) :
    Calls Tryz.prog 41 #[.slice A n c] w (RetBytes w (if 65536 < n then [] else recF lst0 bs) (if 65536 < n then 5 else 0)) := by
  have HFR := Lib.hid (fresh_any w)
  have HX := Lib.hid hx
  have Hn := Lib.hid hx.1
  have hsh := fun W => shortR_any A n c W
  clear hx
  by_cases h6 : 65536 < n
  · simp only [if_pos h6] at hsh ⊢
    have HSH := Lib.hid hsh
    clear hsh h6
    go_enter Tryz.func41, Tryz.ntmps41
    go_wp2_with fail
    refine HFR.out.mono ?_
    rintro e w1 ⟨⟨g, rfl, hg, hr⟩, hb⟩
    have HB := Lib.hid hb
    clear hb hr
    go_wp2_with fail
    refine (HSH.out w1).mono ?_
    rintro e w2 ⟨rfl, hw⟩
    obtain rfl : w1 = w2 := hw.symm
    go_wp2_with fail
    go_ret2
    exact RetBytes.err rfl HB.out
  · simp only [if_neg h6] at hsh ⊢
    have HSH := Lib.hid hsh
    have HRL : Hid (recF lst0 bs = recO bs n) := by show _ = _; rw [recF_all, Hn.out]
    rw [HRL.out]
    clear hsh h6
    go_enter Tryz.func41, Tryz.ntmps41
    go_wp2_with fail
    refine HFR.out.mono ?_
    rintro e w1 ⟨⟨g, rfl, hg, hr⟩, hb⟩
    have HI0 : Hid (RecI w g (recS bs 0) (recO bs 0) none 0 0 w1) := ⟨hr, Own.nil _ _ _ _, hb, hg⟩
    clear hb hr
    go_wp2_with fail
    refine (HSH.out w1).mono ?_
    rintro e w2 ⟨rfl, hw⟩
    obtain rfl : w1 = w2 := hw.symm
    go_wp2_with fail
    go_loopw [5, 8, 9, 18] (fun o _ _ i wr => ∃ (k : Nat) (A3 : Option Addr) (c3 : Nat), k ≤ n ∧ i = .int .i64 (k : Int) ∧ o = .slice A3 k c3 ∧ Hid (RecI w g (recS bs k) (recO bs k) A3 k c3 wr)) (fun _ _ _ i _ => n - (intOf i).toNat)
    case atStart => exact ⟨0, none, 0, Nat.zero_le _, rfl, rfl, HI0⟩
    case round =>
      obtain ⟨k, A3, c3, hk, rfl, rfl, HI⟩ := hrel
      by_cases hlt : k < n
      · have d0 : decide ((k : Int) < (n : Int)) = true := decide_eq_true (by omega)
        have d0' : decide (k < n) = true := decide_eq_true hlt
        obtain ⟨b, off, rfl, hbl, hcl⟩ := (HX.out.below HI.out.below).get hlt
        have y0 : wr.cell? ⟨b, off + k, none⟩ = some (.int .u8 ((bA bs k).toNat : Int)) := hcl k hlt
        have HFU := Lib.hid (recS_full bs k)
        have hpc := place_any g (recS bs k) (bA bs k) wr HI.out.row HFU.out
        have hpl := plc_lt HFU.out (bA bs k)
        have hnx := recO_next bs k
        have hsx : recS bs (k + 1) = mov (recS bs k) (plc (recS bs k) (bA bs k)) := rfl
        obtain ⟨p, hp⟩ : ∃ p, p = plc (recS bs k) (bA bs k) := ⟨_, rfl⟩
        rw [← hp] at hpc hpl hnx hsx
        have HPC := Lib.hid hpc
        have HNX := Lib.hid hnx
        have HSX := Lib.hid hsx
        have HFT := Lib.hid (front_any g (recS bs k) p wr HI.out.row HFU.out.1 hpl)
        have hw8 := wrap8 hpl
        have m1 : Hid (k + 1 ≤ maxLen ∧ (k + 1) * 1 ≤ 140737488355328) := ⟨by simp [maxLen]; omega, by omega⟩
        obtain ⟨x, hxx⟩ : ∃ x, x = bA bs k := ⟨_, rfl⟩
        rw [← hxx] at y0 HPC
        have hpv : Hid (encB (UInt8.ofNat p) = .int .u8 ((UInt8.ofNat p).toNat : Int)) := rfl
        clear hpc hnx hsx hp hcl hxx
        go_wp2_with fail
        refine HPC.out.mono ?_
        rintro e w3 ⟨rfl, hw⟩
        obtain rfl : wr = w3 := hw.symm
        go_wp2_with fail
        refine HFT.out.mono ?_
        rintro e w4 ⟨rfl, hr4, hg4, hs4⟩
        have HI4 := Lib.hid (HI.out.front hr4 hg4)
        have hown4 := HI4.out.own
        have hB4 := HI4.out.below.size
        clear hr4 hg4 hs4
        go_wp2_with (at_builtin; refine wpList_pushk (enc := encB) rfl (.tmp 28) (.tmp 31) rfl uB infoB encB_one rfl rfl hown4 hB4 (UInt8.ofNat p) _ hpv.out rfl m1.out.1 m1.out.2 ?_; intro A6 c6 W6 ho6 hk6)
        go_roundw
        case rel => exact ⟨k + 1, A6, c6, by omega, by go_num, rfl, Lib.hid (by rw [HNX.out, HSX.out]; exact HI4.out.push ho6 hk6)⟩
        case measure => (simp [intOf]) <;> omega
      · obtain rfl : n = k := by omega
        have d0 : decide ((n : Int) < (n : Int)) = false := by simp
        go_wp2_with fail
        go_ret2
        exact RetBytes.mk rfl HI.out.own.bytesB HI.out.below
theorem wrap64_u8 (x : UInt8) : wrap64 (x.toNat : Int) = (x.toNat : Int) := by
  have := x.toNat_lt
  unfold wrap64; omega
end Go.Proofs.YtohadkmaemmfgaaGreatDoor
namespace Go.Proofs.YtohadkmaemmfgaaGreatDoor
open Go.RowKit Go.Proofs
set_option linter.unusedVariables false
set_option linter.unusedSimpArgs false
attribute [local go_sem] Oper.semAt_some
def rnQ (bs : List UInt8) (i : Nat) : List (UInt8 × Nat) := if h : i < bs.length then (bA bs i, max 1 (zrs (bs.drop i))) :: rnQ bs (i + max 1 (zrs (bs.drop i))) else []
  termination_by bs.length - i
  decreasing_by omega
theorem rnQ_more {bs : List UInt8} {i : Nat} (h : i < bs.length) : rnQ bs i = (bA bs i, max 1 (zrs (bs.drop i))) :: rnQ bs (i + max 1 (zrs (bs.drop i))) := by rw [rnQ, dif_pos h]
theorem rnQ_end {bs : List UInt8} {i : Nat} (h : bs.length ≤ i) : rnQ bs i = [] := by rw [rnQ, dif_neg (by omega)]
def oneQ (x : UInt8 × Nat) : List UInt8 := if x.1 = 0 then digR x.2 else oneR x.1
theorem runF_rnQ (bs : List UInt8) : ∀ (d i : Nat), bs.length - i = d → runF bs i = (rnQ bs i).flatMap oneQ := by
  intro d
  induction d using Nat.strongRecOn with
  | _ d ih =>
    intro i hd
    by_cases h : i < bs.length
    · have hdb := drop_bA h
      by_cases hz : bA bs i = 0
      · have hp : 0 < zrs (bs.drop i) := by rw [hdb, zrs, if_pos hz]; omega
        rw [runF_zeros h hp, rnQ_more h, List.flatMap_cons, show max 1 (zrs (bs.drop i)) = zrs (bs.drop i) by omega, ih _ (by omega) (i + zrs (bs.drop i)) rfl]
        unfold oneQ
        rw [if_pos hz]
      · have hp : zrs (bs.drop i) = 0 := by rw [hdb, zrs, if_neg hz]
        rw [runF_one h hp, rnQ_more h, List.flatMap_cons, hp, show max 1 0 = 1 from rfl, ih _ (by omega) (i + 1) rfl]
        unfold oneQ
        rw [if_neg hz]
    · rw [runF_end (by omega), rnQ_end (by omega)]; rfl
theorem zrs_zero : ∀ (l : List UInt8) (j : Nat), j < zrs l → j < l.length ∧ bA l j = 0
  | [], j, h => absurd h (Nat.not_lt_zero _)
  | b :: r, j, h => by
    rw [zrs] at h
    split at h
    · rename_i hb
      cases j with
      | zero => exact ⟨Nat.succ_pos _, hb⟩
      | succ j =>
        have := zrs_zero r j (by omega)
        exact ⟨Nat.succ_lt_succ this.1, this.2⟩
    · omega
theorem zrs_next : ∀ (l : List UInt8), zrs l < l.length → bA l (zrs l) ≠ 0
  | [], h => absurd h (Nat.not_lt_zero _)
  | b :: r, h => by
    by_cases hb : b = 0
    · rw [zrs, if_pos hb] at h ⊢
      exact zrs_next r (Nat.lt_of_succ_lt_succ h)
    · rw [zrs, if_neg hb]
      exact hb
theorem bA_drop (bs : List UInt8) (i j : Nat) : bA (bs.drop i) j = bA bs (i + j) := by
  unfold bA
  rw [List.getD_eq_getElem?_getD, List.getElem?_drop, ← List.getD_eq_getElem?_getD]
theorem run_at {bs : List UInt8} {i : Nat} (h : i < bs.length) (hz : bA bs i = 0) : 1 ≤ zrs (bs.drop i) ∧ i + zrs (bs.drop i) ≤ bs.length ∧ (∀ j, j < zrs (bs.drop i) → bA bs (i + j) = 0) ∧ (i + zrs (bs.drop i) < bs.length → bA bs (i + zrs (bs.drop i)) ≠ 0) := by
  have h1 := zrs_le (bs.drop i)
  rw [List.length_drop] at h1
  refine ⟨by rw [drop_bA h, zrs, if_pos hz]; omega, by omega, fun j hj => ?_, fun hl => ?_⟩
  · rw [← bA_drop]; exact (zrs_zero _ j hj).2
  · rw [← bA_drop]; exact zrs_next _ (by rw [List.length_drop]; omega)
theorem run_not {bs : List UInt8} {i : Nat} (h : i < bs.length) (hz : bA bs i ≠ 0) : zrs (bs.drop i) = 0 := by rw [drop_bA h, zrs, if_neg hz]
def rnG (bs : List UInt8) (k : Nat) : UInt8 × Nat := (rnQ bs 0).getD k (0, 0)
def rnRow (bs : List UInt8) (k : Nat) : Array Value := #[.int .u8 ((rnG bs k).1.toNat : Int), .int .i64 ((rnG bs k).2 : Int)]
theorem rn_drop {bs : List UInt8} {k : Nat} {x : UInt8 × Nat} {r : List (UInt8 × Nat)} (h : (rnQ bs 0).drop k = x :: r) : k < (rnQ bs 0).length ∧ rnG bs k = x ∧ (rnQ bs 0).drop (k + 1) = r := by
  have hk : k < (rnQ bs 0).length := by
    rcases Nat.lt_or_ge k (rnQ bs 0).length with h1 | h1
    · exact h1
    · rw [List.drop_of_length_le h1] at h; cases h
  rw [List.drop_eq_getElem_cons hk] at h
  injection h with h1 h2
  refine ⟨hk, ?_, h2⟩
  unfold rnG
  rw [List.getD_eq_getElem?_getD, List.getElem?_eq_getElem hk, ← h1]
  rfl
theorem rn_nil {bs : List UInt8} {k : Nat} (h : (rnQ bs 0).drop k = []) (hk : k ≤ (rnQ bs 0).length) : k = (rnQ bs 0).length := by
  have := congrArg List.length h
  rw [List.length_drop] at this
  simp at this
  omega
theorem runs_any (A : Option Addr) (n c : Nat) (w : World) :
    Calls Tryz.prog 95 #[.slice A n c] w fun e w' => e = .returned (.func (.func 166) #[] #[.pointer (some ⟨w.heap.size, 0, none⟩)]) ∧ w' = w.alloc (.cells #[.slice A n c] 23) := by
  go_enter Tryz.func95, Tryz.ntmps95
  go_wp2_with fail
  go_ret
  exact ⟨rfl, rfl⟩
theorem runs1_gives (w0 : World) (A : Option Addr) (n c : Nat) (bs : List UInt8) (hx : Bytes w0 A n c bs) (hn : n ≤ 1000000) (b1 : Nat) (hb1 : w0.heap.size ≤ b1) :
    Gives Tryz.prog 166 #[.pointer (some ⟨b1, 0, none⟩)] (rnRow bs) (rnQ bs 0).length Eq (oneKp w0.heap.size b1)
      (fun W => Boxed W b1 23 (.slice A n c) ∧ Below w0.heap.size w0 W) := by
  intro l J Jx W ⟨hbox1, hbel⟩ hJ hJx hY h0
  have HY := Lib.hid hY; clear hY
  have HX := Lib.hid hx
  have Hl := Lib.hid hx.1
  have q1 := hbox1.cell
  refine callsIn_of_wp Tryz.func166 rfl trivial ?_ rfl
  simp only [Tryz.ntmps166, List.size_toArray, List.length_cons, List.length_nil, Nat.reduceAdd, Nat.reduceSub, Array.replicate_succ, Array.replicate_zero, List.push_toArray, List.append_toArray, List.nil_append, List.cons_append]
  clear hx
  gi_wp2
  gi_loopw [3, 4] (fun i _ wr => ∃ k iq : Nat, i = .int .i64 (iq : Int) ∧ iq ≤ n ∧ k ≤ (rnQ bs 0).length ∧ J k wr ∧ Boxed wr b1 23 (.slice A n c) ∧ Below w0.heap.size w0 wr ∧ Hid ((rnQ bs 0).drop k = rnQ bs iq)) (fun i _ _ => n - (intOf i).toNat)
  case atStart => exact ⟨0, 0, rfl, by omega, Nat.zero_le _, h0, hbox1, hbel, Lib.hid (by rw [List.drop_zero])⟩
  case round =>
    obtain ⟨k, iq, rfl, hiq, hk, hJk, hbx, hbelk, HD⟩ := hrel
    clear q1 hbox1 h0 hbel
    have q1 := hbx.cell
    by_cases hin : iq < n
    · have d0 : decide ((iq : Int) < (n : Int)) = true := decide_eq_true (by omega)
      have d0' : decide (iq < n) = true := decide_eq_true hin
      have hil : iq < bs.length := by rw [Hl.out]; exact hin
      obtain ⟨b, off, rfl, -, hcc⟩ := (HX.out.below hbelk).2.2 (by omega)
      have y0 : wr.cell? ⟨b, off + iq, none⟩ = some (.int .u8 ((bA bs iq).toNat : Int)) := hcc iq hin
      have HCC : Hid (∀ j, iq + j < n → wr.cell? ⟨b, off + (iq + j), none⟩ = some (.int .u8 ((bA bs (iq + j)).toNat : Int))) := fun j hj => hcc (iq + j) hj
      have hdq := HD.out
      rw [rnQ_more hil] at hdq
      obtain ⟨hkl, hG, hdn⟩ := rn_drop hdq
      have hy0 := HY.out k wr hkl hJk
      unfold rnRow at hy0
      rw [hG] at hy0
      clear hdq hG HD hcc
      by_cases hz : bA bs iq = 0
      · obtain ⟨r1, r2, r3, r4⟩ := run_at hil hz
        rw [Hl.out] at r2 r4
        rw [show max 1 (zrs (bs.drop iq)) = zrs (bs.drop iq) by omega] at hy0 hdn
        obtain ⟨z, hzz⟩ : ∃ z, z = zrs (bs.drop iq) := ⟨_, rfl⟩
        rw [← hzz] at r1 r2 r3 r4 hy0 hdn
        have HDn := Lib.hid hdn
        have R3 := Lib.hid r3
        have R4 := Lib.hid r4
        rw [hz] at y0 hy0
        have y0 : wr.cell? ⟨b, off + iq, none⟩ = some (.int .u8 0) := y0
        have hy0 : YieldAt Fence.wide 7 Tryz.prog l #[.int .u8 0, .int .i64 (z : Int)] wr _ := hy0
        clear hdn r3 r4 hzz hz
        obtain ⟨fn, tmps, assign, body, hy, hR⟩ := hy0
        gi_wp2
        gi_loop [4] (fun nn => ∃ m : Nat, nn = .int .i64 (m : Int) ∧ 1 ≤ m ∧ m ≤ z) (fun nn => z - (intOf nn).toNat)
        case atStart => exact ⟨1, rfl, by omega, r1⟩
        case round =>
          obtain ⟨m, rfl, hm1, hm2⟩ := hrel
          by_cases hmz : m < z
          · have e0 : decide ((iq : Int) + (m : Int) < (n : Int)) = true := decide_eq_true (by omega)
            have y1 := HCC.out m (by omega)
            rw [R3.out m hmz] at y1
            have y1 : wr.cell? ⟨b, off + (iq + m), none⟩ = some (.int .u8 0) := y1
            gi_wp2
            go_round
            case rel => exact ⟨m + 1, by go_num, by omega, by omega⟩
            case measure => (simp [intOf]) <;> omega
          · obtain rfl : m = z := by omega
            by_cases hiz : iq + m < n
            · have e0 : decide ((iq : Int) + (m : Int) < (n : Int)) = true := decide_eq_true (by omega)
              have y1 := HCC.out m hiz
              have hne := R4.out hiz
              obtain ⟨y, hyy⟩ : ∃ y, y = bA bs (iq + m) := ⟨_, rfl⟩
              rw [← hyy] at y1 hne
              have p1 := u8_beq y 0 0 rfl
              rw [decide_eq_false hne] at p1
              clear hyy hne
              gi_wp2
              refine hR.mono ?_
              rintro e W3 (⟨rfl, hJ3, hk3⟩ | ⟨rfl, hJx3⟩)
              · have hbx3 : Boxed W3 b1 23 (.slice (some ⟨b, off, none⟩) n c) := hk3.1.trans hbx
                have hbel3 := hbelk.trans hk3.2
                clear hR hy
                gi_wp2
                go_roundw
                case rel => exact ⟨k + 1, iq + m, by go_num, by omega, hkl, hJ3, hbx3, hbel3, HDn⟩
                case measure => (simp [intOf]) <;> omega
              · clear hR hy
                gi_wp2
                refine bodyPost_ret (results_none rfl _ _ _) rfl ?_
                exact ⟨⟨_, rfl⟩, .inr ⟨k + 1, hkl, hJx3⟩⟩
            · have e0 : decide ((iq : Int) + (m : Int) < (n : Int)) = false := decide_eq_false (by omega)
              gi_wp2
              refine hR.mono ?_
              rintro e W3 (⟨rfl, hJ3, hk3⟩ | ⟨rfl, hJx3⟩)
              · have hbx3 : Boxed W3 b1 23 (.slice (some ⟨b, off, none⟩) n c) := hk3.1.trans hbx
                have hbel3 := hbelk.trans hk3.2
                clear hR hy
                gi_wp2
                go_roundw
                case rel => exact ⟨k + 1, iq + m, by go_num, by omega, hkl, hJ3, hbx3, hbel3, HDn⟩
                case measure => (simp [intOf]) <;> omega
              · clear hR hy
                gi_wp2
                refine bodyPost_ret (results_none rfl _ _ _) rfl ?_
                exact ⟨⟨_, rfl⟩, .inr ⟨k + 1, hkl, hJx3⟩⟩
      · have hz1 := run_not hil hz
        rw [hz1, show max 1 0 = 1 from rfl] at hy0 hdn
        have HDn := Lib.hid hdn
        obtain ⟨x, hxx⟩ : ∃ x, x = bA bs iq := ⟨_, rfl⟩
        rw [← hxx] at y0 hy0 hz
        have p0 := u8_beq x 0 0 rfl
        rw [decide_eq_false hz] at p0
        clear hdn hz hz1 hxx
        have hy0 : YieldAt Fence.wide 7 Tryz.prog l #[.int .u8 (x.toNat : Int), .int .i64 1] wr _ := hy0
        obtain ⟨fn, tmps, assign, body, hy, hR⟩ := hy0
        gi_wp2
        gi_loop [4] (fun nn => nn = .int .i64 1) (fun nn => 0)
        case atStart => rfl
        case round =>
          obtain rfl := hrel
          gi_wp2
          refine hR.mono ?_
          rintro e W3 (⟨rfl, hJ3, hk3⟩ | ⟨rfl, hJx3⟩)
          · have hbx3 : Boxed W3 b1 23 (.slice (some ⟨b, off, none⟩) n c) := hk3.1.trans hbx
            have hbel3 := hbelk.trans hk3.2
            clear hR hy
            gi_wp2
            go_roundw
            case rel => exact ⟨k + 1, iq + 1, by go_num, by omega, hkl, hJ3, hbx3, hbel3, HDn⟩
            case measure => (simp [intOf]) <;> omega
          · clear hR hy
            gi_wp2
            refine bodyPost_ret (results_none rfl _ _ _) rfl ?_
            exact ⟨⟨_, rfl⟩, .inr ⟨k + 1, hkl, hJx3⟩⟩
    · obtain rfl : iq = n := by omega
      have d0 : decide ((iq : Int) < (iq : Int)) = false := by simp
      have hkl : k = (rnQ bs 0).length := rn_nil (by rw [HD.out, rnQ_end (by rw [Hl.out]; exact Nat.le_refl _)]) hk
      gi_wp2
      go_end0
      exact ⟨⟨_, rfl⟩, .inl (hkl ▸ hJk)⟩
end Go.Proofs.YtohadkmaemmfgaaGreatDoor
