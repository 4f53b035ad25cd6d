/- Zt Zu. -/
import Derived.Test.YtohadkmaemmfgaaGreatDoorRI19
import Derived.Test.YtohadkmaemmfgaaGreatDoorRI56
set_option maxRecDepth 100000
set_option maxHeartbeats 4000000
namespace Go.Proofs.YtohadkmaemmfgaaGreatDoor
open Go.RowKit Go.Proofs
set_option linter.unusedVariables false
set_option linter.unusedSimpArgs false
section
variable {α : Type} {enc : α → Value} {P : Program} {w : World} {B : Nat} {e t : TypeId} {A : Option Addr} {n c : Nat} {xs : List α} {zero : α} {bytes : Nat}
  {ops : Array Oper} {rest : List Oper} {o : Oper} {a : Act} {K : Act → World → Prop} {Q : Exit → Act → World → Prop} {E : Prop}
theorem wpList_pushk (hgd : o.guard = none) (s x : Operand) (ho : o.op = .call { callee := .builtin .append, args := #[s, x], argTypes := #[t, t] })
    (ht : P.underlying t = some (.slice e)) (hi : (P.info? e).map (fun i => (i.zero, i.size, i.bytes)) = some (some (enc zero), 1, bytes)) (h1 : ∀ x, (enc x).oneCell' = true) (hz : (enc zero).cells.size = 1)
    (hs : a.eval s = .slice A n c) (hown : Own enc w B e A n c xs) (hB : B ≤ w.heap.size) (y : α) (v : Value) (hv : enc y = v)
    (hx : a.eval x = .slice (some ⟨w.heap.size, 0, none⟩) 1 1) (hl : n + 1 ≤ maxLen) (hby : (n + 1) * bytes ≤ 140737488355328)
    (h : ∀ A2 c2 w', Own enc w' B e A2 (n + 1) c2 (xs ++ [y]) → w.grownBy w' (Value.slice A n c).ownBlock → wpList P ops Q rest (a.put o.dst (.slice A2 (n + 1) c2)) w') : wpList P ops Q (o :: rest) a (w.alloc (.cells #[v] e)) := by
  subst hv
  refine wpList_plain hgd fun K hK => ?_
  obtain ⟨A2, c2, w', hrun, h2, h3, h4⟩ := run_append_own_one (P := P) o.type ht hi h1 hz hown hB y hl hby
  unfold Oper.wp execOp
  simp only [ho, resolve, invoke, builtin, Sem.run_bind, Sem.run_pure, Result.andThen_ok, List.map_toArray, List.map_cons, List.map_nil, hs, hx, hrun]
  exact hK _ _ (h A2 c2 w' h2 (grownBy.trans' (World.grownBy_alloc w _ _) h4))
end
def recS (bs : List UInt8) : Nat → List UInt8
  | 0 => lst0
  | k + 1 => mov (recS bs k) (plc (recS bs k) (bA bs k))
def recO (bs : List UInt8) (k : Nat) : List UInt8 := (List.range k).map fun j => UInt8.ofNat (plc (recS bs j) (bA bs j))
theorem recS_full (bs : List UInt8) : ∀ k, Full (recS bs k)
  | 0 => lst0_full
  | k + 1 => (recS_full bs k).mov (plc_lt (recS_full bs k) _)
theorem recO_next (bs : List UInt8) (k : Nat) : recO bs (k + 1) = recO bs k ++ [UInt8.ofNat (plc (recS bs k) (bA bs k))] := by unfold recO; rw [List.range_succ, List.map_append]; rfl
theorem recF_at (bs : List UInt8) : ∀ k, k ≤ bs.length → recF lst0 bs = recO bs k ++ recF (recS bs k) (bs.drop k)
  | 0, _ => rfl
  | k + 1, h => by
    rw [recF_at bs k (by omega), drop_bA (show k < bs.length by omega), recF, recO_next, List.append_assoc]
    rfl
theorem recF_all (bs : List UInt8) : recF lst0 bs = recO bs bs.length := by
  rw [recF_at bs bs.length (Nat.le_refl _), List.drop_length, recF, List.append_nil]
def recT (bs : List UInt8) : Nat → List UInt8
  | 0 => lst0
  | k + 1 => mov (recT bs k) (bA bs k).toNat
def recQ (bs : List UInt8) (k : Nat) : List UInt8 := (List.range k).map fun j => bA (recT bs j) (bA bs j).toNat
theorem recT_full (bs : List UInt8) : ∀ k, Full (recT bs k)
  | 0 => lst0_full
  | k + 1 => (recT_full bs k).mov (bA bs k).toNat_lt
theorem recQ_next (bs : List UInt8) (k : Nat) : recQ bs (k + 1) = recQ bs k ++ [bA (recT bs k) (bA bs k).toNat] := by unfold recQ; rw [List.range_succ, List.map_append]; rfl
theorem recI_at (bs : List UInt8) : ∀ k, k ≤ bs.length → recI lst0 bs = recQ bs k ++ recI (recT bs k) (bs.drop k)
  | 0, _ => rfl
  | k + 1, h => by
    rw [recI_at bs k (by omega), drop_bA (show k < bs.length by omega), recI, recQ_next, List.append_assoc]
    rfl
theorem recI_all (bs : List UInt8) : recI lst0 bs = recQ bs bs.length := by
  rw [recI_at bs bs.length (Nat.le_refl _), List.drop_length, recI, List.append_nil]
structure RecI (w : World) (g : Nat) (l out : List UInt8) (A : Option Addr) (n c : Nat) (W : World) : Prop where
  row : RowR W g l
  own : Own encB W w.heap.size 5 A n c out
  below : Below w.heap.size w W
  ge : w.heap.size ≤ g
section
variable {w W W' : World} {g n c : Nat} {l out : List UInt8} {A : Option Addr}
theorem RecI.lt (h : RecI w g l out A n c W) : g < W.heap.size := h.row.lt
theorem RecI.front {l' : List UInt8} (h : RecI w g l out A n c W) (hr : RowR W' g l') (hg : W.grownBy W' (some g)) : RecI w g l' out A n c W' := by
  obtain ⟨h1, h2, h3, h4⟩ := h
  refine ⟨hr, own_keepT h2 fun j cur hB ho => (hg.block j (Array.getElem?_eq_some_iff.1 ho).1 (fun e => ?_)).trans ho, h3.grown hg h3.size (fun r e => by cases e; exact h4), h4⟩
  injection e with e
  subst e
  have h1' : W.heap[j]? = _ := h1
  rw [h1'] at ho
  injection ho with ho
  injection ho with _ ho
  exact absurd ho (by decide)
theorem RecI.push {A' : Option Addr} {n' c' : Nat} {out' : List UInt8} (h : RecI w g l out A n c W) (ho : Own encB W' w.heap.size 5 A' n' c' out') (hg : W.grownBy W' (Value.slice A n c).ownBlock) : RecI w g l out' A' n' c' W' := by
  obtain ⟨h1, h2, h3, h4⟩ := h
  refine ⟨h1.grown hg (fun e => ?_), ho, h3.grown hg h3.size (fun r e => (blk_type h2 e).1), h4⟩
  obtain ⟨_, cur, hc⟩ := blk_type h2 e.symm
  have h1' : W.heap[g]? = _ := h1
  rw [h1'] at hc
  injection hc with hc
  injection hc with _ hc
  exact absurd hc (by decide)
theorem RecI.drew (h : RecI w g l out A n c W) (q : Nat) : RecI w g l out A n c (W.drewN q) := ⟨h.row, h.own, h.below.trans ((Drawn.drewN W q).below _), h.ge⟩
end
theorem recF_any (A : Option Addr) (n c : Nat) (bs : List UInt8) (w : World) (hx : Bytes w A n c bs) (hn : n ≤ 1000000) :
    Calls Tryz.prog 41 #[.slice A n c] w (RetBytes w (if 65536 < n then [] else recF lst0 bs) (if 65536 < n then 5 else 0)) := by
  have HFR := Lib.hid (fresh_any w)
  have HX := Lib.hid hx
  have Hn := Lib.hid hx.1
  have hsh := fun W => shortR_any A n c W
  clear hx
  by_cases h6 : 65536 < n
  · simp only [if_pos h6] at hsh ⊢
    have HSH := Lib.hid hsh
    clear hsh h6
    go_enter Tryz.func41, Tryz.ntmps41
    go_wp2_with fail
    refine HFR.out.mono ?_
    rintro e w1 ⟨⟨g, rfl, hg, hr⟩, hb⟩
    have HB := Lib.hid hb
    clear hb hr
    go_wp2_with fail
    refine (HSH.out w1).mono ?_
    rintro e w2 ⟨rfl, hw⟩
    obtain rfl : w1 = w2 := hw.symm
    go_wp2_with fail
    go_ret2
    exact RetBytes.err rfl HB.out
  · simp only [if_neg h6] at hsh ⊢
    have HSH := Lib.hid hsh
    have HRL : Hid (recF lst0 bs = recO bs n) := by show _ = _; rw [recF_all, Hn.out]
    rw [HRL.out]
    clear hsh h6
    go_enter Tryz.func41, Tryz.ntmps41
    go_wp2_with fail
    refine HFR.out.mono ?_
    rintro e w1 ⟨⟨g, rfl, hg, hr⟩, hb⟩
    have HI0 : Hid (RecI w g (recS bs 0) (recO bs 0) none 0 0 w1) := ⟨hr, Own.nil _ _ _ _, hb, hg⟩
    clear hb hr
    go_wp2_with fail
    refine (HSH.out w1).mono ?_
    rintro e w2 ⟨rfl, hw⟩
    obtain rfl : w1 = w2 := hw.symm
    go_wp2_with fail
    go_loopw [5, 8, 9, 18] (fun o _ _ i wr => ∃ (k : Nat) (A3 : Option Addr) (c3 : Nat), k ≤ n ∧ i = .int .i64 (k : Int) ∧ o = .slice A3 k c3 ∧ Hid (RecI w g (recS bs k) (recO bs k) A3 k c3 wr)) (fun _ _ _ i _ => n - (intOf i).toNat)
    case atStart => exact ⟨0, none, 0, Nat.zero_le _, rfl, rfl, HI0⟩
    case round =>
      obtain ⟨k, A3, c3, hk, rfl, rfl, HI⟩ := hrel
      by_cases hlt : k < n
      · have d0 : decide ((k : Int) < (n : Int)) = true := decide_eq_true (by omega)
        have d0' : decide (k < n) = true := decide_eq_true hlt
        obtain ⟨b, off, rfl, hbl, hcl⟩ := (HX.out.below HI.out.below).get hlt
        have y0 : wr.cell? ⟨b, off + k, none⟩ = some (.int .u8 ((bA bs k).toNat : Int)) := hcl k hlt
        have HFU := Lib.hid (recS_full bs k)
        have hpc := place_any g (recS bs k) (bA bs k) wr HI.out.row HFU.out
        have hpl := plc_lt HFU.out (bA bs k)
        have hnx := recO_next bs k
        have hsx : recS bs (k + 1) = mov (recS bs k) (plc (recS bs k) (bA bs k)) := rfl
        obtain ⟨p, hp⟩ : ∃ p, p = plc (recS bs k) (bA bs k) := ⟨_, rfl⟩
        rw [← hp] at hpc hpl hnx hsx
        have HPC := Lib.hid hpc
        have HNX := Lib.hid hnx
        have HSX := Lib.hid hsx
        have HFT := Lib.hid (front_any g (recS bs k) p wr HI.out.row HFU.out.1 hpl)
        have hw8 := wrap8 hpl
        have m1 : Hid (k + 1 ≤ maxLen ∧ (k + 1) * 1 ≤ 140737488355328) := ⟨by simp [maxLen]; omega, by omega⟩
        obtain ⟨x, hxx⟩ : ∃ x, x = bA bs k := ⟨_, rfl⟩
        rw [← hxx] at y0 HPC
        have hpv : Hid (encB (UInt8.ofNat p) = .int .u8 ((UInt8.ofNat p).toNat : Int)) := rfl
        clear hpc hnx hsx hp hcl hxx
        go_wp2_with fail
        refine HPC.out.mono ?_
        rintro e w3 ⟨rfl, hw⟩
        obtain rfl : wr = w3 := hw.symm
        go_wp2_with fail
        refine HFT.out.mono ?_
        rintro e w4 ⟨rfl, hr4, hg4, hs4⟩
        have HI4 := Lib.hid (HI.out.front hr4 hg4)
        have hown4 := HI4.out.own
        have hB4 := HI4.out.below.size
        clear hr4 hg4 hs4
        go_wp2_with (at_builtin; refine wpList_pushk (enc := encB) rfl (.tmp 28) (.tmp 31) rfl uB infoB encB_one rfl rfl hown4 hB4 (UInt8.ofNat p) _ hpv.out rfl m1.out.1 m1.out.2 ?_; intro A6 c6 W6 ho6 hk6)
        go_roundw
        case rel => exact ⟨k + 1, A6, c6, by omega, by go_num, rfl, Lib.hid (by rw [HNX.out, HSX.out]; exact HI4.out.push ho6 hk6)⟩
        case measure => (simp [intOf]) <;> omega
      · obtain rfl : n = k := by omega
        have d0 : decide ((n : Int) < (n : Int)) = false := by simp
        go_wp2_with fail
        go_ret2
        exact RetBytes.mk rfl HI.out.own.bytesB HI.out.below
theorem wrap64_u8 (x : UInt8) : wrap64 (x.toNat : Int) = (x.toNat : Int) := by
  have := x.toNat_lt
  unfold wrap64; omega
theorem recI_any (A : Option Addr) (n c : Nat) (bs : List UInt8) (w : World) (hx : Bytes w A n c bs) (hn : n ≤ 1000000) :
    Calls Tryz.prog 42 #[.slice A n c] w (RetBytes w (if 65536 < n then [] else recI lst0 bs) (if 65536 < n then 5 else 0)) := by
  have HFR := Lib.hid (fresh_any w)
  have HX := Lib.hid hx
  have Hn := Lib.hid hx.1
  have hsh := fun W => shortR_any A n c W
  clear hx
  by_cases h6 : 65536 < n
  · simp only [if_pos h6] at hsh ⊢
    have HSH := Lib.hid hsh
    clear hsh h6
    go_enter Tryz.func42, Tryz.ntmps42
    go_wp2_with fail
    refine HFR.out.mono ?_
    rintro e w1 ⟨⟨g, rfl, hg, hr⟩, hb⟩
    have HB := Lib.hid hb
    clear hb hr
    go_wp2_with fail
    refine (HSH.out w1).mono ?_
    rintro e w2 ⟨rfl, hw⟩
    obtain rfl : w1 = w2 := hw.symm
    go_wp2_with fail
    go_ret2
    exact RetBytes.err rfl HB.out
  · simp only [if_neg h6] at hsh ⊢
    have HSH := Lib.hid hsh
    have HRL : Hid (recI lst0 bs = recQ bs n) := by show _ = _; rw [recI_all, Hn.out]
    rw [HRL.out]
    clear hsh h6
    go_enter Tryz.func42, Tryz.ntmps42
    go_wp2_with fail
    refine HFR.out.mono ?_
    rintro e w1 ⟨⟨g, rfl, hg, hr⟩, hb⟩
    have HI0 : Hid (RecI w g (recT bs 0) (recQ bs 0) none 0 0 w1) := ⟨hr, Own.nil _ _ _ _, hb, hg⟩
    clear hb hr
    go_wp2_with fail
    refine (HSH.out w1).mono ?_
    rintro e w2 ⟨rfl, hw⟩
    obtain rfl : w1 = w2 := hw.symm
    go_wp2_with fail
    go_loopw [5, 8, 17] (fun o _ i wr => ∃ (k : Nat) (A3 : Option Addr) (c3 : Nat), k ≤ n ∧ i = .int .i64 (k : Int) ∧ o = .slice A3 k c3 ∧ Hid (RecI w g (recT bs k) (recQ bs k) A3 k c3 wr)) (fun _ _ i _ => n - (intOf i).toNat)
    case atStart => exact ⟨0, none, 0, Nat.zero_le _, rfl, rfl, HI0⟩
    case round =>
      obtain ⟨k, A3, c3, hk, rfl, rfl, HI⟩ := hrel
      by_cases hlt : k < n
      · have d0 : decide ((k : Int) < (n : Int)) = true := decide_eq_true (by omega)
        have d0' : decide (k < n) = true := decide_eq_true hlt
        obtain ⟨b, off, rfl, hbl, hcl⟩ := (HX.out.below HI.out.below).get hlt
        have y0 : wr.cell? ⟨b, off + k, none⟩ = some (.int .u8 ((bA bs k).toNat : Int)) := hcl k hlt
        have HFU := Lib.hid (recT_full bs k)
        have hnx := recQ_next bs k
        have hsx : recT bs (k + 1) = mov (recT bs k) (bA bs k).toNat := rfl
        have hlt8 := (bA bs k).toNat_lt
        have HFT := front_any g (recT bs k) (bA bs k).toNat wr HI.out.row HFU.out.1 hlt8
        obtain ⟨x, hxx⟩ : ∃ x, x = bA bs k := ⟨_, rfl⟩
        rw [← hxx] at y0 hnx hsx HFT
        have HNX := Lib.hid hnx
        have HSX := Lib.hid hsx
        replace HFT := Lib.hid HFT
        have hw64 := wrap64_u8 x
        have m1 : Hid (k + 1 ≤ maxLen ∧ (k + 1) * 1 ≤ 140737488355328) := ⟨by simp [maxLen]; omega, by omega⟩
        have hpv : Hid (encB (bA (recT bs k) x.toNat) = .int .u8 ((bA (recT bs k) x.toNat).toNat : Int)) := rfl
        clear hnx hsx hcl hxx hlt8
        go_wp2_with fail
        refine HFT.out.mono ?_
        rintro e w4 ⟨rfl, hr4, hg4, hs4⟩
        have HI4 := Lib.hid (HI.out.front hr4 hg4)
        have hown4 := HI4.out.own
        have hB4 := HI4.out.below.size
        clear hr4 hg4 hs4
        go_wp2_with (at_builtin; refine wpList_pushk (enc := encB) rfl (.tmp 21) (.tmp 26) rfl uB infoB encB_one rfl rfl hown4 hB4 (bA (recT bs k) x.toNat) _ hpv.out rfl m1.out.1 m1.out.2 ?_; intro A6 c6 W6 ho6 hk6)
        go_roundw
        case rel => exact ⟨k + 1, A6, c6, by omega, by go_num, rfl, Lib.hid (by rw [HNX.out, HSX.out]; exact HI4.out.push ho6 hk6)⟩
        case measure => (simp [intOf]) <;> omega
      · obtain rfl : n = k := by omega
        have d0 : decide ((n : Int) < (n : Int)) = false := by simp
        go_wp2_with fail
        go_ret2
        exact RetBytes.mk rfl HI.out.own.bytesB HI.out.below
end Go.Proofs.YtohadkmaemmfgaaGreatDoor
namespace Go.Proofs.YtohadkmaemmfgaaGreatDoor
open Go.RowKit Go.Proofs
set_option linter.unusedVariables false
set_option linter.unusedSimpArgs false
attribute [local go_sem] Oper.semAt_some
theorem bA_drop (bs : List UInt8) (i j : Nat) : bA (bs.drop i) j = bA bs (i + j) := by
  unfold bA
  rw [List.getD_eq_getElem?_getD, List.getElem?_drop, ← List.getD_eq_getElem?_getD]
end Go.Proofs.YtohadkmaemmfgaaGreatDoor
