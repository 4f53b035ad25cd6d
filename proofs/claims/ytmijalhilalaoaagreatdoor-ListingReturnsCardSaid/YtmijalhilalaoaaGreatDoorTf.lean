/- Contracts of layer 17: declarations. -/
import Derived.Test.YtmijalhilalaoaaGreatDoorTe
import Derived.Deep.RegionHeld3
import Derived.Deep.DeepCutAuto
namespace Go.Proofs.YtmijalhilalaoaaGreatDoor
open Go.RowKit Go.Proofs
set_option linter.unusedVariables false

def encT (s : List UInt8) : Value := .string (strB s)
theorem encT_one (s : List UInt8) : (encT s).oneCell' = true := rfl
theorem infoS : (Tryz.prog.info? 9).map (fun i => (i.zero, i.size, i.bytes)) = some (some (encT []), 1, 16) := by kernel_rfl
theorem uSs : Tryz.prog.underlying 45 = some (.slice 9) := by kernel_rfl
section
variable {α : Type} {enc : α → Value} {P : Program} {w : World} {B : Nat} {e t : TypeId} {A : Option Addr} {n c : Nat} {xs : List α} {zero : α} {bytes : Nat}
  {ops : Array Oper} {rest : List Oper} {o : Oper} {a : Act} {K : Act → World → Prop} {Q : Exit → Act → World → Prop} {E : Prop}
theorem step_pushv (hgd : o.guard = none) (s x : Operand) (ho : o.op = .call { callee := .builtin .append, args := #[s, x], argTypes := #[t, t] })
    (ht : P.underlying t = some (.slice e)) (hi : (P.info? e).map (fun i => (i.zero, i.size, i.bytes)) = some (some (enc zero), 1, bytes)) (h1 : ∀ x, (enc x).oneCell' = true) (hz : (enc zero).cells.size = 1)
    (hs : a.eval s = .slice A n c) (hown : Own enc w B e A n c xs) (hB : B ≤ w.heap.size) (y : α) (v : Value) (hv : enc y = v)
    (hx : a.eval x = .slice (some ⟨w.heap.size, 0, none⟩) 1 1) (hl : n + 1 ≤ maxLen) (hby : (n + 1) * bytes ≤ 140737488355328)
    (h : ∀ A2 c2 w', Own enc w' B e A2 (n + 1) c2 (xs ++ [y]) → Below B w w' → K (a.put o.dst (.slice A2 (n + 1) c2)) w') :
    if Region.wanted o (yielded ops a.tmps) = true then Oper.wp P o a (w.alloc (.cells #[v] e)) K Q else E := by
  subst hv
  exact step_push hgd s x ho ht hi h1 hz hs hown hB y hx hl hby h
theorem step_pushg (hgd : o.guard = none) (s x : Operand) (ho : o.op = .call { callee := .builtin .append, args := #[s, x], argTypes := #[t, t] })
    (ht : P.underlying t = some (.slice e)) (hi : (P.info? e).map (fun i => (i.zero, i.size, i.bytes)) = some (some (enc zero), 1, bytes)) (h1 : ∀ x, (enc x).oneCell' = true) (hz : (enc zero).cells.size = 1)
    (hs : a.eval s = .slice A n c) (hown : Own enc w B e A n c xs) (hB : B ≤ w.heap.size) (y : α) (v : Value) (hv : enc y = v)
    (hx : a.eval x = .slice (some ⟨w.heap.size, 0, none⟩) 1 1) (hl : n + 1 ≤ maxLen) (hby : (n + 1) * bytes ≤ 140737488355328)
    (h : ∀ A2 c2 w', Own enc w' B e A2 (n + 1) c2 (xs ++ [y]) → Below B w w' → w.grownBy w' (Value.slice A n c).ownBlock → K (a.put o.dst (.slice A2 (n + 1) c2)) w') :
    if Region.wanted o (yielded ops a.tmps) = true then Oper.wp P o a (w.alloc (.cells #[v] e)) K Q else E := by
  subst hv
  rw [if_pos (by simp [Region.wanted, hgd])]
  obtain ⟨A2, c2, w', hrun, h2, h3, h4⟩ := run_append_own_one (P := P) o.type ht hi h1 hz hown hB y hl hby
  unfold Oper.wp execOp
  simp only [ho, resolve, invoke, builtin, Sem.run_bind, Sem.run_pure, Result.andThen_ok, List.map_toArray, List.map_cons, List.map_nil, hs, hx, hrun]
  exact h A2 c2 w' h2 h3 (grownBy.trans' (World.grownBy_alloc w _ _) h4)
end
theorem cell_grown {w w' : World} {p : Addr} {v : Value} {row : Option Nat} (hg : w.grownBy w' row) (hlt : p.block < w.heap.size) (hne : some p.block ≠ row) (hc : w.cell? p = some v) : w'.cell? p = some v := by
  have := hg.block p.block hlt hne
  unfold World.cell? at hc ⊢
  rw [this]
  exact hc

set_option maxRecDepth 100000 in
set_option maxHeartbeats 4000000 in
theorem declsT_any (A A' : Option Addr) (n c n' c' : Nat) (L : Int) (p : Prg) (w : World) (hx : Progs w A n c L A' n' c' p) (hf : formE p = 0) (hT : TabI w) :
    Calls Tryz.prog 15 #[.agg #[.slice A n c, .int .i64 L, .slice A' n' c']] w fun e w' => ∃ A2 n2 c2, e = .returned (.slice A2 n2 c2) ∧ n2 ≤ 24 ∧ Own encT w' w.heap.size 9 A2 n2 c2 (declL p) ∧ Below w.heap.size w w' := by
  have hL := bounds_i64 hx.wf
  have HnA := Lib.hid hx.arrs.1
  have HL := Lib.hid hx.locs
  have g0 : Below w.heap.size w (w.alloc (.cells #[.slice A n c, .int .i64 L, .slice A' n' c'] 25)) := balloc (Below.refl _ _) _
  have r0 := rowV.new w 25 #[.slice A n c, .int .i64 L, .slice A' n' c']
  obtain ⟨w0, hw0⟩ : ∃ w0, w0 = w.alloc (.cells #[.slice A n c, .int .i64 L, .slice A' n' c'] 25) := ⟨_, rfl⟩
  rw [← hw0] at g0 r0
  obtain ⟨f1, f2, f3, f4, -, -⟩ := formE_ok hf
  rw [HnA.out] at f1
  rw [← HL.out] at f3 f4
  have F2 := Lib.hid f2
  clear f2 hf
  obtain ⟨l, rfl⟩ : ∃ l : Nat, L = (l : Int) := ⟨L.toNat, by omega⟩
  obtain ⟨c0, c1, c2⟩ := three_cells r0
  go_enter Tryz.func15, Tryz.ntmps15
  go_wp2_with fail
  rw [← hw0]
  clear hw0
  have ho0 := Own.nil encT w0 w0.heap.size 9
  have hx0 := hx.below g0
  have hT0 := hT.below g0
  go_loopw [3, 11] (fun d i wr => ∃ (k c3 : Nat) (A3 : Option Addr), k ≤ n ∧ i = .int .i64 (k : Int) ∧ d = .slice A3 k c3 ∧ Own encT wr w0.heap.size 9 A3 k c3 (arrsTo p.arrs k) ∧ Below w0.heap.size w0 wr) (fun _ i _ => n - (intOf i).toNat)
  case atStart => exact ⟨0, 0, none, Nat.zero_le _, rfl, rfl, ho0, Below.refl _ _⟩
  case round =>
    clear ho0
    obtain ⟨k, c3, A3, hk, rfl, rfl, ho3, hb3⟩ := hrel
    by_cases hlt : k < n
    · have e1 : decide ((k : Int) < (n : Int)) = true := by simp; omega
      have e1' : decide (k < n) = true := by simp; omega
      obtain ⟨b, off, rfl, hbl, hcell⟩ := (hx0.arrs.below hb3).get hlt
      obtain ⟨q1, q2⟩ := hcell k hlt
      have hsz := F2.out (gA p.arrs k) (gA_mem (by rw [HnA.out]; exact hlt))
      clear hcell
      have HS := Lib.hid (arrsTo_succ p.arrs k)
      obtain ⟨x, hxe⟩ : ∃ x, x = gA p.arrs k := ⟨_, rfl⟩
      rw [← hxe] at q1 q2 hsz HS
      clear hxe
      obtain ⟨wd, sz⟩ := x
      dsimp only at q1 q2 hsz
      have b4 := balloc (hb3.mono (Nat.le_refl _)) (.cells #[.bool wd, .int .i64 sz] 61)
      have ho4 := ho3.below ((Below.refl wr.heap.size wr).alloc (Nat.le_refl _) (.cells #[.bool wd, .int .i64 sz] 61))
      have a1 : (wr.alloc (.cells #[.bool wd, .int .i64 sz] 61)).cell? ⟨wr.heap.size, 0, none⟩ = some (.bool wd) := by simp
      have a2 : (wr.alloc (.cells #[.bool wd, .int .i64 sz] 61)).cell? ⟨wr.heap.size, 1, none⟩ = some (.int .i64 sz) := by simp
      have hlt5 : wr.heap.size < (wr.alloc (.cells #[.bool wd, .int .i64 sz] 61)).heap.size := by simp
      obtain ⟨s, rfl⟩ : ∃ s : Nat, sz = (s : Int) := ⟨sz.toNat, by omega⟩
      obtain ⟨w5, hw5⟩ : ∃ w5, w5 = wr.alloc (.cells #[.bool wd, .int .i64 (s : Int)] 61) := ⟨_, rfl⟩
      rw [← hw5] at b4 ho4 a1 a2 hlt5
      have z1 := decS_le (n := k) (by omega)
      have z2 := decS_le (n := s) (by omega)
      have hT5 := hT0.below b4
      have zk : (strB (decS k)).size ≤ 11 := z1
      have zs : (strB (decS s)).size ≤ 11 := z2
      have s1 : ¬ 9223372036854775807 < 7 + (strB (decS k)).size := by omega
      have s1' : ¬ 9223372036854775807 < 5 + 2 + (strB (decS k)).size := by omega
      have s2 : ¬ 9223372036854775807 < 7 + (strB (decS k)).size + 1 := by omega
      have s3 : ¬ 9223372036854775807 < 7 + (strB (decS k)).size + 1 + (strB (decS s)).size := by omega
      have m1 : Hid (k + 1 ≤ maxLen ∧ (k + 1) * 16 ≤ 140737488355328) := ⟨by simp [maxLen]; omega, by omega⟩
      have HV : Hid (∀ wd : Bool, encT (arrL k ⟨wd, (s : Int)⟩) = .string (strB (kindT wd) ++ (⟨#[32, 97]⟩ : ByteArray) ++ strB (decS k) ++ (⟨#[32]⟩ : ByteArray) ++ strB (decS s))) := fun wd => by
        show Value.string (strB (kindT wd ++ [32, 97] ++ decS k ++ [32] ++ decS s)) = _
        rw [← strB_append, ← strB_append, ← strB_append, ← strB_append]; rfl
      have s1b : ((⟨#[119, 111, 114, 100, 115]⟩ : ByteArray) ++ (⟨#[32, 97]⟩ : ByteArray)).size = 7 := by kernel_rfl
      have s1c : ((⟨#[98, 121, 116, 101, 115]⟩ : ByteArray) ++ (⟨#[32, 97]⟩ : ByteArray)).size = 7 := by kernel_rfl
      have H1 := Lib.hid (itoa_any k w5.drew (by omega) hT5)
      have hB5 := b4.size
      have hne : some wr.heap.size ≠ (Value.slice A3 k c3).ownBlock := fun h => by have := own_block_lt ho3 _ h.symm; omega
      cases wd with
      | true =>
        go_wp2_with fail
        rw [← hw5]
        clear hw5
        go_region_held3 (fun W => W.cell? ⟨wr.heap.size, 1, none⟩ = some (.int .i64 (s : Int)))
          (first
            | go_keep
            | exact (hb6.cell (p := ⟨wr.heap.size, 1, none⟩) hlt5).trans a2
            | exact (hb7.cell (p := ⟨wr.heap.size, 1, none⟩) hr6).trans m2
            | exact cell_grown hg8 hr7 hne m7)
          (first
            | (go_at_call_of 27 (Value.int .i64 (k : Int)); refine H1.out.mono ?_; rintro e w6 ⟨rfl, hb6⟩; have hr6 : wr.heap.size < w6.heap.size := Nat.lt_of_lt_of_le hlt5 hb6.size; have m2 := (hb6.cell (p := ⟨wr.heap.size, 1, none⟩) hlt5).trans a2)
            | (go_at_call_of 27 (Value.int .i64 (s : Int)); refine (itoa_any s w6 (by omega) (TabI.below (w := w5.drew) hT5 hb6)).mono ?_; rintro e w7 ⟨rfl, hb7⟩; have b57 : Below w5.heap.size w5 w7 := ((Drawn.drewN w5 1).below _).trans (hb6.trans (hb7.mono hb6.size)); have ho7 := ho4.below b57; have hB7 := Nat.le_trans hB5 b57.size; have hr7 : wr.heap.size < w7.heap.size := Nat.lt_of_lt_of_le hr6 hb7.size; have m7 := (hb7.cell (p := ⟨wr.heap.size, 1, none⟩) hr6).trans m2)
            | (refine step_pushg (enc := encT) rfl (.tmp 18) (.tmp 29) rfl uSs infoS encT_one rfl rfl ho7 hB7 (arrL k ⟨true, (s : Int)⟩) _ (HV.out true) rfl m1.out.1 m1.out.2 ?_; intro A8 c8 w8 ho8 hb8 hg8))
        have b8 : Below w0.heap.size w0 w8 := b4.trans ((b57.mono hB5).trans hb8)
        go_wp2_with fail
        go_roundw
        case rel => exact ⟨k + 1, _, _, by omega, by go_num, rfl, HS.out ▸ ho8, b8⟩
        case measure => simp [intOf]; omega
      | false =>
        go_wp2_with fail
        rw [← hw5]
        clear hw5
        go_region_held3 (fun W => W.cell? ⟨wr.heap.size, 1, none⟩ = some (.int .i64 (s : Int)))
          (first
            | go_keep
            | exact (hb6.cell (p := ⟨wr.heap.size, 1, none⟩) hlt5).trans a2
            | exact (hb7.cell (p := ⟨wr.heap.size, 1, none⟩) hr6).trans m2
            | exact cell_grown hg8 hr7 hne m7)
          (first
            | (go_at_call_of 27 (Value.int .i64 (k : Int)); refine H1.out.mono ?_; rintro e w6 ⟨rfl, hb6⟩; have hr6 : wr.heap.size < w6.heap.size := Nat.lt_of_lt_of_le hlt5 hb6.size; have m2 := (hb6.cell (p := ⟨wr.heap.size, 1, none⟩) hlt5).trans a2)
            | (go_at_call_of 27 (Value.int .i64 (s : Int)); refine (itoa_any s w6 (by omega) (TabI.below (w := w5.drew) hT5 hb6)).mono ?_; rintro e w7 ⟨rfl, hb7⟩; have b57 : Below w5.heap.size w5 w7 := ((Drawn.drewN w5 1).below _).trans (hb6.trans (hb7.mono hb6.size)); have ho7 := ho4.below b57; have hB7 := Nat.le_trans hB5 b57.size; have hr7 : wr.heap.size < w7.heap.size := Nat.lt_of_lt_of_le hr6 hb7.size; have m7 := (hb7.cell (p := ⟨wr.heap.size, 1, none⟩) hr6).trans m2)
            | (refine step_pushg (enc := encT) rfl (.tmp 18) (.tmp 29) rfl uSs infoS encT_one rfl rfl ho7 hB7 (arrL k ⟨false, (s : Int)⟩) _ (HV.out false) rfl m1.out.1 m1.out.2 ?_; intro A8 c8 w8 ho8 hb8 hg8))
        have b8 : Below w0.heap.size w0 w8 := b4.trans ((b57.mono hB5).trans hb8)
        go_wp2_with fail
        go_roundw
        case rel => exact ⟨k + 1, _, _, by omega, by go_num, rfl, HS.out ▸ ho8, b8⟩
        case measure => simp [intOf]; omega
    · have e1 : decide ((k : Int) < (n : Int)) = false := by simp; omega
      have e1' : decide (k < n) = false := by simp; omega
      obtain rfl : n = k := by omega
      have r3 := r0.below hb3 r0.lt
      obtain ⟨c0, c1, c2⟩ := three_cells r3
      go_wp2_with fail
      go_loopw [3, 34] (fun d i wr => ∃ (k c3 : Nat) (A3 : Option Addr), k ≤ l ∧ i = .int .i64 (k : Int) ∧ d = .slice A3 (n + k) c3 ∧ Own encT wr w0.heap.size 9 A3 (n + k) c3 (arrsTo p.arrs n ++ locsTo k) ∧ Below w0.heap.size w0 wr) (fun _ i _ => l - (intOf i).toNat)
      case atStart => exact ⟨0, _, _, Nat.zero_le _, rfl, rfl, by unfold locsTo; simpa using ho3, hb3⟩
      case round =>
        clear ho3 hb3 r3 c0 c1 c2
        obtain ⟨k, c3, A3, hk, rfl, rfl, ho3, hb3⟩ := hrel
        by_cases hlt : k < l
        · have e2 : decide ((k : Int) < (l : Int)) = true := by simp; omega
          have e2' : decide (k < l) = true := by simp; omega
          have z1 := decS_le (n := k) (by omega)
          have s1 : ¬ 9223372036854775807 < 7 + (strB (decS k)).size := by rw [strB_size]; omega
          have H1 := Lib.hid (itoa_any k wr (by omega) (hT0.below hb3))
          have HV : Hid (encT (locL k) = .string ((⟨#[108, 111, 99, 97, 108, 32, 108]⟩ : ByteArray) ++ strB (decS k))) := by
            show Value.string (strB ([108, 111, 99, 97, 108, 32, 108] ++ decS k)) = _
            rw [← strB_append]; rfl
          have m1 : Hid (n + k + 1 ≤ maxLen ∧ (n + k + 1) * 16 ≤ 140737488355328) := ⟨by simp [maxLen]; omega, by omega⟩
          have HS := Lib.hid (locsTo_succ k)
          go_wp2_with fail
          refine H1.out.mono ?_
          rintro e w6 ⟨rfl, hb6⟩
          have ho6 := ho3.below hb6
          have b6 := hb3.trans (hb6.mono hb3.size)
          have hB6 := b6.size
          clear H1 hb6
          go_wp2_with (at_builtin; refine wpList_pushg (enc := encT) rfl (.tmp 37) (.tmp 41) rfl uSs infoS encT_one rfl rfl ho6 hB6 (locL k) _ HV.out rfl m1.out.1 m1.out.2 ?_; intro A8 c8 w8 ho8 hb8 hg8)
          go_roundw
          case rel => exact ⟨k + 1, _, _, by omega, by go_num, rfl, by rw [HS.out, ← List.append_assoc]; exact ho8, b6.trans hb8⟩
          case measure => simp [intOf]; omega
        · have e2 : decide ((k : Int) < (l : Int)) = false := by simp; omega
          have e2' : decide (k < l) = false := by simp; omega
          obtain rfl : l = k := by omega
          have HD : Hid (declL p = arrsTo p.arrs n ++ locsTo l) := by
            show _ = _
            unfold declL
            rw [HnA.out, ← HL.out]; rfl
          go_wp2_with fail
          go_ret
          exact ⟨_, _, _, rfl, by omega, HD.out ▸ ho3.mono g0.size, g0.trans (hb3.mono g0.size)⟩
end Go.Proofs.YtmijalhilalaoaaGreatDoor
