/- Contracts of layer 17: operand, line. -/
import Derived.Test.YtmijalhilalaoaaGreatDoorTd
namespace Go.Proofs.YtmijalhilalaoaaGreatDoor
open Go.RowKit Go.Proofs
set_option linter.unusedVariables false

theorem strB_size (x : List UInt8) : (strB x).size = x.length := rfl
theorem two_alloc (w : World) (a b : Array Value) (s t : TypeId) : Below w.heap.size w ((w.alloc (.cells a s)).alloc (.cells b t)) ∧ rowV ((w.alloc (.cells a s)).alloc (.cells b t)) w.heap.size s a ∧ rowV ((w.alloc (.cells a s)).alloc (.cells b t)) (w.heap.size + 1) t b := by
  have hb : Below w.heap.size w (w.alloc (.cells a s)) := balloc (Below.refl _ _) _
  have r1 := rowV.new w s a
  refine ⟨balloc hb _, r1.below ((Below.refl _ _).alloc (Nat.le_refl _) _) r1.lt, ?_⟩
  have := rowV.new (w.alloc (.cells a s)) t b
  rwa [World.size_alloc] at this
set_option maxRecDepth 100000 in
set_option maxHeartbeats 2000000 in
theorem operand_any (A A' : Option Addr) (n c n' c' : Nat) (L : Int) (i : Ins) (w : World) (hL : (Lit.int .i64 L).wf = true) (hn : n ≤ 1000) (h0 : 0 ≤ i.arg) (h1 : i.arg < 4294967296) (hT : TabI w) :
    Calls Tryz.prog 30 #[.agg #[.slice A n c, .int .i64 L, .slice A' n' c'], .agg #[.int .i64 i.op, .int .u32 i.arg]] w fun e w' => e = .returned (.tuple #[.string (strB (operL i)), .bool (exL L n i)]) ∧ Below w.heap.size w w' := by
  obtain ⟨op, arg⟩ := i
  dsimp only at h0 h1 ⊢
  obtain ⟨g, rfl⟩ : ∃ g : Nat, arg = (g : Int) := ⟨arg.toNat, by omega⟩
  have hL := bounds_i64 hL
  obtain ⟨g0, r1, r2⟩ := two_alloc w #[.slice A n c, .int .i64 L, .slice A' n' c'] #[.int .i64 op, .int .u32 (g : Int)] 25 41
  obtain ⟨w0, hw0⟩ : ∃ w0, w0 = (w.alloc (.cells #[.slice A n c, .int .i64 L, .slice A' n' c'] 25)).alloc (.cells #[.int .i64 op, .int .u32 (g : Int)] 41) := ⟨_, rfl⟩
  rw [← hw0] at g0 r1 r2
  obtain ⟨a0, a1⟩ := two_cellsV r2
  have H := Lib.hid (itoa_any g w0 (by omega) (hT.below g0))
  have hs : ¬ 9223372036854775807 < (strB (decS g)).size + 2 := by have := decS_le (n := g) (by omega); rw [strB_size]; omega
  have hs1 : ¬ 9223372036854775807 < 1 + (strB (decS g)).size := by rw [strB_size] at hs ⊢; omega
  have hs2 : ¬ 9223372036854775807 < 2 + (strB (decS g)).size := by rw [strB_size] at hs ⊢; omega
  have hc1 : ∀ x : List UInt8, strB (32 :: x) = (⟨#[32]⟩ : ByteArray) ++ strB x := fun x => (strB_append [32] x).symm
  have hc2 : ∀ x : List UInt8, strB (32 :: 108 :: x) = (⟨#[32, 108]⟩ : ByteArray) ++ strB x := fun x => (strB_append [32, 108] x).symm
  have hc3 : ∀ x : List UInt8, strB (32 :: 97 :: x) = (⟨#[32, 97]⟩ : ByteArray) ++ strB x := fun x => (strB_append [32, 97] x).symm
  have Hc := Lib.hid (And.intro hc1 (And.intro hc2 hc3))
  have hz : strB ([] : List UInt8) = ⟨#[]⟩ := rfl
  have Hz := Lib.hid hz
  have hO : Hid (operL ⟨op, (g : Int)⟩ = if op = 0 ∨ op = 35 then 32 :: decS g else if op = 1 ∨ op = 2 then 32 :: 108 :: decS g else if op = 3 ∨ op = 4 then 32 :: 97 :: decS g else []) := rfl
  have hX : Hid (exL L n ⟨op, (g : Int)⟩ = if op = 1 ∨ op = 2 then decide ((g : Int) < L) else if op = 3 ∨ op = 4 then decide ((g : Int) < (n : Int)) else true) := rfl
  have Hg : Hid (decide ((g : Int) < (n : Int)) = decide (g < n)) := by show _ = _; simp
  clear hc1 hc2 hc3 hz hs
  obtain ⟨O, hOe⟩ : ∃ O, O = operL ⟨op, (g : Int)⟩ := ⟨_, rfl⟩
  obtain ⟨X, hXe⟩ : ∃ X, X = exL L n ⟨op, (g : Int)⟩ := ⟨_, rfl⟩
  rw [← hOe] at hO ⊢
  rw [← hXe] at hX ⊢
  clear hOe hXe
  go_enter Tryz.func30, Tryz.ntmps30
  go_wp2_with fail
  rw [← hw0]
  clear hw0
  refine H.out.mono ?_
  rintro e w1 ⟨rfl, hb1⟩
  have b1 := g0.trans (hb1.mono g0.size)
  have r1 := r1.below hb1 r1.lt
  have r2 := r2.below hb1 r2.lt
  obtain ⟨p0, p1, p2⟩ := three_cells r1
  obtain ⟨a0, a1⟩ := two_cellsV r2
  clear H hb1 g0 hT
  by_cases c1 : op = 0 ∨ op = 35
  · rw [if_pos c1] at hO
    rw [if_neg (by omega), if_neg (by omega)] at hX
    rcases c1 with rfl | rfl
    · go_wp2_with fail
      go_ret2
      exact ⟨by rw [hO.out, hX.out, Hc.out.1]; rfl, b1⟩
    · go_wp2_with fail
      go_ret2
      exact ⟨by rw [hO.out, hX.out, Hc.out.1]; rfl, b1⟩
  rw [if_neg c1] at hO
  by_cases c2 : op = 1 ∨ op = 2
  · rw [if_pos c2] at hO hX
    rcases c2 with rfl | rfl
    · go_wp2_with fail
      go_quiet (fail)
      go_wp2_with fail
      go_ret2
      exact ⟨by rw [hO.out, hX.out, Hc.out.2.1]; rfl, bdrew b1 _⟩
    · go_wp2_with fail
      go_quiet (fail)
      go_wp2_with fail
      go_ret2
      exact ⟨by rw [hO.out, hX.out, Hc.out.2.1]; rfl, bdrew b1 _⟩
  rw [if_neg c2] at hO hX
  by_cases c3 : op = 3 ∨ op = 4
  · rw [if_pos c3] at hO hX
    rcases c3 with rfl | rfl
    · go_wp2_with fail
      go_quiet (fail)
      go_wp2_with fail
      go_ret2
      exact ⟨by rw [hO.out, hX.out, Hc.out.2.2, Hg.out]; rfl, bdrew b1 _⟩
    · go_wp2_with fail
      go_quiet (fail)
      go_wp2_with fail
      go_ret2
      exact ⟨by rw [hO.out, hX.out, Hc.out.2.2, Hg.out]; rfl, bdrew b1 _⟩
  rw [if_neg c3] at hO hX
  have d0 : (op == 0) = false := by simp; omega
  have d1 : (op == 35) = false := by simp; omega
  have d2 : (op == 1) = false := by simp; omega
  have d3 : (op == 2) = false := by simp; omega
  have d4 : (op == 3) = false := by simp; omega
  have d5 : (op == 4) = false := by simp; omega
  go_wp2_with fail
  go_ret2
  exact ⟨by rw [hO.out, hX.out, Hz.out]; rfl, b1⟩
theorem line_any (A A' : Option Addr) (n c n' c' : Nat) (L : Int) (i : Ins) (w : World) (hL : (Lit.int .i64 L).wf = true) (hn : n ≤ 1000) (h0 : 0 ≤ i.arg) (h1 : i.arg < 4294967296) (hT : TabI w) :
    Calls Tryz.prog 17 #[.agg #[.slice A n c, .int .i64 L, .slice A' n' c'], .agg #[.int .i64 i.op, .int .u32 i.arg]] w fun e w' => e = .returned (.tuple #[.string (strB (lineL i)), .bool (exL L n i)]) ∧ Below w.heap.size w w' := by
  obtain ⟨g0, r1, r2⟩ := two_alloc w #[.slice A n c, .int .i64 L, .slice A' n' c'] #[.int .i64 i.op, .int .u32 i.arg] 25 41
  obtain ⟨w0, hw0⟩ : ∃ w0, w0 = (w.alloc (.cells #[.slice A n c, .int .i64 L, .slice A' n' c'] 25)).alloc (.cells #[.int .i64 i.op, .int .u32 i.arg] 41) := ⟨_, rfl⟩
  rw [← hw0] at g0 r1 r2
  obtain ⟨p0, p1, p2⟩ := three_cells r1
  obtain ⟨a0, a1⟩ := two_cellsV r2
  have H := Lib.hid (operand_any A A' n c n' c' L i w0 hL hn h0 h1 (hT.below g0))
  have hN := Lib.hid (fun W => name_any i.op W)
  have ho : (operL i).length ≤ 13 := by
    have := decS_le (n := i.arg.toNat) (by omega)
    unfold operL decI
    split
    · simp; omega
    · split
      · simp; omega
      · split
        · simp; omega
        · simp
  have hX : (opX i.op).name.length ≤ 100 := by
    unfold opX
    split
    · rename_i h
      exact (by decide +kernel : ∀ a : Fin 36, (opO a.val).name.length ≤ 100) ⟨i.op.toNat, by omega⟩
    · simp
  have hs : ¬ 9223372036854775807 < (strB (opX i.op).name).size + (strB (operL i)).size := by rw [strB_size, strB_size]; omega
  have ha := Lib.hid (strB_append (opX i.op).name (operL i))
  have hl : Hid (lineL i = (opX i.op).name ++ operL i) := rfl
  obtain ⟨ll, hle⟩ : ∃ ll, ll = lineL i := ⟨_, rfl⟩
  rw [← hle] at hl ⊢
  obtain ⟨N, hNe⟩ : ∃ N, N = (opX i.op).name := ⟨_, rfl⟩
  rw [← hNe] at hs ha hl hN
  obtain ⟨O, hOe⟩ : ∃ O, O = operL i := ⟨_, rfl⟩
  rw [← hOe] at hs ha hl H
  obtain ⟨X, hXe⟩ : ∃ X, X = exL L n i := ⟨_, rfl⟩
  rw [← hXe] at H ⊢
  clear hle hNe hOe hXe hX ho hT
  go_enter Tryz.func17, Tryz.ntmps17
  go_wp2_with fail
  rw [← hw0]
  clear hw0
  refine H.out.mono ?_
  rintro e w1 ⟨rfl, hb1⟩
  have b1 := g0.trans (hb1.mono g0.size)
  have r1 := r1.below hb1 r1.lt
  have r2 := r2.below hb1 r2.lt
  obtain ⟨p0, p1, p2⟩ := three_cells r1
  obtain ⟨a0, a1⟩ := two_cellsV r2
  clear H hb1 g0
  go_wp2_with fail
  refine (hN.out _).mono ?_
  rintro e w2 ⟨rfl, hb2⟩
  have b2 := b1.trans (hb2.mono b1.size)
  clear hN
  go_wp2_with fail
  go_ret2
  exact ⟨by rw [hl.out, ha.out]; rfl, b2⟩
end Go.Proofs.YtmijalhilalaoaaGreatDoor
