/- Contracts of layer 17: the indenter and its closure; strings.Repeat, strings.Join on own strings. -/
import Derived.Test.YtmijalhilalaoaaGreatDoorTf
namespace Go.Proofs.YtmijalhilalaoaaGreatDoor
open Go.RowKit Go.Proofs
set_option linter.unusedVariables false

theorem Own.type {α : Type} {enc : α → Value} {w : World} {B : Nat} {e : TypeId} {A : Option Addr} {n c : Nat} {xs : List α} (h : Own enc w B e A n c xs) {g : Nat} (hg : (Value.slice A n c).ownBlock = some g) : B ≤ g ∧ ∃ cur, w.heap[g]? = some (.cells cur e (0, 0)) := by
  rcases h.2 with ⟨h1, _⟩ | ⟨g', cap, cur, h1, h2, h3, _⟩
  · rw [h1] at hg; cases hg
  · rw [h1] at hg
    injection hg with hg
    have hg' : g' = g := hg
    subst hg'
    exact ⟨h2, cur, h3⟩
theorem own_ne {α : Type} {enc : α → Value} {w : World} {B : Nat} {e t : TypeId} {A : Option Addr} {n c g : Nat} {xs : List α} {cs : Array Value} (h : Own enc w B e A n c xs) (hr : rowV w g t cs) (ht : t ≠ e) : some g ≠ (Value.slice A n c).ownBlock := fun hg => by
  obtain ⟨_, cur, hc⟩ := h.type hg.symm
  unfold rowV at hr
  rw [hr] at hc
  injection hc with hc
  injection hc with _ h2 _
  exact ht h2
theorem Own.grown {α : Type} {enc : α → Value} {w w' : World} {B : Nat} {e : TypeId} {A : Option Addr} {n c : Nat} {xs : List α} {row : Option Nat} (h : Own enc w B e A n c xs) (hg : w.grownBy w' row) (hne : (Value.slice A n c).ownBlock = none ∨ row ≠ (Value.slice A n c).ownBlock) : Own enc w' B e A n c xs := by
  refine ⟨h.1, ?_⟩
  rcases h.2 with h1 | ⟨g, cap, cur, h1, h2, h3, h4⟩
  · exact .inl h1
  · refine .inr ⟨g, cap, cur, h1, h2, ?_, h4⟩
    have hb : (Value.slice A n c).ownBlock = some g := by rw [h1]; rfl
    rw [hg.block g (Array.getElem?_eq_some_iff.1 h3).1 (by
      rcases hne with h5 | h5
      · rw [hb] at h5; cases h5
      · rw [← hb]; exact fun h => h5 h.symm)]
    exact h3
theorem grown_of_below {w w' : World} (h : Below w.heap.size w w') (row : Option Nat) : w.grownBy w' row := ⟨h.1, h.2, h.3, h.4, fun k hk _ => h.5 k hk⟩
theorem repeatL_sp : ∀ d : Nat, Lib.repeatL [32, 32] d = spL d
  | 0 => rfl
  | d + 1 => by
    rw [Lib.repeatL, repeatL_sp d]
    unfold spL
    rw [show 2 * (d + 1) = 2 + 2 * d by omega, ← List.replicate_append_replicate]; rfl
theorem repeat_sp (d : Nat) (w : World) (hd : d ≤ 1000000) : Calls Tryz.prog 29 #[.string ⟨#[32, 32]⟩, .int .i64 (d : Int)] w fun e w' => e = .returned (.string (strB (spL d))) ∧ Below w.heap.size w w' := by
  refine (Tryz.strings_Repeat ⟨#[32, 32]⟩ d w (by omega) (by show 2 * d ≤ _; omega)).mono ?_
  rintro e w' ⟨rfl, h⟩
  refine ⟨?_, h⟩
  show Ending.returned (.string ⟨(Lib.repeatL [32, 32] d).toArray⟩) = _
  rw [repeatL_sp]; rfl

def indV (g : Nat) : Value := .func (.func 28) #[] #[.pointer (some ⟨g, 0, none⟩)]
theorem one_cellV {w : World} {g : Nat} {t : TypeId} {a : Value} (h : rowV w g t #[a]) : w.cell? ⟨g, 0, none⟩ = some a := by
  unfold rowV at h
  simp [World.cell?, h]
theorem rowV.set1 {w : World} {g : Nat} {t : TypeId} {a b : Value} (h : rowV w g t #[a]) : rowV (w.setCell ⟨g, 0, none⟩ b) g t #[b] := by
  unfold rowV at h ⊢
  simp [World.setCell, Array.getElem?_modify, h]
theorem repeat_at (z : Int) (d : Nat) (w : World) (hz : z = (d : Int)) (hd : d ≤ 1000000) : Calls Tryz.prog 29 #[.string ⟨#[32, 32]⟩, .int .i64 z] w fun e w' => e = .returned (.string (strB (spL d))) ∧ Below w.heap.size w w' := by
  subst hz
  exact repeat_sp d w hd
theorem indenter_any (w : World) : Calls Tryz.prog 16 #[] w fun e w' => ∃ g, e = .returned (indV g) ∧ w.heap.size ≤ g ∧ rowV w' g 3 #[.int .i64 0] ∧ Below w.heap.size w w' := by
  go_enter Tryz.func16, Tryz.ntmps16
  go_wp2_with fail
  go_ret
  refine ⟨_, rfl, Nat.le_refl _, ?_, ?_⟩
  · first | exact (rowV.new w 3 #[.int .i64 0]).set1 | exact rowV.new w 3 #[.int .i64 0] | (trace_state; fail)
  · first | exact (balloc (Below.refl _ _) _) | exact (balloc (Below.refl _ _) _).setCell (Nat.le_refl _) _
theorem frozen_rowV {w : World} {g : Nat} {t : TypeId} {a : Array Value} (h : rowV w g t a) (j : Nat) : w.frozen? ⟨g, j, none⟩ = false := by
  unfold rowV at h
  simp [World.frozen?, h]
set_option maxHeartbeats 1000000 in
theorem indent_any (g d : Nat) (op : Int) (w : World) (hr : rowV w g 3 #[.int .i64 (d : Int)]) (hd : d ≤ 100000) :
    Calls Tryz.prog 28 #[.int .i64 op, .pointer (some ⟨g, 0, none⟩)] w fun e w' => e = .returned (.string (strB (spL (dSp d op)))) ∧ rowV w' g 3 #[.int .i64 ((dNext d op : Nat) : Int)] ∧ w.grownBy w' (some g) := by
  have c0 := one_cellV hr
  have f0 := frozen_rowV hr 0
  have hlt := hr.lt
  by_cases h1 : op = 28
  · subst h1
    have hs : dSp d 28 = d - 1 := rfl
    have hn : dNext d 28 = d := rfl
    rw [hs, hn]
    have Hr := Lib.hid hr
    clear hs hn hr
    go_enter Tryz.func28, Tryz.ntmps28
    go_wp2_with fail
    refine (repeat_at _ (d - 1) _ (by omega) (by omega)).mono ?_
    rintro e w1 ⟨rfl, hb1⟩
    go_wp2_with fail
    go_ret
    exact ⟨rfl, Hr.out.below hb1 hlt, grown_of_below hb1 _⟩
  have d1 : (op == 28) = false := by simpa using h1
  by_cases h2 : op = 31
  · subst h2
    have hs : dSp d 31 = d - 1 := rfl
    have hn : dNext d 31 = d - 1 := rfl
    rw [hs, hn]
    have r1 := hr.set1 (b := .int .i64 ((d - 1 : Nat) : Int))
    have Hr := Lib.hid hr
    clear hs hn hr
    have hm : max (0 : Int) ((d : Int) - 1) = ((d - 1 : Nat) : Int) := by omega
    go_enter Tryz.func28, Tryz.ntmps28
    go_wp2_with fail
    refine (repeat_at _ (d - 1) _ (by omega) (by omega)).mono ?_
    rintro e w1 ⟨rfl, hb1⟩
    go_wp2_with fail
    go_ret
    refine ⟨rfl, r1.below hb1 r1.lt, ?_⟩
    exact grownBy.trans' (grownBy.setCell' (World.grownBy.refl w (some g)) _) (grown_of_below hb1 _)
  have d2 : (op == 31) = false := by simpa using h2
  have hs : dSp d op = d := by unfold dSp; rw [if_neg (by omega)]
  by_cases h3 : op = 27 ∨ op = 29
  · have hn : dNext d op = d + 1 := by unfold dNext; rw [if_neg (by omega), if_pos h3]
    rw [hs, hn]
    have r1 := hr.set1 (b := .int .i64 ((d : Int) + 1))
    have Hr := Lib.hid hr
    clear hs hn hr
    rcases h3 with rfl | rfl
    · go_enter Tryz.func28, Tryz.ntmps28
      go_wp2_with fail
      refine (repeat_at _ d _ (by omega) (by omega)).mono ?_
      rintro e w1 ⟨rfl, hb1⟩
      go_wp2_with fail
      go_ret
      refine ⟨rfl, r1.below hb1 r1.lt, ?_⟩
      exact grownBy.trans' (grownBy.setCell' (World.grownBy.refl w (some g)) _) (grown_of_below hb1 _)
    · go_enter Tryz.func28, Tryz.ntmps28
      go_wp2_with fail
      refine (repeat_at _ d _ (by omega) (by omega)).mono ?_
      rintro e w1 ⟨rfl, hb1⟩
      go_wp2_with fail
      go_ret
      refine ⟨rfl, r1.below hb1 r1.lt, ?_⟩
      exact grownBy.trans' (grownBy.setCell' (World.grownBy.refl w (some g)) _) (grown_of_below hb1 _)
  have d3 : (op == 27) = false := by simp; omega
  have d4 : (op == 29) = false := by simp; omega
  have hn : dNext d op = d := by unfold dNext; rw [if_neg (by omega), if_neg h3]
  rw [hs, hn]
  have Hr := Lib.hid hr
  clear hs hn hr
  go_enter Tryz.func28, Tryz.ntmps28
  go_wp2_with fail
  refine (repeat_at _ d _ (by omega) (by omega)).mono ?_
  rintro e w1 ⟨rfl, hb1⟩
  go_wp2_with fail
  go_ret
  exact ⟨rfl, Hr.out.below hb1 hlt, grown_of_below hb1 _⟩

theorem join_own (A : Option Addr) (n c B : Nat) (xs : List (List UInt8)) (w : World) (hx : Own encT w B 9 A n c xs) (h0 : 0 < n) (hl : (Lib.join xs [10]).length ≤ 140737488355328) (hn : n ≤ 1000000) :
    Calls Tryz.prog 18 #[.slice A n c, .string ⟨#[10]⟩] w fun e w' => e = .returned (.string (strB (Lib.join xs [10]))) ∧ Below w.heap.size w w' := by
  have hlen := hx.length
  have hcap := hx.cap
  obtain ⟨b, off, rfl, hb, hc⟩ := hx.cells [] h0
  have hm : ((xs.map strB).map (·.data.toList)) = xs := by
    rw [List.map_map]
    exact List.map_id'' (fun x => by simp [strB]) xs
  have H := Tryz.strings_Join b off c (xs.map strB) ⟨#[10]⟩ w (fun j x hj => by
    rw [List.getElem?_map] at hj
    obtain ⟨y, hy, rfl⟩ := Option.map_eq_some_iff.1 hj
    have hjl : j < xs.length := (List.getElem?_eq_some_iff.1 hy).1
    rw [hc j (by omega)]
    show some (Value.string (strB (xs.getD j []))) = _
    rw [List.getD_eq_getElem?_getD, hy]; rfl) hb (by simp; omega) (by simp; omega) (by rw [hm]; exact hl)
  rw [hm, List.length_map, hlen] at H
  exact H.mono fun e w' h => h
end Go.Proofs.YtmijalhilalaoaaGreatDoor
