/- slices.SortFunc on a row of the call's own, in the words of the kit. -/
import Derived.Test.YtoodfmilleodaaaKit
import Derived.Test.YtoodfmilleodaaaShelf
namespace Go.Proofs.Ytoodfmilleodaaa
open Go.RowKit Go.Proofs Go.Sort Go.Shelf
set_option linter.unusedVariables false

section
variable {α : Type} [Inhabited α] {enc : α → Value}
theorem sortWorld_grown (w : World) (blk m : Nat) (d : Array α) (os : Array Obj) : w.grownBy (sortWorld enc w blk 0 m d os) (some blk) := by
  refine ⟨rfl, rfl, rfl, ?_, fun k hk hne => ?_⟩
  · simp [sortWorld, grow, putRow, mapBlock, Sort.ahead]
  · have hne' : ¬ blk = k := fun e => hne (by rw [e])
    simp only [sortWorld, grow, putRow, mapBlock, Sort.ahead]
    rw [Array.getElem?_append_left (by simpa using hk), Array.getElem?_modify, if_neg hne']
theorem sortWorld_row (w : World) (blk m : Nat) (t : TypeId) (xs : List α) (d : Array α) (os : Array Obj) (h : Row enc w blk t xs) (hd : d.size = xs.length) : Row enc (sortWorld enc w blk 0 m d os) blk t d.toList := by
  have hlt := h.lt
  unfold Row at h ⊢
  simp only [sortWorld, grow, putRow, mapBlock, Sort.ahead]
  rw [Array.getElem?_append_left (by simpa using hlt), Array.getElem?_modify, if_pos rfl, h]
  simp only [Option.map_some, onCells]
  congr 2
  apply Array.ext_getElem?
  intro k
  simp only [putCells, Array.getElem?_mapIdx, List.getElem?_toArray, List.getElem?_map, Array.getElem?_toList]
  by_cases hk : k < xs.length
  · rw [List.getElem?_eq_getElem hk, Array.getElem?_eq_getElem (by omega : k < d.size)]
    simp only [Option.map_some]
    rw [if_pos (by omega), Nat.sub_zero, getElem!_pos d k (by omega)]
  · rw [List.getElem?_eq_none (by omega), Array.getElem?_eq_none (by omega)]
    rfl

theorem sortFunc_row (h1 : ∀ x, (enc x).oneCell' = true) (cf : α → α → Int) (hO : SWO (ltOf cf)) (fn : Nat) (cb : Array Value) (blk c : Nat) (t : TypeId) (xs : List α) (w : World)
    (eg : ∀ args w, (callFunc fn args).run Try.prog w = .ok (.enter fn args) w) (hrow : Row enc w blk t xs) (hl : xs.length < 4611686018427387904)
    (hcmp : ∀ W : World, w.grownBy W (some blk) → ∀ x y, Calls Try.prog fn (#[enc x, enc y] ++ cb) W fun e w' => e = .returned (.int .i64 (cf x y)) ∧ ∃ q os', w' = grow (W.drewN q) os') :
    Calls Try.prog 66 #[.slice (some ⟨blk, 0, none⟩) xs.length c, .func (.func fn) #[] cb] w fun e w' =>
      e = .returned (.tuple #[]) ∧ ∃ ys : List α, ys.Perm xs ∧ ys.Pairwise (fun a b => ltOf cf b a = false) ∧ Row enc w' blk t ys ∧ w.grownBy w' (some blk) := by
  have hs : xs.toArray.size = xs.length := by simp
  have hH : Holds enc w blk 0 xs.toArray := fun j hj => by
    rw [hs] at hj
    refine ⟨?_, hrow.frozen _⟩
    rw [Nat.zero_add, hrow.cell xs.toArray[j]! hj]
    simp [List.getD, hj]
  have h := Try.slices_SortFunc enc h1 cf hO fn cb blk 0 c xs.toArray w eg (fun m os dk hdk x y => hcmp _ (sortWorld_grown w blk m dk os) x y) hH hrow.lt (by rw [hs]; exact hl)
  rw [hs] at h
  refine h.mono ?_
  rintro e w' ⟨he, d', n, os, hp, hso, rfl⟩
  have hsz : d'.size = xs.length := by rw [hp.1, hs]
  refine ⟨he, d'.toList, ?_, ?_, sortWorld_row w blk n t xs d' os hrow hsz, sortWorld_grown w blk n d' os⟩
  · have := hp.2.2
    rw [show d'.extract 0 xs.length = d' by rw [← hsz]; simp, show xs.toArray.extract 0 xs.length = xs.toArray by simp] at this
    simpa using this
  · rw [List.pairwise_iff_getElem]
    intro i j hi hj hij
    have hi' : i < d'.size := by simpa using hi
    have hj' : j < d'.size := by simpa using hj
    have := hso i j (Nat.zero_le _) hij (by omega)
    rw [getElem!_pos d' i hi', getElem!_pos d' j hj'] at this
    simpa using this
end
end Go.Proofs.Ytoodfmilleodaaa
