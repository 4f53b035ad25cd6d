/- strings.IndexAny at the gaps: plainly; for strings of more than 8 bytes. -/
import Derived.Test.YtlbhggjkcfcobaaDoorAg
import Derived.Test.YtlbhggjkcfcobaaDoorShelf
namespace Go.Proofs.YtlbhggjkcfcobaaDoor
open Go.RowKit Go.Proofs
set_option linter.unusedVariables false

theorem indexAny_gap : ∀ x : List UInt8, Lib.indexAny x [32, 9, 10, 59] = gapIx x
  | [] => rfl
  | b :: l => by
    have ih := indexAny_gap l
    have hb : ([32, 9, 10, 59] : List UInt8).contains b = gapB b := by
      unfold gapB
      by_cases h1 : b = 32
      · subst h1; rfl
      by_cases h2 : b = 9
      · subst h2; rfl
      by_cases h3 : b = 10
      · subst h3; rfl
      by_cases h4 : b = 59
      · subst h4; rfl
      simp [h1, h2, h3, h4]
    rw [Lib.indexAny, hb]
    unfold gapIx
    cases hg : gapB b with
    | true => simp [hg]
    | false =>
      rw [if_neg (by simp), ih, List.takeWhile_cons_of_pos (by simp [hg])]
      have ha : (b :: l).any gapB = l.any gapB := by simp [hg]
      rw [ha]
      unfold gapIx
      by_cases h : l.any gapB = true
      · rw [if_pos h, if_pos h, if_neg (by rw [beq_iff_eq]; omega)]; simp
      · rw [if_neg h, if_neg h]; rfl
theorem ixLong (x : List UInt8) (W : World) (h8 : 8 < x.length) (hx : x.length ≤ 9000) : Calls Tryd.prog 67 #[.string (strB x), .string ⟨#[32, 9, 10, 59]⟩] W fun e w' => e = .returned (.int .i64 (gapIx x)) ∧ Below W.heap.size W w' := by
  refine (Tryd.strings_IndexAny_long (Go.zero_of_info (n := 256) (by kernel_rfl)).1 (strB x) ⟨#[32, 9, 10, 59]⟩ W (by decide) h8 (by rw [strB_size']; omega) (by decide) (fun j b hb => ?_)).mono ?_
  · have hm : b ∈ ([32, 9, 10, 59] : List UInt8) := List.mem_of_getElem? hb
    exact (by decide : ∀ b ∈ ([32, 9, 10, 59] : List UInt8), b.toNat < 128) b hm
  · rintro e w' ⟨rfl, hw⟩
    refine ⟨?_, ?_⟩
    · show Ending.returned (.int .i64 (Lib.indexAny x [32, 9, 10, 59])) = _
      rw [indexAny_gap]
    · rw [hw]
      exact balloc (balloc (Below.refl _ _) _) _
end Go.Proofs.YtlbhggjkcfcobaaDoor
