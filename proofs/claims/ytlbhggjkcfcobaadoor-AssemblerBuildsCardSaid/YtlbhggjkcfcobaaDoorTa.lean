/- Texts at the bytecode chapters: Itoa, the reference's decimal. -/
import Derived.Test.YtlbhggjkcfcobaaDoorIi
import Derived.WalkSmall
import Derived.Lib.LaidTab
import Derived.Lib.AppendIntMem
namespace Go.Proofs.YtlbhggjkcfcobaaDoor
open Go.RowKit Go.Proofs
set_option linter.unusedVariables false

/-- the listed table that Itoa reads. -/
def TabI (w : World) : Prop := Lib.TabIs Tryd.prog w "internal/strconv.uint64pow10" .u64 Lib.pow10Tab
theorem TabI.below {w w' : World} (h : TabI w) (hb : Below w.heap.size w w') : TabI w' := by
  have hg : ∃ g, Tryd.prog.globalNamed "internal/strconv.uint64pow10" = some g := by
    unfold TabI Lib.TabIs World.var? at h
    cases hq : Tryd.prog.globalNamed "internal/strconv.uint64pow10" with
    | none => rw [hq] at h; cases h
    | some g => exact ⟨g, rfl⟩
  obtain ⟨g, hg⟩ := hg
  refine var?_below hb hg ?_ h
  unfold TabI Lib.TabIs World.var? at h
  rw [hg] at h
  rcases Nat.lt_or_ge g w.heap.size with hlt | hge
  · exact hlt
  · rw [Option.bind_some, Array.getElem?_eq_none hge] at h; cases h
/-- the byte of a digit. -/
def digB (d : Nat) : UInt8 := UInt8.ofNat (48 + d)
def decS (n : Nat) : List UInt8 := Lib.decDigits n
theorem decS_small {n : Nat} (h : n < 10) : decS n = [digB n] := by unfold decS digB; rw [Lib.decDigits, dif_pos h]
theorem decS_big {n : Nat} (h : ¬ n < 10) : decS n = decS (n / 10) ++ [digB (n % 10)] := by unfold decS digB; rw [Lib.decDigits, dif_neg h]
theorem itoa_any (n : Nat) (w : World) (hn : n ≤ 9223372036854775807) (hT : TabI w) : Calls Tryd.prog 19 #[.int .i64 (n : Int)] w fun e w' => e = .returned (.string (strB (decS n))) ∧ Below w.heap.size w w' := by
  refine (Tryd.strconv_Itoa (n : Int) (by omega) (by omega) w hT).mono ?_
  rintro e w' ⟨rfl, k, os, rfl⟩
  refine ⟨?_, ?_⟩
  · unfold Lib.itoa
    rw [if_neg (by omega), Int.toNat_natCast]
    rfl
  · exact Lib.below_grow _ w (Nat.le_refl _) k os

theorem strB_append (x y : List UInt8) : strB x ++ strB y = strB (x ++ y) := by
  apply ByteArray.ext
  simp [strB]
theorem enc_dig : ∀ d : Fin 10, Utf8.encode (48 + (d.val : Int)) = strB [digB d.val] := by decide +kernel
theorem enc_mod (n : Nat) : Utf8.encode (48 + (n : Int) % 10) = strB [digB (n % 10)] := by
  have := enc_dig ⟨n % 10, Nat.mod_lt _ (by omega)⟩
  dsimp only at this
  rw [← this]
  congr 1
/-- what is still to be written ahead of s. -/
def DecSt (n m : Nat) (s : List UInt8) : Prop := if m = 0 then s = decS n else decS m ++ s = decS n
theorem DecSt.start (n : Nat) : DecSt n (n / 10) [digB (n % 10)] := by
  unfold DecSt
  by_cases h : n < 10
  · rw [if_pos (by omega), decS_small h, Nat.mod_eq_of_lt h]
  · rw [if_neg (by omega), ← decS_big h]
theorem DecSt.step {n m : Nat} {s : List UInt8} (h : DecSt n m s) (hm : 0 < m) : DecSt n (m / 10) (digB (m % 10) :: s) := by
  unfold DecSt at h ⊢
  rw [if_neg (by omega)] at h
  by_cases h1 : m < 10
  · rw [if_pos (by omega), ← h, decS_small h1, Nat.mod_eq_of_lt h1]; rfl
  · rw [if_neg (by omega), ← h, decS_big h1, List.append_assoc]; rfl
theorem DecSt.done {n : Nat} {s : List UInt8} (h : DecSt n 0 s) : s = decS n := by
  unfold DecSt at h
  rwa [if_pos rfl] at h

theorem dec_len : ∀ (k m : Nat), m < 10 ^ k → (decS m).length ≤ k + 1
  | 0, m, h => by rw [decS_small (by omega)]; simp
  | k + 1, m, h => by
    by_cases h1 : m < 10
    · rw [decS_small h1]; simp
    · rw [decS_big h1, List.length_append]
      have := dec_len k (m / 10) (by rw [Nat.pow_succ] at h; omega)
      simp; omega
theorem decS_le {n : Nat} (h : n < 10000000000) : (decS n).length ≤ 11 := dec_len 10 n h
theorem DecSt.len {n m : Nat} {s : List UInt8} (h : DecSt n m s) (hn : n ≤ 4294967296) : s.length ≤ 11 := by
  have hl := decS_le (n := n) (by omega)
  unfold DecSt at h
  by_cases h0 : m = 0
  · rw [if_pos h0] at h; rw [h]; exact hl
  · rw [if_neg h0] at h; rw [← h, List.length_append] at hl; omega
def valD (l : List UInt8) : Nat := l.foldl (fun a b => 10 * a + (b.toNat - 48)) 0
theorem digB_nat {d : Nat} (h : d < 10) : (digB d).toNat = 48 + d := by unfold digB; simp; omega
theorem valD_dec (n : Nat) : valD (decS n) = n := by
  induction n using Nat.strongRecOn with
  | _ n ih =>
    by_cases h : n < 10
    · rw [decS_small h]
      show 10 * 0 + ((digB n).toNat - 48) = n
      rw [digB_nat h]; omega
    · rw [decS_big h]
      unfold valD
      rw [List.foldl_append]
      have := ih (n / 10) (by omega)
      unfold valD at this
      rw [this]
      show 10 * (n / 10) + ((digB (n % 10)).toNat - 48) = n
      rw [digB_nat (by omega)]; omega
theorem decS_inj {n m : Nat} (h : decS n = decS m) : n = m := by rw [← valD_dec n, h, valD_dec]
theorem decS_mem (n : Nat) : ∀ b ∈ decS n, 48 ≤ b.toNat ∧ b.toNat ≤ 57 := by
  induction n using Nat.strongRecOn with
  | _ n ih =>
    by_cases h : n < 10
    · rw [decS_small h]
      intro b hb
      rw [List.mem_singleton] at hb
      subst hb
      rw [digB_nat h]; omega
    · rw [decS_big h]
      intro b hb
      rcases List.mem_append.1 hb with hb | hb
      · exact ih _ (by omega) b hb
      · rw [List.mem_singleton] at hb
        subst hb
        rw [digB_nat (by omega)]; omega
theorem decS_no {n : Nat} {c : UInt8} (hc : c.toNat < 48) : c ∉ decS n := fun h => by have := decS_mem n c h; omega
end Go.Proofs.YtlbhggjkcfcobaaDoor
