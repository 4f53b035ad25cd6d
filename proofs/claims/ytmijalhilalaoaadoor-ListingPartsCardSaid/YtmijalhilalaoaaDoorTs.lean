/- The lines of a text, cut apart again: plainly. No program in sight. -/
import Derived.Test.YtmijalhilalaoaaDoorTo
import Derived.Lib.Split
import Derived.Lib.TrimByte
namespace Go.Proofs.YtmijalhilalaoaaDoor
open Go.RowKit Go.Proofs
set_option linter.unusedVariables false

theorem index_no : ∀ {c : UInt8} {x : List UInt8}, c ∉ x → Lib.index x [c] = -1
  | c, [], _ => rfl
  | c, b :: l, h => by
    have hb : ¬ c = b := fun e => h (by simp [e])
    have := index_no (c := c) (x := l) (fun hm => h (by simp [hm]))
    rw [Lib.index, if_neg (by simp [List.isPrefixOf]; exact hb), this]; rfl
theorem index_ch : ∀ {c : UInt8} {x r : List UInt8}, c ∉ x → Lib.index (x ++ c :: r) [c] = (x.length : Int)
  | c, [], r, _ => by rw [List.nil_append, Lib.index, if_pos (by simp [List.isPrefixOf])]; rfl
  | c, b :: l, r, h => by
    have hb : ¬ c = b := fun e => h (by simp [e])
    have := index_ch (c := c) (x := l) (r := r) (fun hm => h (by simp [hm]))
    rw [List.cons_append, Lib.index, if_neg (by simp [List.isPrefixOf]; exact hb), this, if_neg (by rw [beq_iff_eq]; omega)]
    simp
theorem count_lines : ∀ {ls : List (List UInt8)}, (∀ x ∈ ls, (10 : UInt8) ∉ x) → Lib.count (nlAll ls) [10] = ls.length
  | [], _ => by rw [Lib.count_miss (by rfl)]; rfl
  | x :: ls, h => by
    rw [nlAll_cons, Lib.count_hit (by simp) (index_ch (h x (by simp))), show List.drop (x.length + [(10 : UInt8)].length) (x ++ 10 :: nlAll ls) = nlAll ls by simp [List.drop_append], count_lines (fun y hy => h y (by simp [hy]))]
    simp; omega
theorem split_lines : ∀ {ls : List (List UInt8)}, (∀ x ∈ ls, (10 : UInt8) ∉ x) → Lib.splitK [10] 0 ls.length (nlAll ls) = ls ++ [[]]
  | [], _ => rfl
  | x :: ls, h => by
    have hi := index_ch (c := 10) (x := x) (r := nlAll ls) (h x (by simp))
    rw [nlAll_cons, List.length_cons, Lib.splitK, hi, if_neg (by rw [beq_iff_eq]; omega)]
    rw [show List.drop ((x.length : Int).toNat + [(10 : UInt8)].length) (x ++ 10 :: nlAll ls) = nlAll ls by simp [List.drop_append], split_lines (fun y hy => h y (by simp [hy]))]
    simp
theorem strB_data (l : List ByteArray) : (l.map (·.data.toList)).map strB = l := by
  rw [List.map_map]
  conv => rhs; rw [← List.map_id l]
  apply List.map_congr_left
  intro x _
  rfl
theorem splitB_lines {ls : List (List UInt8)} (h : ∀ x ∈ ls, (10 : UInt8) ∉ x) : Lib.countB (strB (nlAll ls)) ⟨#[10]⟩ = ls.length ∧ Lib.splitB ⟨#[10]⟩ 0 ls.length (strB (nlAll ls)) = (ls ++ [[]]).map strB := by
  refine ⟨count_lines h, ?_⟩
  have := Lib.splitB_data ⟨#[10]⟩ 0 ls.length (strB (nlAll ls))
  rw [show (strB (nlAll ls)).data.toList = nlAll ls from rfl, show (⟨#[10]⟩ : ByteArray).data.toList = [10] from rfl, split_lines h] at this
  rw [← strB_data (Lib.splitB ⟨#[10]⟩ 0 ls.length (strB (nlAll ls))), this]
theorem splitB_word {x r : List UInt8} (h : (32 : UInt8) ∉ x) : Lib.splitB ⟨#[32]⟩ 0 1 (strB (x ++ 32 :: r)) = [strB x, strB r] := by
  have := Lib.splitB_data ⟨#[32]⟩ 0 1 (strB (x ++ 32 :: r))
  have hi := index_ch (c := 32) (x := x) (r := r) h
  rw [show (strB (x ++ 32 :: r)).data.toList = x ++ 32 :: r from rfl, show (⟨#[32]⟩ : ByteArray).data.toList = [32] from rfl, Lib.splitK, hi, if_neg (by rw [beq_iff_eq]; omega), Lib.splitK] at this
  rw [← strB_data (Lib.splitB ⟨#[32]⟩ 0 1 (strB (x ++ 32 :: r))), this]
  simp [List.drop_append, List.drop_of_length_le (show x.length ≤ x.length + 1 by omega)]

/-- the last byte is no space. -/
def endOk (l : List UInt8) : Prop := ∃ t b, l = t ++ [b] ∧ b ≠ 32
theorem endOk.suffix {l : List UInt8} (h : endOk l) : Lib.hasSuffix l [32] = false := by
  obtain ⟨t, b, rfl, hb⟩ := h
  unfold Lib.hasSuffix
  rw [Bool.eq_false_iff]
  intro hs
  rw [List.isSuffixOf_iff_suffix] at hs
  obtain ⟨u, hu⟩ := hs
  have := List.append_inj_right' hu rfl
  simp at this
  exact hb this.symm
theorem endOk.app {l : List UInt8} (h : endOk l) (x : List UInt8) : endOk (x ++ l) := by
  obtain ⟨t, b, rfl, hb⟩ := h
  exact ⟨x ++ t, b, by simp, hb⟩
theorem endOk_dec (n : Nat) : endOk (decS n) := by
  by_cases h : n < 10
  · exact ⟨[], digB n, by rw [decS_small h]; rfl, fun e => by have := digB_nat h; rw [e] at this; simp at this; omega⟩
  · exact ⟨decS (n / 10), digB (n % 10), decS_big h, fun e => by have := digB_nat (d := n % 10) (by omega); rw [e] at this; simp at this; omega⟩
theorem names_end : opTab.all (fun o => decide (o.name.getLast? ≠ none) && o.name.all (fun b => decide (b ≠ 32))) = true := by decide +kernel
theorem endOk_name {k : Nat} (hk : k < 36) : endOk (opO k).name := by
  have := List.all_eq_true.1 names_end _ (opO_mem hk)
  rw [Bool.and_eq_true] at this
  obtain ⟨h1, h2⟩ := this
  have h1 : (opO k).name.getLast? ≠ none := by simpa using h1
  obtain ⟨b, hb⟩ := Option.ne_none_iff_exists'.1 h1
  obtain ⟨t, ht⟩ := List.getLast?_eq_some_iff.1 hb
  refine ⟨t, b, ht, ?_⟩
  have := List.all_eq_true.1 h2 b (by rw [ht]; simp)
  simpa using this
theorem endOk_line {i : Ins} (h : InsOk i) : endOk (lineL i) := by
  unfold lineL
  rw [opX_ok h]
  unfold operL
  have hd := endOk_dec i.arg.toNat
  split
  · exact (hd.app [32]).app _
  · split
    · exact (hd.app [32, 108]).app _
    · split
      · exact (hd.app [32, 97]).app _
      · rw [List.append_nil]; exact endOk_name (by have := h.1; have := h.2.1; omega)
theorem trim_sp {x : List UInt8} (h : ∃ c t, x = c :: t ∧ c ≠ 32) (k : Nat) : Lib.trimLeftB (spL k ++ x) 32 = x := by
  obtain ⟨c, t, rfl, hc⟩ := h
  unfold Lib.trimLeftB spL
  rw [List.dropWhile_append_of_pos (fun a ha => by rw [List.eq_of_mem_replicate ha]; rfl)]
  rw [List.dropWhile_cons_of_neg (by simpa using hc)]
theorem trim_no {x : List UInt8} (h : ∃ c t, x = c :: t ∧ c ≠ 32) : Lib.trimLeftB x 32 = x := trim_sp h 0
theorem arrL_head (k : Nat) (x : Arr) : ∃ c t, arrL k x = c :: t ∧ c ≠ 32 := by
  obtain ⟨w, s⟩ := x
  cases w
  · exact ⟨98, _, rfl, by decide⟩
  · exact ⟨119, _, rfl, by decide⟩
theorem locL_head (k : Nat) : ∃ c t, locL k = c :: t ∧ c ≠ 32 := ⟨108, _, rfl, by decide⟩
theorem endOk_arr (k : Nat) (x : Arr) : endOk (arrL k x) := (endOk_dec x.size.toNat).app _
theorem endOk_loc (k : Nat) : endOk (locL k) := (endOk_dec k).app _
theorem arrL_split (k : Nat) (x : Arr) : ∃ r, arrL k x = kindL x.word ++ 32 :: r := ⟨97 :: (decS k ++ [32] ++ decI x.size), by unfold arrL; simp⟩
theorem kind_no (b : Bool) : (32 : UInt8) ∉ kindL b := by cases b <;> decide
theorem locL_prefix (k : Nat) : Lib.hasPrefix (locL k) [108, 111, 99, 97, 108, 32, 108] = true := by
  unfold Lib.hasPrefix locL
  rw [List.isPrefixOf_iff_prefix]
  exact List.prefix_append _ _
/-- line i of a text. -/
def gL (p : Prg) (i : Nat) : List UInt8 := (linesL p).getD i []
theorem linesL_length (p : Prg) : (linesL p).length = p.arrs.length + p.locs.toNat + p.code.length := by unfold linesL declL arrsTo locsTo rowsTo; simp; omega
theorem gL_arr {p : Prg} {i : Nat} (h : i < p.arrs.length) : gL p i = arrL i (gA p.arrs i) := by
  unfold gL linesL declL arrsTo
  rw [List.getD_eq_getElem?_getD, List.append_assoc, List.getElem?_append_left (by simpa using h)]
  simp [h]
theorem gL_loc {p : Prg} {i : Nat} (h : i < p.locs.toNat) : gL p (p.arrs.length + i) = locL i := by
  unfold gL linesL declL arrsTo locsTo
  rw [List.getD_eq_getElem?_getD, List.append_assoc, List.getElem?_append_right (by simp), List.getElem?_append_left (by simp; omega)]
  simp [h]
theorem gL_row {p : Prg} {i : Nat} (h : i < p.code.length) : gL p (p.arrs.length + p.locs.toNat + i) = rowL p.code i := by
  unfold gL linesL declL arrsTo locsTo rowsTo
  rw [List.getD_eq_getElem?_getD, List.getElem?_append_right (by simp)]
  simp [h]
end Go.Proofs.YtmijalhilalaoaaDoor
