/- The text of a program is read back to the program: the plain law. No program in sight. -/
import Derived.Test.YtmijalhilalaoaaGreatDoorJb
import Derived.Test.YtmijalhilalaoaaGreatDoorTd
import Derived.Test.YtmijalhilalaoaaGreatDoorIf
namespace Go.Proofs.YtmijalhilalaoaaGreatDoor
open Go.RowKit Go.Proofs
set_option linter.unusedVariables false

theorem wordsT_join (a b : List UInt8) : wordsT (a ++ 10 :: b) = wordsT a ++ wordsT b := by unfold wordsT; rw [wordsL_join, List.map_append, map_shift]
theorem wordsT_lines : ∀ ls : List (List UInt8), wordsT (nlAll ls) = ls.flatMap wordsT
  | [] => rfl
  | x :: l => by rw [nlAll_cons, wordsT_join, wordsT_lines l, List.flatMap_cons]
theorem wordsT_last {x : List UInt8} (hx : x ≠ []) (hg : ∀ b ∈ x, gapB b = false) : wordsT x = [x] := by
  obtain ⟨b, t, rfl⟩ : ∃ b t, x = b :: t := by cases x with | nil => exact absurd rfl hx | cons a l => exact ⟨a, l, rfl⟩
  have hq : ∀ d ∈ b :: t, (fun c => !gapB c) d = true := fun d hd => by simp [hg d hd]
  rw [wordsT_word _ (hg b (by simp)), (takeWhile_id hq).1, (takeWhile_id (fun d hd => hq d (by simp [hd]))).2]
  rfl
theorem nogap {b : UInt8} (h : (48 ≤ b.toNat ∧ b.toNat ≤ 57) ∨ 97 ≤ b.toNat) : gapB b = false := by
  have h1 : b ≠ 32 := by rintro rfl; revert h; decide
  have h2 : b ≠ 9 := by rintro rfl; revert h; decide
  have h3 : b ≠ 10 := by rintro rfl; revert h; decide
  have h4 : b ≠ 59 := by rintro rfl; revert h; decide
  simp [gapB, h1, h2, h3, h4]
def nmT (k : Nat) : List UInt8 := 97 :: decS k
def nlT (k : Nat) : List UInt8 := 108 :: decS k
theorem nogap_dec (n : Nat) : ∀ b ∈ decS n, gapB b = false := fun b hb => nogap (.inl (decS_mem n b hb))
theorem nogap_cons {c : UInt8} (hc : 97 ≤ c.toNat) (n : Nat) : ∀ b ∈ c :: decS n, gapB b = false := fun b hb => by
  rcases List.mem_cons.1 hb with rfl | hb
  · exact nogap (.inr hc)
  · exact nogap_dec n b hb
theorem nogap_nm (k : Nat) : ∀ b ∈ nmT k, gapB b = false := nogap_cons (by decide) k
theorem nogap_nl (k : Nat) : ∀ b ∈ nlT k, gapB b = false := nogap_cons (by decide) k
theorem nogap_decI (z : Int) : ∀ b ∈ decI z, gapB b = false := nogap_dec _
theorem decI_ne (z : Int) : decI z ≠ [] := decS_ne _
theorem nogap_kind (w : Bool) : ∀ b ∈ kindT w, gapB b = false := by cases w <;> decide
theorem wordsT_arr (k : Nat) (x : Arr) : wordsT (arrL k x) = [kindT x.word, nmT k, decS x.size.toNat] := by
  have e : arrL k x = kindT x.word ++ 32 :: (nmT k ++ 32 :: decI x.size) := by simp [arrL, nmT]
  rw [e, wordsT_one _ (by cases x.word <;> simp [kindT]) (nogap_kind _) (by decide) (by decide), wordsT_one _ (by simp [nmT]) (nogap_nm k) (by decide) (by decide), wordsT_last (decI_ne _) (nogap_decI _)]
  rfl
theorem wordsT_loc (k : Nat) : wordsT (locL k) = [[108, 111, 99, 97, 108], nlT k] := by
  have e : locL k = [108, 111, 99, 97, 108] ++ 32 :: nlT k := by simp [locL, nlT]
  rw [e, wordsT_one _ (by simp) (by decide) (by decide) (by decide), wordsT_last (by simp [nlT]) (nogap_nl k)]
theorem wordsT_sp (x : List UInt8) : ∀ m : Nat, wordsT (List.replicate m 32 ++ x) = wordsT x
  | 0 => rfl
  | m + 1 => by rw [List.replicate_succ, List.cons_append, wordsT_gap _ (by decide) (by decide), wordsT_sp x m]
/-- the words behind the name of an operation. -/
def operW (i : Ins) : List (List UInt8) :=
  if i.op = 0 ∨ i.op = 35 then [decI i.arg] else if i.op = 1 ∨ i.op = 2 then [nlT i.arg.toNat] else if i.op = 3 ∨ i.op = 4 then [nmT i.arg.toNat] else []
theorem wordsT_line {i : Ins} (h : InsOkT i) : wordsT (lineL i) = (opO i.op.toNat).name :: operW i := by
  have h36 : i.op.toNat < 36 := by have := h.1; have := h.2.1; omega
  obtain ⟨hfit, hb⟩ := name_fit h36
  have hne : (opO i.op.toNat).name ≠ [] := by
    intro e
    rw [e] at hfit
    exact absurd hfit (by decide)
  have hg : ∀ b ∈ (opO i.op.toNat).name, gapB b = false := fun b hb' => nogap (.inr (hb b hb'))
  unfold lineL operL operW
  rw [opX_ok h]
  by_cases h0 : i.op = 0 ∨ i.op = 35
  · rw [if_pos h0, if_pos h0, wordsT_one _ hne hg (by decide) (by decide), wordsT_last (decI_ne _) (nogap_decI _)]
  rw [if_neg h0, if_neg h0]
  by_cases h1 : i.op = 1 ∨ i.op = 2
  · rw [if_pos h1, if_pos h1, wordsT_one _ hne hg (by decide) (by decide)]
    show _ :: wordsT (nlT i.arg.toNat) = _
    rw [wordsT_last (by simp [nlT]) (nogap_nl _)]
  rw [if_neg h1, if_neg h1]
  by_cases h3 : i.op = 3 ∨ i.op = 4
  · rw [if_pos h3, if_pos h3, wordsT_one _ hne hg (by decide) (by decide)]
    show _ :: wordsT (nmT i.arg.toNat) = _
    rw [wordsT_last (by simp [nmT]) (nogap_nm _)]
  rw [if_neg h3, if_neg h3, List.append_nil, wordsT_last hne hg]
theorem wArrs_snoc (nm : Nat → List UInt8) (a : Arr) : ∀ (l : List Arr) (k : Nat), wArrs nm k (l ++ [a]) = wArrs nm k l ++ [kindT a.word, nm (k + l.length), decS a.size.toNat]
  | [], k => rfl
  | x :: l, k => by
    rw [List.cons_append]
    show _ :: _ :: _ :: wArrs nm (k + 1) (l ++ [a]) = _ :: _ :: _ :: (wArrs nm (k + 1) l ++ _)
    rw [wArrs_snoc nm a l (k + 1), List.length_cons, Nat.add_assoc, Nat.add_comm 1]
theorem wLocs_snoc (nl : Nat → List UInt8) : ∀ (c k : Nat), wLocs nl k (c + 1) = wLocs nl k c ++ [[108, 111, 99, 97, 108], nl (k + c)]
  | 0, k => rfl
  | c + 1, k => by
    show _ :: _ :: wLocs nl (k + 1) (c + 1) = _ :: _ :: (wLocs nl (k + 1) c ++ _)
    rw [wLocs_snoc nl c (k + 1), Nat.add_assoc, Nat.add_comm 1]
theorem take_gA {l : List Arr} {k : Nat} (h : k < l.length) : l.take (k + 1) = l.take k ++ [gA l k] := by
  rw [List.take_add_one, List.getElem?_eq_getElem h]
  unfold gA
  rw [List.getD_eq_getElem?_getD, List.getElem?_eq_getElem h]
  rfl
theorem take_gI {l : List Ins} {k : Nat} (h : k < l.length) : l.take (k + 1) = l.take k ++ [gI l k] := by
  rw [List.take_add_one, List.getElem?_eq_getElem h]
  unfold gI
  rw [List.getD_eq_getElem?_getD, List.getElem?_eq_getElem h]
  rfl
theorem arrs_words (l : List Arr) : ∀ k, k ≤ l.length → (arrsTo l k).flatMap wordsT = wArrs nmT 0 (l.take k)
  | 0, _ => rfl
  | k + 1, h => by
    rw [arrsTo_succ, List.flatMap_append, arrs_words l k (by omega), take_gA (by omega), wArrs_snoc, List.flatMap_cons, List.flatMap_nil, List.append_nil, wordsT_arr, List.length_take, Nat.min_eq_left (by omega), Nat.zero_add]
theorem locs_words : ∀ k, (locsTo k).flatMap wordsT = wLocs nlT 0 k
  | 0 => rfl
  | k + 1 => by rw [locsTo_succ, List.flatMap_append, locs_words k, wLocs_snoc, List.flatMap_cons, List.flatMap_nil, List.append_nil, wordsT_loc, Nat.zero_add]
theorem idxOf_range {nm : Nat → List UInt8} (hi : ∀ a b, nm a = nm b → a = b) : ∀ {n a : Nat}, a < n → ((List.range n).map nm).idxOf (nm a) = a
  | 0, a, h => absurd h (Nat.not_lt_zero _)
  | n + 1, a, h => by
    rw [range_snoc, List.idxOf_append]
    by_cases ha : a < n
    · rw [if_pos (List.mem_map.2 ⟨a, List.mem_range.2 ha, rfl⟩), idxOf_range hi ha]
    · obtain rfl : a = n := by omega
      have := notin_range hi a
      rw [if_neg (by
        intro hm
        have : ((List.range a).map nm).contains (nm a) = true := by simpa using hm
        rw [notin_range hi a] at this; cases this)]
      simp [List.idxOf_cons]
theorem indexL_range {nm : Nat → List UInt8} (hi : ∀ a b, nm a = nm b → a = b) {n a : Nat} (hn : nameL (nm a) = true) (h : a < n) : indexL ((List.range n).map nm) (nm a) = (a, 0) := by
  unfold indexL
  have hc : ((List.range n).map nm).contains (nm a) = true := by
    rw [List.contains_iff_mem]
    exact List.mem_map.2 ⟨a, List.mem_range.2 h, rfl⟩
  rw [if_neg (by simp [hn]), if_neg (by rw [hc]; decide), idxOf_range hi h]
theorem name_digs : ∀ k : Fin 10, nameL (97 :: [digB k.val]) = true ∧ nameL (108 :: [digB k.val]) = true ∧ nameL (108 :: ([digB 1] ++ [digB k.val])) = true := by decide +kernel
theorem nmT_name {k : Nat} (h : k < 8) : nameL (nmT k) = true := by
  unfold nmT
  rw [decS_small (by omega)]
  exact (name_digs ⟨k, by omega⟩).1
theorem nlT_name {k : Nat} (h : k < 16) : nameL (nlT k) = true := by
  unfold nlT
  by_cases h1 : k < 10
  · rw [decS_small h1]; exact (name_digs ⟨k, h1⟩).2.1
  · rw [decS_big h1, decS_small (by omega), show k / 10 = 1 by omega]
    exact (name_digs ⟨k % 10, Nat.mod_lt _ (by omega)⟩).2.2
theorem nmT_inj (a b : Nat) (h : nmT a = nmT b) : a = b := by injection h with _ h; exact decS_inj h
theorem nlT_inj (a b : Nat) (h : nlT a = nlT b) : a = b := by injection h with _ h; exact decS_inj h
theorem nmT_nlT (a b : Nat) : nmT a ≠ nlT b := fun h => by injection h with h _; exact absurd h (by decide)
theorem limits : (opO 0).limit ≤ 4294967296 ∧ (opO 35).limit ≤ 16 ∧ (opO 1).limit ≤ 16 ∧ (opO 2).limit ≤ 16 ∧ (opO 3).limit ≤ 8 ∧ (opO 4).limit ≤ 8 := by decide +kernel
theorem insW_of {s : AS} {n L : Nat} (hl : s.ln = (List.range L).map nlT) (ha : s.an = (List.range n).map nmT) {i : Ins} (h : InsOkT i) (he : exL (L : Int) n i = true) : InsW s i ((opO i.op.toNat).name :: operW i) := by
  obtain ⟨o, g⟩ := i
  obtain ⟨h0, h1, h2, h3⟩ := h
  dsimp only at h0 h1 h2 h3
  obtain ⟨op, rfl⟩ : ∃ op : Nat, o = (op : Int) := ⟨o.toNat, (Int.toNat_of_nonneg h0).symm⟩
  obtain ⟨a, rfl⟩ : ∃ a : Nat, g = (a : Int) := ⟨g.toNat, (Int.toNat_of_nonneg h2).symm⟩
  rw [Int.toNat_natCast] at h3
  refine ⟨op, rfl, by omega, ?_⟩
  unfold operW exL at *
  dsimp only at he ⊢
  rw [Int.toNat_natCast, Int.toNat_natCast]
  obtain ⟨l0, l35, l1, l2, l3, l4⟩ := limits
  by_cases c0 : op = 0
  · subst c0
    refine .inr ⟨.inl (by omega), _, a, by rw [if_pos (.inl rfl)], ?_, rfl⟩
    unfold argL
    rw [if_pos rfl]
    exact valueL_dec s (n := (a : Int).toNat) (by omega)
  by_cases c35 : op = 35
  · subst c35
    refine .inr ⟨.inr rfl, _, a, by rw [if_pos (.inr rfl)], ?_, rfl⟩
    unfold argL
    have e : valueL s (decI (a : Int)) = (a, 0) := valueL_dec s (n := (a : Int).toNat) (by omega)
    rw [if_neg (by decide), if_pos rfl, e]
    dsimp only
    rw [if_neg (by decide), if_neg (by omega)]
  by_cases c1 : op = 1 ∨ op = 2
  · refine .inr ⟨.inl (by omega), _, a, by rw [if_neg (by omega), if_pos (by omega)], ?_, rfl⟩
    unfold argL
    rw [if_neg c0, if_neg c35, if_pos c1, hl]
    rw [if_pos (by omega)] at he
    have he : (a : Int) < L := by simpa using he
    exact indexL_range nlT_inj (nlT_name (by rcases c1 with rfl | rfl <;> omega)) (by omega)
  by_cases c3 : op = 3 ∨ op = 4
  · refine .inr ⟨.inl (by omega), _, a, by rw [if_neg (by omega), if_neg (by omega), if_pos (by omega)], ?_, rfl⟩
    unfold argL
    rw [if_neg c0, if_neg c35, if_neg c1, ha]
    rw [if_neg (by omega), if_pos (by omega)] at he
    have he : (a : Int) < n := by simpa using he
    exact indexL_range nmT_inj (nmT_name (by rcases c3 with rfl | rfl <;> omega)) (by omega)
  · refine .inl ⟨by omega, c35, ?_, by rw [if_neg (by omega), if_neg (by omega), if_neg (by omega)]⟩
    have := limit_one ⟨op, by omega⟩ ⟨c0, fun e => c1 (.inl e), fun e => c1 (.inr e), fun e => c3 (.inl e), fun e => c3 (.inr e), c35⟩
    dsimp only at this
    show (a : Int) = 0
    omega
theorem code_words {p : Prg} {s : AS} {L : Nat} (hl : s.ln = (List.range L).map nlT) (ha : s.an = (List.range p.arrs.length).map nmT) (hL : p.locs = (L : Int)) (hk : PrgOk p) (he : exAll p = true) : ∀ k, k ≤ p.code.length → CodeW s (p.code.take k) ((rowsTo p.code k).flatMap wordsT)
  | 0, _ => .nil
  | k + 1, h => by
    have hi := hk.code _ (gI_mem (l := p.code) (k := k) (by omega))
    have hx := exAll_at he (k := k) (by omega)
    rw [hL] at hx
    rw [rowsTo_succ, List.flatMap_append, take_gI (by omega)]
    refine (code_words hl ha hL hk he k (by omega)).snoc ?_
    rw [List.flatMap_cons, List.flatMap_nil, List.append_nil]
    unfold rowL spL
    rw [wordsT_sp, wordsT_line hi]
    exact insW_of hl ha hi hx
/-- the text of a program is read back. -/
theorem textL_read {p : Prg} (hf : formE p = 0) (ha : ∀ i ∈ p.code, 0 ≤ i.arg) (he : exAll p = true) (hl : (textL p).length ≤ 8192) : ∃ s r, readL (textL p) = .ok s r ∧ prgOf s = p := by
  obtain ⟨f1, f2, f3, f4, f5, f6⟩ := formE_ok hf
  have hk := prgOk_of hf ha
  have hs : (p.arrs.map (·.size)).sum ≤ 65536 := by
    have hr : arrE p.arrs = 0 := by
      by_cases h : arrE p.arrs = 0
      · exact h
      · unfold formE at hf; rw [if_pos h] at hf; exact absurd hf h
    unfold arrE at hr
    rw [if_neg (by omega), arrGo_sum _ _ (by omega) (fun x hx => (f2 x hx).1)] at hr
    rw [← sumA_cells]
    by_cases h : 65536 < sumA p.arrs
    · rw [if_pos h] at hr; cases hr
    · omega
  have hL : p.locs = ((p.locs.toNat : Nat) : Int) := (Int.toNat_of_nonneg f3).symm
  have hw : wordsT (textL p) = wArrs nmT 0 p.arrs ++ (wLocs nlT 0 p.locs.toNat ++ (rowsTo p.code p.code.length).flatMap wordsT) := by
    unfold textL linesL declL
    rw [wordsT_lines, List.flatMap_append, List.flatMap_append, arrs_words p.arrs _ (Nat.le_refl _), List.take_length, locs_words, List.append_assoc]
  have hc := code_words (s := ⟨p.arrs, (List.range p.arrs.length).map nmT, (List.range p.locs.toNat).map nlT, [], []⟩) (p := p) rfl rfl hL hk he p.code.length (Nat.le_refl _)
  rw [List.take_length] at hc
  refine ⟨_, _, read_built (fun k h => nmT_name h) nmT_inj (fun k h => nlT_name h) nlT_inj nmT_nlT hl f1 (fun a h => (f2 a h).1) hs (by omega) f5 hc hw, ?_⟩
  unfold prgOf
  dsimp only
  rw [List.length_map, List.length_range, ← hL]
end Go.Proofs.YtmijalhilalaoaaGreatDoor
