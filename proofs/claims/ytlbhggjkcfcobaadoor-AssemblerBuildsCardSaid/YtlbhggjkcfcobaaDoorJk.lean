/- Texts that are built of declarations and instructions, plainly; a strings.Builder whose writes keep the other blocks. -/
import Derived.Test.YtlbhggjkcfcobaaDoorJf
import Derived.Test.YtlbhggjkcfcobaaDoorJh
namespace Go.Proofs.YtlbhggjkcfcobaaDoor
open Go.RowKit Go.Proofs
set_option linter.unusedVariables false

def arrP (v : UInt8) : Arr := ⟨decide (v.toNat % 2 = 1), ((1 + v.toNat : Nat) : Int)⟩
def kindW (b : Bool) : List UInt8 := if b = true then [119, 111, 114, 100, 115] else [98, 121, 116, 101, 115]
def nmB (k : Nat) : List UInt8 := 97 :: decS k
def nlX (k : Nat) : List UInt8 := 120 :: 95 :: decS k
def arrT (k : Nat) (v : UInt8) : List UInt8 := kindW (arrP v).word ++ [32, 97] ++ decS k ++ [32] ++ decS (1 + v.toNat) ++ [10]
def locT (k : Nat) : List UInt8 := [108, 111, 99, 97, 108, 32, 120, 95] ++ decS k ++ [10]
def itemT (op : Nat) (w : Option (List UInt8)) : List UInt8 := (opO op).name ++ (match w with | none => [] | some x => 32 :: x) ++ [32]
/-- a text that ends between words. -/
def Cl (T : List UInt8) (ws : List (List UInt8)) : Prop := ∀ b, wordsT (T ++ b) = ws ++ wordsT b
theorem Cl.nil : Cl [] [] := fun b => rfl
theorem Cl.all {T : List UInt8} {ws : List (List UInt8)} (h : Cl T ws) : wordsT T = ws := by
  have := h []
  rw [List.append_nil] at this
  rw [this]
  exact List.append_nil ws
theorem fit_dec (n : Nat) : ∀ b ∈ decS n, gapB b = false := fun b hb => by
  have h := decS_mem n b hb
  have h1 : b ≠ 32 := by rintro rfl; revert h; decide
  have h2 : b ≠ 9 := by rintro rfl; revert h; decide
  have h3 : b ≠ 10 := by rintro rfl; revert h; decide
  have h4 : b ≠ 59 := by rintro rfl; revert h; decide
  simp [gapB, h1, h2, h3, h4]
theorem fit_hex (n : Nat) : ∀ b ∈ hxS n, gapB b = false := fun b hb => by
  have h := hxS_fit n b hb
  have h1 : b ≠ 32 := by rintro rfl; revert h; decide
  have h2 : b ≠ 9 := by rintro rfl; revert h; decide
  have h3 : b ≠ 10 := by rintro rfl; revert h; decide
  have h4 : b ≠ 59 := by rintro rfl; revert h; decide
  simp [gapB, h1, h2, h3, h4]
theorem fit_cons {c : UInt8} {l : List UInt8} (hc : gapB c = false) (h : ∀ b ∈ l, gapB b = false) : ∀ b ∈ c :: l, gapB b = false := fun b hb => by
  rcases List.mem_cons.1 hb with rfl | hb
  · exact hc
  · exact h b hb
theorem fit_kind (b : Bool) : ∀ x ∈ kindW b, gapB x = false := by cases b <;> decide
theorem fit_name : ∀ k : Fin 36, (opO k.val).name ≠ [] ∧ (opO k.val).name.all (fun b => !gapB b) = true ∧ (opO k.val).name.length ≤ 12 := by decide +kernel
theorem fit_nm (k : Nat) : ∀ b ∈ nmB k, gapB b = false := fit_cons (by decide) (fit_dec k)
theorem fit_nl (k : Nat) : ∀ b ∈ nlX k, gapB b = false := fit_cons (by decide) (fit_cons (by decide) (fit_dec k))
theorem Cl.arr {T : List UInt8} {ws : List (List UInt8)} (h : Cl T ws) (k : Nat) (v : UInt8) : Cl (T ++ arrT k v) (ws ++ [kindW (arrP v).word, nmB k, decS (1 + v.toNat)]) := fun b => by
  have e : arrT k v ++ b = kindW (arrP v).word ++ 32 :: (nmB k ++ 32 :: (decS (1 + v.toNat) ++ 10 :: b)) := by simp [arrT, nmB]
  rw [List.append_assoc, e, h, wordsT_one _ (by cases (arrP v).word <;> simp [kindW]) (fit_kind _) (by decide) (by decide), wordsT_one _ (by simp [nmB]) (fit_nm k) (by decide) (by decide), wordsT_one _ (decS_ne _) (fit_dec _) (by decide) (by decide), List.append_assoc]
  rfl
theorem Cl.loc {T : List UInt8} {ws : List (List UInt8)} (h : Cl T ws) (k : Nat) : Cl (T ++ locT k) (ws ++ [[108, 111, 99, 97, 108], nlX k]) := fun b => by
  have e : locT k ++ b = [108, 111, 99, 97, 108] ++ 32 :: (nlX k ++ 10 :: b) := by simp [locT, nlX]
  rw [List.append_assoc, e, h, wordsT_one _ (by simp) (by decide) (by decide) (by decide), wordsT_one _ (by simp [nlX]) (fit_nl k) (by decide) (by decide), List.append_assoc]
  rfl
theorem Cl.item {T : List UInt8} {ws : List (List UInt8)} (h : Cl T ws) {op : Nat} (ho : op < 36) (w : Option (List UInt8)) (hw : ∀ x, w = some x → x ≠ [] ∧ ∀ b ∈ x, gapB b = false) : Cl (T ++ itemT op w) (ws ++ ((opO op).name :: w.toList)) := fun b => by
  obtain ⟨f1, f2, f3⟩ := fit_name ⟨op, ho⟩
  dsimp only at f1 f2
  have f4 : ∀ b ∈ (opO op).name, gapB b = false := fun b hb => by simpa using List.all_eq_true.1 f2 b hb
  cases w with
  | none =>
    have e : itemT op none ++ b = (opO op).name ++ 32 :: b := by simp [itemT]
    rw [List.append_assoc, e, h, wordsT_one _ f1 f4 (by decide) (by decide), List.append_assoc]
    rfl
  | some x =>
    obtain ⟨g1, g2⟩ := hw x rfl
    have e : itemT op (some x) ++ b = (opO op).name ++ 32 :: (x ++ 32 :: b) := by simp [itemT]
    rw [List.append_assoc, e, h, wordsT_one _ f1 f4 (by decide) (by decide), wordsT_one _ g1 g2 (by decide) (by decide), List.append_assoc]
    rfl
theorem snocArrs (nm : Nat → List UInt8) (a : Arr) : ∀ (l : List Arr) (k : Nat), wArrs nm k (l ++ [a]) = wArrs nm k l ++ [kindW a.word, nm (k + l.length), decS a.size.toNat]
  | [], k => rfl
  | x :: l, k => by
    rw [List.cons_append]
    show _ :: _ :: _ :: wArrs nm (k + 1) (l ++ [a]) = _ :: _ :: _ :: (wArrs nm (k + 1) l ++ _)
    rw [snocArrs nm a l (k + 1), List.length_cons, Nat.add_assoc, Nat.add_comm 1]
theorem snocLocs (nl : Nat → List UInt8) : ∀ (c k : Nat), wLocs nl k (c + 1) = wLocs nl k c ++ [[108, 111, 99, 97, 108], nl (k + c)]
  | 0, k => rfl
  | c + 1, k => by
    show _ :: _ :: wLocs nl (k + 1) (c + 1) = _ :: _ :: (wLocs nl (k + 1) c ++ _)
    rw [snocLocs nl c (k + 1), Nat.add_assoc, Nat.add_comm 1]
theorem idxOf_rangeB {nm : Nat → List UInt8} (hi : ∀ a b, nm a = nm b → a = b) : ∀ {n a : Nat}, a < n → ((List.range n).map nm).idxOf (nm a) = a
  | 0, a, h => absurd h (Nat.not_lt_zero _)
  | n + 1, a, h => by
    rw [range_snoc, List.idxOf_append]
    by_cases ha : a < n
    · rw [if_pos (List.mem_map.2 ⟨a, List.mem_range.2 ha, rfl⟩), idxOf_rangeB hi ha]
    · obtain rfl : a = n := by omega
      rw [if_neg (by
        intro hm
        have : ((List.range a).map nm).contains (nm a) = true := by simpa using hm
        rw [notin_range hi a] at this; cases this)]
      simp [List.idxOf_cons]
theorem indexL_rangeB {nm : Nat → List UInt8} (hi : ∀ a b, nm a = nm b → a = b) {n a : Nat} (hn : nameL (nm a) = true) (h : a < n) : indexL ((List.range n).map nm) (nm a) = (a, 0) := by
  unfold indexL
  have hc : ((List.range n).map nm).contains (nm a) = true := by
    rw [List.contains_iff_mem]
    exact List.mem_map.2 ⟨a, List.mem_range.2 h, rfl⟩
  rw [if_neg (by simp [hn]), if_neg (by rw [hc]; decide), idxOf_rangeB hi h]
theorem name_digsB : ∀ k : Fin 10, nameL (97 :: [digB k.val]) = true ∧ nameL (120 :: 95 :: [digB k.val]) = true ∧ nameL (120 :: 95 :: ([digB 1] ++ [digB k.val])) = true := by decide +kernel
theorem nmB_name {k : Nat} (h : k < 8) : nameL (nmB k) = true := by
  unfold nmB
  rw [decS_small (by omega)]
  exact (name_digsB ⟨k, by omega⟩).1
theorem nlX_name {k : Nat} (h : k < 16) : nameL (nlX k) = true := by
  unfold nlX
  by_cases h1 : k < 10
  · rw [decS_small h1]; exact (name_digsB ⟨k, h1⟩).2.1
  · rw [decS_big h1, decS_small (by omega), show k / 10 = 1 by omega]
    exact (name_digsB ⟨k % 10, Nat.mod_lt _ (by omega)⟩).2.2
theorem nmB_inj (a b : Nat) (h : nmB a = nmB b) : a = b := by injection h with _ h; exact decS_inj h
theorem nlX_inj (a b : Nat) (h : nlX a = nlX b) : a = b := by injection h with _ h; injection h with _ h; exact decS_inj h
theorem nmB_nlX (a b : Nat) : nmB a ≠ nlX b := fun h => by injection h with h _; exact absurd h (by decide)
/-- what may stand behind the name of an operation. -/
def ItemOk (n L op arg : Nat) (w : Option (List UInt8)) : Prop :=
  (op = 0 ∧ ∃ x, w = some x ∧ numL x = some arg) ∨ (op = 35 ∧ arg < 16 ∧ ∃ x, w = some x ∧ numL x = some arg) ∨ ((op = 1 ∨ op = 2) ∧ arg < L ∧ L ≤ 16 ∧ w = some (nlX arg)) ∨ ((op = 3 ∨ op = 4) ∧ arg < n ∧ n ≤ 8 ∧ w = some (nmB arg)) ∨ (4 < op ∧ op ≠ 35 ∧ arg = 0 ∧ w = none)
theorem insW_item {s : AS} {n L op arg : Nat} {w : Option (List UInt8)} (hl : s.ln = (List.range L).map nlX) (ha : s.an = (List.range n).map nmB) (ho : op < 36) (h : ItemOk n L op arg w) : InsW s ⟨(op : Int), (arg : Int)⟩ ((opO op).name :: w.toList) := by
  refine ⟨op, rfl, ho, ?_⟩
  have hv : ∀ {x : List UInt8} {a : Nat}, numL x = some a → valueL s x = (a, 0) := fun h => by unfold valueL; rw [h]
  rcases h with ⟨rfl, x, rfl, hx⟩ | ⟨rfl, h16, x, rfl, hx⟩ | ⟨h1, hlt, hL, rfl⟩ | ⟨h1, hlt, hn, rfl⟩ | ⟨h4, h35, rfl, rfl⟩
  · refine .inr ⟨.inl (by omega), x, arg, rfl, ?_, rfl⟩
    unfold argL
    rw [if_pos rfl]
    exact hv hx
  · refine .inr ⟨.inr rfl, x, arg, rfl, ?_, rfl⟩
    unfold argL
    rw [if_neg (by decide), if_pos rfl, hv hx]
    dsimp only
    rw [if_neg (by simp), if_neg (by omega)]
  · refine .inr ⟨.inl (by omega), _, arg, rfl, ?_, rfl⟩
    unfold argL
    rw [if_neg (by omega), if_neg (by omega), if_pos h1, hl]
    exact indexL_rangeB nlX_inj (nlX_name (by omega)) hlt
  · refine .inr ⟨.inl (by omega), _, arg, rfl, ?_, rfl⟩
    unfold argL
    rw [if_neg (by omega), if_neg (by omega), if_neg (by omega), ha]
    exact indexL_rangeB nmB_inj (nmB_name (by omega)) hlt
  · exact .inl ⟨h4, h35, rfl, rfl⟩

/-- a builder that holds bytes, in block b, of what lies from B on. -/
def BldF (B b : Nat) (l : List UInt8) (w : World) : Prop := Lib.IsBuilderF 45 5 B b (Lib.byteCells l) w
theorem BldF.fresh (w : World) : BldF w.heap.size w.heap.size [] (w.alloc (.cells #[.pointer none, .slice none 0 0] 45)) := Lib.IsBuilderF.of (Lib.fresh_isBuilder _ _ w)
theorem BldF.block {B b : Nat} {l : List UInt8} {w : World} (h : BldF B b l w) : ∃ cs, w.heap[b]? = some (.cells cs 45 (0, 0)) := by
  rcases h with h | h
  · obtain ⟨_, v, h2, _⟩ := h; exact ⟨_, h2⟩
  · obtain ⟨_, v, h2, _⟩ := h; exact ⟨_, h2⟩
theorem BldF.at_below {T e : TypeId} {B b : Nat} {p : Value} {bs : List Value} {w w' : World} (h : Lib.BuilderAtF T e B b p bs w) (hb : Below w.heap.size w w') : Lib.BuilderAtF T e B b p bs w' := by
  obtain ⟨h1, v, h2, h3, h4⟩ := h
  have hlt := (Array.getElem?_eq_some_iff.1 h2).1
  refine ⟨h1, v, (hb.block b hlt).trans h2, ⟨h3.1, ?_⟩, h4⟩
  rcases h3.2 with h5 | ⟨g, cap, cur, fz, h5, h6, h7, h8⟩
  · exact .inl h5
  · exact .inr ⟨g, cap, cur, fz, h5, h6, (hb.block g (Array.getElem?_eq_some_iff.1 h7).1).trans h7, h8⟩
theorem BldF.below {B b : Nat} {l : List UInt8} {w w' : World} (h : BldF B b l w) (hb : Below w.heap.size w w') : BldF B b l w' := by
  rcases h with h | h
  · exact .inl (at_below h hb)
  · exact .inr (at_below h hb)
theorem BldF.kept_row {B b g : Nat} {l : List UInt8} {w w' : World} {t : TypeId} {cs : Array Value} (h : BldF B b l w) (hk : Lib.OthersKept 5 (some b) w w') (hr : rowV w g t cs) (h1 : t ≠ 5) (h2 : t ≠ 45) : rowV w' g t cs := by
  refine hk g _ hr (fun e => ?_) (fun c fz e => h1 (by injection e))
  obtain ⟨cs', hb⟩ := h.block
  injection e with e
  subst e
  have hr' : w.heap[g]? = _ := hr
  rw [hr'] at hb
  injection hb with hb
  injection hb with _ hb
  exact h2 hb
theorem BldF.kept_own {α : Type} {enc : α → List Value} {sz B b B' n c : Nat} {l : List UInt8} {w w' : World} {e : TypeId} {A : Option Addr} {xs : List α} (h : BldF B b l w) (hk : Lib.OthersKept 5 (some b) w w') (ho : OwnS enc sz w B' e A n c xs) (h1 : e ≠ 5) (h2 : e ≠ 45) : OwnS enc sz w' B' e A n c xs := by
  refine ⟨ho.1, ?_⟩
  rcases ho.2 with h3 | ⟨g, cap, cur, h3, h4, h5, h6⟩
  · exact .inl h3
  · exact .inr ⟨g, cap, cur, h3, h4, h.kept_row hk h5 h1 h2, h6⟩
theorem bldF_str (B b : Nat) (l x : List UInt8) (w : World) (h : BldF B b l w) (hl : l.length + x.length ≤ 140737488355328) (hB : B ≤ w.heap.size) :
    Calls Tryd.prog 18 #[.pointer (some ⟨b, 0, none⟩), .string (strB x)] w fun e w' => e = .returned (.tuple #[.int .i64 (x.length : Int), .nilIface]) ∧ BldF B b (l ++ x) w' ∧ Below B w w' ∧ Lib.OthersKept 5 (some b) w w' := by
  refine (Any.Builder_WriteString_k { Tryd.laysM155 with } Tryd.Builder_Extra_M155 B b (Lib.byteCells l) (strB x) w h (by rw [Lib.byteCells_length]; exact hl) hB).mono ?_
  rintro e w' ⟨rfl, h1, h2, h3⟩
  refine ⟨rfl, ?_, h2, h3⟩
  unfold BldF
  rw [Lib.byteCells_append]
  exact .inr h1
theorem bldF_text (B b : Nat) (l : List UInt8) (w : World) (h : BldF B b l w) (hB : B ≤ w.heap.size) : Calls Tryd.prog 22 #[.pointer (some ⟨b, 0, none⟩)] w fun e w' => e = .returned (.string (strB l)) ∧ Below B w w' ∧ Lib.OthersKept 5 (some b) w w' := by
  refine (Any.Builder_String_any_k Tryd.lays169 Tryd.Builder_Extra_169 B b l w h hB).mono ?_
  rintro e w' ⟨rfl, _, h1, h2⟩
  exact ⟨rfl, h1, h2⟩
end Go.Proofs.YtlbhggjkcfcobaaDoor
