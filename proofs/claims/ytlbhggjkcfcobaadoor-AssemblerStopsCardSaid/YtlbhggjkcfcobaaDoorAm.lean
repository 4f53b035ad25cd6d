/- What is read is in form, and uses what is declared. No program in sight. -/
import Derived.Test.YtlbhggjkcfcobaaDoorAl
import Derived.Test.YtlbhggjkcfcobaaDoorIh
namespace Go.Proofs.YtlbhggjkcfcobaaDoor
open Go.RowKit Go.Proofs
set_option linter.unusedVariables false

theorem numL_lt {x : List UInt8} {n : Nat} (h : numL x = some n) : n < 4294967296 := by
  have hb : ∀ (o : Option Nat), (o.bind fun n => if n < 4294967296 then some n else none) = some n → n < 4294967296 := fun o h => by
    cases o with
    | none => cases h
    | some m =>
      by_cases hm : m < 4294967296
      · simp [hm] at h; omega
      · simp [hm] at h
  unfold numL at h
  split at h
  · split at h
    · cases h
    · exact hb _ h
  split at h
  · cases h
  split at h
  · cases h
  · exact hb _ h
theorem findL_some {x : List UInt8} {k : Nat} (h : findL x = some k) : k < 36 ∧ (opO k).name = x := by
  unfold findL at h
  have h1 := List.find?_some h
  have h2 := List.mem_of_find?_eq_some h
  exact ⟨List.mem_range.1 h2, by simpa using h1⟩
theorem indexL_ok {l : List (List UInt8)} {x : List UInt8} (h : (indexL l x).2 = 0) : (indexL l x).1 < l.length ∧ nameL x = true ∧ x ∈ l := by
  unfold indexL at h ⊢
  by_cases h1 : nameL x = false
  · rw [if_pos h1] at h; cases h
  rw [if_neg h1] at h ⊢
  by_cases h2 : l.contains x = false
  · rw [if_pos h2] at h; cases h
  rw [if_neg h2]
  have h3 : x ∈ l := by
    have : l.contains x = true := by simpa using h2
    simpa using this
  exact ⟨List.idxOf_lt_length_iff.2 h3, by simpa using h1, h3⟩
def InsOk (a l : Nat) (i : Ins) : Prop := 0 ≤ i.op ∧ i.op < 36 ∧ 0 ≤ i.arg ∧ i.arg < 4294967296 ∧ (i.op = 35 → i.arg < 16) ∧ (i.op = 1 ∨ i.op = 2 → i.arg < l) ∧ (i.op = 3 ∨ i.op = 4 → i.arg < a) ∧ (4 < i.op → i.op ≠ 35 → i.arg = 0)
structure Formed (s : AS) : Prop where
  an : s.an.length = s.arrs.length
  few : s.arrs.length ≤ 8
  sizes : ∀ x ∈ s.arrs, 1 ≤ x.size ∧ x.size ≤ 65536
  cells : s.cells ≤ 65536
  locs : s.ln.length ≤ 16
  code : s.code.length ≤ 1024
  ins : ∀ i ∈ s.code, InsOk s.arrs.length s.ln.length i
  cn : ∀ p ∈ s.cn, p.2 < 4294967296
theorem Formed.start : Formed AS.start := ⟨rfl, by decide, by simp [AS.start], by decide, by decide, by decide, by simp [AS.start], by simp [AS.start]⟩
theorem valueL_lt {s : AS} (hc : ∀ p ∈ s.cn, p.2 < 4294967296) (x : List UInt8) : (valueL s x).1 < 4294967296 := by
  unfold valueL
  cases h : numL x with
  | some n => exact numL_lt h
  | none =>
    dsimp only
    by_cases h1 : nameL x = false
    · rw [if_pos h1]; decide
    · rw [if_neg h1]
      cases h2 : conOf s x with
      | none => decide
      | some n =>
        unfold conOf at h2
        cases h3 : s.cn.find? fun p => decide (p.1 = x) with
        | none => rw [h3] at h2; cases h2
        | some p =>
          rw [h3] at h2
          have h2 : p.2 = n := by simpa using h2
          have := hc p (List.mem_of_find?_eq_some h3)
          show n < _
          omega
theorem InsOk.mono {a l a' l' : Nat} {i : Ins} (h : InsOk a l i) (ha : a ≤ a') (hl : l ≤ l') : InsOk a' l' i := by
  obtain ⟨h1, h2, h3, h4, h5, h6, h7, h8⟩ := h
  exact ⟨h1, h2, h3, h4, h5, fun h => by have := h6 h; omega, fun h => by have := h7 h; omega, h8⟩
theorem arrayL_formed {n : Nat} {b : Bool} {s s' : AS} {r r' : List Wd} (hF : Formed s) (h : arrayL n b s r = .ok s' r') : Formed s' := by
  obtain ⟨x, y, t, rfl, rfl, q1, q2, q3, q4, q5, rfl⟩ := arrayL_ok h
  have hsz : ∀ l : List Arr, (∀ x ∈ l, 1 ≤ x.size ∧ x.size ≤ 65536) → 0 ≤ (l.map (·.size)).sum := fun l => by
    induction l with
    | nil => intro _; exact Int.le_refl _
    | cons z l ih => intro hl; rw [List.map_cons, List.sum_cons]; have := hl z (by simp); have := ih (fun x hx => hl x (by simp [hx])); omega
  have h0 : 0 ≤ s.cells := hsz _ hF.sizes
  refine ⟨?_, ?_, ?_, ?_, hF.locs, hF.code, ?_, hF.cn⟩
  · simp [hF.an]
  · have := hF.an; simp; omega
  · intro z hz
    rcases List.mem_append.1 hz with hz | hz
    · exact hF.sizes z hz
    · rw [List.mem_singleton.1 hz]
      exact ⟨by show (1 : Int) ≤ ((valueL s y.1).1 : Int); omega, by show ((valueL s y.1).1 : Int) ≤ 65536; omega⟩
  · show ((s.arrs ++ [(⟨b, (valueL s y.1).1⟩ : Arr)]).map (fun x : Arr => x.size)).sum ≤ 65536
    rw [List.map_append, List.sum_append]
    show s.cells + (((valueL s y.1).1 : Int) + 0) ≤ 65536
    omega
  · intro i hi
    exact (hF.ins i hi).mono (by simp) (Nat.le_refl _)
theorem argL_ok {s : AS} (hF : Formed s) {op : Nat} (ho : op ≤ 4 ∨ op = 35) {x : List UInt8} (h : (argL s op x).2 = 0) : InsOk s.arrs.length s.ln.length ⟨op, (argL s op x).1⟩ := by
  have hv := valueL_lt hF.cn x
  unfold argL at h ⊢
  by_cases h0 : op = 0
  · rw [if_pos h0] at h ⊢
    subst h0
    exact ⟨by dsimp only; omega, by dsimp only; omega, by dsimp only; omega, by dsimp only; omega, fun h => by dsimp only at h; omega, fun h => by dsimp only at h; omega, fun h => by dsimp only at h; omega, fun h => by dsimp only at h; omega⟩
  rw [if_neg h0] at h ⊢
  by_cases h1 : op = 35
  · rw [if_pos h1] at h ⊢
    subst h1
    have h16 : (valueL s x).1 < 16 := by
      by_cases h2 : (valueL s x).2 ≠ 0
      · dsimp only at h; rw [if_pos h2] at h; exact absurd h h2
      · dsimp only at h; rw [if_neg h2] at h
        by_cases h3 : 16 ≤ (valueL s x).1
        · rw [if_pos h3] at h; cases h
        · omega
    exact ⟨by dsimp only; omega, by dsimp only; omega, by dsimp only; omega, by dsimp only; omega, fun _ => by dsimp only; omega, fun h => by dsimp only at h; omega, fun h => by dsimp only at h; omega, fun _ h => absurd rfl h⟩
  rw [if_neg h1] at h ⊢
  have hl := hF.locs
  have ha := hF.few
  by_cases h2 : op = 1 ∨ op = 2
  · rw [if_pos h2] at h ⊢
    have hi := (indexL_ok h).1
    exact ⟨by dsimp only; omega, by dsimp only; omega, by dsimp only; omega, by dsimp only; omega, fun h => by dsimp only at h; omega, fun _ => by dsimp only; omega, fun h => by dsimp only at h; omega, fun h => by dsimp only at h; omega⟩
  · rw [if_neg h2] at h ⊢
    have hi := (indexL_ok h).1
    rw [hF.an] at hi
    exact ⟨by dsimp only; omega, by dsimp only; omega, by dsimp only; omega, by dsimp only; omega, fun h => by dsimp only at h; omega, fun h => by dsimp only at h; omega, fun _ => by dsimp only; omega, fun h => by dsimp only at h; omega⟩
theorem stepL_formed {n : Nat} {w : Wd} {s s' : AS} {r r' : List Wd} (hF : Formed s) (h : stepL n w s r = .ok s' r') : Formed s' := by
  unfold stepL at h
  split at h
  · exact arrayL_formed hF h
  split at h
  · exact arrayL_formed hF h
  split at h
  · obtain ⟨x, t, rfl, rfl, q1, q2, rfl⟩ := localL_ok h
    refine ⟨hF.an, hF.few, hF.sizes, hF.cells, ?_, hF.code, ?_, hF.cn⟩
    · simp; omega
    · intro i hi
      exact (hF.ins i hi).mono (Nat.le_refl _) (by simp)
  split at h
  · obtain ⟨x, y, t, rfl, rfl, q1, q3, rfl⟩ := constL_ok h
    refine ⟨hF.an, hF.few, hF.sizes, hF.cells, hF.locs, hF.code, hF.ins, ?_⟩
    intro p hp
    rcases List.mem_append.1 hp with hp | hp
    · exact hF.cn p hp
    · rw [List.mem_singleton.1 hp]; exact valueL_lt hF.cn _
  · obtain ⟨op, hf, hc, ⟨ho, x, t, rfl, rfl, q1, rfl⟩ | ⟨ho, rfl, rfl⟩⟩ := instrL_ok h
    · refine ⟨hF.an, hF.few, hF.sizes, hF.cells, hF.locs, by simp; omega, ?_, hF.cn⟩
      intro i hi
      rcases List.mem_append.1 hi with hi | hi
      · exact hF.ins i hi
      · rw [List.mem_singleton.1 hi]; exact argL_ok hF ho q1
    · refine ⟨hF.an, hF.few, hF.sizes, hF.cells, hF.locs, by simp; omega, ?_, hF.cn⟩
      intro i hi
      rcases List.mem_append.1 hi with hi | hi
      · exact hF.ins i hi
      · rw [List.mem_singleton.1 hi]
        have := (findL_some hf).1
        exact ⟨by dsimp only; omega, by dsimp only; omega, Int.le_refl _, by dsimp only; omega, fun h => by dsimp only at h; omega, fun h => by dsimp only at h; omega, fun h => by dsimp only at h; omega, fun _ _ => rfl⟩
theorem readW_formed {n : Nat} : ∀ (f : Nat) (ws : List Wd) (s s' : AS) (r : List Wd), ws.length < f → Formed s → readW n s ws = .ok s' r → Formed s'
  | 0, _, _, _, _, h, _, _ => by omega
  | f + 1, [], s, s', r, _, hF, h => by
    rw [readW_nil] at h; injection h with h _; rw [← h]; exact hF
  | f + 1, w :: t, s, s', r, hf, hF, h => by
    cases hs : stepL n w s t with
    | bad a e => rw [readW_bad hs] at h; cases h
    | ok s1 r1 =>
      rw [readW_ok hs] at h
      obtain ⟨hr1, hwl, _⟩ := stepL_grew hs
      have hl : r1.length ≤ t.length := by rw [hr1, List.length_drop]; omega
      exact readW_formed f r1 s1 s' r (by simp at hf; omega) (stepL_formed hF hs) h
theorem readL_formed {src : List UInt8} {s : AS} {r : List Wd} (h : readL src = .ok s r) : Formed s := by
  unfold readL at h
  split at h
  · cases h
  · exact readW_formed _ _ _ _ _ (Nat.lt_succ_self _) Formed.start h
/-- the program that was read. -/
def prgOf (s : AS) : Prg := ⟨s.arrs, (s.ln.length : Int), s.code⟩
theorem sumA_cells : ∀ l : List Arr, sumA l = (l.map (·.size)).sum
  | [] => rfl
  | x :: l => by rw [sumA, List.map_cons, List.sum_cons, sumA_cells l]
theorem InsOk.chk {a l : Nat} {i : Ins} (h : InsOk a l i) (ha : a ≤ 8) (hl : l ≤ 16) : chkE i = 0 := by
  obtain ⟨op, arg⟩ := i
  obtain ⟨h1, h2, h3, h4, h5, h6, h7, h8⟩ := h
  dsimp only at h1 h2 h3 h4 h5 h6 h7 h8
  obtain ⟨k, rfl⟩ : ∃ k : Nat, op = (k : Int) := ⟨op.toNat, by omega⟩
  rw [chk_in (by omega), if_neg]
  have hlim : (opO k).limit = if k = 0 then 4294967296 else if k = 1 ∨ k = 2 ∨ k = 35 then 16 else if k = 3 ∨ k = 4 then 8 else 1 := lim_tab ⟨k, by omega⟩
  rw [hlim]
  by_cases e0 : k = 0
  · rw [if_pos e0]; omega
  rw [if_neg e0]
  by_cases e1 : k = 1 ∨ k = 2 ∨ k = 35
  · rw [if_pos e1]
    rcases e1 with e | e | e
    · have := h6 (by omega); omega
    · have := h6 (by omega); omega
    · have := h5 (by omega); omega
  rw [if_neg e1]
  by_cases e2 : k = 3 ∨ k = 4
  · rw [if_pos e2]; have := h7 (by omega); omega
  · rw [if_neg e2]; have := h8 (by omega) (by omega); omega
theorem codeE_zero : ∀ {l : List Ins}, (∀ i ∈ l, chkE i = 0) → codeE l = 0
  | [], _ => rfl
  | i :: l, h => by
    rw [codeE_step, if_neg (by rw [h i (by simp)]; decide)]
    exact codeE_zero (fun x hx => h x (by simp [hx]))
theorem Formed.form {s : AS} (h : Formed s) : formE (prgOf s) = 0 := by
  have h1 : arrE s.arrs = 0 := by
    unfold arrE
    rw [if_neg (by have := h.few; omega), arrGo_sum _ _ (by omega) (fun x hx => (h.sizes x hx).1), if_neg]
    rw [sumA_cells]
    have := h.cells
    show ¬ 65536 < s.cells
    omega
  unfold formE prgOf
  dsimp only
  rw [if_neg (by rw [h1]; decide), if_neg (by have := h.locs; omega), if_neg (by have := h.code; omega)]
  exact codeE_zero (fun i hi => (h.ins i hi).chk h.few h.locs)
end Go.Proofs.YtlbhggjkcfcobaaDoor
