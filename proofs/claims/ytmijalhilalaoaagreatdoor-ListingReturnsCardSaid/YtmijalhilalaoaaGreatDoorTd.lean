/- A text tells its program: plainly. No program in sight. -/
import Derived.Test.YtmijalhilalaoaaGreatDoorTb
namespace Go.Proofs.YtmijalhilalaoaaGreatDoor
open Go.RowKit Go.Proofs
set_option linter.unusedVariables false

theorem sep_inj {c : UInt8} : ∀ {x y r s : List UInt8}, c ∉ x → c ∉ y → x ++ c :: r = y ++ c :: s → x = y ∧ r = s
  | [], [], r, s, _, _, h => ⟨rfl, by simpa using h⟩
  | [], b :: y, r, s, _, hy, h => by
    simp only [List.nil_append, List.cons_append, List.cons.injEq] at h
    exact absurd (by rw [h.1]; simp) hy
  | a :: x, [], r, s, hx, _, h => by
    simp only [List.nil_append, List.cons_append, List.cons.injEq] at h
    exact absurd (by rw [← h.1]; simp) hx
  | a :: x, b :: y, r, s, hx, hy, h => by
    simp only [List.cons_append, List.cons.injEq] at h
    have := sep_inj (fun hh => hx (by simp [hh])) (fun hh => hy (by simp [hh])) h.2
    exact ⟨by rw [h.1, this.1], this.2⟩
theorem nlAll_cons (x : List UInt8) (l : List (List UInt8)) : nlAll (x :: l) = x ++ 10 :: nlAll l := by simp [nlAll]
theorem nlAll_inj : ∀ {l m : List (List UInt8)}, (∀ x ∈ l, (10 : UInt8) ∉ x) → (∀ x ∈ m, (10 : UInt8) ∉ x) → nlAll l = nlAll m → l = m
  | [], [], _, _, _ => rfl
  | [], y :: m, _, _, h => by rw [nlAll_cons] at h; simp [nlAll] at h
  | x :: l, [], _, _, h => by rw [nlAll_cons] at h; simp [nlAll] at h
  | x :: l, y :: m, hl, hm, h => by
    rw [nlAll_cons, nlAll_cons] at h
    obtain ⟨h1, h2⟩ := sep_inj (hl x (by simp)) (hm y (by simp)) h
    rw [h1, nlAll_inj (fun z hz => hl z (by simp [hz])) (fun z hz => hm z (by simp [hz])) h2]

/-- the kind of a line: of an array, of a local, of an instruction. -/
def cls : List UInt8 → Nat
  | a :: b :: c :: _ => if (a = 98 ∧ b = 121) ∨ (a = 119 ∧ b = 111) then 0 else if a = 108 ∧ b = 111 ∧ c = 99 then 1 else 2
  | _ => 2
def nameFit : List UInt8 → Bool
  | a :: b :: c :: t => (cls [a, b, c] == 2) && decide (a ≠ 32)
  | [a, b] => !((a == 98 && b == 121) || (a == 119 && b == 111) || (a == 108 && b == 111)) && decide (a ≠ 32)
  | _ => false
theorem names_fit : opTab.all (fun o => nameFit o.name && o.name.all (fun b => decide (97 ≤ b.toNat))) = true := by decide +kernel
theorem names_apart : ∀ a b : Fin 36, (opO a.val).name = (opO b.val).name → a = b := by decide +kernel
theorem limit_one : ∀ a : Fin 36, (a.val ≠ 0 ∧ a.val ≠ 1 ∧ a.val ≠ 2 ∧ a.val ≠ 3 ∧ a.val ≠ 4 ∧ a.val ≠ 35) → (opO a.val).limit = 1 := by decide +kernel
theorem opO_mem {k : Nat} (hk : k < 36) : opO k ∈ opTab := by
  unfold opO
  rw [List.getD_eq_getElem?_getD, List.getElem?_eq_getElem (by rw [opTab_length]; exact hk)]
  exact List.getElem_mem _
theorem name_fit {k : Nat} (hk : k < 36) : nameFit (opO k).name = true ∧ ∀ b ∈ (opO k).name, 97 ≤ b.toNat := by
  have := List.all_eq_true.1 names_fit _ (opO_mem hk)
  rw [Bool.and_eq_true] at this
  refine ⟨this.1, fun b hb => ?_⟩
  have := List.all_eq_true.1 this.2 b hb
  simpa using this
theorem cls_name {s : List UInt8} (h : nameFit s = true) (r : List UInt8) : cls (s ++ r) = 2 := by
  match s, h with
  | a :: b :: c :: t, h =>
    unfold nameFit at h
    rw [Bool.and_eq_true] at h
    have := h.1
    simpa [cls] using this
  | [a, b], h =>
    match r with
    | [] => rfl
    | c :: t =>
      simp [nameFit] at h
      show (if (a = 98 ∧ b = 121) ∨ (a = 119 ∧ b = 111) then 0 else if a = 108 ∧ b = 111 ∧ c = 99 then 1 else 2) = 2
      rw [if_neg (by rintro (⟨rfl, rfl⟩ | ⟨rfl, rfl⟩) <;> simp at h), if_neg (by rintro ⟨rfl, rfl, rfl⟩; simp at h)]
theorem name_head {s : List UInt8} (h : nameFit s = true) (r : List UInt8) : ∃ a t, s ++ r = a :: t ∧ a ≠ 32 := by
  match s, h with
  | a :: b :: c :: t, h =>
    simp [nameFit] at h
    exact ⟨a, _, rfl, h.2⟩
  | [a, b], h =>
    simp [nameFit] at h
    exact ⟨a, _, rfl, h.2⟩
theorem cls_sp {d : Nat} {r : List UInt8} (h : cls r = 2) : cls (spL d ++ r) = 2 := by
  cases d with
  | zero => exact h
  | succ d =>
    unfold spL
    rw [show 2 * (d + 1) = 2 * d + 1 + 1 by omega, List.replicate_succ, List.replicate_succ]
    show cls (32 :: 32 :: (List.replicate (2 * d) 32 ++ r)) = 2
    cases hx : (List.replicate (2 * d) 32 ++ r : List UInt8) with
    | nil => rfl
    | cons c t => rfl
theorem sp_inj : ∀ {a b : Nat} {x y : List UInt8}, (∃ c t, x = c :: t ∧ c ≠ 32) → (∃ c t, y = c :: t ∧ c ≠ 32) → List.replicate a (32 : UInt8) ++ x = List.replicate b 32 ++ y → x = y
  | 0, 0, x, y, _, _, h => by simpa using h
  | 0, b + 1, x, y, ⟨c, t, hx, hc⟩, _, h => by
    subst hx
    rw [List.replicate_succ] at h
    simp only [List.replicate_zero, List.nil_append, List.cons_append, List.cons.injEq] at h
    exact absurd h.1 hc
  | a + 1, 0, x, y, _, ⟨c, t, hy, hc⟩, h => by
    subst hy
    rw [List.replicate_succ] at h
    simp only [List.replicate_zero, List.nil_append, List.cons_append, List.cons.injEq] at h
    exact absurd h.1.symm hc
  | a + 1, b + 1, x, y, hx, hy, h => by
    rw [List.replicate_succ, List.replicate_succ] at h
    simp only [List.cons_append, List.cons.injEq, true_and] at h
    exact sp_inj hx hy h
/-- an instruction that may stand in a program. -/
def InsOkT (i : Ins) : Prop := 0 ≤ i.op ∧ i.op < 36 ∧ 0 ≤ i.arg ∧ i.arg < (opO i.op.toNat).limit
theorem opX_ok {i : Ins} (h : InsOkT i) : opX i.op = opO i.op.toNat := by unfold opX; rw [if_pos ⟨h.1, h.2.1⟩]
theorem lineL_head {i : Ins} (h : InsOkT i) : ∃ c t, lineL i = c :: t ∧ c ≠ 32 := by
  unfold lineL
  rw [opX_ok h]
  exact name_head (name_fit (by have := h.1; have := h.2.1; omega)).1 _
theorem lineL_cls {i : Ins} (h : InsOkT i) : cls (lineL i) = 2 := by
  unfold lineL
  rw [opX_ok h]
  exact cls_name (name_fit (by have := h.1; have := h.2.1; omega)).1 _
theorem operL_form (i : Ins) : operL i = [] ∨ ∃ t, operL i = 32 :: t := by
  unfold operL
  split
  · exact .inr ⟨_, rfl⟩
  · split
    · exact .inr ⟨_, rfl⟩
    · split
      · exact .inr ⟨_, rfl⟩
      · exact .inl rfl
theorem word_inj {x y r s : List UInt8} (hx : (32 : UInt8) ∉ x) (hy : (32 : UInt8) ∉ y) (hr : r = [] ∨ ∃ t, r = 32 :: t) (hs : s = [] ∨ ∃ t, s = 32 :: t) (h : x ++ r = y ++ s) : x = y ∧ r = s := by
  rcases hr with rfl | ⟨t, rfl⟩ <;> rcases hs with rfl | ⟨u, rfl⟩
  · exact ⟨by simpa using h, rfl⟩
  · rw [List.append_nil] at h; exact absurd (by rw [h]; simp) hx
  · rw [List.append_nil] at h; exact absurd (by rw [← h]; simp) hy
  · obtain ⟨h1, h2⟩ := sep_inj hx hy h
    exact ⟨h1, by rw [h2]⟩
theorem decI_inj {a b : Int} (ha : 0 ≤ a) (hb : 0 ≤ b) (h : decI a = decI b) : a = b := by have := decS_inj h; omega
theorem operL_inj {o a b : Int} (h1 : InsOkT ⟨o, a⟩) (h2 : InsOkT ⟨o, b⟩) (h : operL ⟨o, a⟩ = operL ⟨o, b⟩) : a = b := by
  obtain ⟨p1, p2, p3, p4⟩ := h1
  obtain ⟨q1, q2, q3, q4⟩ := h2
  dsimp only at p1 p2 p3 p4 q1 q2 q3 q4
  unfold operL at h
  dsimp only at h
  by_cases c1 : o = 0 ∨ o = 35
  · rw [if_pos c1, if_pos c1] at h; exact decI_inj p3 q3 (by simpa using h)
  rw [if_neg c1, if_neg c1] at h
  by_cases c2 : o = 1 ∨ o = 2
  · rw [if_pos c2, if_pos c2] at h; exact decI_inj p3 q3 (by simpa using h)
  rw [if_neg c2, if_neg c2] at h
  by_cases c3 : o = 3 ∨ o = 4
  · rw [if_pos c3, if_pos c3] at h; exact decI_inj p3 q3 (by simpa using h)
  have := limit_one ⟨o.toNat, by omega⟩ (by dsimp only; omega)
  dsimp only at this
  rw [this] at p4 q4
  omega
theorem lineL_inj {i j : Ins} (hi : InsOkT i) (hj : InsOkT j) (h : lineL i = lineL j) : i = j := by
  unfold lineL at h
  rw [opX_ok hi, opX_ok hj] at h
  have ni : ∀ {k : Nat}, k < 36 → (32 : UInt8) ∉ (opO k).name := fun hk hm => by have := (name_fit hk).2 32 hm; revert this; decide
  obtain ⟨oi, ai⟩ := i
  obtain ⟨oj, aj⟩ := j
  have hi' := hi
  have hj' := hj
  obtain ⟨p1, p2, p3, p4⟩ := hi'
  obtain ⟨q1, q2, q3, q4⟩ := hj'
  dsimp only at p1 p2 q1 q2 h
  obtain ⟨h1, h2⟩ := word_inj (ni (k := oi.toNat) (by omega)) (ni (k := oj.toNat) (by omega)) (operL_form _) (operL_form _) h
  have := names_apart ⟨oi.toNat, by omega⟩ ⟨oj.toNat, by omega⟩ h1
  have ho : oi = oj := by injection this with this; omega
  subst ho
  rw [operL_inj hi hj h2]
theorem arrL_inj {k : Nat} {x y : Arr} (hx : 0 ≤ x.size) (hy : 0 ≤ y.size) (h : arrL k x = arrL k y) : x = y := by
  obtain ⟨wx, sx⟩ := x
  obtain ⟨wy, sy⟩ := y
  unfold arrL at h
  dsimp only at h hx hy
  have hk : kindT wx = kindT wy ∧ decI sx = decI sy := by
    cases wx <;> cases wy <;> simp [kindT] at h ⊢ <;> exact h
  rw [decI_inj hx hy hk.2]
  have := hk.1
  cases wx <;> cases wy <;> simp [kindT] at this ⊢
theorem arrL_cls (k : Nat) (x : Arr) : cls (arrL k x) = 0 := by
  obtain ⟨wx, sx⟩ := x
  cases wx <;> rfl
theorem locL_cls (k : Nat) : cls (locL k) = 1 := rfl
structure PrgOk (p : Prg) : Prop where
  size : ∀ x ∈ p.arrs, 0 ≤ x.size
  locs : 0 ≤ p.locs
  code : ∀ i ∈ p.code, InsOkT i
theorem rowL_cls {p : Prg} (h : PrgOk p) {k : Nat} (hk : k < p.code.length) : cls (rowL p.code k) = 2 := cls_sp (lineL_cls (h.code _ (gI_mem hk)))
theorem linesL_filter {p : Prg} (h : PrgOk p) : (linesL p).filter (fun l => cls l == 0) = arrsTo p.arrs p.arrs.length ∧ (linesL p).filter (fun l => cls l == 1) = locsTo p.locs.toNat ∧ (linesL p).filter (fun l => cls l == 2) = rowsTo p.code p.code.length := by
  have h0 : ∀ l ∈ arrsTo p.arrs p.arrs.length, cls l = 0 := fun l hl => by obtain ⟨k, hk, rfl⟩ := List.mem_map.1 hl; exact arrL_cls _ _
  have h1 : ∀ l ∈ locsTo p.locs.toNat, cls l = 1 := fun l hl => by obtain ⟨k, hk, rfl⟩ := List.mem_map.1 hl; exact locL_cls _
  have h2 : ∀ l ∈ rowsTo p.code p.code.length, cls l = 2 := fun l hl => by obtain ⟨k, hk, rfl⟩ := List.mem_map.1 hl; exact rowL_cls h (List.mem_range.1 hk)
  have all : ∀ (v : Nat) (ls : List (List UInt8)), (∀ l ∈ ls, cls l = v) → ls.filter (fun l => cls l == v) = ls := fun v ls hv => List.filter_eq_self.2 fun l hl => by rw [hv l hl]; simp
  have none : ∀ (v u : Nat) (ls : List (List UInt8)), u ≠ v → (∀ l ∈ ls, cls l = v) → ls.filter (fun l => cls l == u) = [] := fun v u ls hu hv => List.filter_eq_nil_iff.2 fun l hl => by rw [hv l hl]; simp; omega
  unfold linesL declL
  simp only [List.filter_append]
  refine ⟨?_, ?_, ?_⟩
  · rw [all 0 _ h0, none 1 0 _ (by omega) h1, none 2 0 _ (by omega) h2]; simp
  · rw [all 1 _ h1, none 0 1 _ (by omega) h0, none 2 1 _ (by omega) h2]; simp
  · rw [all 2 _ h2, none 0 2 _ (by omega) h0, none 1 2 _ (by omega) h1]; simp
theorem map_range_inj {f g : Nat → List UInt8} {n m : Nat} (h : (List.range n).map f = (List.range m).map g) : n = m ∧ ∀ k, k < n → f k = g k := by
  have hl := congrArg List.length h
  simp at hl
  subst hl
  refine ⟨rfl, fun k hk => ?_⟩
  have := congrArg (·[k]?) h
  simpa [hk] using this
theorem list_ext_gA {l m : List Arr} (hl : l.length = m.length) (h : ∀ k, k < l.length → gA l k = gA m k) : l = m := by
  apply List.ext_getElem hl
  intro k h1 h2
  rw [← gA_get h1, ← gA_get h2]
  exact h k h1
theorem list_ext_gI {l m : List Ins} (hl : l.length = m.length) (h : ∀ k, k < l.length → gI l k = gI m k) : l = m := by
  apply List.ext_getElem hl
  intro k h1 h2
  rw [← gI_get h1, ← gI_get h2]
  exact h k h1
theorem dAt_same {l m : List Ins} : ∀ k, (∀ j, j < k → gI l j = gI m j) → dAt l k = dAt m k
  | 0, _ => rfl
  | k + 1, h => by rw [dAt, dAt, dAt_same k (fun j hj => h j (by omega)), h k (by omega)]
theorem linesL_inj {p q : Prg} (hp : PrgOk p) (hq : PrgOk q) (h : linesL p = linesL q) : p = q := by
  obtain ⟨p0, p1, p2⟩ := linesL_filter hp
  obtain ⟨q0, q1, q2⟩ := linesL_filter hq
  rw [h] at p0 p1 p2
  obtain ⟨a1, a2⟩ := map_range_inj (p0.symm.trans q0)
  obtain ⟨b1, _⟩ := map_range_inj (p1.symm.trans q1)
  obtain ⟨c1, c2⟩ := map_range_inj (p2.symm.trans q2)
  have ha : p.arrs = q.arrs := list_ext_gA a1 fun k hk => arrL_inj (hp.size _ (gA_mem hk)) (hq.size _ (gA_mem (by omega))) (a2 k hk)
  have hb : p.locs = q.locs := by have := hp.locs; have := hq.locs; omega
  have hk : ∀ n k, k < n → k < p.code.length → gI p.code k = gI q.code k := fun n => by
    induction n with
    | zero => intro k hk; omega
    | succ n ih =>
      intro k hk hkl
      have hd := dAt_same (l := p.code) (m := q.code) k (fun j hj => ih j (by omega) (by omega))
      have hr := c2 k hkl
      unfold rowL spL at hr
      exact lineL_inj (hp.code _ (gI_mem hkl)) (hq.code _ (gI_mem (by omega))) (sp_inj (lineL_head (hp.code _ (gI_mem hkl))) (lineL_head (hq.code _ (gI_mem (by omega)))) hr)
  have hc : p.code = q.code := list_ext_gI c1 fun k hk' => hk (k + 1) k (by omega) hk'
  obtain ⟨pa, pl, pc⟩ := p
  obtain ⟨qa, ql, qc⟩ := q
  dsimp only at ha hb hc
  rw [ha, hb, hc]
theorem nl_dec (n : Nat) : (10 : UInt8) ∉ decS n := decS_no (by decide)
theorem nl_line {i : Ins} (h : InsOkT i) : (10 : UInt8) ∉ lineL i := fun hm => by
  unfold lineL at hm
  rw [opX_ok h] at hm
  rcases List.mem_append.1 hm with hm | hm
  · have := (name_fit (k := i.op.toNat) (by have := h.1; have := h.2.1; omega)).2 _ hm
    revert this; decide
  · unfold operL at hm
    have hd := nl_dec i.arg.toNat
    split at hm
    · simp [decI] at hm; exact hd hm
    · split at hm
      · simp [decI] at hm; exact hd hm
      · split at hm
        · simp [decI] at hm; exact hd hm
        · simp at hm
theorem nl_arr (k : Nat) (x : Arr) : (10 : UInt8) ∉ arrL k x := fun hm => by
  obtain ⟨w, s⟩ := x
  have h1 := nl_dec k
  have h2 := nl_dec s.toNat
  cases w <;> simp [arrL, kindT, decI] at hm <;> rcases hm with hm | hm <;> contradiction
theorem nl_loc (k : Nat) : (10 : UInt8) ∉ locL k := fun hm => by
  have h1 := nl_dec k
  simp [locL] at hm
  contradiction
theorem nl_lines {p : Prg} (hp : PrgOk p) : ∀ x ∈ linesL p, (10 : UInt8) ∉ x := fun x hx => by
  unfold linesL declL at hx
  rcases List.mem_append.1 hx with hx | hx
  · rcases List.mem_append.1 hx with hx | hx
    · obtain ⟨k, hk, rfl⟩ := List.mem_map.1 hx; exact nl_arr _ _
    · obtain ⟨k, hk, rfl⟩ := List.mem_map.1 hx; exact nl_loc _
  · obtain ⟨k, hk, rfl⟩ := List.mem_map.1 hx
    intro hm
    unfold rowL at hm
    rcases List.mem_append.1 hm with hm | hm
    · unfold spL at hm; have := List.eq_of_mem_replicate hm; revert this; decide
    · exact nl_line (hp.code _ (gI_mem (List.mem_range.1 hk))) hm
theorem textL_inj {p q : Prg} (hp : PrgOk p) (hq : PrgOk q) (h : textL p = textL q) : p = q := linesL_inj hp hq (nlAll_inj (nl_lines hp) (nl_lines hq) h)
theorem prgOk_of {p : Prg} (h : formE p = 0) (ha : ∀ i ∈ p.code, 0 ≤ i.arg) : PrgOk p := by
  obtain ⟨f1, f2, f3, f4, f5, f6⟩ := formE_ok h
  exact ⟨fun x hx => by have := f2 x hx; omega, f3, fun i hi => by obtain ⟨o0, o1, o2⟩ := chkE_ok (codeE_ok f6 i hi); exact ⟨o0, o1, ha i hi, o2⟩⟩
end Go.Proofs.YtmijalhilalaoaaGreatDoor
