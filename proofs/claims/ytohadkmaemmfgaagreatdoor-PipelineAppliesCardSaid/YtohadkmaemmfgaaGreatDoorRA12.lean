/- Ze Sp Zc Ds Po Pd Pe. -/
import Derived.Test.YtohadkmaemmfgaaGreatDoorRA00
import Derived.Sort.Statements
set_option maxRecDepth 100000
set_option maxHeartbeats 4000000
namespace Go.Proofs.YtohadkmaemmfgaaGreatDoor
open Go.RowKit Go.Proofs
set_option linter.unusedVariables false
set_option linter.unusedSimpArgs false
def fldB (n c : Nat) : List Bool := (List.range c).map fun j => n.testBit (c - 1 - j)
def gamB (n : Nat) : List Bool := fldB n (2 * nb n - 1)
def tokB (t : Tok) : List Bool := if t.len = 0 then fldB t.byt.toNat 9 else fldB 1 1 ++ gamB (t.len - 1) ++ gamB t.dst
def bitsL : List Tok → List Bool
  | [] => []
  | t :: r => tokB t ++ bitsL r
theorem bitsL_append : ∀ l m : List Tok, bitsL (l ++ m) = bitsL l ++ bitsL m
  | [], _ => rfl
  | t :: r, m => by rw [List.cons_append, bitsL, bitsL_append r m, bitsL, List.append_assoc]
theorem fldB_length (n c : Nat) : (fldB n c).length = c := by simp [fldB]
def b01 (b : Bool) : Nat := if b then 1 else 0
def gL (l : List Bool) (i : Nat) : Bool := l.getD i false
def pkB (g : Nat → Bool) (i : Nat) : Nat := b01 (g (8 * i)) * 128 + b01 (g (8 * i + 1)) * 64 + b01 (g (8 * i + 2)) * 32 + b01 (g (8 * i + 3)) * 16 + b01 (g (8 * i + 4)) * 8 + b01 (g (8 * i + 5)) * 4 + b01 (g (8 * i + 6)) * 2 + b01 (g (8 * i + 7))
def pack (l : List Bool) : List UInt8 := (List.range ((l.length + 7) / 8)).map fun i => UInt8.ofNat (pkB (gL l) i)
theorem pack_length (l : List Bool) : (pack l).length = (l.length + 7) / 8 := by simp [pack]
theorem b01_le (b : Bool) : b01 b ≤ 1 := by cases b <;> decide
theorem pkB_lt (g : Nat → Bool) (i : Nat) : pkB g i < 256 := by
  unfold pkB
  have h0 := b01_le (g (8 * i)); have h1 := b01_le (g (8 * i + 1)); have h2 := b01_le (g (8 * i + 2)); have h3 := b01_le (g (8 * i + 3))
  have h4 := b01_le (g (8 * i + 4)); have h5 := b01_le (g (8 * i + 5)); have h6 := b01_le (g (8 * i + 6)); have h7 := b01_le (g (8 * i + 7))
  omega
theorem pack_at {l : List Bool} {i : Nat} (h : i < (l.length + 7) / 8) : bA (pack l) i = UInt8.ofNat (pkB (gL l) i) := by
  unfold pack
  generalize hf : (fun i => UInt8.ofNat (pkB (gL l) i)) = f
  have e : UInt8.ofNat (pkB (gL l) i) = f i := by rw [← hf]
  rw [e]
  simp [bA, List.getD, h]
def bitD (bs : List UInt8) (i : Nat) : Bool := (bA bs (i / 8)).toNat.testBit (7 - i % 8)
theorem gL_append {l m : List Bool} {i : Nat} : gL (l ++ m) i = if i < l.length then gL l i else gL m (i - l.length) := by
  unfold gL
  rw [List.getD_eq_getElem?_getD, List.getElem?_append, List.getD_eq_getElem?_getD, List.getD_eq_getElem?_getD]
  split <;> rfl
theorem gL_hi {l : List Bool} {i : Nat} (h : l.length ≤ i) : gL l i = false := by
  unfold gL; rw [List.getD_eq_getElem?_getD, List.getElem?_eq_none h]; rfl
theorem eight : ∀ x0 x1 x2 x3 x4 x5 x6 x7 : Bool, ∀ t : Fin 8, (b01 x0 * 128 + b01 x1 * 64 + b01 x2 * 32 + b01 x3 * 16 + b01 x4 * 8 + b01 x5 * 4 + b01 x6 * 2 + b01 x7).testBit (7 - t.1) = (match t with | 0 => x0 | 1 => x1 | 2 => x2 | 3 => x3 | 4 => x4 | 5 => x5 | 6 => x6 | 7 => x7) := by decide +kernel
theorem pk_test (g : Nat → Bool) (i t : Nat) (ht : t < 8) : (pkB g i).testBit (7 - t) = g (8 * i + t) := by
  have h := eight (g (8 * i)) (g (8 * i + 1)) (g (8 * i + 2)) (g (8 * i + 3)) (g (8 * i + 4)) (g (8 * i + 5)) (g (8 * i + 6)) (g (8 * i + 7)) ⟨t, ht⟩
  unfold pkB
  rcases t with _ | _ | _ | _ | _ | _ | _ | _ | t
  all_goals first | exact h | omega
theorem bitD_pack (l : List Bool) (i : Nat) : bitD (pack l) i = gL l i := by
  unfold bitD
  by_cases h : i / 8 < (l.length + 7) / 8
  · rw [pack_at h, UInt8.toNat_ofNat', Nat.mod_eq_of_lt (pkB_lt _ _), pk_test _ _ _ (Nat.mod_lt _ (by decide)), Nat.div_add_mod]
  · have e : bA (pack l) (i / 8) = 0 := by
      unfold bA
      rw [List.getD_eq_getElem?_getD, List.getElem?_eq_none (by rw [pack_length]; omega)]; rfl
    rw [e, gL_hi (by omega)]
    exact Nat.zero_testBit _
theorem pkB_more (l : List Bool) (b : Bool) (i : Nat) : pkB (gL (l ++ [b])) i = if i = l.length / 8 then pkB (gL l) i + b01 b * 2 ^ (7 - l.length % 8) else pkB (gL l) i := by
  have hg : ∀ j, gL (l ++ [b]) j = if j = l.length then b else gL l j := fun j => by
    rw [gL_append]
    rcases Nat.lt_trichotomy j l.length with h | h | h
    · rw [if_pos h, if_neg (by omega)]
    · rw [if_neg (by omega), if_pos h, h, Nat.sub_self]; rfl
    · rw [if_neg (by omega), if_neg (by omega), gL_hi (by simp; omega), gL_hi (by omega)]
  have hb : ∀ j, b01 (gL (l ++ [b]) j) = b01 (gL l j) + if j = l.length then b01 b else 0 := fun j => by
    rw [hg]
    by_cases h : j = l.length
    · rw [if_pos h, if_pos h, h, gL_hi (Nat.le_refl _)]; simp [b01]
    · rw [if_neg h, if_neg h]; rfl
  unfold pkB
  simp only [hb]
  by_cases h : i = l.length / 8
  · rw [if_pos h]
    obtain ⟨r, hr, hr8⟩ : ∃ r, l.length % 8 = r ∧ r < 8 := ⟨_, rfl, Nat.mod_lt _ (by decide)⟩
    have hn : l.length = 8 * i + r := by omega
    rw [hr, hn]
    rcases r with _ | _ | _ | _ | _ | _ | _ | _ | r
    all_goals first | (simp; omega) | omega
  · rw [if_neg h]
    rw [if_neg (by omega), if_neg (by omega), if_neg (by omega), if_neg (by omega), if_neg (by omega), if_neg (by omega), if_neg (by omega), if_neg (by omega)]
    rfl
def valB (g : Nat → Bool) (i : Nat) : Nat → Nat
  | 0 => 0
  | c + 1 => 2 * valB g i c + b01 (g (i + c))
def rdB (g : Nat → Bool) (N i c : Nat) : Except Int Nat := if N < i + c then .error 9 else .ok (valB g i c)
def zB (g : Nat → Bool) (N i : Nat) : Nat := if h : i < N ∧ g i = false then zB g N (i + 1) + 1 else 0
  termination_by N - i
  decreasing_by omega
def rdG (g : Nat → Bool) (N i : Nat) : Except Int (Nat × Nat) :=
  if N ≤ i + zB g N i then .error 9 else if 30 < zB g N i then .error 2 else match rdB g N (i + zB g N i) (zB g N i + 1) with
  | .ok n => .ok (n, i + 2 * zB g N i + 1)
  | .error e => .error e
def rdM (g : Nat → Bool) (N i most : Nat) : Except Int (Nat × Nat) := match rdG g N i with
  | .ok (n, j) => if most < n then .error 2 else .ok (n, j)
  | .error e => .error e
def rdT (g : Nat → Bool) (N i : Nat) : Except Int (Tok × Nat) := match rdB g N i 1 with
  | .error e => .error e
  | .ok 0 => match rdB g N (i + 1) 8 with
    | .ok n => .ok (⟨0, 0, UInt8.ofNat n⟩, i + 9)
    | .error e => .error e
  | .ok (_ + 1) => match rdM g N (i + 1) 254 with
    | .error e => .error e
    | .ok (n, j) => match rdM g N j 4096 with
      | .error e => .error e
      | .ok (d, k) => .ok (⟨n + 1, d, 0⟩, k)
def endB (g : Nat → Bool) (N i : Nat) : Bool := decide (N ≤ i + 7 ∧ valB g i (N - i) = 0)
def decF (g : Nat → Bool) (N i n : Nat) : Except Int (List Tok) :=
  if endB g N i = true then .ok [] else match rdT g N i with
  | .error e => .error e
  | .ok (t, j) => if chkT t n = 0 then (if h : i < j ∧ j ≤ N then (decF g N j (n + tsz t)).map fun r => t :: r else .ok []) else .error (chkT t n)
  termination_by N - i
  decreasing_by omega
theorem rdB_le {g : Nat → Bool} {N i c n : Nat} (h : rdB g N i c = .ok n) : i + c ≤ N ∧ n = valB g i c := by
  unfold rdB at h
  split at h
  · cases h
  · injection h with h; exact ⟨by omega, h.symm⟩
theorem rdG_le {g : Nat → Bool} {N i n j : Nat} (h : rdG g N i = .ok (n, j)) : i < j ∧ j ≤ N := by
  unfold rdG at h
  split at h
  · cases h
  · split at h
    · cases h
    · split at h
      · rename_i hr
        have := (rdB_le hr).1
        injection h with h
        injection h with h1 h2
        omega
      · cases h
theorem rdM_le {g : Nat → Bool} {N i most n j : Nat} (h : rdM g N i most = .ok (n, j)) : i < j ∧ j ≤ N ∧ n ≤ most := by
  unfold rdM at h
  split at h
  · rename_i hr
    have := rdG_le hr
    split at h
    · cases h
    · injection h with h
      injection h with h1 h2
      subst h1 h2
      exact ⟨this.1, this.2, by omega⟩
  · cases h
theorem rdT_le {g : Nat → Bool} {N i j : Nat} {t : Tok} (h : rdT g N i = .ok (t, j)) : i < j ∧ j ≤ N := by
  unfold rdT at h
  split at h
  · cases h
  · split at h
    · rename_i hr
      have := (rdB_le hr).1
      injection h with h
      injection h with h1 h2
      omega
    · cases h
  · split at h
    · cases h
    · rename_i hr
      have h3 := rdM_le hr
      split at h
      · cases h
      · rename_i hr2
        have h4 := rdM_le hr2
        injection h with h
        injection h with h1 h2
        omega
theorem decF_end {g : Nat → Bool} {N i n : Nat} (h : endB g N i = true) : decF g N i n = .ok [] := by rw [decF, if_pos h]
theorem decF_more {g : Nat → Bool} {N i n j : Nat} {t : Tok} (h : endB g N i = false) (he : rdT g N i = .ok (t, j)) (hc : chkT t n = 0) : decF g N i n = (decF g N j (n + tsz t)).map fun r => t :: r := by
  rw [decF, if_neg (by rw [h]; decide), he]
  show (if chkT t n = 0 then _ else _) = _
  rw [if_pos hc, dif_pos (rdT_le he)]
theorem nb_bits : ∀ n : Nat, 0 < n → 2 ^ (nb n - 1) ≤ n ∧ n < 2 ^ nb n := by
  intro n
  induction n using Nat.strongRecOn with
  | _ n ih =>
    intro h
    rw [nb, dif_neg (by omega)]
    by_cases h1 : n = 1
    · subst h1
      rw [show (1 : Nat) / 2 = 0 from rfl, nb, dif_pos rfl]
      decide
    · obtain ⟨h2, h3⟩ := ih (n / 2) (by omega) (by omega)
      have h4 := nb_pos (n := n / 2) (by omega)
      obtain ⟨m, hm⟩ : ∃ m, nb (n / 2) = m + 1 := ⟨nb (n / 2) - 1, by omega⟩
      rw [hm] at h2 h3 ⊢
      rw [Nat.add_sub_cancel] at h2 ⊢
      rw [Nat.pow_succ] at h3 ⊢
      constructor <;> omega
theorem tokB_length {t : Tok} : (tokB t).length = if t.len = 0 then 9 else 1 + (2 * nb (t.len - 1) - 1) + (2 * nb t.dst - 1) := by
  unfold tokB gamB
  split
  · exact fldB_length _ _
  · rw [List.length_append, List.length_append, fldB_length, fldB_length, fldB_length]
def sumP (l : List Tok) : Int := (l.map priT).sum
def encT (l : List Tok) : List UInt8 × Int := if chkL l = 0 then (if 524288 < sumP l then ([], 5) else (pack (bitsL l), 0)) else ([], chkL l)
def decT (bs : List UInt8) : Except Int (List Tok) := if 65536 < bs.length then .error 5 else decF (bitD bs) (8 * bs.length) 0 0
def lzF (bs : List UInt8) : List UInt8 × Int := if 65536 < bs.length then ([], 5) else encT (optL bs)
theorem chkF_right : ∀ (l : List Tok) (n : Nat), chkF l n = 0 → ∀ t ∈ l, rightT t = true
  | [], _, _, t, ht => by cases ht
  | s :: r, n, h, t, ht => by
    rw [chkF] at h
    split at h
    · rename_i hct
      rw [List.mem_cons] at ht
      rcases ht with rfl | ht
      · cases hq : rightT t with
        | true => rfl
        | false => unfold chkT at hct; rw [hq, if_pos rfl] at hct; cases hct
      · exact chkF_right r _ h t ht
    · exact absurd h (by assumption)
theorem tokB_price {t : Tok} (h : rightT t = true) : ((tokB t).length : Int) = priT t := by
  rw [tokB_length]
  have hp : priT t = if t.len = 0 then 9 else 1 + gmB (t.len - 1) + gmB t.dst := by unfold priT; rw [h]; rfl
  rw [hp]
  by_cases h0 : t.len = 0
  · rw [if_pos h0, if_pos h0]; rfl
  · rw [if_neg h0, if_neg h0]
    simp only [rightT, if_neg h0, decide_eq_true_eq] at h
    have p1 := nb_pos (n := t.len - 1) (by omega)
    have p2 := nb_pos (n := t.dst) (by omega)
    unfold gmB
    omega
theorem bits_price : ∀ (l : List Tok), (∀ t ∈ l, rightT t = true) → ((bitsL l).length : Int) = sumP l
  | [], _ => rfl
  | t :: r, h => by
    have h1 := bits_price r fun s hs => h s (List.mem_cons_of_mem _ hs)
    have h2 := tokB_price (h t (List.mem_cons_self ..))
    unfold sumP at h1 ⊢
    rw [bitsL, List.length_append, List.map_cons, List.sum_cons, ← h1, ← h2]
    rfl
end Go.Proofs.YtohadkmaemmfgaaGreatDoor
namespace Go.Proofs.YtohadkmaemmfgaaGreatDoor.Bwt
set_option linter.unusedVariables false
def permErrL (n : Nat) : List Int → List Int → Int
  | _, [] => 0
  | seen, z :: zs => if z < 0 ∨ (n : Int) ≤ z then 2 else if z ∈ seen then 8 else permErrL n (seen ++ [z]) zs
def permErr (zs : List Int) : Int := permErrL zs.length [] zs
theorem gi_get {zs : List Int} {k : Nat} (hk : k < zs.length) : gi zs k = zs[k] := by simp [gi, List.getD, hk]
theorem permErrL_zero (n : Nat) : ∀ zs seen, permErrL n seen zs = 0 → (∀ z ∈ zs, 0 ≤ z ∧ z < n) ∧ zs.Nodup ∧ ∀ z ∈ zs, z ∉ seen
  | [], _, _ => ⟨fun z hz => absurd hz (by simp), List.nodup_nil, fun z hz => absurd hz (by simp)⟩
  | z :: zs, seen, h => by
    rw [permErrL] at h
    by_cases h1 : z < 0 ∨ (n : Int) ≤ z
    · rw [if_pos h1] at h; omega
    · rw [if_neg h1] at h
      by_cases h2 : z ∈ seen
      · rw [if_pos h2] at h; omega
      · rw [if_neg h2] at h
        obtain ⟨g1, g2, g3⟩ := permErrL_zero n zs _ h
        refine ⟨fun y hy => ?_, List.nodup_cons.2 ⟨fun hz => g3 z hz (by simp), g2⟩, fun y hy => ?_⟩
        · rcases List.mem_cons.1 hy with rfl | hy
          · omega
          · exact g1 y hy
        · rcases List.mem_cons.1 hy with rfl | hy
          · exact h2
          · exact fun hs => g3 y hy (by simp [hs])
theorem permErrL_ok (n : Nat) : ∀ (zs seen : List Int), (∀ z ∈ zs, 0 ≤ z ∧ z < n) → zs.Nodup → (∀ z ∈ zs, z ∉ seen) → permErrL n seen zs = 0
  | [], _, _, _, _ => rfl
  | z :: zs, seen, h1, h2, h3 => by
    rw [permErrL, if_neg (by have := h1 z (by simp); omega), if_neg (h3 z (by simp))]
    have h2' := List.nodup_cons.1 h2
    refine permErrL_ok n zs (seen ++ [z]) (fun y hy => h1 y (by simp [hy])) h2'.2 (fun y hy hs => ?_)
    rcases List.mem_append.1 hs with hs | hs
    · exact h3 y (by simp [hy]) hs
    · simp at hs; subst hs; exact h2'.1 hy
theorem permErr_zero_iff (zs : List Int) : permErr zs = 0 ↔ (∀ z ∈ zs, 0 ≤ z ∧ z < zs.length) ∧ zs.Nodup :=
  ⟨fun h => let ⟨a, b, _⟩ := permErrL_zero _ _ _ h; ⟨a, b⟩, fun ⟨a, b⟩ => permErrL_ok _ _ _ a b (fun _ _ h => by simp at h)⟩
theorem nodup_le : ∀ (n : Nat) (l : List Nat), l.Nodup → (∀ x ∈ l, x < n) → l.length ≤ n
  | 0, l, _, h => by
    cases l with
    | nil => simp
    | cons x xs => have := h x (by simp); omega
  | n + 1, l, hd, h => by
    by_cases hm : n ∈ l
    · have h1 := nodup_le n (l.erase n) (hd.sublist List.erase_sublist) (fun x hx => by
        have h2 := (hd.mem_erase_iff).1 hx
        have := h x h2.2
        have := h2.1
        omega)
      rw [List.length_erase_of_mem hm] at h1
      omega
    · have := nodup_le n l hd (fun x hx => by
        have := h x hx
        have : x ≠ n := fun e => hm (e ▸ hx)
        omega)
      omega
theorem perm_all_mem {zs : List Int} (h : permErr zs = 0) {j : Nat} (hj : j < zs.length) : (j : Int) ∈ zs := by
  obtain ⟨h1, h2⟩ := (permErr_zero_iff zs).1 h
  have hsub : (zs.map Int.toNat).Nodup := by
    rw [List.nodup_iff_pairwise_ne, List.pairwise_map]
    refine List.Pairwise.imp_of_mem ?_ (List.nodup_iff_pairwise_ne.1 h2)
    intro a b ha hb hab e
    have := h1 a ha; have := h1 b hb
    omega
  have hle : ∀ x ∈ zs.map Int.toNat, x < zs.length := by
    intro x hx
    obtain ⟨z, hz, rfl⟩ := List.mem_map.1 hx
    have := h1 z hz
    omega
  have hm : j ∈ zs.map Int.toNat := by
    rcases Classical.em (j ∈ zs.map Int.toNat) with hm | hm
    · exact hm
    · have := nodup_le zs.length (j :: zs.map Int.toNat) (List.nodup_cons.2 ⟨hm, hsub⟩) (fun x hx => by
        rcases List.mem_cons.1 hx with rfl | hx
        · exact hj
        · exact hle x hx)
      simp at this
      omega
  obtain ⟨z, hz, e⟩ := List.mem_map.1 hm
  have := h1 z hz
  have : z = (j : Int) := by omega
  exact this ▸ hz
def sfx (bs : List UInt8) (z : Int) : List UInt8 := bs.drop z.toNat
def less (x y : List UInt8) : Bool := Op.bytesLess x y
def ahead (f : Int → Bool) (zs : List Int) : Nat := (zs.takeWhile f).length
theorem ahead_eq {f : Int → Bool} : ∀ {zs : List Int} {k : Nat}, k ≤ zs.length → (∀ i, i < k → f (gi zs i) = true) → (k < zs.length → f (gi zs k) = false) → ahead f zs = k
  | [], k, hk, _, _ => by simp at hk; subst hk; rfl
  | z :: zs, 0, _, _, h => by
    have := h (by simp)
    simp [gi] at this
    simp [ahead, List.takeWhile, this]
  | z :: zs, k + 1, hk, h1, h2 => by
    have h0 : f z = true := by have := h1 0 (by omega); simpa [gi] using this
    have := ahead_eq (f := f) (zs := zs) (k := k) (by simpa using hk) (fun i hi => by have := h1 (i + 1) (by omega); simpa [gi] using this) (fun hlt => by have := h2 (by simpa using hlt); simpa [gi] using this)
    unfold ahead at this ⊢
    simp [List.takeWhile, h0, this]
def begins (pat : List UInt8) (x : List UInt8) : Bool := decide (x.take pat.length = pat)
def insAt (bs : List UInt8) (l : List Int) (p : Int) : Nat := ahead (fun z => less (sfx bs z) (sfx bs p)) l
def insP (bs : List UInt8) (l : List Int) (p : Int) : List Int := l.take (insAt bs l p) ++ [p] ++ l.drop (insAt bs l p)
def sortTo (bs : List UInt8) : Nat → List Int
  | 0 => []
  | k + 1 => insP bs (sortTo bs k) ((bs.length - k : Nat) : Int)
def sortL (bs : List UInt8) : List Int := sortTo bs (bs.length + 1)
theorem insAt_le (bs : List UInt8) (l : List Int) (p : Int) : insAt bs l p ≤ l.length := by
  unfold insAt ahead
  exact (List.takeWhile_sublist _).length_le
theorem insP_length (bs : List UInt8) (l : List Int) (p : Int) : (insP bs l p).length = l.length + 1 := by
  have := insAt_le bs l p
  unfold insP
  simp
  omega
theorem sortTo_length (bs : List UInt8) : ∀ k, (sortTo bs k).length = k
  | 0 => rfl
  | k + 1 => by rw [sortTo, insP_length, sortTo_length bs k]
theorem mem_insP {bs : List UInt8} {l : List Int} {p z : Int} (h : z ∈ insP bs l p) : z = p ∨ z ∈ l := by
  unfold insP at h
  simp only [List.mem_append, List.mem_singleton] at h
  rcases h with (h | h) | h
  · exact .inr (List.mem_of_mem_take h)
  · exact .inl h
  · exact .inr (List.mem_of_mem_drop h)
theorem sortTo_range (bs : List UInt8) : ∀ k, ∀ z ∈ sortTo bs k, 0 ≤ z ∧ z ≤ bs.length
  | 0, z, h => by simp [sortTo] at h
  | k + 1, z, h => by
    rcases mem_insP h with rfl | h
    · omega
    · exact sortTo_range bs k z h
theorem gi_mem {zs : List Int} {k : Nat} (hk : k < zs.length) : gi zs k ∈ zs := by rw [gi_get hk]; exact List.getElem_mem hk
end Go.Proofs.YtohadkmaemmfgaaGreatDoor.Bwt
namespace Go.Proofs.YtohadkmaemmfgaaGreatDoor
open Go.RowKit Go.Proofs
set_option linter.unusedVariables false
set_option linter.unusedSimpArgs false
def mov (l : List UInt8) (k : Nat) : List UInt8 := bA l k :: (l.take k ++ l.drop (k + 1))
def lst0 : List UInt8 := (List.range 256).map UInt8.ofNat
def plc (l : List UInt8) (b : UInt8) : Nat := l.idxOf b
def recF (l : List UInt8) : List UInt8 → List UInt8
  | [] => []
  | b :: r => UInt8.ofNat (plc l b) :: recF (mov l (plc l b)) r
def Full (l : List UInt8) : Prop := l.length = 256 ∧ ∀ b : UInt8, b ∈ l
theorem lst0_full : Full lst0 := ⟨by simp [lst0], fun b => by
  unfold lst0
  refine List.mem_map.2 ⟨b.toNat, List.mem_range.2 b.toNat_lt, ?_⟩
  simp⟩
theorem mov_length {l : List UInt8} {k : Nat} (hk : k < l.length) : (mov l k).length = l.length := by unfold mov; simp; omega
theorem mov_mem {l : List UInt8} {k : Nat} (hk : k < l.length) (b : UInt8) : b ∈ mov l k ↔ b ∈ l := by
  have h : l = l.take k ++ bA l k :: l.drop (k + 1) := by
    have e : bA l k = l[k] := by unfold bA; rw [List.getD_eq_getElem?_getD, List.getElem?_eq_getElem hk]; rfl
    rw [e, ← List.drop_eq_getElem_cons hk, List.take_append_drop]
  unfold mov
  constructor
  · intro hb
    rw [h]
    simp only [List.mem_cons, List.mem_append] at hb ⊢
    rcases hb with h1 | h1 | h1
    · exact .inr (.inl h1)
    · exact .inl h1
    · exact .inr (.inr h1)
  · intro hb
    rw [h] at hb
    simp only [List.mem_cons, List.mem_append] at hb ⊢
    rcases hb with h1 | h1 | h1
    · exact .inr (.inl h1)
    · exact .inl h1
    · exact .inr (.inr h1)
theorem Full.mov {l : List UInt8} (h : Full l) {k : Nat} (hk : k < 256) : Full (mov l k) :=
  ⟨by rw [mov_length (by rw [h.1]; exact hk), h.1], fun b => (mov_mem (by rw [h.1]; exact hk) b).2 (h.2 b)⟩
theorem plc_lt {l : List UInt8} (h : Full l) (b : UInt8) : plc l b < 256 := by rw [← h.1]; exact List.idxOf_lt_length_of_mem (h.2 b)
theorem plc_at {l : List UInt8} (h : Full l) (b : UInt8) : bA l (plc l b) = b := by
  have hl : plc l b < l.length := List.idxOf_lt_length_of_mem (h.2 b)
  unfold bA
  rw [List.getD_eq_getElem?_getD, List.getElem?_eq_getElem hl]
  exact List.getElem_idxOf hl
theorem recF_length : ∀ (bs l : List UInt8), (recF l bs).length = bs.length
  | [], _ => rfl
  | b :: r, l => by rw [recF, List.length_cons, recF_length r, List.length_cons]
def digR (n : Nat) : List UInt8 := if h : n = 0 then [] else if n % 2 = 1 then 0 :: digR ((n - 1) / 2) else 1 :: digR ((n - 2) / 2)
  termination_by n
  decreasing_by all_goals omega
def valR : List UInt8 → Nat
  | [] => 0
  | b :: r => (b.toNat + 1) + 2 * valR r
def zrs : List UInt8 → Nat
  | [] => 0
  | b :: r => if b = 0 then zrs r + 1 else 0
theorem zrs_le : ∀ l : List UInt8, zrs l ≤ l.length
  | [] => Nat.le_refl _
  | b :: r => by
    have := zrs_le r
    rw [zrs, List.length_cons]
    split <;> omega
def oneR (b : UInt8) : List UInt8 := if 254 ≤ b.toNat then [255, b - 254] else [b + 1]
def runF (bs : List UInt8) (i : Nat) : List UInt8 :=
  if h : i < bs.length then (if 0 < zrs (bs.drop i) then digR (zrs (bs.drop i)) ++ runF bs (i + max 1 (zrs (bs.drop i))) else oneR (bA bs i) ++ runF bs (i + 1)) else []
  termination_by bs.length - i
  decreasing_by all_goals omega
def runsL (bs : List UInt8) : List UInt8 := runF bs 0
def runsP (bs : List UInt8) : List UInt8 × Int := if 65536 < bs.length then ([], 5) else if 65536 < (runsL bs).length then ([], 5) else (runsL bs, 0)
def dgs : List UInt8 → Nat
  | [] => 0
  | b :: r => if b.toNat < 2 then dgs r + 1 else 0
def expR (bs : List UInt8) (i m : Nat) : Except Int (List UInt8) :=
  if h : i < bs.length then
    if hd : (bA bs i).toNat < 2 then
      (if 65536 < m + valR ((bs.drop i).take (dgs (bs.drop i))) then .error 5 else (expR bs (i + max 1 (dgs (bs.drop i))) (m + valR ((bs.drop i).take (dgs (bs.drop i))))).map fun r => List.replicate (valR ((bs.drop i).take (dgs (bs.drop i)))) 0 ++ r)
    else if (bA bs i).toNat < 255 then (if 65536 < m + 1 then .error 5 else (expR bs (i + 1) (m + 1)).map fun r => (bA bs i - 1) :: r)
    else if i + 1 = bs.length then .error 9 else if 1 < (bA bs (i + 1)).toNat then .error 3
    else if 65536 < m + 1 then .error 5 else (expR bs (i + 2) (m + 1)).map fun r => (254 + bA bs (i + 1)) :: r
  else .ok []
  termination_by bs.length - i
  decreasing_by all_goals omega
def expandP (bs : List UInt8) : List UInt8 × Int := if 65536 < bs.length then ([], 5) else match expR bs 0 0 with | .ok r => (r, 0) | .error e => ([], e)
theorem expR_end {bs : List UInt8} {i m : Nat} (h : bs.length ≤ i) : expR bs i m = .ok [] := by rw [expR, dif_neg (by omega)]
theorem runF_end {bs : List UInt8} {i : Nat} (h : bs.length ≤ i) : runF bs i = [] := by rw [runF, dif_neg (by omega)]
theorem runF_zeros {bs : List UInt8} {i : Nat} (h : i < bs.length) (hz : 0 < zrs (bs.drop i)) : runF bs i = digR (zrs (bs.drop i)) ++ runF bs (i + zrs (bs.drop i)) := by
  rw [runF, dif_pos h, if_pos hz, show max 1 (zrs (bs.drop i)) = zrs (bs.drop i) by omega]
theorem runF_one {bs : List UInt8} {i : Nat} (h : i < bs.length) (hz : zrs (bs.drop i) = 0) : runF bs i = oneR (bA bs i) ++ runF bs (i + 1) := by
  rw [runF, dif_pos h, if_neg (by omega)]
theorem drop_bA {bs : List UInt8} {i : Nat} (h : i < bs.length) : bs.drop i = bA bs i :: bs.drop (i + 1) := by
  rw [List.drop_eq_getElem_cons h]; unfold bA; rw [List.getD_eq_getElem?_getD, List.getElem?_eq_getElem h]; rfl
end Go.Proofs.YtohadkmaemmfgaaGreatDoor
namespace Go.Proofs.YtohadkmaemmfgaaGreatDoor.Dic
open Go.RowKit Go.Proofs
set_option linter.unusedVariables false
def letterI (x : Int) : Bool := if 97 ≤ x then (if x ≤ 122 then true else (if 65 ≤ x then decide (x ≤ 90) else false)) else (if 65 ≤ x then decide (x ≤ 90) else false)
def isL (b : UInt8) : Bool := letterI (b.toNat : Int)
def runL : List UInt8 → Nat
  | [] => 0
  | b :: r => if isL b then runL r + 1 else 0
theorem runL_le : ∀ bs : List UInt8, runL bs ≤ bs.length
  | [] => Nat.le_refl _
  | b :: r => by rw [runL]; have := runL_le r; split <;> simp <;> omega
theorem runL_letter : ∀ {bs : List UInt8} {k : Nat}, k < runL bs → letterI (gb bs k) = true
  | [], k, h => by simp [runL] at h
  | b :: r, k, h => by
    rw [runL] at h
    split at h
    · rename_i hb
      cases k with
      | zero => exact hb
      | succ k => exact runL_letter (bs := r) (k := k) (by omega)
    · omega
theorem runL_stop : ∀ {bs : List UInt8}, runL bs < bs.length → letterI (gb bs (runL bs)) = false
  | [], h => by simp at h
  | b :: r, h => by
    rw [runL] at h ⊢
    by_cases hb : isL b = true
    · rw [if_pos hb] at h ⊢
      have := runL_stop (bs := r) (by simp at h; omega)
      exact this
    · rw [if_neg hb]
      exact Bool.eq_false_iff.2 hb
theorem runL_eq {bs : List UInt8} {k : Nat} (h1 : ∀ i, i < k → letterI (gb bs i) = true) (h2 : k ≤ bs.length) (h3 : k < bs.length → letterI (gb bs k) = false) : runL bs = k := by
  rcases Nat.lt_trichotomy (runL bs) k with h | h | h
  · have := runL_stop (bs := bs) (by omega)
    rw [h1 _ h] at this
    cases this
  · exact h
  · have := runL_letter h
    rw [h3 (by have := runL_le bs; omega)] at this
    cases this
def plen (bs : List UInt8) : Nat := max (runL bs) 1
theorem plen_pos (bs : List UInt8) : 1 ≤ plen bs := by unfold plen; omega
theorem plen_le {bs : List UInt8} (h : bs ≠ []) : plen bs ≤ bs.length := by
  have := runL_le bs
  have : 0 < bs.length := List.length_pos_iff.2 h
  unfold plen; omega
def piecesF : Nat → List UInt8 → List (List UInt8)
  | 0, _ => []
  | f + 1, bs => if bs = [] then [] else bs.take (plen bs) :: piecesF f (bs.drop (plen bs))
def piecesL (bs : List UInt8) : List (List UInt8) := piecesF bs.length bs
theorem piecesF_fuel : ∀ {f g : Nat} {bs : List UInt8}, bs.length ≤ f → bs.length ≤ g → piecesF f bs = piecesF g bs
  | 0, 0, _, _, _ => rfl
  | 0, g + 1, bs, h, _ => by
    have : bs = [] := List.length_eq_zero_iff.1 (by omega)
    subst this; simp [piecesF]
  | f + 1, 0, bs, _, h => by
    have : bs = [] := List.length_eq_zero_iff.1 (by omega)
    subst this; simp [piecesF]
  | f + 1, g + 1, bs, h1, h2 => by
    rw [piecesF, piecesF]
    by_cases h : bs = []
    · rw [if_pos h, if_pos h]
    · rw [if_neg h, if_neg h]
      have := plen_pos bs
      have hl : 0 < bs.length := List.length_pos_iff.2 h
      rw [piecesF_fuel (f := f) (g := g) (by simp; omega) (by simp; omega)]
theorem piecesL_nil : piecesL [] = [] := rfl
theorem piecesL_cons {bs : List UInt8} (h : bs ≠ []) : piecesL bs = bs.take (plen bs) :: piecesL (bs.drop (plen bs)) := by
  have hl : 0 < bs.length := List.length_pos_iff.2 h
  have := plen_pos bs
  unfold piecesL
  obtain ⟨m, hm⟩ : ∃ m, bs.length = m + 1 := ⟨bs.length - 1, by omega⟩
  rw [hm, piecesF, if_neg h]
  congr 1
  exact piecesF_fuel (by simp; omega) (Nat.le_refl _)
def stP (bs : List UInt8) : Nat → Nat
  | 0 => 0
  | k + 1 => stP bs k + plen (bs.drop (stP bs k))
def pcP (bs : List UInt8) (k : Nat) : List UInt8 := (bs.drop (stP bs k)).take (plen (bs.drop (stP bs k)))
def wdP (bs : List UInt8) (k : Nat) : Bool := decide (0 < runL (bs.drop (stP bs k)))
theorem pieces_at {bs : List UInt8} : ∀ {k : Nat}, k ≤ (piecesL bs).length → stP bs k ≤ bs.length ∧ piecesL (bs.drop (stP bs k)) = (piecesL bs).drop k
  | 0, _ => by simp [stP]
  | k + 1, h => by
    obtain ⟨h1, h2⟩ := pieces_at (bs := bs) (k := k) (by omega)
    have hne : bs.drop (stP bs k) ≠ [] := fun e => by
      rw [e, piecesL_nil] at h2
      have := congrArg List.length h2
      simp at this
      omega
    have hp := plen_le hne
    rw [List.length_drop] at hp
    refine ⟨by rw [stP]; omega, ?_⟩
    rw [piecesL_cons hne, List.drop_drop] at h2
    rw [stP]
    have := congrArg List.tail h2
    rw [List.tail_cons, List.tail_drop] at this
    exact this
theorem pieces_ne {bs : List UInt8} {k : Nat} (h : k < (piecesL bs).length) : bs.drop (stP bs k) ≠ [] := fun e => by
  have h2 := (pieces_at (bs := bs) (k := k) (by omega)).2
  rw [e, piecesL_nil] at h2
  have := congrArg List.length h2
  simp at this
  omega
theorem pieces_end (bs : List UInt8) : stP bs (piecesL bs).length = bs.length := by
  obtain ⟨h1, h2⟩ := pieces_at (bs := bs) (k := (piecesL bs).length) (Nat.le_refl _)
  rw [List.drop_length] at h2
  rcases Nat.lt_or_ge (stP bs (piecesL bs).length) bs.length with h | h
  · rw [piecesL_cons (fun e => by have := congrArg List.length e; simp at this; omega)] at h2
    cases h2
  · omega
theorem pieces_more {bs : List UInt8} {k : Nat} (h : k ≤ (piecesL bs).length) (hl : stP bs k < bs.length) : k < (piecesL bs).length := by
  rcases Nat.lt_or_ge k (piecesL bs).length with h1 | h1
  · exact h1
  · have : k = (piecesL bs).length := by omega
    rw [this, pieces_end] at hl
    omega
end Go.Proofs.YtohadkmaemmfgaaGreatDoor.Dic
namespace Go.Proofs.YtohadkmaemmfgaaGreatDoor.Bwt
set_option linter.unusedVariables false
theorem less_cons (a b : UInt8) (x y : List UInt8) : less (a :: x) (b :: y) = true ↔ a.toNat < b.toNat ∨ a = b ∧ less x y = true := by
  show (decide (a < b) || (a == b && Op.bytesLess x y)) = true ↔ _
  simp [UInt8.lt_iff_toNat_lt, less]
theorem less_nil (x : List UInt8) : less x [] = false := by cases x <;> rfl
theorem less_irrefl : ∀ x : List UInt8, less x x = false
  | [] => rfl
  | a :: x => by
    have := less_irrefl x
    cases h : less (a :: x) (a :: x) with
    | false => rfl
    | true =>
      rcases (less_cons _ _ _ _).1 h with h | ⟨_, h⟩
      · omega
      · rw [this] at h; cases h
theorem less_trans : ∀ {x y z : List UInt8}, less x y = true → less y z = true → less x z = true
  | [], [], _, h, _ => by rw [less_nil] at h; cases h
  | [], _ :: _, [], _, h => by rw [less_nil] at h; cases h
  | [], _ :: _, _ :: _, _, _ => rfl
  | _ :: _, [], _, h, _ => by rw [less_nil] at h; cases h
  | _ :: _, _ :: _, [], _, h => by rw [less_nil] at h; cases h
  | a :: x, b :: y, c :: z, h1, h2 => by
    rw [less_cons] at h1 h2 ⊢
    rcases h1 with h1 | ⟨rfl, h1⟩
    · rcases h2 with h2 | ⟨rfl, h2⟩
      · exact .inl (by omega)
      · exact .inl h1
    · rcases h2 with h2 | ⟨rfl, h2⟩
      · exact .inl h2
      · exact .inr ⟨rfl, less_trans h1 h2⟩
theorem less_total : ∀ {x y : List UInt8}, x ≠ y → less x y = true ∨ less y x = true
  | [], [], h => absurd rfl h
  | [], _ :: _, _ => .inl rfl
  | _ :: _, [], _ => .inr rfl
  | a :: x, b :: y, h => by
    rw [less_cons, less_cons]
    by_cases e : a = b
    · subst e
      rcases less_total (x := x) (y := y) (fun e => h (by rw [e])) with h | h
      · exact .inl (.inr ⟨rfl, h⟩)
      · exact .inr (.inr ⟨rfl, h⟩)
    · have : a.toNat ≠ b.toNat := fun h => e (UInt8.toNat_inj.1 h)
      rcases Nat.lt_or_gt_of_ne this with h | h
      · exact .inl (.inl h)
      · exact .inr (.inl h)
theorem less_asymm {x y : List UInt8} (h : less x y = true) : less y x = false := by
  cases h' : less y x with
  | false => rfl
  | true => have := less_trans h h'; rw [less_irrefl] at this; cases this
def before (bs : List UInt8) (a b : Int) : Prop := less (sfx bs a) (sfx bs b) = true
theorem sfx_ne {bs : List UInt8} {a b : Int} (ha : 0 ≤ a) (ha' : a ≤ bs.length) (hb : 0 ≤ b) (hb' : b ≤ bs.length) (h : a ≠ b) : sfx bs a ≠ sfx bs b := by
  intro e
  have := congrArg List.length e
  simp [sfx] at this
  omega
theorem before_total {bs : List UInt8} {a b : Int} (ha : 0 ≤ a) (ha' : a ≤ bs.length) (hb : 0 ≤ b) (hb' : b ≤ bs.length) (h : a ≠ b) : before bs a b ∨ before bs b a := less_total (sfx_ne ha ha' hb hb' h)
theorem before_trans {bs : List UInt8} {a b c : Int} (h1 : before bs a b) (h2 : before bs b c) : before bs a c := less_trans h1 h2
theorem sorted_unique {α : Type} {R : α → α → Prop} (hirr : ∀ a b, R a b → ¬ R b a) : ∀ {l l' : List α}, l.Pairwise R → l'.Pairwise R → (∀ x, x ∈ l ↔ x ∈ l') → l = l'
  | [], [], _, _, _ => rfl
  | [], b :: l', _, _, h => absurd ((h b).2 (by simp)) (by simp)
  | a :: l, [], _, _, h => absurd ((h a).1 (by simp)) (by simp)
  | a :: l, b :: l', h1, h2, h => by
    rw [List.pairwise_cons] at h1 h2
    have hab : a = b := by
      rcases List.mem_cons.1 ((h a).1 (by simp)) with e | hm
      · exact e
      · rcases List.mem_cons.1 ((h b).2 (by simp)) with e | hm'
        · exact e.symm
        · exact absurd (h2.1 a hm) (hirr _ _ (h1.1 b hm'))
    subst hab
    have hna : a ∉ l := fun hm => hirr _ _ (h1.1 a hm) (h1.1 a hm)
    have hnb : a ∉ l' := fun hm => hirr _ _ (h2.1 a hm) (h2.1 a hm)
    rw [sorted_unique hirr h1.2 h2.2 (fun x => ⟨fun hx => ?_, fun hx => ?_⟩)]
    · rcases List.mem_cons.1 ((h x).1 (by simp [hx])) with e | hm
      · subst e; exact absurd hx hna
      · exact hm
    · rcases List.mem_cons.1 ((h x).2 (by simp [hx])) with e | hm
      · subst e; exact absurd hx hnb
      · exact hm
theorem pairwise_of_adj {α : Type} {R : α → α → Prop} (ht : ∀ a b c, R a b → R b c → R a c) : ∀ {l : List α}, (∀ i (h : i + 1 < l.length), R (l[i]'(by omega)) l[i + 1]) → l.Pairwise R
  | [], _ => List.Pairwise.nil
  | [a], _ => List.pairwise_singleton R a
  | a :: b :: l, h => by
    have h1 := pairwise_of_adj ht (l := b :: l) (fun i hi => h (i + 1) (by simp at hi ⊢; omega))
    have hab : R a b := h 0 (by simp)
    refine List.pairwise_cons.2 ⟨fun x hx => ?_, h1⟩
    rcases List.mem_cons.1 hx with rfl | hx
    · exact hab
    · exact ht _ _ _ hab ((List.pairwise_cons.1 h1).1 x hx)
theorem ahead_split (f : Int → Bool) : ∀ l : List Int, (∀ z ∈ l.take (ahead f l), f z = true) ∧ (∀ z, (l.drop (ahead f l)).head? = some z → f z = false)
  | [] => ⟨by simp, by simp⟩
  | a :: l => by
    have ih := ahead_split f l
    cases h : f a with
    | true =>
      have e : ahead f (a :: l) = ahead f l + 1 := by simp [ahead, List.takeWhile, h]
      rw [e]
      refine ⟨fun z hz => ?_, by simpa using ih.2⟩
      rw [List.take_succ_cons] at hz
      rcases List.mem_cons.1 hz with rfl | hz
      · exact h
      · exact ih.1 z hz
    | false =>
      have e : ahead f (a :: l) = 0 := by simp [ahead, List.takeWhile, h]
      rw [e]
      exact ⟨by simp, fun z hz => by simp at hz; subst hz; exact h⟩
theorem insP_sorted {bs : List UInt8} {l : List Int} {p : Int} (hl : l.Pairwise (before bs)) (hp : 0 ≤ p) (hp' : p ≤ bs.length) (hr : ∀ z ∈ l, 0 ≤ z ∧ z ≤ bs.length) (hn : p ∉ l) : (insP bs l p).Pairwise (before bs) := by
  have hs := ahead_split (fun z => less (sfx bs z) (sfx bs p)) l
  have e : l = l.take (insAt bs l p) ++ l.drop (insAt bs l p) := (List.take_append_drop _ _).symm
  have hl' := hl
  rw [e, List.pairwise_append] at hl'
  obtain ⟨h1, h2, h3⟩ := hl'
  have hlow : ∀ z ∈ l.take (insAt bs l p), before bs z p := hs.1
  have hhigh : ∀ z ∈ l.drop (insAt bs l p), before bs p z := by
    cases hd : l.drop (insAt bs l p) with
    | nil => simp
    | cons y r =>
      have hy : less (sfx bs y) (sfx bs p) = false := hs.2 y (by show (l.drop (insAt bs l p)).head? = _; rw [hd]; rfl)
      have hym : y ∈ l := List.mem_of_mem_drop (i := insAt bs l p) (by rw [hd]; simp)
      have hyb : before bs p y := by
        rcases before_total hp hp' (hr y hym).1 (hr y hym).2 (fun e => hn (e ▸ hym)) with h | h
        · exact h
        · rw [before, hy] at h; cases h
      rw [hd, List.pairwise_cons] at h2
      intro z hz
      rcases List.mem_cons.1 hz with rfl | hz
      · exact hyb
      · exact before_trans hyb (h2.1 z hz)
  unfold insP
  rw [List.append_assoc, List.pairwise_append]
  refine ⟨h1, ?_, ?_⟩
  · rw [List.singleton_append, List.pairwise_cons]
    exact ⟨hhigh, h2⟩
  · intro a ha b hb
    rw [List.singleton_append] at hb
    rcases List.mem_cons.1 hb with rfl | hb
    · exact hlow a ha
    · exact h3 a ha b hb
theorem mem_insP_iff {bs : List UInt8} {l : List Int} {p z : Int} : z ∈ insP bs l p ↔ z = p ∨ z ∈ l := by
  refine ⟨mem_insP, fun h => ?_⟩
  unfold insP
  simp only [List.mem_append, List.mem_singleton]
  rcases h with h | h
  · exact .inl (.inr h)
  · rw [← List.take_append_drop (insAt bs l p) l, List.mem_append] at h
    rcases h with h | h
    · exact .inl (.inl h)
    · exact .inr h
theorem mem_sortTo {bs : List UInt8} : ∀ {k : Nat}, k ≤ bs.length + 1 → ∀ z : Int, z ∈ sortTo bs k ↔ (bs.length : Int) < z + k ∧ z ≤ bs.length
  | 0, _, z => by simp [sortTo]
  | k + 1, hk, z => by
    rw [sortTo, mem_insP_iff, mem_sortTo (k := k) (by omega) z]
    omega
theorem sortTo_sorted (bs : List UInt8) : ∀ k, k ≤ bs.length + 1 → (sortTo bs k).Pairwise (before bs)
  | 0, _ => List.Pairwise.nil
  | k + 1, hk => by
    refine insP_sorted (sortTo_sorted bs k (by omega)) (by omega) (by omega) (sortTo_range bs k) (fun hm => ?_)
    have := (mem_sortTo (by omega) _).1 hm
    omega
theorem sortL_sorted (bs : List UInt8) : (sortL bs).Pairwise (before bs) := sortTo_sorted bs _ (Nat.le_refl _)
theorem mem_sortL {bs : List UInt8} {z : Int} : z ∈ sortL bs ↔ 0 ≤ z ∧ z ≤ bs.length := by
  unfold sortL
  rw [mem_sortTo (Nat.le_refl _)]
  omega
theorem sortL_length (bs : List UInt8) : (sortL bs).length = bs.length + 1 := sortTo_length bs _
theorem before_irr (bs : List UInt8) (a b : Int) (h : before bs a b) : ¬ before bs b a := fun h' => by
  rw [before, less_asymm h] at h'; cases h'
theorem sortL_perm (bs : List UInt8) : permErr (sortL bs) = 0 := by
  rw [permErr_zero_iff, sortL_length]
  refine ⟨fun z hz => by have := mem_sortL.1 hz; omega, ?_⟩
  refine (sortL_sorted bs).imp ?_
  intro a b h e
  subst e
  exact before_irr bs _ _ h h
theorem order_unique {bs : List UInt8} {zs : List Int} (hl : zs.length = bs.length + 1) (hp : permErr zs = 0) (ha : zs.Pairwise (before bs)) : zs = sortL bs := by
  refine sorted_unique (before_irr bs) ha (sortL_sorted bs) (fun x => ?_)
  rw [mem_sortL]
  obtain ⟨h1, h2⟩ := (permErr_zero_iff zs).1 hp
  constructor
  · intro hx
    have := h1 x hx
    omega
  · rintro ⟨h3, h4⟩
    have := perm_all_mem hp (j := x.toNat) (by omega)
    rwa [Int.toNat_of_nonneg h3] at this
def cmpI (x y : Int) : Int := if x < y then -1 else if y < x then 1 else 0
def orI : List Int → Int
  | [] => 0
  | z :: zs => if z = 0 then orI zs else z
def restI (rk : List Int) (n len : Nat) (i : Nat) : Int := if i + len ≤ n then gi rk (i + len) else 0
def cmpR (rk : List Int) (n len : Nat) (x y : Nat) : Int := orI [cmpI (gi rk x) (gi rk y), cmpI (restI rk n len x) (restI rk n len y)]
theorem cmpR_neg (rk : List Int) (n len x y : Nat) : cmpR rk n len x y < 0 ↔ gi rk x < gi rk y ∨ gi rk x = gi rk y ∧ restI rk n len x < restI rk n len y := by
  simp only [cmpR, orI, cmpI]
  repeat' split
  all_goals omega
theorem cmpR_zero (rk : List Int) (n len x y : Nat) : cmpR rk n len x y = 0 ↔ gi rk x = gi rk y ∧ restI rk n len x = restI rk n len y := by
  simp only [cmpR, orI, cmpI]
  repeat' split
  all_goals omega
def key (bs : List UInt8) (i t : Nat) : Int := if i + t < bs.length then gb bs (i + t) + 1 else 0
theorem key_shift (bs : List UInt8) (i a t : Nat) : key bs i (a + t) = key bs (i + a) t := by unfold key; rw [Nat.add_assoc]
theorem key_far (bs : List UInt8) (i t : Nat) (h : bs.length ≤ i) : key bs i t = 0 := by unfold key; rw [if_neg (by omega)]
theorem key_nonneg (bs : List UInt8) (i t : Nat) : 0 ≤ key bs i t := by unfold key; have := gb_lo bs (i + t); split <;> omega
theorem key_pos (bs : List UInt8) (i t : Nat) (h : i + t < bs.length) : 0 < key bs i t := by unfold key; have := gb_lo bs (i + t); rw [if_pos h]; omega
def LT (bs : List UInt8) (l i j : Nat) : Prop := ∃ k, k < l ∧ (∀ t, t < k → key bs i t = key bs j t) ∧ key bs i k < key bs j k
def EQ (bs : List UInt8) (l i j : Nat) : Prop := ∀ t, t < l → key bs i t = key bs j t
theorem tri (bs : List UInt8) (i j : Nat) : ∀ l, LT bs l i j ∨ EQ bs l i j ∨ LT bs l j i
  | 0 => .inr (.inl fun t h => absurd h (by omega))
  | l + 1 => by
    rcases tri bs i j l with ⟨k, h1, h2⟩ | h | ⟨k, h1, h2⟩
    · exact .inl ⟨k, by omega, h2⟩
    · rcases Int.lt_trichotomy (key bs i l) (key bs j l) with h' | h' | h'
      · exact .inl ⟨l, by omega, h, h'⟩
      · refine .inr (.inl fun t ht => ?_)
        rcases Nat.lt_succ_iff_lt_or_eq.1 ht with h1 | h1
        · exact h t h1
        · subst h1; exact h'
      · exact .inr (.inr ⟨l, by omega, fun t ht => (h t ht).symm, h'⟩)
    · exact .inr (.inr ⟨k, by omega, h2⟩)
theorem LT.not_EQ {bs : List UInt8} {l i j : Nat} (h : LT bs l i j) : ¬ EQ bs l i j := fun e => by
  obtain ⟨k, h1, _, h3⟩ := h
  have := e k h1
  omega
theorem LT.asymm {bs : List UInt8} {l i j : Nat} (h : LT bs l i j) : ¬ LT bs l j i := fun h' => by
  obtain ⟨k, h1, h2, h3⟩ := h
  obtain ⟨k', h1', h2', h3'⟩ := h'
  rcases Nat.lt_trichotomy k k' with e | e | e
  · have := h2' k e; omega
  · subst e; omega
  · have := h2 k' e; omega
theorem EQ.symm {bs : List UInt8} {l i j : Nat} (h : EQ bs l i j) : EQ bs l j i := fun t ht => (h t ht).symm
theorem EQ_double {bs : List UInt8} {a b i j : Nat} : EQ bs (a + b) i j ↔ EQ bs a i j ∧ EQ bs b (i + a) (j + a) := by
  constructor
  · intro h
    exact ⟨fun t ht => h t (by omega), fun t ht => by rw [← key_shift, ← key_shift]; exact h _ (by omega)⟩
  · rintro ⟨h1, h2⟩ t ht
    rcases Nat.lt_or_ge t a with h | h
    · exact h1 t h
    · have := h2 (t - a) (by omega)
      rw [← key_shift, ← key_shift] at this
      rwa [show a + (t - a) = t by omega] at this
theorem LT_double {bs : List UInt8} {a b i j : Nat} : LT bs (a + b) i j ↔ LT bs a i j ∨ EQ bs a i j ∧ LT bs b (i + a) (j + a) := by
  constructor
  · rintro ⟨k, h1, h2, h3⟩
    rcases Nat.lt_or_ge k a with h | h
    · exact .inl ⟨k, h, h2, h3⟩
    · refine .inr ⟨fun t ht => h2 t (by omega), k - a, by omega, fun t ht => ?_, ?_⟩
      · rw [← key_shift, ← key_shift]; exact h2 _ (by omega)
      · rw [← key_shift, ← key_shift, show a + (k - a) = k by omega]; exact h3
  · rintro (⟨k, h1, h2, h3⟩ | ⟨h0, k, h1, h2, h3⟩)
    · exact ⟨k, by omega, h2, h3⟩
    · refine ⟨a + k, by omega, fun t ht => ?_, by rw [key_shift, key_shift]; exact h3⟩
      rcases Nat.lt_or_ge t a with h | h
      · exact h0 t h
      · have := h2 (t - a) (by omega)
        rw [← key_shift, ← key_shift, show a + (t - a) = t by omega] at this
        exact this
theorem key_min (bs : List UInt8) (i t : Nat) : key bs (min i bs.length) t = key bs i t := by
  rcases Nat.le_total i bs.length with h | h
  · rw [Nat.min_eq_left h]
  · rw [Nat.min_eq_right h, key_far _ _ _ (Nat.le_refl _), key_far _ _ _ h]
structure Stage (bs : List UInt8) (l : Nat) (rk : List Int) : Prop where
  size : rk.length = bs.length + 1
  lt : ∀ i j, i ≤ bs.length → j ≤ bs.length → (gi rk i < gi rk j ↔ LT bs l i j)
  last : gi rk bs.length = 0
theorem Stage.eq {bs : List UInt8} {l : Nat} {rk : List Int} (h : Stage bs l rk) {i j : Nat} (hi : i ≤ bs.length) (hj : j ≤ bs.length) : gi rk i = gi rk j ↔ EQ bs l i j := by
  have h1 := h.lt i j hi hj
  have h2 := h.lt j i hj hi
  rcases tri bs i j l with h3 | h3 | h3
  · have := h1.2 h3
    exact ⟨fun e => by omega, fun e => absurd e h3.not_EQ⟩
  · refine ⟨fun _ => h3, fun _ => ?_⟩
    rcases Int.lt_trichotomy (gi rk i) (gi rk j) with h' | h' | h'
    · exact absurd h3 (h1.1 h').not_EQ
    · exact h'
    · exact absurd h3.symm (h2.1 h').not_EQ
  · have := h2.2 h3
    exact ⟨fun e => by omega, fun e => absurd e.symm h3.not_EQ⟩
theorem Stage.rest {bs : List UInt8} {l : Nat} {rk : List Int} (h : Stage bs l rk) (len i : Nat) : restI rk bs.length len i = gi rk (min (i + len) bs.length) := by
  unfold restI
  by_cases hi : i + len ≤ bs.length
  · rw [if_pos hi, Nat.min_eq_left hi]
  · rw [if_neg hi, Nat.min_eq_right (by omega), h.last]
theorem EQ_min {bs : List UInt8} {l i j : Nat} : EQ bs l (min i bs.length) (min j bs.length) ↔ EQ bs l i j := by
  unfold EQ; simp only [key_min]
theorem LT_min {bs : List UInt8} {l i j : Nat} : LT bs l (min i bs.length) (min j bs.length) ↔ LT bs l i j := by
  unfold LT; simp only [key_min]
theorem Stage.cmp {bs : List UInt8} {l : Nat} {rk : List Int} (h : Stage bs l rk) {i j : Nat} (hi : i ≤ bs.length) (hj : j ≤ bs.length) : cmpR rk bs.length l i j < 0 ↔ LT bs (l + l) i j := by
  rw [cmpR_neg, h.rest, h.rest, h.lt i j hi hj, h.eq hi hj, h.lt _ _ (Nat.min_le_right _ _) (Nat.min_le_right _ _), LT_min, LT_double]
theorem Stage.cmp0 {bs : List UInt8} {l : Nat} {rk : List Int} (h : Stage bs l rk) {i j : Nat} (hi : i ≤ bs.length) (hj : j ≤ bs.length) : cmpR rk bs.length l i j = 0 ↔ EQ bs (l + l) i j := by
  rw [cmpR_zero, h.rest, h.rest, h.eq hi hj, h.eq (Nat.min_le_right _ _) (Nat.min_le_right _ _), EQ_min, EQ_double]
def rank0 (bs : List UInt8) (k : Nat) : List Int := (List.range (bs.length + 1)).map fun i : Nat => if i < k then gb bs i + 1 else 0
theorem rank0_length (bs : List UInt8) (k : Nat) : (rank0 bs k).length = bs.length + 1 := by simp [rank0]
theorem rank0_zero (bs : List UInt8) : rank0 bs 0 = List.replicate (bs.length + 1) 0 := by
  apply List.ext_getElem <;> simp [rank0]
theorem gi_rank0 (bs : List UInt8) (k i : Nat) (hi : i ≤ bs.length) : gi (rank0 bs k) i = if i < k then gb bs i + 1 else 0 := by
  simp [gi, rank0, List.getD, show i < bs.length + 1 by omega]
theorem rank0_next (bs : List UInt8) (k : Nat) (hk : k < bs.length) : (rank0 bs k).set k (gb bs k + 1) = rank0 bs (k + 1) := by
  apply List.ext_getElem
  · simp [rank0]
  intro i h1 h2
  rw [List.getElem_set]
  simp only [rank0, List.getElem_map, List.getElem_range]
  by_cases e : k = i
  · subst e; rw [if_pos rfl, if_pos (by omega)]
  · rw [if_neg e]
    by_cases h : i < k
    · rw [if_pos h, if_pos (by omega)]
    · rw [if_neg h, if_neg (by omega)]
theorem stage1 (bs : List UInt8) : Stage bs 1 (rank0 bs bs.length) where
  size := rank0_length _ _
  last := by rw [gi_rank0 _ _ _ (Nat.le_refl _), if_neg (by omega)]
  lt i j hi hj := by
    have e : ∀ i, i ≤ bs.length → gi (rank0 bs bs.length) i = key bs i 0 := fun i hi => by
      rw [gi_rank0 _ _ _ hi]; unfold key; rw [Nat.add_zero]
    rw [e i hi, e j hj]
    constructor
    · intro h; exact ⟨0, by omega, fun t ht => absurd ht (by omega), h⟩
    · rintro ⟨k, h1, _, h3⟩
      obtain rfl : k = 0 := by omega
      exact h3
def pn (ps : List Nat) (k : Nat) : Nat := ps.getD k 0
theorem pn_get {ps : List Nat} {k : Nat} (h : k < ps.length) : pn ps k = ps[k] := by simp [pn, List.getD, h]
def nextTo (ne : Nat → Nat → Bool) (ps : List Nat) (m : Nat) : Nat → List Int
  | 0 => List.replicate m 0
  | k + 1 => (nextTo ne ps m k).set (pn ps (k + 1)) (gi (nextTo ne ps m k) (pn ps k) + if ne (pn ps k) (pn ps (k + 1)) then 1 else 0)
theorem nextTo_length (ne : Nat → Nat → Bool) (ps : List Nat) (m : Nat) : ∀ k, (nextTo ne ps m k).length = m
  | 0 => by simp [nextTo]
  | k + 1 => by simp [nextTo, nextTo_length ne ps m k]
def cnt (ne : Nat → Nat → Bool) (ps : List Nat) : Nat → Int
  | 0 => 0
  | k + 1 => cnt ne ps k + if ne (pn ps k) (pn ps (k + 1)) then 1 else 0
theorem gi_set_same {zs : List Int} {k : Nat} {v : Int} (h : k < zs.length) : gi (zs.set k v) k = v := by simp [gi, List.getD, h]
theorem gi_set_ne {zs : List Int} {k j : Nat} {v : Int} (h : k ≠ j) : gi (zs.set k v) j = gi zs j := by simp [gi, List.getD, List.getElem?_set_ne h]
theorem gi_nextTo {ne : Nat → Nat → Bool} {ps : List Nat} (hn : ps.Nodup) (hr : ∀ p ∈ ps, p < ps.length) : ∀ k, k < ps.length → ∀ t, t ≤ k → gi (nextTo ne ps ps.length k) (pn ps t) = cnt ne ps t
  | 0, hk, t, ht => by
    obtain rfl : t = 0 := by omega
    have : pn ps 0 < ps.length := hr _ (by rw [pn_get hk]; exact List.getElem_mem hk)
    simp [nextTo, cnt, gi, List.getD, this]
  | k + 1, hk, t, ht => by
    have hlt : pn ps (k + 1) < ps.length := hr _ (by rw [pn_get hk]; exact List.getElem_mem hk)
    rw [nextTo]
    rcases Nat.lt_or_ge t (k + 1) with h | h
    · rw [gi_set_ne, gi_nextTo hn hr k (by omega) t (by omega)]
      rw [pn_get hk, pn_get (by omega : t < ps.length)]
      intro e
      have := (List.nodup_iff_pairwise_ne.1 hn)
      exact List.pairwise_iff_getElem.1 this t (k + 1) (by omega) hk h e.symm
    · obtain rfl : t = k + 1 := by omega
      rw [gi_set_same (by rw [nextTo_length]; exact hlt), gi_nextTo hn hr k (by omega) k (Nat.le_refl _)]
      rfl
theorem cnt_le (ne : Nat → Nat → Bool) (ps : List Nat) : ∀ k, 0 ≤ cnt ne ps k ∧ cnt ne ps k ≤ k
  | 0 => ⟨Int.le_refl _, Int.le_refl _⟩
  | k + 1 => by
    have := cnt_le ne ps k
    rw [cnt]
    split <;> omega
theorem cnt_full {ne : Nat → Nat → Bool} {ps : List Nat} : ∀ {k : Nat}, cnt ne ps k = k → ∀ t, t < k → ne (pn ps t) (pn ps (t + 1)) = true
  | 0, _, t, ht => absurd ht (by omega)
  | k + 1, h, t, ht => by
    rw [cnt] at h
    have h1 := cnt_le ne ps k
    cases hb : ne (pn ps k) (pn ps (k + 1)) with
    | false => rw [hb] at h; simp at h; omega
    | true =>
      rw [hb] at h
      simp at h
      rcases Nat.lt_succ_iff_lt_or_eq.1 ht with h2 | h2
      · exact cnt_full (by omega) t h2
      · subst h2; exact hb
theorem cnt_all {ne : Nat → Nat → Bool} {ps : List Nat} : ∀ {k : Nat}, (∀ t, t < k → ne (pn ps t) (pn ps (t + 1)) = true) → cnt ne ps k = k
  | 0, _ => rfl
  | k + 1, h => by
    rw [cnt, h k (by omega), cnt_all (fun t ht => h t (by omega))]
    simp
section
variable {bs : List UInt8} {l : Nat} {rk : List Int} {ps : List Nat}
structure Sorted (bs : List UInt8) (l : Nat) (ps : List Nat) : Prop where
  size : ps.length = bs.length + 1
  nodup : ps.Nodup
  range : ∀ p ∈ ps, p < ps.length
  sorted : ∀ s t, s < t → t < ps.length → ¬ LT bs (l + l) (pn ps t) (pn ps s)
def neR (rk : List Int) (n l : Nat) (x y : Nat) : Bool := decide (cmpR rk n l x y ≠ 0)
theorem pn_le (S : Sorted bs l ps) {t : Nat} (h : t < ps.length) : pn ps t ≤ bs.length := by
  have := S.range (pn ps t) (by rw [pn_get h]; exact List.getElem_mem h)
  have := S.size
  omega
theorem ne_step (H : Stage bs l rk) (S : Sorted bs l ps) {t : Nat} (h : t + 1 < ps.length) : neR rk bs.length l (pn ps t) (pn ps (t + 1)) = true ↔ LT bs (l + l) (pn ps t) (pn ps (t + 1)) := by
  unfold neR
  rw [decide_eq_true_iff, Ne, H.cmp0 (pn_le S (by omega)) (pn_le S h)]
  constructor
  · intro hne
    rcases tri bs (pn ps t) (pn ps (t + 1)) (l + l) with h1 | h1 | h1
    · exact h1
    · exact absurd h1 hne
    · exact absurd h1 (S.sorted t (t + 1) (by omega) h)
  · intro h1; exact h1.not_EQ
theorem LT_EQ {i j k m : Nat} (h : LT bs m i j) (e : EQ bs m j k) : LT bs m i k := by
  obtain ⟨a, h1, h2, h3⟩ := h
  exact ⟨a, h1, fun t ht => (h2 t ht).trans (e t (by omega)), by rw [← e a h1]; exact h3⟩
theorem EQ_LT {i j k m : Nat} (e : EQ bs m i j) (h : LT bs m j k) : LT bs m i k := by
  obtain ⟨a, h1, h2, h3⟩ := h
  exact ⟨a, h1, fun t ht => (e t (by omega)).trans (h2 t ht), by rw [e a h1]; exact h3⟩
theorem LT_trans {i j k m : Nat} (h : LT bs m i j) (h' : LT bs m j k) : LT bs m i k := by
  obtain ⟨a, h1, h2, h3⟩ := h
  obtain ⟨b, g1, g2, g3⟩ := h'
  rcases Nat.lt_trichotomy a b with e | e | e
  · exact ⟨a, h1, fun t ht => (h2 t ht).trans (g2 t (by omega)), by rw [← g2 a e]; exact h3⟩
  · subst e; exact ⟨a, h1, fun t ht => (h2 t ht).trans (g2 t ht), by omega⟩
  · exact ⟨b, g1, fun t ht => (h2 t (by omega)).trans (g2 t ht), by rw [h2 b e]; exact g3⟩
theorem cnt_mono (H : Stage bs l rk) (S : Sorted bs l ps) : ∀ s, s < ps.length → ∀ t, t ≤ s → cnt (neR rk bs.length l) ps t ≤ cnt (neR rk bs.length l) ps s ∧ (cnt (neR rk bs.length l) ps t < cnt (neR rk bs.length l) ps s ↔ LT bs (l + l) (pn ps t) (pn ps s))
  | 0, hs, t, ht => by
    obtain rfl : t = 0 := by omega
    exact ⟨Int.le_refl _, fun h => absurd h (by omega), fun h => absurd h h.asymm⟩
  | s + 1, hs, t, ht => by
    rcases Nat.lt_or_ge t (s + 1) with h | h
    · have ih := cnt_mono H S s (by omega) t (by omega)
      have st := ne_step H S hs
      rw [cnt]
      by_cases hb : neR rk bs.length l (pn ps s) (pn ps (s + 1)) = true
      · rw [if_pos hb]
        have h1 := st.1 hb
        refine ⟨by omega, fun _ => ?_, fun _ => by omega⟩
        rcases tri bs (pn ps t) (pn ps s) (l + l) with h2 | h2 | h2
        · exact LT_trans h2 h1
        · exact EQ_LT h2 h1
        · rcases Nat.lt_or_ge t s with h3 | h3
          · exact absurd h2 (S.sorted t s h3 (by omega))
          · obtain rfl : t = s := by omega
            exact h1
      · rw [if_neg hb, Int.add_zero]
        have h1 : EQ bs (l + l) (pn ps s) (pn ps (s + 1)) := by
          rcases tri bs (pn ps s) (pn ps (s + 1)) (l + l) with h2 | h2 | h2
          · exact absurd (st.2 h2) hb
          · exact h2
          · exact absurd h2 (S.sorted s (s + 1) (by omega) hs)
        refine ⟨ih.1, ih.2.trans ⟨fun h2 => LT_EQ h2 h1, fun h2 => LT_EQ h2 h1.symm⟩⟩
    · obtain rfl : t = s + 1 := by omega
      exact ⟨Int.le_refl _, fun h => absurd h (by omega), fun h => absurd h h.asymm⟩
theorem cnt_iff (H : Stage bs l rk) (S : Sorted bs l ps) {s t : Nat} (hs : s < ps.length) (ht : t < ps.length) : cnt (neR rk bs.length l) ps t < cnt (neR rk bs.length l) ps s ↔ LT bs (l + l) (pn ps t) (pn ps s) := by
  rcases Nat.lt_or_ge s t with h | h
  · have h1 := (cnt_mono H S t ht s (by omega)).1
    exact ⟨fun h2 => absurd h2 (by omega), fun h2 => absurd h2 (S.sorted s t h ht)⟩
  · exact (cnt_mono H S s hs t h).2
theorem place_of (S : Sorted bs l ps) {i : Nat} (hi : i ≤ bs.length) : ∃ t, t < ps.length ∧ pn ps t = i := by
  have hm : i ∈ ps := by
    rcases Classical.em (i ∈ ps) with hm | hm
    · exact hm
    · have h1 := nodup_le ps.length (i :: ps) (List.nodup_cons.2 ⟨hm, S.nodup⟩) (fun x hx => by
        rcases List.mem_cons.1 hx with rfl | hx
        · have := S.size; omega
        · exact S.range x hx)
      simp at h1
      omega
  obtain ⟨t, ht, e⟩ := List.mem_iff_getElem.1 hm
  exact ⟨t, ht, by rw [pn_get ht]; exact e⟩
theorem first_place (S : Sorted bs l ps) (hl : 0 < l) : pn ps 0 = bs.length := by
  obtain ⟨t, ht, e⟩ := place_of S (Nat.le_refl bs.length)
  rcases Nat.eq_zero_or_pos t with h | h
  · subst h; exact e
  · have h0 : pn ps 0 ≤ bs.length := pn_le S (by omega)
    have hs := S.sorted 0 t h ht
    rw [e] at hs
    rcases Nat.lt_or_ge (pn ps 0) bs.length with h1 | h1
    · exact absurd ⟨0, by omega, fun _ h => absurd h (by omega), by rw [key_far _ _ _ (Nat.le_refl _)]; exact key_pos _ _ _ (by omega)⟩ hs
    · omega
theorem stage_next (H : Stage bs l rk) (S : Sorted bs l ps) (hl : 0 < l) : Stage bs (l + l) (nextTo (neR rk bs.length l) ps (bs.length + 1) bs.length) := by
  have hg : ∀ t, t < ps.length → gi (nextTo (neR rk bs.length l) ps (bs.length + 1) bs.length) (pn ps t) = cnt (neR rk bs.length l) ps t := fun t ht => by
    have := gi_nextTo (ne := neR rk bs.length l) S.nodup S.range bs.length (by have := S.size; omega) t (by have := S.size; omega)
    rwa [S.size] at this
  refine ⟨nextTo_length _ _ _ _, fun i j hi hj => ?_, ?_⟩
  · obtain ⟨s, hs, rfl⟩ := place_of S hi
    obtain ⟨t, ht, rfl⟩ := place_of S hj
    rw [hg s hs, hg t ht]
    exact cnt_iff H S ht hs
  · have := hg 0 (by have := S.size; omega)
    rw [first_place S hl] at this
    exact this
theorem long_ne {i j : Nat} (hi : i ≤ bs.length) (hj : j ≤ bs.length) (hne : i ≠ j) (hl : bs.length < l + l) : ¬ EQ bs (l + l) i j := by
  have key1 : ∀ i j, i < j → j ≤ bs.length → ¬ EQ bs (l + l) i j := fun i j h hj e => by
    have := e (bs.length - j) (by omega)
    have h1 := key_pos bs i (bs.length - j) (by omega)
    have h2 : key bs j (bs.length - j) = 0 := by unfold key; rw [if_neg (by omega)]
    omega
  rcases Nat.lt_or_gt_of_ne hne with h | h
  · exact key1 i j h hj
  · exact fun e => key1 j i h hi e.symm
theorem full_of_long (H : Stage bs l rk) (S : Sorted bs l ps) (hl : bs.length < l + l) : cnt (neR rk bs.length l) ps bs.length = bs.length := by
  refine cnt_all fun t ht => ?_
  have hlt : t + 1 < ps.length := by have := S.size; omega
  rw [ne_step H S hlt]
  rcases tri bs (pn ps t) (pn ps (t + 1)) (l + l) with h | h | h
  · exact h
  · refine absurd h (long_ne (pn_le S (by omega)) (pn_le S hlt) (fun e => ?_) hl)
    rw [pn_get hlt, pn_get (by omega : t < ps.length)] at e
    exact List.pairwise_iff_getElem.1 (List.nodup_iff_pairwise_ne.1 S.nodup) t (t + 1) (by omega) hlt (by omega) e
  · exact absurd h (S.sorted t (t + 1) (by omega) hlt)
theorem gi_last (H : Stage bs l rk) (S : Sorted bs l ps) : gi (nextTo (neR rk bs.length l) ps (bs.length + 1) bs.length) (pn ps bs.length) = cnt (neR rk bs.length l) ps bs.length := by
  have := gi_nextTo (ne := neR rk bs.length l) S.nodup S.range bs.length (by have := S.size; omega) bs.length (Nat.le_refl _)
  rwa [S.size] at this
theorem less_of_LT : ∀ {m : Nat} {i j : Nat}, LT bs m i j → less (bs.drop i) (bs.drop j) = true
  | 0, i, j, ⟨k, h, _⟩ => absurd h (by omega)
  | m + 1, i, j, ⟨k, h1, h2, h3⟩ => by
    have hj : j < bs.length := by
      rcases Nat.lt_or_ge j bs.length with h | h
      · exact h
      · have := key_far bs j k h; have := key_nonneg bs i k; omega
    rcases Nat.lt_or_ge i bs.length with hi | hi
    · rw [List.drop_eq_getElem_cons hi, List.drop_eq_getElem_cons hj, less_cons]
      have ki : key bs i 0 = bs[i].toNat + 1 := by unfold key; rw [Nat.add_zero, if_pos hi]; simp [gb, List.getD, hi]
      have kj : key bs j 0 = bs[j].toNat + 1 := by unfold key; rw [Nat.add_zero, if_pos hj]; simp [gb, List.getD, hj]
      cases k with
      | zero => exact .inl (by omega)
      | succ k =>
        have h0 := h2 0 (by omega)
        refine .inr ⟨UInt8.toNat_inj.1 (by omega), less_of_LT (m := m) ⟨k, by omega, fun t ht => ?_, ?_⟩⟩
        · rw [← key_shift, ← key_shift, Nat.add_comm 1 t]; exact h2 (t + 1) (by omega)
        · rw [← key_shift, ← key_shift, Nat.add_comm 1 k]; exact h3
    · rw [List.drop_of_length_le hi, List.drop_eq_getElem_cons hj]
      rfl
theorem places_done (H : Stage bs l rk) (S : Sorted bs l ps) (hf : cnt (neR rk bs.length l) ps bs.length = bs.length) : ps.map (fun p : Nat => (p : Int)) = sortL bs := by
  have hl : (ps.map (fun p : Nat => (p : Int))).length = bs.length + 1 := by simp [S.size]
  apply order_unique hl
  · rw [permErr_zero_iff, hl]
    refine ⟨fun z hz => ?_, ?_⟩
    · obtain ⟨p, hp, rfl⟩ := List.mem_map.1 hz
      have := S.range p hp
      have := S.size
      omega
    · rw [List.nodup_iff_pairwise_ne, List.pairwise_map]
      exact (List.nodup_iff_pairwise_ne.1 S.nodup).imp fun h e => h (by omega)
  · refine pairwise_of_adj (R := before bs) (fun _ _ _ h h' => before_trans h h') (fun i hi => ?_)
    have hi' : i + 1 < ps.length := by simpa using hi
    have h1 := (ne_step H S hi').1 (cnt_full hf i (by have := S.size; omega))
    have h2 := less_of_LT h1
    rw [pn_get hi', pn_get (by omega : i < ps.length)] at h2
    simpa [before, sfx] using h2
end
end Go.Proofs.YtohadkmaemmfgaaGreatDoor.Bwt
namespace Go.Proofs.YtohadkmaemmfgaaGreatDoor
open Go.RowKit Go.Proofs
set_option linter.unusedVariables false
set_option linter.unusedSimpArgs false

end Go.Proofs.YtohadkmaemmfgaaGreatDoor
