/- Zb Ze Sp Zc. -/
import Derived.Test.YtckkmafppfcecaaGreatDoorRN00
set_option maxRecDepth 100000
set_option maxHeartbeats 4000000
namespace Go.Proofs.YtckkmafppfcecaaGreatDoor
open Go.RowKit Go.Proofs
set_option linter.unusedVariables false
set_option linter.unusedSimpArgs false
def opC (bs : List UInt8) (i : Nat) : Bool := decide ((bA bs i = 232 ∨ bA bs i = 233) ∧ i + 5 ≤ bs.length)
def hiC (bs : List UInt8) (i : Nat) : Bool := decide (bA bs (i + 4) = 0 ∨ bA bs (i + 4) = 255)
def siteC (bs : List UInt8) (i : Nat) : List Nat :=
  if h : i < bs.length then if opC bs i = true then (if hiC bs i = true then i :: siteC bs (i + 5) else siteC bs (i + 5)) else siteC bs (i + 1) else []
  termination_by bs.length - i
  decreasing_by all_goals omega
theorem siteC_end {bs : List UInt8} {i : Nat} (h : bs.length ≤ i) : siteC bs i = [] := by rw [siteC, dif_neg (by omega)]
theorem siteC_no {bs : List UInt8} {i : Nat} (h : i < bs.length) (ho : opC bs i = false) : siteC bs i = siteC bs (i + 1) := by rw [siteC, dif_pos h, ho]; rfl
theorem siteC_skip {bs : List UInt8} {i : Nat} (h : i < bs.length) (ho : opC bs i = true) (hh : hiC bs i = false) : siteC bs i = siteC bs (i + 5) := by rw [siteC, dif_pos h, ho, hh]; rfl
theorem siteC_hit {bs : List UInt8} {i : Nat} (h : i < bs.length) (ho : opC bs i = true) (hh : hiC bs i = true) : siteC bs i = i :: siteC bs (i + 5) := by rw [siteC, dif_pos h, ho, hh]; rfl
theorem siteC_ge {bs : List UInt8} : ∀ (d i x : Nat), bs.length - i = d → x ∈ siteC bs i → i ≤ x ∧ x + 5 ≤ bs.length := by
  intro d
  induction d using Nat.strongRecOn with
  | _ d ih =>
    intro i x hd hx
    by_cases h : i < bs.length
    · cases ho : opC bs i with
      | false => rw [siteC_no h ho] at hx; have := ih _ (by omega) (i + 1) x rfl hx; omega
      | true =>
        cases hh : hiC bs i with
        | false => rw [siteC_skip h ho hh] at hx; have := ih _ (by omega) (i + 5) x rfl hx; omega
        | true =>
          rw [siteC_hit h ho hh, List.mem_cons] at hx
          rcases hx with rfl | hx
          · have := (of_decide_eq_true ho).2
            omega
          · have := ih _ (by omega) (i + 5) x rfl hx; omega
    · rw [siteC_end (by omega)] at hx; cases hx
theorem siteC_apart {bs : List UInt8} : ∀ (d i : Nat), bs.length - i = d → (siteC bs i).Pairwise fun x y => x + 5 ≤ y := by
  intro d
  induction d using Nat.strongRecOn with
  | _ d ih =>
    intro i hd
    by_cases h : i < bs.length
    · cases ho : opC bs i with
      | false => rw [siteC_no h ho]; exact ih _ (by omega) (i + 1) rfl
      | true =>
        cases hh : hiC bs i with
        | false => rw [siteC_skip h ho hh]; exact ih _ (by omega) (i + 5) rfl
        | true =>
          rw [siteC_hit h ho hh, List.pairwise_cons]
          exact ⟨fun y hy => (siteC_ge _ (i + 5) y rfl hy).1, ih _ (by omega) (i + 5) rfl⟩
    · rw [siteC_end (by omega)]; exact List.Pairwise.nil
def sitesC (bs : List UInt8) : List Nat := siteC bs 0
def opnd (bs : List UInt8) (i : Nat) : Nat := (bA bs (i + 1)).toNat + 256 * (bA bs (i + 2)).toNat + 65536 * (bA bs (i + 3)).toNat
def newC (s : Int) (bs : List UInt8) (i : Nat) : Nat := (((opnd bs i : Nat) : Int) + s * ((i + 5 : Nat) : Int)).emod 16777216 |>.toNat
def byC (n t : Nat) : UInt8 := UInt8.ofNat (n / 256 ^ t)
def put3 (xs : List UInt8) (i n : Nat) : List UInt8 := ((xs.set (i + 1) (byC n 0)).set (i + 2) (byC n 1)).set (i + 3) (byC n 2)
theorem put3_length (xs : List UInt8) (i n : Nat) : (put3 xs i n).length = xs.length := by simp [put3]
def chg (s : Int) (bs : List UInt8) : Nat → List UInt8
  | 0 => bs
  | k + 1 => put3 (chg s bs k) (oN (sitesC bs) k) (newC s bs (oN (sitesC bs) k))
theorem chg_length (s : Int) (bs : List UInt8) : ∀ k, (chg s bs k).length = bs.length
  | 0 => rfl
  | k + 1 => by rw [chg, put3_length]; exact chg_length s bs k
def callsP (s : Int) (bs : List UInt8) : List UInt8 := chg s bs (sitesC bs).length
theorem callsP_length (s : Int) (bs : List UInt8) : (callsP s bs).length = bs.length := chg_length _ _ _
theorem oN_mem {l : List Nat} {k : Nat} (h : k < l.length) : oN l k ∈ l := by
  unfold oN
  rw [List.getD_eq_getElem?_getD, List.getElem?_eq_getElem h]
  exact List.getElem_mem _
theorem site_in {bs : List UInt8} {k : Nat} (h : k < (sitesC bs).length) : oN (sitesC bs) k + 5 ≤ bs.length := (siteC_ge _ 0 _ rfl (oN_mem h)).2
theorem site_apart {bs : List UInt8} {j k : Nat} (hj : j < k) (hk : k < (sitesC bs).length) : oN (sitesC bs) j + 5 ≤ oN (sitesC bs) k := by
  have h := List.pairwise_iff_getElem.1 (siteC_apart (bs := bs) _ 0 rfl) j k (by unfold sitesC at hk; omega) hk hj
  unfold oN sitesC
  have hk2 : k < (siteC bs 0).length := hk
  rw [List.getD_eq_getElem?_getD, List.getD_eq_getElem?_getD, List.getElem?_eq_getElem hk2, List.getElem?_eq_getElem (show j < (siteC bs 0).length from Nat.lt_trans hj hk2)]
  exact h
theorem put3_at {xs : List UInt8} {i n p : Nat} (hi : i + 4 ≤ xs.length) : bA (put3 xs i n) p = if p = i + 1 then byC n 0 else if p = i + 2 then byC n 1 else if p = i + 3 then byC n 2 else bA xs p := by
  unfold put3
  rw [bA_set (by simp; omega), bA_set (by simp; omega), bA_set (by omega)]
  by_cases h1 : p = i + 1
  · subst h1; rw [if_neg (by omega), if_neg (by omega), if_pos rfl, if_pos rfl]
  · rw [if_neg (Ne.symm h1)]
    by_cases h2 : p = i + 2
    · subst h2; rw [if_neg (by omega), if_pos rfl, if_neg h1, if_pos rfl]
    · rw [if_neg (Ne.symm h2)]
      by_cases h3 : p = i + 3
      · subst h3; rw [if_pos rfl, if_neg h1, if_neg h2]
      · rw [if_neg (Ne.symm h3), if_neg h1, if_neg h2, if_neg h3]
theorem chg_out {s : Int} {bs : List UInt8} : ∀ (k p : Nat), k ≤ (sitesC bs).length → (∀ j, j < k → ¬ (oN (sitesC bs) j < p ∧ p ≤ oN (sitesC bs) j + 3)) → bA (chg s bs k) p = bA bs p
  | 0, _, _, _ => rfl
  | k + 1, p, hk, h => by
    have h0 := site_in (bs := bs) (k := k) (by omega)
    have h1 := h k (by omega)
    rw [chg, put3_at (by rw [chg_length]; omega), if_neg (by omega), if_neg (by omega), if_neg (by omega)]
    exact chg_out k p (by omega) fun j hj => h j (by omega)
theorem chg_here {s : Int} {bs : List UInt8} {k t : Nat} (hk : k < (sitesC bs).length) : bA (chg s bs k) (oN (sitesC bs) k + t) = bA bs (oN (sitesC bs) k + t) :=
  chg_out k _ (by omega) fun j hj => by have := site_apart hj hk; omega
theorem chg_in {s : Int} {bs : List UInt8} {j : Nat} : ∀ (k : Nat), k ≤ (sitesC bs).length → j < k → ∀ t, t < 3 → bA (chg s bs k) (oN (sitesC bs) j + 1 + t) = byC (newC s bs (oN (sitesC bs) j)) t
  | 0, _, hj, _, _ => absurd hj (Nat.not_lt_zero _)
  | k + 1, hk, hj, t, ht => by
    have h0 := site_in (bs := bs) (k := k) (by omega)
    rw [chg, put3_at (by rw [chg_length]; omega)]
    rcases Nat.lt_or_ge j k with h | h
    · have := site_apart h (show k < (sitesC bs).length by omega)
      rw [if_neg (by omega), if_neg (by omega), if_neg (by omega)]
      exact chg_in k (by omega) h t ht
    · obtain rfl : j = k := by omega
      rcases t with _ | _ | _ | t
      · rw [if_pos (by omega)]
      · rw [if_neg (by omega), if_pos (by omega)]
      · rw [if_neg (by omega), if_neg (by omega), if_pos (by omega)]
      · omega
theorem sites_same {bs cs : List UInt8} (hl : cs.length = bs.length) (h : ∀ p, (∀ x ∈ sitesC bs, ¬ (x < p ∧ p ≤ x + 3)) → bA cs p = bA bs p) : sitesC cs = sitesC bs := by
  suffices key : ∀ (d i : Nat), bs.length - i = d → (∀ x ∈ sitesC bs, x ∈ siteC bs i ∨ x + 5 ≤ i) → siteC cs i = siteC bs i from key _ 0 rfl fun x hx => .inl hx
  intro d
  induction d using Nat.strongRecOn with
  | _ d ih =>
    intro i hd hI
    by_cases hlt : i < bs.length
    · have h0 : bA cs i = bA bs i := h i fun x hx => by
        rcases hI x hx with h1 | h1
        · have := siteC_ge _ i x rfl h1; omega
        · omega
      have ho : opC cs i = opC bs i := by unfold opC; rw [h0, hl]
      cases hob : opC bs i with
      | false =>
        rw [siteC_no (by omega) (ho.trans hob), siteC_no hlt hob]
        refine ih _ (by omega) (i + 1) rfl fun x hx => ?_
        rcases hI x hx with h1 | h1
        · exact .inl (by rwa [siteC_no hlt hob] at h1)
        · exact .inr (by omega)
      | true =>
        have h4 : bA cs (i + 4) = bA bs (i + 4) := h (i + 4) fun x hx => by
          rcases hI x hx with h1 | h1
          · cases hh : hiC bs i with
            | false => rw [siteC_skip hlt hob hh] at h1; have := siteC_ge _ _ x rfl h1; omega
            | true =>
              rw [siteC_hit hlt hob hh, List.mem_cons] at h1
              rcases h1 with rfl | h1
              · omega
              · have := siteC_ge _ _ x rfl h1; omega
          · omega
        have hh0 : hiC cs i = hiC bs i := by unfold hiC; rw [h4]
        cases hh : hiC bs i with
        | false =>
          rw [siteC_skip (by omega) (ho.trans hob) (hh0.trans hh), siteC_skip hlt hob hh]
          refine ih _ (by omega) (i + 5) rfl fun x hx => ?_
          rcases hI x hx with h1 | h1
          · exact .inl (by rwa [siteC_skip hlt hob hh] at h1)
          · exact .inr (by omega)
        | true =>
          rw [siteC_hit (by omega) (ho.trans hob) (hh0.trans hh), siteC_hit hlt hob hh, ih _ (by omega) (i + 5) rfl]
          intro x hx
          rcases hI x hx with h1 | h1
          · rw [siteC_hit hlt hob hh, List.mem_cons] at h1
            rcases h1 with rfl | h1
            · exact .inr (Nat.le_refl _)
            · exact .inl h1
          · exact .inr (by omega)
    · rw [siteC_end (by omega), siteC_end (by omega)]
theorem mem_oN {l : List Nat} {x : Nat} (h : x ∈ l) : ∃ k, k < l.length ∧ oN l k = x := by
  obtain ⟨k, hk, he⟩ := List.getElem_of_mem h
  exact ⟨k, hk, by unfold oN; rw [List.getD_eq_getElem?_getD, List.getElem?_eq_getElem hk]; exact he⟩
theorem calls_sites (s : Int) (bs : List UInt8) : sitesC (callsP s bs) = sitesC bs :=
  sites_same (callsP_length s bs) fun p hp => chg_out _ p (Nat.le_refl _) fun j hj => hp _ (oN_mem hj)
theorem byC_three (n : Nat) (h : n < 16777216) : (byC n 0).toNat + 256 * (byC n 1).toNat + 65536 * (byC n 2).toNat = n := by
  unfold byC
  simp only [UInt8.toNat_ofNat']
  omega
theorem opnd_lt (bs : List UInt8) (i : Nat) : opnd bs i < 16777216 := by
  unfold opnd
  have h1 := (bA bs (i + 1)).toNat_lt
  have h2 := (bA bs (i + 2)).toNat_lt
  have h3 := (bA bs (i + 3)).toNat_lt
  omega
theorem newC_lt (s : Int) (bs : List UInt8) (i : Nat) : newC s bs i < 16777216 := by
  unfold newC
  have := Int.emod_lt_of_pos (((opnd bs i : Nat) : Int) + s * ((i + 5 : Nat) : Int)) (show (0 : Int) < 16777216 by decide)
  have h2 := Int.emod_nonneg (((opnd bs i : Nat) : Int) + s * ((i + 5 : Nat) : Int)) (show (16777216 : Int) ≠ 0 by decide)
  show ((((opnd bs i : Nat) : Int) + s * ((i + 5 : Nat) : Int)) % 16777216).toNat < 16777216
  omega
theorem calls_opnd {s : Int} {bs : List UInt8} {x : Nat} (hx : x ∈ sitesC bs) : opnd (callsP s bs) x = newC s bs x := by
  obtain ⟨k, hk, rfl⟩ := mem_oN hx
  unfold opnd callsP
  have h0 := chg_in (s := s) (bs := bs) _ (Nat.le_refl _) hk 0 (by omega)
  have h1 := chg_in (s := s) (bs := bs) _ (Nat.le_refl _) hk 1 (by omega)
  have h2 := chg_in (s := s) (bs := bs) _ (Nat.le_refl _) hk 2 (by omega)
  rw [show oN (sitesC bs) k + 2 = oN (sitesC bs) k + 1 + 1 from rfl, show oN (sitesC bs) k + 3 = oN (sitesC bs) k + 1 + 2 from rfl, h1, h2]
  rw [show oN (sitesC bs) k + 1 = oN (sitesC bs) k + 1 + 0 from rfl, h0]
  exact byC_three _ (newC_lt s bs _)
theorem newC_back {s : Int} {bs cs : List UInt8} {i : Nat} (h : opnd cs i = newC s bs i) : newC (-s) cs i = opnd bs i := by
  have hlt := opnd_lt bs i
  unfold newC
  rw [h]
  unfold newC
  show ((((((((opnd bs i : Nat) : Int) + s * ((i + 5 : Nat) : Int)) % 16777216).toNat : Nat) : Int) + -s * ((i + 5 : Nat) : Int)) % 16777216).toNat = opnd bs i
  rw [Int.neg_mul]
  generalize s * ((i + 5 : Nat) : Int) = z
  omega
theorem byC_opnd (bs : List UInt8) (i t : Nat) (ht : t < 3) : byC (opnd bs i) t = bA bs (i + 1 + t) := by
  have h1 := (bA bs (i + 1)).toNat_lt
  have h2 := (bA bs (i + 2)).toNat_lt
  have h3 := (bA bs (i + 3)).toNat_lt
  unfold byC opnd
  apply UInt8.toNat_inj.1
  rw [UInt8.toNat_ofNat']
  rcases t with _ | _ | _ | t
  · show _ = (bA bs (i + 1)).toNat
    omega
  · show _ = (bA bs (i + 2)).toNat
    omega
  · show _ = (bA bs (i + 3)).toNat
    omega
  · omega
theorem calls_back (s : Int) (bs : List UInt8) : callsP (-s) (callsP s bs) = bs := by
  refine list_ext_bA (by rw [callsP_length, callsP_length]) fun p hp => ?_
  by_cases hin : ∃ x ∈ sitesC bs, x < p ∧ p ≤ x + 3
  · obtain ⟨x, hx, h1, h2⟩ := hin
    obtain ⟨t, ht, rfl⟩ : ∃ t, t < 3 ∧ p = x + 1 + t := ⟨p - x - 1, by omega, by omega⟩
    have hx2 : x ∈ sitesC (callsP s bs) := by rw [calls_sites]; exact hx
    obtain ⟨k, hk, hkx⟩ := mem_oN hx2
    have h := chg_in (s := -s) (bs := callsP s bs) _ (Nat.le_refl _) hk t ht
    rw [hkx] at h
    rw [show callsP (-s) (callsP s bs) = chg (-s) (callsP s bs) (sitesC (callsP s bs)).length from rfl, h, newC_back (calls_opnd hx), byC_opnd bs x t ht]
  · have e1 : bA (callsP (-s) (callsP s bs)) p = bA (callsP s bs) p := chg_out _ p (Nat.le_refl _) fun j hj hb => hin ⟨_, by rw [← calls_sites s]; exact oN_mem hj, hb⟩
    rw [e1]
    exact chg_out _ p (Nat.le_refl _) fun j hj hb => hin ⟨_, oN_mem hj, hb⟩
def fldB (n c : Nat) : List Bool := (List.range c).map fun j => n.testBit (c - 1 - j)
def gamB (n : Nat) : List Bool := fldB n (2 * nb n - 1)
def tokB (t : Tok) : List Bool := if t.len = 0 then fldB t.byt.toNat 9 else fldB 1 1 ++ gamB (t.len - 1) ++ gamB t.dst
def bitsL : List Tok → List Bool
  | [] => []
  | t :: r => tokB t ++ bitsL r
theorem bitsL_append : ∀ l m : List Tok, bitsL (l ++ m) = bitsL l ++ bitsL m
  | [], _ => rfl
  | t :: r, m => by rw [List.cons_append, bitsL, bitsL_append r m, bitsL, List.append_assoc]
theorem fldB_length (n c : Nat) : (fldB n c).length = c := by simp [fldB]
def b01 (b : Bool) : Nat := if b then 1 else 0
def gL (l : List Bool) (i : Nat) : Bool := l.getD i false
def pkB (g : Nat → Bool) (i : Nat) : Nat := b01 (g (8 * i)) * 128 + b01 (g (8 * i + 1)) * 64 + b01 (g (8 * i + 2)) * 32 + b01 (g (8 * i + 3)) * 16 + b01 (g (8 * i + 4)) * 8 + b01 (g (8 * i + 5)) * 4 + b01 (g (8 * i + 6)) * 2 + b01 (g (8 * i + 7))
def pack (l : List Bool) : List UInt8 := (List.range ((l.length + 7) / 8)).map fun i => UInt8.ofNat (pkB (gL l) i)
theorem pack_length (l : List Bool) : (pack l).length = (l.length + 7) / 8 := by simp [pack]
theorem b01_le (b : Bool) : b01 b ≤ 1 := by cases b <;> decide
theorem pkB_lt (g : Nat → Bool) (i : Nat) : pkB g i < 256 := by
  unfold pkB
  have h0 := b01_le (g (8 * i)); have h1 := b01_le (g (8 * i + 1)); have h2 := b01_le (g (8 * i + 2)); have h3 := b01_le (g (8 * i + 3))
  have h4 := b01_le (g (8 * i + 4)); have h5 := b01_le (g (8 * i + 5)); have h6 := b01_le (g (8 * i + 6)); have h7 := b01_le (g (8 * i + 7))
  omega
theorem pack_at {l : List Bool} {i : Nat} (h : i < (l.length + 7) / 8) : bA (pack l) i = UInt8.ofNat (pkB (gL l) i) := by
  unfold pack
  generalize hf : (fun i => UInt8.ofNat (pkB (gL l) i)) = f
  have e : UInt8.ofNat (pkB (gL l) i) = f i := by rw [← hf]
  rw [e]
  simp [bA, List.getD, h]
def bitD (bs : List UInt8) (i : Nat) : Bool := (bA bs (i / 8)).toNat.testBit (7 - i % 8)
theorem gL_append {l m : List Bool} {i : Nat} : gL (l ++ m) i = if i < l.length then gL l i else gL m (i - l.length) := by
  unfold gL
  rw [List.getD_eq_getElem?_getD, List.getElem?_append, List.getD_eq_getElem?_getD, List.getD_eq_getElem?_getD]
  split <;> rfl
theorem gL_hi {l : List Bool} {i : Nat} (h : l.length ≤ i) : gL l i = false := by
  unfold gL; rw [List.getD_eq_getElem?_getD, List.getElem?_eq_none h]; rfl
theorem eight : ∀ x0 x1 x2 x3 x4 x5 x6 x7 : Bool, ∀ t : Fin 8, (b01 x0 * 128 + b01 x1 * 64 + b01 x2 * 32 + b01 x3 * 16 + b01 x4 * 8 + b01 x5 * 4 + b01 x6 * 2 + b01 x7).testBit (7 - t.1) = (match t with | 0 => x0 | 1 => x1 | 2 => x2 | 3 => x3 | 4 => x4 | 5 => x5 | 6 => x6 | 7 => x7) := by decide +kernel
theorem pk_test (g : Nat → Bool) (i t : Nat) (ht : t < 8) : (pkB g i).testBit (7 - t) = g (8 * i + t) := by
  have h := eight (g (8 * i)) (g (8 * i + 1)) (g (8 * i + 2)) (g (8 * i + 3)) (g (8 * i + 4)) (g (8 * i + 5)) (g (8 * i + 6)) (g (8 * i + 7)) ⟨t, ht⟩
  unfold pkB
  rcases t with _ | _ | _ | _ | _ | _ | _ | _ | t
  all_goals first | exact h | omega
theorem bitD_pack (l : List Bool) (i : Nat) : bitD (pack l) i = gL l i := by
  unfold bitD
  by_cases h : i / 8 < (l.length + 7) / 8
  · rw [pack_at h, UInt8.toNat_ofNat', Nat.mod_eq_of_lt (pkB_lt _ _), pk_test _ _ _ (Nat.mod_lt _ (by decide)), Nat.div_add_mod]
  · have e : bA (pack l) (i / 8) = 0 := by
      unfold bA
      rw [List.getD_eq_getElem?_getD, List.getElem?_eq_none (by rw [pack_length]; omega)]; rfl
    rw [e, gL_hi (by omega)]
    exact Nat.zero_testBit _
theorem pkB_more (l : List Bool) (b : Bool) (i : Nat) : pkB (gL (l ++ [b])) i = if i = l.length / 8 then pkB (gL l) i + b01 b * 2 ^ (7 - l.length % 8) else pkB (gL l) i := by
  have hg : ∀ j, gL (l ++ [b]) j = if j = l.length then b else gL l j := fun j => by
    rw [gL_append]
    rcases Nat.lt_trichotomy j l.length with h | h | h
    · rw [if_pos h, if_neg (by omega)]
    · rw [if_neg (by omega), if_pos h, h, Nat.sub_self]; rfl
    · rw [if_neg (by omega), if_neg (by omega), gL_hi (by simp; omega), gL_hi (by omega)]
  have hb : ∀ j, b01 (gL (l ++ [b]) j) = b01 (gL l j) + if j = l.length then b01 b else 0 := fun j => by
    rw [hg]
    by_cases h : j = l.length
    · rw [if_pos h, if_pos h, h, gL_hi (Nat.le_refl _)]; simp [b01]
    · rw [if_neg h, if_neg h]; rfl
  unfold pkB
  simp only [hb]
  by_cases h : i = l.length / 8
  · rw [if_pos h]
    obtain ⟨r, hr, hr8⟩ : ∃ r, l.length % 8 = r ∧ r < 8 := ⟨_, rfl, Nat.mod_lt _ (by decide)⟩
    have hn : l.length = 8 * i + r := by omega
    rw [hr, hn]
    rcases r with _ | _ | _ | _ | _ | _ | _ | _ | r
    all_goals first | (simp; omega) | omega
  · rw [if_neg h]
    rw [if_neg (by omega), if_neg (by omega), if_neg (by omega), if_neg (by omega), if_neg (by omega), if_neg (by omega), if_neg (by omega), if_neg (by omega)]
    rfl
def valB (g : Nat → Bool) (i : Nat) : Nat → Nat
  | 0 => 0
  | c + 1 => 2 * valB g i c + b01 (g (i + c))
theorem valB_lt (g : Nat → Bool) (i : Nat) : ∀ c, valB g i c < 2 ^ c
  | 0 => by simp [valB]
  | c + 1 => by
    have h1 := valB_lt g i c
    have h2 := b01_le (g (i + c))
    rw [valB, Nat.pow_succ]; omega
theorem valB_fld {g : Nat → Bool} {i n c : Nat} (hn : n < 2 ^ c) (h : ∀ j, j < c → g (i + j) = n.testBit (c - 1 - j)) : valB g i c = n := by
  have key : ∀ k, k ≤ c → valB g i k = n / 2 ^ (c - k) := by
    intro k
    induction k with
    | zero => intro _; rw [valB, Nat.sub_zero, Nat.div_eq_of_lt hn]
    | succ k ih =>
      intro hk
      rw [valB, ih (by omega), h k (by omega)]
      have e : c - k = (c - (k + 1)) + 1 := by omega
      have e2 : c - 1 - k = c - (k + 1) := by omega
      rw [e, e2, Nat.pow_succ, ← Nat.div_div_eq_div_mul, Nat.testBit_eq_decide_div_mod_eq]
      obtain ⟨m, hm⟩ : ∃ m, m = n / 2 ^ (c - (k + 1)) := ⟨_, rfl⟩
      rw [← hm]
      by_cases hb : m % 2 = 1
      · rw [decide_eq_true hb]; show 2 * (m / 2) + 1 = m; omega
      · rw [decide_eq_false hb]; show 2 * (m / 2) + 0 = m; omega
  have := key c (Nat.le_refl _)
  rwa [Nat.sub_self, Nat.pow_zero, Nat.div_one] at this
def rdB (g : Nat → Bool) (N i c : Nat) : Except Int Nat := if N < i + c then .error 9 else .ok (valB g i c)
def zB (g : Nat → Bool) (N i : Nat) : Nat := if h : i < N ∧ g i = false then zB g N (i + 1) + 1 else 0
  termination_by N - i
  decreasing_by omega
def rdG (g : Nat → Bool) (N i : Nat) : Except Int (Nat × Nat) :=
  if N ≤ i + zB g N i then .error 9 else if 30 < zB g N i then .error 2 else match rdB g N (i + zB g N i) (zB g N i + 1) with
  | .ok n => .ok (n, i + 2 * zB g N i + 1)
  | .error e => .error e
def rdM (g : Nat → Bool) (N i most : Nat) : Except Int (Nat × Nat) := match rdG g N i with
  | .ok (n, j) => if most < n then .error 2 else .ok (n, j)
  | .error e => .error e
def rdT (g : Nat → Bool) (N i : Nat) : Except Int (Tok × Nat) := match rdB g N i 1 with
  | .error e => .error e
  | .ok 0 => match rdB g N (i + 1) 8 with
    | .ok n => .ok (⟨0, 0, UInt8.ofNat n⟩, i + 9)
    | .error e => .error e
  | .ok (_ + 1) => match rdM g N (i + 1) 254 with
    | .error e => .error e
    | .ok (n, j) => match rdM g N j 4096 with
      | .error e => .error e
      | .ok (d, k) => .ok (⟨n + 1, d, 0⟩, k)
def endB (g : Nat → Bool) (N i : Nat) : Bool := decide (N ≤ i + 7 ∧ valB g i (N - i) = 0)
def decF (g : Nat → Bool) (N i n : Nat) : Except Int (List Tok) :=
  if endB g N i = true then .ok [] else match rdT g N i with
  | .error e => .error e
  | .ok (t, j) => if chkT t n = 0 then (if h : i < j ∧ j ≤ N then (decF g N j (n + tsz t)).map fun r => t :: r else .ok []) else .error (chkT t n)
  termination_by N - i
  decreasing_by omega
theorem rdB_le {g : Nat → Bool} {N i c n : Nat} (h : rdB g N i c = .ok n) : i + c ≤ N ∧ n = valB g i c := by
  unfold rdB at h
  split at h
  · cases h
  · injection h with h; exact ⟨by omega, h.symm⟩
theorem rdG_le {g : Nat → Bool} {N i n j : Nat} (h : rdG g N i = .ok (n, j)) : i < j ∧ j ≤ N := by
  unfold rdG at h
  split at h
  · cases h
  · split at h
    · cases h
    · split at h
      · rename_i hr
        have := (rdB_le hr).1
        injection h with h
        injection h with h1 h2
        omega
      · cases h
theorem rdM_le {g : Nat → Bool} {N i most n j : Nat} (h : rdM g N i most = .ok (n, j)) : i < j ∧ j ≤ N ∧ n ≤ most := by
  unfold rdM at h
  split at h
  · rename_i hr
    have := rdG_le hr
    split at h
    · cases h
    · injection h with h
      injection h with h1 h2
      subst h1 h2
      exact ⟨this.1, this.2, by omega⟩
  · cases h
theorem rdT_le {g : Nat → Bool} {N i j : Nat} {t : Tok} (h : rdT g N i = .ok (t, j)) : i < j ∧ j ≤ N := by
  unfold rdT at h
  split at h
  · cases h
  · split at h
    · rename_i hr
      have := (rdB_le hr).1
      injection h with h
      injection h with h1 h2
      omega
    · cases h
  · split at h
    · cases h
    · rename_i hr
      have h3 := rdM_le hr
      split at h
      · cases h
      · rename_i hr2
        have h4 := rdM_le hr2
        injection h with h
        injection h with h1 h2
        omega
theorem decF_end {g : Nat → Bool} {N i n : Nat} (h : endB g N i = true) : decF g N i n = .ok [] := by rw [decF, if_pos h]
theorem decF_err {g : Nat → Bool} {N i n : Nat} {e : Int} (h : endB g N i = false) (he : rdT g N i = .error e) : decF g N i n = .error e := by rw [decF, if_neg (by rw [h]; decide), he]
theorem decF_bad {g : Nat → Bool} {N i n j : Nat} {t : Tok} (h : endB g N i = false) (he : rdT g N i = .ok (t, j)) (hc : chkT t n ≠ 0) : decF g N i n = .error (chkT t n) := by
  rw [decF, if_neg (by rw [h]; decide), he]
  exact if_neg hc
theorem decF_more {g : Nat → Bool} {N i n j : Nat} {t : Tok} (h : endB g N i = false) (he : rdT g N i = .ok (t, j)) (hc : chkT t n = 0) : decF g N i n = (decF g N j (n + tsz t)).map fun r => t :: r := by
  rw [decF, if_neg (by rw [h]; decide), he]
  show (if chkT t n = 0 then _ else _) = _
  rw [if_pos hc, dif_pos (rdT_le he)]
theorem rdB_fld {g : Nat → Bool} {N i n c : Nat} (hN : i + c ≤ N) (hn : n < 2 ^ c) (h : ∀ j, j < c → g (i + j) = gL (fldB n c) j) : rdB g N i c = .ok n := by
  unfold rdB
  rw [if_neg (by omega), valB_fld hn fun j hj => ?_]
  rw [h j hj]
  unfold gL fldB
  simp [List.getD, hj]
theorem gL_fld {n c j : Nat} (hj : j < c) : gL (fldB n c) j = n.testBit (c - 1 - j) := by
  unfold gL fldB
  simp [List.getD, hj]
theorem nb_bits : ∀ n : Nat, 0 < n → 2 ^ (nb n - 1) ≤ n ∧ n < 2 ^ nb n := by
  intro n
  induction n using Nat.strongRecOn with
  | _ n ih =>
    intro h
    rw [nb, dif_neg (by omega)]
    by_cases h1 : n = 1
    · subst h1
      rw [show (1 : Nat) / 2 = 0 from rfl, nb, dif_pos rfl]
      decide
    · obtain ⟨h2, h3⟩ := ih (n / 2) (by omega) (by omega)
      have h4 := nb_pos (n := n / 2) (by omega)
      obtain ⟨m, hm⟩ : ∃ m, nb (n / 2) = m + 1 := ⟨nb (n / 2) - 1, by omega⟩
      rw [hm] at h2 h3 ⊢
      rw [Nat.add_sub_cancel] at h2 ⊢
      rw [Nat.pow_succ] at h3 ⊢
      constructor <;> omega
theorem zB_run {g : Nat → Bool} {N : Nat} : ∀ (k i : Nat), i + k < N → (∀ j, j < k → g (i + j) = false) → g (i + k) = true → zB g N i = k
  | 0, i, h, _, h2 => by rw [zB, dif_neg (by rintro ⟨-, h3⟩; rw [Nat.add_zero] at h2; rw [h2] at h3; cases h3)]
  | k + 1, i, h, h1, h2 => by
    have := h1 0 (by omega)
    rw [Nat.add_zero] at this
    rw [zB, dif_pos ⟨by omega, this⟩, zB_run k (i + 1) (by omega) (fun j hj => by have := h1 (j + 1) (by omega); rwa [show i + (j + 1) = i + 1 + j by omega] at this) (by rwa [show i + 1 + k = i + (k + 1) by omega])]
theorem rdG_gam {g : Nat → Bool} {N i n : Nat} (hn : 0 < n) (hb : n < 2 ^ 31) (hN : i + (2 * nb n - 1) ≤ N) (h : ∀ j, j < 2 * nb n - 1 → g (i + j) = gL (gamB n) j) : rdG g N i = .ok (n, i + (2 * nb n - 1)) := by
  obtain ⟨h1, h2⟩ := nb_bits n hn
  have h3 := nb_pos hn
  have h4 := nb_lt 31 n hb
  obtain ⟨m, hm⟩ : ∃ m, nb n = m + 1 := ⟨nb n - 1, by omega⟩
  have hg : ∀ j, j < 2 * nb n - 1 → g (i + j) = n.testBit (2 * nb n - 1 - 1 - j) := fun j hj => by rw [h j hj]; exact gL_fld hj
  rw [hm] at hg h2 hN h4 ⊢
  rw [hm, Nat.add_sub_cancel] at h1
  have hz : zB g N i = m := by
    refine zB_run m i (by omega) (fun j hj => ?_) ?_
    · rw [hg j (by omega)]
      refine Nat.testBit_lt_two_pow (Nat.lt_of_lt_of_le h2 (Nat.pow_le_pow_right (by decide) (by omega)))
    · rw [hg m (by omega), show 2 * (m + 1) - 1 - 1 - m = m by omega, Nat.testBit_eq_decide_div_mod_eq]
      have e : n / 2 ^ m = 1 := by
        rw [Nat.pow_succ] at h2
        exact Nat.div_eq_of_lt_le (by omega) (by omega)
      rw [e]; rfl
  have hr : rdB g N (i + m) (m + 1) = .ok n := by
    unfold rdB
    rw [if_neg (by omega), valB_fld h2 fun j hj => ?_]
    rw [Nat.add_assoc, hg (m + j) (by omega)]
    congr 1
    omega
  unfold rdG
  rw [hz, if_neg (by omega), if_neg (by omega), hr]
  show Except.ok (n, i + 2 * m + 1) = _
  rw [show i + 2 * m + 1 = i + (2 * (m + 1) - 1) by omega]
theorem tokB_length {t : Tok} : (tokB t).length = if t.len = 0 then 9 else 1 + (2 * nb (t.len - 1) - 1) + (2 * nb t.dst - 1) := by
  unfold tokB gamB
  split
  · exact fldB_length _ _
  · rw [List.length_append, List.length_append, fldB_length, fldB_length, fldB_length]
theorem rdT_tok {g : Nat → Bool} {N i : Nat} {t : Tok} (hr : rightT t = true) (hN : i + (tokB t).length ≤ N) (h : ∀ j, j < (tokB t).length → g (i + j) = gL (tokB t) j) : rdT g N i = .ok (t, i + (tokB t).length) := by
  have hl := tokB_length (t := t)
  by_cases h0 : t.len = 0
  · simp only [rightT, if_pos h0, decide_eq_true_eq] at hr
    rw [if_pos h0] at hl
    have hb : t.byt.toNat < 2 ^ 8 := t.byt.toNat_lt
    have hg : ∀ j, j < 9 → g (i + j) = t.byt.toNat.testBit (8 - j) := fun j hj => by
      rw [h j (by omega)]
      unfold tokB
      rw [if_pos h0, gL_fld hj]
    have e0 : rdB g N i 1 = .ok 0 := by
      unfold rdB
      rw [if_neg (by omega), valB_fld (n := 0) (by decide) fun j hj => ?_]
      obtain rfl : j = 0 := by omega
      rw [hg 0 (by omega), Nat.zero_testBit]
      exact Nat.testBit_lt_two_pow hb
    have e1 : rdB g N (i + 1) 8 = .ok t.byt.toNat := by
      unfold rdB
      rw [if_neg (by omega), valB_fld hb fun j hj => ?_]
      rw [Nat.add_assoc, hg (1 + j) (by omega)]
      congr 1
      omega
    unfold rdT
    rw [e0]
    show (match rdB g N (i + 1) 8 with | .ok n => Except.ok ((⟨0, 0, UInt8.ofNat n⟩ : Tok), i + 9) | .error e => .error e) = _
    rw [e1, hl]
    show Except.ok ((⟨0, 0, UInt8.ofNat t.byt.toNat⟩ : Tok), i + 9) = _
    rw [UInt8.ofNat_toNat]
    obtain ⟨a, b, c⟩ := t
    simp only at h0 hr
    subst h0 hr
    rfl
  · simp only [rightT, if_neg h0, decide_eq_true_eq] at hr
    obtain ⟨r1, r2, r3, r4, r5⟩ := hr
    rw [if_neg h0] at hl
    have ht : tokB t = fldB 1 1 ++ (gamB (t.len - 1) ++ gamB t.dst) := by unfold tokB; rw [if_neg h0, List.append_assoc]
    have hA : (gamB (t.len - 1)).length = 2 * nb (t.len - 1) - 1 := fldB_length _ _
    have hf : (fldB 1 1).length = 1 := fldB_length _ _
    have e0 : rdB g N i 1 = .ok 1 := by
      refine rdB_fld (by omega) (by decide) fun j hj => ?_
      rw [h j (by omega), ht, gL_append, if_pos (by omega)]
    have p1 := nb_pos (n := t.len - 1) (by omega)
    have p2 := nb_pos (n := t.dst) (by omega)
    have e1 : rdG g N (i + 1) = .ok (t.len - 1, i + 1 + (2 * nb (t.len - 1) - 1)) := by
      refine rdG_gam (by omega) (by omega) (by omega) fun j hj => ?_
      rw [Nat.add_assoc, h (1 + j) (by omega), ht, gL_append, if_neg (by omega), hf, Nat.add_sub_cancel_left, gL_append, if_pos (by omega)]
    have e2 : rdG g N (i + 1 + (2 * nb (t.len - 1) - 1)) = .ok (t.dst, i + 1 + (2 * nb (t.len - 1) - 1) + (2 * nb t.dst - 1)) := by
      refine rdG_gam (by omega) (by omega) (by omega) fun j hj => ?_
      rw [show i + 1 + (2 * nb (t.len - 1) - 1) + j = i + (1 + (2 * nb (t.len - 1) - 1) + j) by omega, h _ (by omega), ht, gL_append, if_neg (by omega), hf, gL_append, if_neg (by omega), hA]
      congr 1
      omega
    have m1 : rdM g N (i + 1) 254 = .ok (t.len - 1, i + 1 + (2 * nb (t.len - 1) - 1)) := by unfold rdM; rw [e1]; exact if_neg (by omega)
    have m2 : rdM g N (i + 1 + (2 * nb (t.len - 1) - 1)) 4096 = .ok (t.dst, i + 1 + (2 * nb (t.len - 1) - 1) + (2 * nb t.dst - 1)) := by unfold rdM; rw [e2]; exact if_neg (by omega)
    unfold rdT
    rw [e0]
    show (match rdM g N (i + 1) 254 with | .error e => Except.error e | .ok (n, j) => match rdM g N j 4096 with | .error e => .error e | .ok (d, k) => .ok ((⟨n + 1, d, 0⟩ : Tok), k)) = _
    rw [m1]
    show (match rdM g N (i + 1 + (2 * nb (t.len - 1) - 1)) 4096 with | .error e => Except.error e | .ok (d, k) => .ok ((⟨t.len - 1 + 1, d, 0⟩ : Tok), k)) = _
    rw [m2, hl]
    show Except.ok ((⟨t.len - 1 + 1, t.dst, 0⟩ : Tok), _) = _
    obtain ⟨a, b, c⟩ := t
    simp only at h0 r1 ⊢
    rw [show a - 1 + 1 = a by omega, r1, show i + 1 + (2 * nb (a - 1) - 1) + (2 * nb b - 1) = i + (1 + (2 * nb (a - 1) - 1) + (2 * nb b - 1)) by omega]
theorem valB_pos {g : Nat → Bool} {i : Nat} : ∀ (c : Nat), 0 < c → g i = true → valB g i c ≠ 0
  | 0, h, _ => absurd h (Nat.lt_irrefl _)
  | 1, _, h => by rw [valB, valB, Nat.add_zero, h]; decide
  | c + 2, _, h => by
    have := valB_pos (c + 1) (by omega) h
    rw [valB]; omega
theorem dec_back (N : Nat) (g : Nat → Bool) : ∀ (l : List Tok) (i n : Nat), chkF l n = 0 → i + (bitsL l).length ≤ N → N ≤ i + (bitsL l).length + 7 → (∀ j, i + j < N → g (i + j) = gL (bitsL l) j) → decF g N i n = .ok l
  | [], i, n, _, h1, h2, hg => by
    refine decF_end (decide_eq_true ⟨by simpa [bitsL] using h2, ?_⟩)
    have key : ∀ c, i + c ≤ N → valB g i c = 0 := by
      intro c
      induction c with
      | zero => intro _; rfl
      | succ c ih =>
        intro hc
        rw [valB, ih (by omega), hg c (by omega)]
        rfl
    exact key (N - i) (by simp [bitsL] at h1; omega)
  | t :: r, i, n, hc, h1, h2, hg => by
    rw [chkF] at hc
    split at hc
    · rename_i hct
      have hr : rightT t = true := by
        cases hq : rightT t with
        | true => rfl
        | false => unfold chkT at hct; rw [hq, if_pos rfl] at hct; cases hct
      rw [bitsL, List.length_append] at h1 h2
      have hT := rdT_tok (g := g) (N := N) (i := i) hr (by omega) fun j hj => by
        rw [hg j (by omega), bitsL, gL_append, if_pos hj]
      have hlen := tokB_length (t := t)
      have hE : endB g N i = false := by
        refine decide_eq_false ?_
        rintro ⟨e1, e2⟩
        by_cases h0 : t.len = 0
        · rw [if_pos h0] at hlen; omega
        · rw [if_neg h0] at hlen
          refine valB_pos (N - i) (by omega) ?_ e2
          have := hg 0 (by omega)
          rw [Nat.add_zero] at this
          rw [this, bitsL, gL_append, if_pos (by omega)]
          unfold tokB
          rw [if_neg h0, List.append_assoc, gL_append, if_pos (by rw [fldB_length]; omega)]
          rfl
      rw [decF_more hE hT hct, dec_back N g r (i + (tokB t).length) (n + tsz t) hc (by omega) (by omega) fun j hj => ?_]
      · rfl
      · rw [Nat.add_assoc, hg _ (by omega), bitsL, gL_append, if_neg (by omega), Nat.add_sub_cancel_left]
    · exact absurd hc (by assumption)
def sumP (l : List Tok) : Int := (l.map priT).sum
def encT (l : List Tok) : List UInt8 × Int := if chkL l = 0 then (if 524288 < sumP l then ([], 5) else (pack (bitsL l), 0)) else ([], chkL l)
def decT (bs : List UInt8) : Except Int (List Tok) := if 65536 < bs.length then .error 5 else decF (bitD bs) (8 * bs.length) 0 0
def lzF (bs : List UInt8) : List UInt8 × Int := if 65536 < bs.length then ([], 5) else encT (optL bs)
def lzI (bs : List UInt8) : List UInt8 × Int := match decT bs with | .ok l => expandT l | .error e => ([], e)
theorem chkF_right : ∀ (l : List Tok) (n : Nat), chkF l n = 0 → ∀ t ∈ l, rightT t = true
  | [], _, _, t, ht => by cases ht
  | s :: r, n, h, t, ht => by
    rw [chkF] at h
    split at h
    · rename_i hct
      rw [List.mem_cons] at ht
      rcases ht with rfl | ht
      · cases hq : rightT t with
        | true => rfl
        | false => unfold chkT at hct; rw [hq, if_pos rfl] at hct; cases hct
      · exact chkF_right r _ h t ht
    · exact absurd h (by assumption)
theorem tokB_price {t : Tok} (h : rightT t = true) : ((tokB t).length : Int) = priT t := by
  rw [tokB_length]
  have hp : priT t = if t.len = 0 then 9 else 1 + gmB (t.len - 1) + gmB t.dst := by unfold priT; rw [h]; rfl
  rw [hp]
  by_cases h0 : t.len = 0
  · rw [if_pos h0, if_pos h0]; rfl
  · rw [if_neg h0, if_neg h0]
    simp only [rightT, if_neg h0, decide_eq_true_eq] at h
    have p1 := nb_pos (n := t.len - 1) (by omega)
    have p2 := nb_pos (n := t.dst) (by omega)
    unfold gmB
    omega
theorem bits_price : ∀ (l : List Tok), (∀ t ∈ l, rightT t = true) → ((bitsL l).length : Int) = sumP l
  | [], _ => rfl
  | t :: r, h => by
    have h1 := bits_price r fun s hs => h s (List.mem_cons_of_mem _ hs)
    have h2 := tokB_price (h t (List.mem_cons_self ..))
    unfold sumP at h1 ⊢
    rw [bitsL, List.length_append, List.map_cons, List.sum_cons, ← h1, ← h2]
    rfl
theorem lz_back {bs : List UInt8} (h : (lzF bs).2 = 0) : lzI (lzF bs).1 = (bs, 0) := by
  unfold lzF at h ⊢
  by_cases h1 : 65536 < bs.length
  · rw [if_pos h1] at h; cases h
  · rw [if_neg h1] at h ⊢
    have hck := opt_check (bs := bs) (by omega)
    unfold encT at h ⊢
    rw [if_pos hck] at h ⊢
    by_cases h2 : 524288 < sumP (optL bs)
    · rw [if_pos h2] at h; cases h
    · rw [if_neg h2]
      have hcF : chkF (optL bs) 0 = 0 := (optF_check (by omega) _ 0 rfl).1
      have hb := bits_price (optL bs) (chkF_right _ _ hcF)
      have hpl := pack_length (bitsL (optL bs))
      have hd : decT (pack (bitsL (optL bs))) = .ok (optL bs) := by
        unfold decT
        rw [if_neg (by omega)]
        exact dec_back _ _ _ 0 0 hcF (by omega) (by omega) fun j _ => by rw [Nat.zero_add]; exact bitD_pack _ _
      unfold lzI
      show (match decT (pack (bitsL (optL bs))) with | .ok l => expandT l | .error e => ([], e)) = _
      rw [hd]
      exact opt_back (by omega)
end Go.Proofs.YtckkmafppfcecaaGreatDoor
namespace Go.Proofs.YtckkmafppfcecaaGreatDoor.Bwt
set_option linter.unusedVariables false
def permErrL (n : Nat) : List Int → List Int → Int
  | _, [] => 0
  | seen, z :: zs => if z < 0 ∨ (n : Int) ≤ z then 2 else if z ∈ seen then 8 else permErrL n (seen ++ [z]) zs
def permErr (zs : List Int) : Int := permErrL zs.length [] zs
theorem gi_get {zs : List Int} {k : Nat} (hk : k < zs.length) : gi zs k = zs[k] := by simp [gi, List.getD, hk]
theorem permErrL_zero (n : Nat) : ∀ zs seen, permErrL n seen zs = 0 → (∀ z ∈ zs, 0 ≤ z ∧ z < n) ∧ zs.Nodup ∧ ∀ z ∈ zs, z ∉ seen
  | [], _, _ => ⟨fun z hz => absurd hz (by simp), List.nodup_nil, fun z hz => absurd hz (by simp)⟩
  | z :: zs, seen, h => by
    rw [permErrL] at h
    by_cases h1 : z < 0 ∨ (n : Int) ≤ z
    · rw [if_pos h1] at h; omega
    · rw [if_neg h1] at h
      by_cases h2 : z ∈ seen
      · rw [if_pos h2] at h; omega
      · rw [if_neg h2] at h
        obtain ⟨g1, g2, g3⟩ := permErrL_zero n zs _ h
        refine ⟨fun y hy => ?_, List.nodup_cons.2 ⟨fun hz => g3 z hz (by simp), g2⟩, fun y hy => ?_⟩
        · rcases List.mem_cons.1 hy with rfl | hy
          · omega
          · exact g1 y hy
        · rcases List.mem_cons.1 hy with rfl | hy
          · exact h2
          · exact fun hs => g3 y hy (by simp [hs])
theorem permErrL_ok (n : Nat) : ∀ (zs seen : List Int), (∀ z ∈ zs, 0 ≤ z ∧ z < n) → zs.Nodup → (∀ z ∈ zs, z ∉ seen) → permErrL n seen zs = 0
  | [], _, _, _, _ => rfl
  | z :: zs, seen, h1, h2, h3 => by
    rw [permErrL, if_neg (by have := h1 z (by simp); omega), if_neg (h3 z (by simp))]
    have h2' := List.nodup_cons.1 h2
    refine permErrL_ok n zs (seen ++ [z]) (fun y hy => h1 y (by simp [hy])) h2'.2 (fun y hy hs => ?_)
    rcases List.mem_append.1 hs with hs | hs
    · exact h3 y (by simp [hy]) hs
    · simp at hs; subst hs; exact h2'.1 hy
theorem permErr_zero_iff (zs : List Int) : permErr zs = 0 ↔ (∀ z ∈ zs, 0 ≤ z ∧ z < zs.length) ∧ zs.Nodup :=
  ⟨fun h => let ⟨a, b, _⟩ := permErrL_zero _ _ _ h; ⟨a, b⟩, fun ⟨a, b⟩ => permErrL_ok _ _ _ a b (fun _ _ h => by simp at h)⟩
theorem nodup_le : ∀ (n : Nat) (l : List Nat), l.Nodup → (∀ x ∈ l, x < n) → l.length ≤ n
  | 0, l, _, h => by
    cases l with
    | nil => simp
    | cons x xs => have := h x (by simp); omega
  | n + 1, l, hd, h => by
    by_cases hm : n ∈ l
    · have h1 := nodup_le n (l.erase n) (hd.sublist List.erase_sublist) (fun x hx => by
        have h2 := (hd.mem_erase_iff).1 hx
        have := h x h2.2
        have := h2.1
        omega)
      rw [List.length_erase_of_mem hm] at h1
      omega
    · have := nodup_le n l hd (fun x hx => by
        have := h x hx
        have : x ≠ n := fun e => hm (e ▸ hx)
        omega)
      omega
theorem perm_all_mem {zs : List Int} (h : permErr zs = 0) {j : Nat} (hj : j < zs.length) : (j : Int) ∈ zs := by
  obtain ⟨h1, h2⟩ := (permErr_zero_iff zs).1 h
  have hsub : (zs.map Int.toNat).Nodup := by
    rw [List.nodup_iff_pairwise_ne, List.pairwise_map]
    refine List.Pairwise.imp_of_mem ?_ (List.nodup_iff_pairwise_ne.1 h2)
    intro a b ha hb hab e
    have := h1 a ha; have := h1 b hb
    omega
  have hle : ∀ x ∈ zs.map Int.toNat, x < zs.length := by
    intro x hx
    obtain ⟨z, hz, rfl⟩ := List.mem_map.1 hx
    have := h1 z hz
    omega
  have hm : j ∈ zs.map Int.toNat := by
    rcases Classical.em (j ∈ zs.map Int.toNat) with hm | hm
    · exact hm
    · have := nodup_le zs.length (j :: zs.map Int.toNat) (List.nodup_cons.2 ⟨hm, hsub⟩) (fun x hx => by
        rcases List.mem_cons.1 hx with rfl | hx
        · exact hj
        · exact hle x hx)
      simp at this
      omega
  obtain ⟨z, hz, e⟩ := List.mem_map.1 hm
  have := h1 z hz
  have : z = (j : Int) := by omega
  exact this ▸ hz
def sfx (bs : List UInt8) (z : Int) : List UInt8 := bs.drop z.toNat
def less (x y : List UInt8) : Bool := Op.bytesLess x y
def ahead (f : Int → Bool) (zs : List Int) : Nat := (zs.takeWhile f).length
def begins (pat : List UInt8) (x : List UInt8) : Bool := decide (x.take pat.length = pat)
def insAt (bs : List UInt8) (l : List Int) (p : Int) : Nat := ahead (fun z => less (sfx bs z) (sfx bs p)) l
def insP (bs : List UInt8) (l : List Int) (p : Int) : List Int := l.take (insAt bs l p) ++ [p] ++ l.drop (insAt bs l p)
def sortTo (bs : List UInt8) : Nat → List Int
  | 0 => []
  | k + 1 => insP bs (sortTo bs k) ((bs.length - k : Nat) : Int)
def sortL (bs : List UInt8) : List Int := sortTo bs (bs.length + 1)
theorem insAt_le (bs : List UInt8) (l : List Int) (p : Int) : insAt bs l p ≤ l.length := by
  unfold insAt ahead
  exact (List.takeWhile_sublist _).length_le
theorem insP_length (bs : List UInt8) (l : List Int) (p : Int) : (insP bs l p).length = l.length + 1 := by
  have := insAt_le bs l p
  unfold insP
  simp
  omega
theorem sortTo_length (bs : List UInt8) : ∀ k, (sortTo bs k).length = k
  | 0 => rfl
  | k + 1 => by rw [sortTo, insP_length, sortTo_length bs k]
theorem mem_insP {bs : List UInt8} {l : List Int} {p z : Int} (h : z ∈ insP bs l p) : z = p ∨ z ∈ l := by
  unfold insP at h
  simp only [List.mem_append, List.mem_singleton] at h
  rcases h with (h | h) | h
  · exact .inr (List.mem_of_mem_take h)
  · exact .inl h
  · exact .inr (List.mem_of_mem_drop h)
theorem sortTo_range (bs : List UInt8) : ∀ k, ∀ z ∈ sortTo bs k, 0 ≤ z ∧ z ≤ bs.length
  | 0, z, h => by simp [sortTo] at h
  | k + 1, z, h => by
    rcases mem_insP h with rfl | h
    · omega
    · exact sortTo_range bs k z h
theorem gi_mem {zs : List Int} {k : Nat} (hk : k < zs.length) : gi zs k ∈ zs := by rw [gi_get hk]; exact List.getElem_mem hk
end Go.Proofs.YtckkmafppfcecaaGreatDoor.Bwt
namespace Go.Proofs.YtckkmafppfcecaaGreatDoor
open Go.RowKit Go.Proofs
set_option linter.unusedVariables false
set_option linter.unusedSimpArgs false
def mov (l : List UInt8) (k : Nat) : List UInt8 := bA l k :: (l.take k ++ l.drop (k + 1))
def lst0 : List UInt8 := (List.range 256).map UInt8.ofNat
def plc (l : List UInt8) (b : UInt8) : Nat := l.idxOf b
def recF (l : List UInt8) : List UInt8 → List UInt8
  | [] => []
  | b :: r => UInt8.ofNat (plc l b) :: recF (mov l (plc l b)) r
def recI (l : List UInt8) : List UInt8 → List UInt8
  | [] => []
  | p :: r => bA l p.toNat :: recI (mov l p.toNat) r
def Full (l : List UInt8) : Prop := l.length = 256 ∧ ∀ b : UInt8, b ∈ l
theorem lst0_full : Full lst0 := ⟨by simp [lst0], fun b => by
  unfold lst0
  refine List.mem_map.2 ⟨b.toNat, List.mem_range.2 b.toNat_lt, ?_⟩
  simp⟩
theorem mov_length {l : List UInt8} {k : Nat} (hk : k < l.length) : (mov l k).length = l.length := by unfold mov; simp; omega
theorem mov_mem {l : List UInt8} {k : Nat} (hk : k < l.length) (b : UInt8) : b ∈ mov l k ↔ b ∈ l := by
  have h : l = l.take k ++ bA l k :: l.drop (k + 1) := by
    have e : bA l k = l[k] := by unfold bA; rw [List.getD_eq_getElem?_getD, List.getElem?_eq_getElem hk]; rfl
    rw [e, ← List.drop_eq_getElem_cons hk, List.take_append_drop]
  unfold mov
  constructor
  · intro hb
    rw [h]
    simp only [List.mem_cons, List.mem_append] at hb ⊢
    rcases hb with h1 | h1 | h1
    · exact .inr (.inl h1)
    · exact .inl h1
    · exact .inr (.inr h1)
  · intro hb
    rw [h] at hb
    simp only [List.mem_cons, List.mem_append] at hb ⊢
    rcases hb with h1 | h1 | h1
    · exact .inr (.inl h1)
    · exact .inl h1
    · exact .inr (.inr h1)
theorem Full.mov {l : List UInt8} (h : Full l) {k : Nat} (hk : k < 256) : Full (mov l k) :=
  ⟨by rw [mov_length (by rw [h.1]; exact hk), h.1], fun b => (mov_mem (by rw [h.1]; exact hk) b).2 (h.2 b)⟩
theorem plc_lt {l : List UInt8} (h : Full l) (b : UInt8) : plc l b < 256 := by rw [← h.1]; exact List.idxOf_lt_length_of_mem (h.2 b)
theorem plc_at {l : List UInt8} (h : Full l) (b : UInt8) : bA l (plc l b) = b := by
  have hl : plc l b < l.length := List.idxOf_lt_length_of_mem (h.2 b)
  unfold bA
  rw [List.getD_eq_getElem?_getD, List.getElem?_eq_getElem hl]
  exact List.getElem_idxOf hl
theorem rec_back : ∀ (bs : List UInt8) (l : List UInt8), Full l → recI l (recF l bs) = bs
  | [], _, _ => rfl
  | b :: r, l, h => by
    have hlt := plc_lt h b
    have e : (UInt8.ofNat (plc l b)).toNat = plc l b := by rw [UInt8.toNat_ofNat']; omega
    rw [recF, recI, e, plc_at h b, rec_back r _ (h.mov hlt)]
theorem recF_length : ∀ (bs l : List UInt8), (recF l bs).length = bs.length
  | [], _ => rfl
  | b :: r, l => by rw [recF, List.length_cons, recF_length r, List.length_cons]
theorem recI_length : ∀ (bs l : List UInt8), (recI l bs).length = bs.length
  | [], _ => rfl
  | b :: r, l => by rw [recI, List.length_cons, recI_length r, List.length_cons]
def digR (n : Nat) : List UInt8 := if h : n = 0 then [] else if n % 2 = 1 then 0 :: digR ((n - 1) / 2) else 1 :: digR ((n - 2) / 2)
  termination_by n
  decreasing_by all_goals omega
def valR : List UInt8 → Nat
  | [] => 0
  | b :: r => (b.toNat + 1) + 2 * valR r
theorem valR_dig : ∀ n : Nat, valR (digR n) = n := by
  intro n
  induction n using Nat.strongRecOn with
  | _ n ih =>
    rw [digR]
    by_cases h : n = 0
    · rw [dif_pos h, h]; rfl
    · rw [dif_neg h]
      by_cases h1 : n % 2 = 1
      · rw [if_pos h1, valR, ih _ (by omega)]
        show (0 + 1) + 2 * ((n - 1) / 2) = n
        omega
      · rw [if_neg h1, valR, ih _ (by omega)]
        show (1 + 1) + 2 * ((n - 2) / 2) = n
        omega
theorem digR_small : ∀ n : Nat, ∀ b ∈ digR n, b.toNat < 2 := by
  intro n
  induction n using Nat.strongRecOn with
  | _ n ih =>
    intro b hb
    rw [digR] at hb
    by_cases h : n = 0
    · rw [dif_pos h] at hb; cases hb
    · rw [dif_neg h] at hb
      by_cases h1 : n % 2 = 1
      · rw [if_pos h1, List.mem_cons] at hb
        rcases hb with rfl | hb
        · decide
        · exact ih _ (by omega) b hb
      · rw [if_neg h1, List.mem_cons] at hb
        rcases hb with rfl | hb
        · decide
        · exact ih _ (by omega) b hb
def zrs : List UInt8 → Nat
  | [] => 0
  | b :: r => if b = 0 then zrs r + 1 else 0
theorem zrs_le : ∀ l : List UInt8, zrs l ≤ l.length
  | [] => Nat.le_refl _
  | b :: r => by
    have := zrs_le r
    rw [zrs, List.length_cons]
    split <;> omega
def oneR (b : UInt8) : List UInt8 := if 254 ≤ b.toNat then [255, b - 254] else [b + 1]
def runF (bs : List UInt8) (i : Nat) : List UInt8 :=
  if h : i < bs.length then (if 0 < zrs (bs.drop i) then digR (zrs (bs.drop i)) ++ runF bs (i + max 1 (zrs (bs.drop i))) else oneR (bA bs i) ++ runF bs (i + 1)) else []
  termination_by bs.length - i
  decreasing_by all_goals omega
def runsL (bs : List UInt8) : List UInt8 := runF bs 0
def runsP (bs : List UInt8) : List UInt8 × Int := if 65536 < bs.length then ([], 5) else if 65536 < (runsL bs).length then ([], 5) else (runsL bs, 0)
def dgs : List UInt8 → Nat
  | [] => 0
  | b :: r => if b.toNat < 2 then dgs r + 1 else 0
theorem dgs_le : ∀ l : List UInt8, dgs l ≤ l.length
  | [] => Nat.le_refl _
  | b :: r => by
    have := dgs_le r
    rw [dgs, List.length_cons]
    split <;> omega
def expR (bs : List UInt8) (i m : Nat) : Except Int (List UInt8) :=
  if h : i < bs.length then
    if hd : (bA bs i).toNat < 2 then
      (if 65536 < m + valR ((bs.drop i).take (dgs (bs.drop i))) then .error 5 else (expR bs (i + max 1 (dgs (bs.drop i))) (m + valR ((bs.drop i).take (dgs (bs.drop i))))).map fun r => List.replicate (valR ((bs.drop i).take (dgs (bs.drop i)))) 0 ++ r)
    else if (bA bs i).toNat < 255 then (if 65536 < m + 1 then .error 5 else (expR bs (i + 1) (m + 1)).map fun r => (bA bs i - 1) :: r)
    else if i + 1 = bs.length then .error 9 else if 1 < (bA bs (i + 1)).toNat then .error 3
    else if 65536 < m + 1 then .error 5 else (expR bs (i + 2) (m + 1)).map fun r => (254 + bA bs (i + 1)) :: r
  else .ok []
  termination_by bs.length - i
  decreasing_by all_goals omega
def expandP (bs : List UInt8) : List UInt8 × Int := if 65536 < bs.length then ([], 5) else match expR bs 0 0 with | .ok r => (r, 0) | .error e => ([], e)
theorem expR_end {bs : List UInt8} {i m : Nat} (h : bs.length ≤ i) : expR bs i m = .ok [] := by rw [expR, dif_neg (by omega)]
theorem expR_dig {bs : List UInt8} {i m : Nat} (h : i < bs.length) (hd : (bA bs i).toNat < 2) : expR bs i m = if 65536 < m + valR ((bs.drop i).take (dgs (bs.drop i))) then .error 5 else (expR bs (i + max 1 (dgs (bs.drop i))) (m + valR ((bs.drop i).take (dgs (bs.drop i))))).map fun r => List.replicate (valR ((bs.drop i).take (dgs (bs.drop i)))) 0 ++ r := by
  rw [expR, dif_pos h, dif_pos hd]
theorem expR_byte {bs : List UInt8} {i m : Nat} (h : i < bs.length) (h1 : ¬ (bA bs i).toNat < 2) (h2 : (bA bs i).toNat < 255) : expR bs i m = if 65536 < m + 1 then .error 5 else (expR bs (i + 1) (m + 1)).map fun r => (bA bs i - 1) :: r := by
  rw [expR, dif_pos h, dif_neg h1, if_pos h2]
theorem expR_torn {bs : List UInt8} {i m : Nat} (h : i + 1 = bs.length) (h2 : ¬ (bA bs i).toNat < 255) : expR bs i m = .error 9 := by
  rw [expR, dif_pos (by omega), dif_neg (by omega), if_neg h2, if_pos h]
theorem expR_form {bs : List UInt8} {i m : Nat} (h : i + 1 < bs.length) (h2 : ¬ (bA bs i).toNat < 255) (h3 : 1 < (bA bs (i + 1)).toNat) : expR bs i m = .error 3 := by
  rw [expR, dif_pos (by omega), dif_neg (by omega), if_neg h2, if_neg (by omega), if_pos h3]
theorem expR_esc {bs : List UInt8} {i m : Nat} (h : i + 1 < bs.length) (h2 : ¬ (bA bs i).toNat < 255) (h3 : ¬ 1 < (bA bs (i + 1)).toNat) : expR bs i m = if 65536 < m + 1 then .error 5 else (expR bs (i + 2) (m + 1)).map fun r => (254 + bA bs (i + 1)) :: r := by
  rw [expR, dif_pos (by omega), dif_neg (by omega), if_neg h2, if_neg (by omega), if_neg h3]
theorem runF_end {bs : List UInt8} {i : Nat} (h : bs.length ≤ i) : runF bs i = [] := by rw [runF, dif_neg (by omega)]
theorem runF_zeros {bs : List UInt8} {i : Nat} (h : i < bs.length) (hz : 0 < zrs (bs.drop i)) : runF bs i = digR (zrs (bs.drop i)) ++ runF bs (i + zrs (bs.drop i)) := by
  rw [runF, dif_pos h, if_pos hz, show max 1 (zrs (bs.drop i)) = zrs (bs.drop i) by omega]
theorem runF_one {bs : List UInt8} {i : Nat} (h : i < bs.length) (hz : zrs (bs.drop i) = 0) : runF bs i = oneR (bA bs i) ++ runF bs (i + 1) := by
  rw [runF, dif_pos h, if_neg (by omega)]
theorem drop_bA {bs : List UInt8} {i : Nat} (h : i < bs.length) : bs.drop i = bA bs i :: bs.drop (i + 1) := by
  rw [List.drop_eq_getElem_cons h]; unfold bA; rw [List.getD_eq_getElem?_getD, List.getElem?_eq_getElem h]; rfl
theorem zrs_split : ∀ l : List UInt8, l = List.replicate (zrs l) 0 ++ l.drop (zrs l) ∧ (∀ b r, l.drop (zrs l) = b :: r → b ≠ 0)
  | [] => ⟨rfl, fun _ _ h => by cases h⟩
  | b :: r => by
    obtain ⟨h1, h2⟩ := zrs_split r
    by_cases h : b = 0
    · subst h
      rw [zrs, if_pos rfl, List.replicate_succ, List.drop_succ_cons, List.cons_append, ← h1]
      exact ⟨rfl, h2⟩
    · rw [zrs, if_neg h]
      exact ⟨rfl, fun c s e => by injection e with e1 e2; rw [← e1]; exact h⟩
theorem dgs_app : ∀ (ds r : List UInt8), (∀ b ∈ ds, b.toNat < 2) → dgs r = 0 → dgs (ds ++ r) = ds.length
  | [], r, _, h => h
  | b :: ds, r, hb, h => by rw [List.cons_append, dgs, if_pos (hb b (List.mem_cons_self ..)), dgs_app ds r (fun c hc => hb c (List.mem_cons_of_mem _ hc)) h]; rfl
theorem digR_ne {n : Nat} (h : 0 < n) : digR n ≠ [] := by
  rw [digR, dif_neg (by omega)]
  split <;> simp
theorem dgs_one {b : UInt8} (hb : b ≠ 0) (r : List UInt8) : dgs (oneR b ++ r) = 0 := by
  have h0 : b.toNat ≠ 0 := fun h => hb (UInt8.toNat_inj.1 h)
  have hlt := b.toNat_lt
  unfold oneR
  split
  · rw [List.cons_append, dgs, if_neg (by decide)]
  · rw [List.cons_append, dgs, if_neg]
    rw [UInt8.toNat_add]
    show ¬ (b.toNat + 1) % 256 < 2
    omega
theorem runF_start {bs : List UInt8} {i : Nat} (h : ∀ b r, bs.drop i = b :: r → b ≠ 0) : dgs (runF bs i) = 0 := by
  by_cases hi : i < bs.length
  · have hd := drop_bA hi
    have hb := h _ _ hd
    rw [runF_one hi (by rw [hd, zrs, if_neg hb]), dgs_one hb]
  · rw [runF_end (by omega)]; rfl
theorem expR_shift : ∀ (d : Nat) (x bs : List UInt8) (i m : Nat), bs.length - i = d → expR (x ++ bs) (x.length + i) m = expR bs i m := by
  intro d
  induction d using Nat.strongRecOn with
  | _ d ih =>
    intro x bs i m hd
    have hA : ∀ j, bA (x ++ bs) (x.length + j) = bA bs j := fun j => by
      unfold bA
      rw [List.getD_eq_getElem?_getD, List.getElem?_append_right (by omega), List.getD_eq_getElem?_getD, Nat.add_sub_cancel_left]
    have hD : (x ++ bs).drop (x.length + i) = bs.drop i := by rw [List.drop_append, List.drop_of_length_le (by omega), Nat.add_sub_cancel_left, List.nil_append]
    by_cases h : i < bs.length
    · by_cases h1 : (bA bs i).toNat < 2
      · rw [expR_dig (by simp; omega) (by rw [hA]; exact h1), expR_dig h h1, hD, Nat.add_assoc, ih _ (by omega) x bs _ _ rfl]
      · by_cases h2 : (bA bs i).toNat < 255
        · rw [expR_byte (by simp; omega) (by rw [hA]; exact h1) (by rw [hA]; exact h2), expR_byte h h1 h2, hA, Nat.add_assoc, ih _ (by omega) x bs _ _ rfl]
        · by_cases h3 : i + 1 = bs.length
          · rw [expR_torn (by simp; omega) (by rw [hA]; exact h2), expR_torn h3 h2]
          · by_cases h4 : 1 < (bA bs (i + 1)).toNat
            · rw [expR_form (by simp; omega) (by rw [hA]; exact h2) (by rw [Nat.add_assoc, hA]; exact h4), expR_form (by omega) h2 h4]
            · rw [expR_esc (by simp; omega) (by rw [hA]; exact h2) (by rw [Nat.add_assoc, hA]; exact h4), expR_esc (by omega) h2 h4, Nat.add_assoc, hA, Nat.add_assoc, ih _ (by omega) x bs _ _ rfl]
    · rw [expR_end (by simp; omega), expR_end (by omega)]
theorem exp_run {bs : List UInt8} (hl : bs.length ≤ 65536) : ∀ (d i : Nat), bs.length - i = d → i ≤ bs.length → expR (runF bs i) 0 i = .ok (bs.drop i) := by
  intro d
  induction d using Nat.strongRecOn with
  | _ d ih =>
    intro i hd hi
    by_cases h : i < bs.length
    · by_cases hz : 0 < zrs (bs.drop i)
      · have hs := zrs_split (bs.drop i)
        have hzl := zrs_le (bs.drop i)
        rw [List.length_drop] at hzl
        obtain ⟨z, hz'⟩ : ∃ z, z = zrs (bs.drop i) := ⟨_, rfl⟩
        rw [runF_zeros h hz]
        rw [← hz'] at hs hzl hz ⊢
        rw [List.drop_drop] at hs
        have hst := runF_start (bs := bs) (i := i + z) hs.2
        have hdg := dgs_app (digR z) (runF bs (i + z)) (digR_small z) hst
        have hne := digR_ne hz
        have hpos : 0 < (digR z).length := by rcases hq : digR z with _ | ⟨a, t⟩; (exact absurd hq hne); simp
        have hlt : 0 < (digR z ++ runF bs (i + z)).length := by rw [List.length_append]; omega
        have hb0 : (bA (digR z ++ runF bs (i + z)) 0).toNat < 2 := by
          rcases hq : digR z with _ | ⟨a, t⟩
          · exact absurd hq hne
          · exact digR_small z a (by rw [hq]; exact List.mem_cons_self ..)
        rw [expR_dig hlt hb0, List.drop_zero, hdg, List.take_left' rfl, valR_dig, if_neg (by omega), show max 1 (digR z).length = (digR z).length + 0 by omega, Nat.zero_add,
          expR_shift _ (digR z) (runF bs (i + z)) 0 _ rfl, ih _ (by omega) (i + z) rfl (by omega)]
        show Except.ok (List.replicate z 0 ++ bs.drop (i + z)) = _
        rw [← hs.1]
      · have hd0 := drop_bA h
        have hb : bA bs i ≠ 0 := fun e => hz (by rw [hd0, zrs, if_pos e]; omega)
        have h0 : (bA bs i).toNat ≠ 0 := fun e => hb (UInt8.toNat_inj.1 e)
        have hlt := (bA bs i).toNat_lt
        rw [runF_one h (by omega)]
        unfold oneR
        by_cases hh : 254 ≤ (bA bs i).toNat
        · rw [if_pos hh]
          have e1 : ([255, bA bs i - 254] ++ runF bs (i + 1)).length = 2 + (runF bs (i + 1)).length := by simp; omega
          have e2 : bA ([255, bA bs i - 254] ++ runF bs (i + 1)) 0 = 255 := rfl
          have e3 : bA ([255, bA bs i - 254] ++ runF bs (i + 1)) (0 + 1) = bA bs i - 254 := rfl
          have e4 : (bA bs i - 254).toNat = (bA bs i).toNat - 254 := by rw [UInt8.toNat_sub_of_le]; rfl; exact UInt8.le_iff_toNat_le.2 hh
          rw [expR_esc (by omega) (by rw [e2]; decide) (by rw [e3, e4]; omega), if_neg (by omega), e3, show 0 + 2 = [255, bA bs i - 254].length + 0 from rfl, expR_shift _ [255, bA bs i - 254] (runF bs (i + 1)) 0 _ rfl, ih _ (by omega) (i + 1) rfl (by omega)]
          show Except.ok ((254 + (bA bs i - 254)) :: bs.drop (i + 1)) = _
          rw [hd0, UInt8.add_comm, UInt8.sub_add_cancel]
        · rw [if_neg hh]
          have e1 : ([bA bs i + 1] ++ runF bs (i + 1)).length = 1 + (runF bs (i + 1)).length := by simp; omega
          have e2 : bA ([bA bs i + 1] ++ runF bs (i + 1)) 0 = bA bs i + 1 := rfl
          have e4 : (bA bs i + 1).toNat = (bA bs i).toNat + 1 := by rw [UInt8.toNat_add]; show ((bA bs i).toNat + 1) % 256 = _; omega
          rw [expR_byte (by omega) (by rw [e2, e4]; omega) (by rw [e2, e4]; omega), if_neg (by omega), e2, show 0 + 1 = [bA bs i + 1].length + 0 from rfl, expR_shift _ [bA bs i + 1] (runF bs (i + 1)) 0 _ rfl, ih _ (by omega) (i + 1) rfl (by omega)]
          show Except.ok ((bA bs i + 1 - 1) :: bs.drop (i + 1)) = _
          rw [hd0, UInt8.add_sub_cancel]
    · rw [runF_end (by omega), expR_end (Nat.zero_le _), List.drop_of_length_le (by omega)]
theorem runs_back {bs : List UInt8} (h : (runsP bs).2 = 0) : expandP (runsP bs).1 = (bs, 0) := by
  unfold runsP at h ⊢
  by_cases h1 : 65536 < bs.length
  · rw [if_pos h1] at h; cases h
  · rw [if_neg h1] at h ⊢
    by_cases h2 : 65536 < (runsL bs).length
    · rw [if_pos h2] at h; cases h
    · rw [if_neg h2]
      unfold expandP
      rw [if_neg h2]
      have := exp_run (bs := bs) (by omega) _ 0 rfl (Nat.zero_le _)
      rw [show runsL bs = runF bs 0 from rfl, this]
      rfl
end Go.Proofs.YtckkmafppfcecaaGreatDoor
