/- Da Dc Dd De Dp Dq Df Db. -/
import Derived.Test.YtckkmafppfcecaaGreatDoorProg
import Derived.Test.YtckkmafppfcecaaGreatDoorRN27
import Derived.Test.YtckkmafppfcecaaGreatDoorRN01
import Derived.WalkLawsBesides
import Derived.Sort.QuietIn
import Derived.Sort.CutIn
import Derived.Lib.ConvBytes
set_option maxRecDepth 100000
set_option maxHeartbeats 4000000
namespace Go.Proofs.YtckkmafppfcecaaGreatDoor.Dic
open Go.RowKit Go.Proofs
set_option linter.unusedVariables false
attribute [local go_sem] Oper.semAt_some
theorem tB : Tryz.prog.underlying 23 = some (.slice (Tryz.prog.elem 23)) := by kernel_rfl
theorem eB : Tryz.prog.elem 23 = 5 := by kernel_rfl
theorem sB : ∀ W : World, (sizeOf 5).run Tryz.prog W = .ok 1 W := fun _ => by kernel_rfl
theorem uB : Tryz.prog.underlying 23 = some (.slice 5) := by kernel_rfl
theorem u8 : Tryz.prog.underlying 5 = some (.int .u8) := by kernel_rfl
theorem uS : Tryz.prog.underlying 9 = some .string := by kernel_rfl
theorem letter_any (x : Int) (w : World) : Calls Tryz.prog 248 #[.int .u8 x] w fun e w' => e = .returned (.bool (letterI x)) ∧ w' = w := by
  by_cases h1 : 97 ≤ x
  · by_cases h2 : x ≤ 122
    · have hfin : Hid (letterI x = true) := by show _ = _; simp [letterI, h1, h2]
      have d1 : decide (97 ≤ x) = true := by simpa using h1
      have d2 : decide (x ≤ 122) = true := by simpa using h2
      go_enter Tryz.func248, Tryz.ntmps248
      go_wp2
      go_ret
      exact ⟨ret_bool hfin.out.symm, rfl⟩
    · have hfin : Hid (letterI x = false) := by show _ = _; simp [letterI, h1, h2]; omega
      have d1 : decide (97 ≤ x) = true := by simpa using h1
      have d2 : decide (x ≤ 122) = false := by simpa using h2
      have d3 : decide (65 ≤ x) = true := by simp; omega
      have d4 : decide (x ≤ 90) = false := by simp; omega
      go_enter Tryz.func248, Tryz.ntmps248
      go_wp2
      go_ret
      exact ⟨ret_bool hfin.out.symm, rfl⟩
  · have d1 : decide (97 ≤ x) = false := by simpa using h1
    by_cases h3 : 65 ≤ x
    · have hfin : Hid (letterI x = decide (x ≤ 90)) := by show _ = _; simp [letterI, h1, h3]
      have d3 : decide (65 ≤ x) = true := by simpa using h3
      go_enter Tryz.func248, Tryz.ntmps248
      go_wp2
      go_ret
      exact ⟨ret_bool hfin.out.symm, rfl⟩
    · have hfin : Hid (letterI x = false) := by show _ = _; simp [letterI, h1, h3]
      have d3 : decide (65 ≤ x) = false := by simpa using h3
      go_enter Tryz.func248, Tryz.ntmps248
      go_wp2
      go_ret
      exact ⟨ret_bool hfin.out.symm, rfl⟩
end Go.Proofs.YtckkmafppfcecaaGreatDoor.Dic
namespace Go.Proofs.YtckkmafppfcecaaGreatDoor.Dic
open Go.RowKit Go.Proofs
set_option linter.unusedVariables false
def gs (ss : List (List UInt8)) (k : Nat) : List UInt8 := ss.getD k []
def Strs (w : World) (A : Option Addr) (n c : Nat) (ss : List (List UInt8)) : Prop := ss.length = n ∧ n ≤ c ∧ Cells w A n (fun i => .string (strB (gs ss i)))
section
variable {w w' : World} {A : Option Addr} {n c k : Nat} {ss : List (List UInt8)}
theorem Strs.get (h : Strs w A n c ss) (hk : k < n) : ∃ b off, A = some ⟨b, off, none⟩ ∧ b < w.heap.size ∧ ∀ i, i < n → w.cell? ⟨b, off + i, none⟩ = some (.string (strB (gs ss i))) := h.2.2 (by omega)
theorem Strs.below (h : Strs w A n c ss) (hb : Below w.heap.size w w') : Strs w' A n c ss := ⟨h.1, h.2.1, h.2.2.below hb⟩
theorem gs_get (h : k < ss.length) : gs ss k = ss[k] := by simp [gs, List.getD, h]
end
theorem strB_size (x : List UInt8) : (strB x).size = x.length := by simp [strB, ByteArray.size]
def placeL (ss : List (List UInt8)) (s : List UInt8) : Int := if ss.idxOf s < ss.length then (ss.idxOf s : Int) else -1
theorem idxOf_at {ss : List (List UInt8)} {s : List UInt8} {k : Nat} (hk : k < ss.length) (h1 : ∀ j, j < k → gs ss j ≠ s) (h2 : gs ss k = s) : ss.idxOf s = k := by
  induction ss generalizing k with
  | nil => simp at hk
  | cons x r ih =>
    cases k with
    | zero => have : x = s := h2; subst this; simp
    | succ k =>
      have hx : x ≠ s := h1 0 (by omega)
      rw [List.idxOf_cons, ih (k := k) (by simpa using hk) (fun j hj => h1 (j + 1) (by omega)) h2, beq_eq_false_iff_ne.2 hx]
      rfl
theorem placeL_at {ss : List (List UInt8)} {s : List UInt8} {k : Nat} (hk : k < ss.length) (h1 : ∀ j, j < k → gs ss j ≠ s) (h2 : gs ss k = s) : placeL ss s = k := by
  unfold placeL; rw [idxOf_at hk h1 h2, if_pos hk]
theorem placeL_none {ss : List (List UInt8)} {s : List UInt8} (h : ∀ j, j < ss.length → gs ss j ≠ s) : placeL ss s = -1 := by
  unfold placeL
  rw [if_neg]
  rw [List.idxOf_lt_length_iff]
  intro hm
  obtain ⟨i, hi, e⟩ := List.mem_iff_getElem.1 hm
  exact h i hi (by rw [gs_get hi]; exact e)
def gainL (k len : Nat) : Int := (k : Int) * ((len : Int) - 1) - ((len : Int) + 1)
def cntS (ss : List (List UInt8)) (s : List UInt8) : Nat → Nat
  | 0 => 0
  | k + 1 => cntS ss s k + if gs ss k = s then 1 else 0
theorem conv_bytes {P : Program} (src dst e : TypeId) (hs : P.underlying src = some .string) (hd : P.underlying dst = some (.slice e)) (he : P.underlying e = some (.int .u8)) (w : World) (s : List UInt8) :
    ∃ c w1, (convert src dst (.string (strB s))).run P w = .ok (.slice (some ⟨w.heap.size, 0, none⟩) s.length c) w1 ∧ Bytes w1 (some ⟨w.heap.size, 0, none⟩) s.length c s ∧ Below w.heap.size w w1 := by
  refine ⟨_, _, by rw [Lib.run_convert_string_bytes w src dst e (strB s) hs hd he, strB_size], ?_, ?_⟩
  · refine ⟨rfl, grownCap_ge _ _ _ _, fun hn => ⟨w.heap.size, 0, rfl, by rw [Lib.bytesWorld_size]; omega, fun i hi => ?_⟩⟩
    rw [Nat.zero_add, Lib.bytesWorld_cell _ _ _ _ (by rw [strB_size]; exact hi)]
    rfl
  · exact ⟨rfl, rfl, rfl, by rw [Lib.bytesWorld_size]; omega, fun k hk => Lib.bytesWorld_at_old _ _ _ k hk⟩
def isWordB (s : List UInt8) : Bool := decide (2 ≤ s.length) && (decide (s.length ≤ 32) && decide (runL s = s.length))
def wordsTo (bs : List UInt8) : Nat → List (List UInt8)
  | 0 => []
  | k + 1 => wordsTo bs k ++ if wdP bs k then [pcP bs k] else []
def wordsL (bs : List UInt8) : List (List UInt8) := wordsTo bs (piecesL bs).length
def encS (s : List UInt8) : Value := .string (strB s)
theorem encS_one (s : List UInt8) : (encS s).oneCell' = true := rfl
theorem uSS : Tryz.prog.underlying 92 = some (.slice 9) := by kernel_rfl
theorem infoS : (Tryz.prog.info? 9).map (fun i => (i.zero, i.size, i.bytes)) = some (some (encS []), 1, 16) := by kernel_rfl
theorem _root_.Go.Proofs.YtckkmafppfcecaaGreatDoor.Own.strs {w : World} {B : Nat} {e : TypeId} {A : Option Addr} {n c : Nat} {ss : List (List UInt8)} (h : Own encS w B e A n c ss) : Strs w A n c ss := ⟨h.length, h.cap, h.cells []⟩
theorem wordsTo_le (bs : List UInt8) : ∀ k, (wordsTo bs k).length ≤ k
  | 0 => Nat.le_refl _
  | k + 1 => by rw [wordsTo, List.length_append]; have := wordsTo_le bs k; split <;> simp <;> omega
theorem pieces_count (bs : List UInt8) : ∀ k, k ≤ (piecesL bs).length → k ≤ stP bs k
  | 0, _ => Nat.zero_le _
  | k + 1, h => by rw [stP]; have := pieces_count bs k (by omega); have := plen_pos (bs.drop (stP bs k)); omega
def badAt (ws : List (List UInt8)) (j : Nat) : Nat := if isWordB (gs ws j) = false then 24 else if gs ws j ∈ ws.take j then 8 else 0
def checkTo (ws : List (List UInt8)) : Nat → Nat
  | 0 => 0
  | k + 1 => if checkTo ws k = 0 then badAt ws k else checkTo ws k
def checkL (ws : List (List UInt8)) : Nat := if 64 < ws.length then 6 else checkTo ws ws.length
theorem checkTo_stop {ws : List (List UInt8)} {k : Nat} (h0 : checkTo ws k = 0) (hb : badAt ws k ≠ 0) : ∀ n, k < n → checkTo ws n = badAt ws k
  | 0, h => by omega
  | n + 1, h => by
    rcases Nat.lt_or_ge k n with hk | hk
    · have := checkTo_stop h0 hb n hk
      rw [checkTo, if_neg (by rw [this]; exact hb), this]
    · obtain rfl : n = k := by omega
      rw [checkTo, if_pos h0]
theorem checkTo_zero {ws : List (List UInt8)} : ∀ {n : Nat}, checkTo ws n = 0 → ∀ j, j < n → badAt ws j = 0
  | 0, _, j, hj => by omega
  | n + 1, h, j, hj => by
    rw [checkTo] at h
    by_cases h0 : checkTo ws n = 0
    · rw [if_pos h0] at h
      rcases Nat.lt_succ_iff_lt_or_eq.1 hj with hlt | rfl
      · exact checkTo_zero h0 j hlt
      · exact h
    · rw [if_neg h0] at h; exact absurd h h0
theorem checkTo_of {ws : List (List UInt8)} : ∀ {n : Nat}, (∀ j, j < n → badAt ws j = 0) → checkTo ws n = 0
  | 0, _ => rfl
  | n + 1, h => by rw [checkTo, if_pos (checkTo_of fun j hj => h j (by omega)), h n (by omega)]
theorem badAt_zero {ws : List (List UInt8)} {j : Nat} : badAt ws j = 0 ↔ isWordB (gs ws j) = true ∧ gs ws j ∉ ws.take j := by
  unfold badAt
  by_cases h : isWordB (gs ws j) = false
  · simp [h]
  · rw [if_neg h]
    simp at h
    by_cases h2 : gs ws j ∈ ws.take j <;> simp [h, h2]
theorem checkL_zero {ws : List (List UInt8)} : checkL ws = 0 ↔ ws.length ≤ 64 ∧ (∀ s ∈ ws, isWordB s = true) ∧ ws.Nodup := by
  unfold checkL
  by_cases hl : 64 < ws.length
  · rw [if_pos hl]; constructor
    · intro h; cases h
    · intro h; omega
  · rw [if_neg hl]
    constructor
    · intro h
      have h1 := checkTo_zero h
      refine ⟨by omega, fun s hs => ?_, ?_⟩
      · obtain ⟨i, hi, rfl⟩ := List.mem_iff_getElem.1 hs
        have := (badAt_zero.1 (h1 i hi)).1
        rwa [gs_get hi] at this
      · rw [List.Nodup, List.pairwise_iff_getElem]
        intro i j hi hj hij e
        have := (badAt_zero.1 (h1 j hj)).2
        rw [gs_get hj] at this
        exact this (List.mem_iff_getElem.2 ⟨i, by simp; omega, by rw [List.getElem_take]; exact e⟩)
    · rintro ⟨-, h1, h2⟩
      refine checkTo_of fun j hj => badAt_zero.2 ⟨by rw [gs_get hj]; exact h1 _ (List.getElem_mem hj), ?_⟩
      rw [gs_get hj]
      intro hm
      obtain ⟨i, hi, e⟩ := List.mem_iff_getElem.1 hm
      rw [List.getElem_take] at e
      rw [List.Nodup, List.pairwise_iff_getElem] at h2
      simp at hi
      exact h2 i j (by omega) hj (by omega) e
def codeP (ws : List (List UInt8)) (p : List UInt8) : List UInt8 := if p ∈ ws then [UInt8.ofNat (128 + ws.idxOf p)] else if 128 ≤ gb p 0 then [255, p.headD 0] else p
def codeTo (ws : List (List UInt8)) (bs : List UInt8) : Nat → List UInt8
  | 0 => []
  | k + 1 => codeTo ws bs k ++ codeP ws (pcP bs k)
def codeL (ws : List (List UInt8)) (bs : List UInt8) : List UInt8 := codeTo ws bs (piecesL bs).length
theorem pcP_length {bs : List UInt8} {k : Nat} (h : k < (piecesL bs).length) : (pcP bs k).length = plen (bs.drop (stP bs k)) := by
  unfold pcP
  rw [List.length_take]
  have := plen_le (pieces_ne h)
  omega
theorem pcP_ne {bs : List UInt8} {k : Nat} (h : k < (piecesL bs).length) : pcP bs k ≠ [] := fun e => by
  have := pcP_length h
  rw [e] at this
  have := plen_pos (bs.drop (stP bs k))
  simp at *
  omega
theorem pcP_gb {bs : List UInt8} {k i : Nat} (hi : i < plen (bs.drop (stP bs k))) : gb (pcP bs k) i = gb bs (stP bs k + i) := by
  unfold pcP; rw [gb_take _ _ _ hi, gb_drop]
theorem runL_all {p : List UInt8} (h : ∀ i, i < p.length → letterI (gb p i) = true) : runL p = p.length := runL_eq h (Nat.le_refl _) (fun h => absurd h (Nat.lt_irrefl _))
theorem pcP_kind {bs : List UInt8} {k : Nat} (h : k < (piecesL bs).length) :
    (wdP bs k = true ∧ runL (pcP bs k) = (pcP bs k).length) ∨ (wdP bs k = false ∧ ∃ b, pcP bs k = [b] ∧ isL b = false) := by
  have hl := pcP_length h
  rcases Nat.eq_zero_or_pos (runL (bs.drop (stP bs k))) with h0 | h0
  · right
    refine ⟨by simp [wdP, h0], ?_⟩
    have hp : plen (bs.drop (stP bs k)) = 1 := by unfold plen; omega
    rw [hp] at hl
    obtain ⟨b, hb⟩ := List.length_eq_one_iff.1 hl
    refine ⟨b, hb, ?_⟩
    have hne := pieces_ne h
    have hs := runL_stop (bs := bs.drop (stP bs k)) (by rw [h0]; exact List.length_pos_iff.2 hne)
    rw [h0, gb_drop, ← pcP_gb (i := 0) (by omega), hb] at hs
    exact hs
  · left
    refine ⟨by simpa [wdP] using h0, runL_all fun i hi => ?_⟩
    have hp : plen (bs.drop (stP bs k)) = runL (bs.drop (stP bs k)) := by unfold plen; omega
    rw [hl, hp] at hi
    rw [pcP_gb (by omega), ← gb_drop]
    exact runL_letter hi
theorem letterI_lt {x : Int} (h : letterI x = true) : x < 128 := by
  unfold letterI at h
  split at h
  · split at h
    · omega
    · split at h
      · simp at h; omega
      · cases h
  · split at h
    · simp at h; omega
    · cases h
theorem codeP_word {ws : List (List UInt8)} {p : List UInt8} (h : runL p = p.length) (hne : p ≠ []) : codeP ws p = if p ∈ ws then [UInt8.ofNat (128 + ws.idxOf p)] else p := by
  unfold codeP
  have hl : 0 < p.length := List.length_pos_iff.2 hne
  have := letterI_lt (runL_letter (bs := p) (k := 0) (by omega))
  rw [if_neg (c := 128 ≤ gb p 0) (by omega)]
theorem codeP_byte {ws : List (List UInt8)} (hw : ∀ s ∈ ws, isWordB s = true) (b : UInt8) : codeP ws [b] = if 128 ≤ (b.toNat : Int) then [255, b] else [b] := by
  unfold codeP
  rw [if_neg (fun h => by have := hw _ h; simp [isWordB] at this)]
  rfl
theorem codeP_len {ws : List (List UInt8)} {p : List UInt8} (h : p ≠ []) : (codeP ws p).length ≤ 2 * p.length := by
  have hl : 0 < p.length := List.length_pos_iff.2 h
  unfold codeP
  split
  · simp; omega
  · split
    · simp; omega
    · omega
theorem codeTo_len {ws : List (List UInt8)} {bs : List UInt8} : ∀ {k : Nat}, k ≤ (piecesL bs).length → (codeTo ws bs k).length ≤ 2 * stP bs k
  | 0, _ => by simp [codeTo]
  | k + 1, h => by
    rw [codeTo, List.length_append, stP]
    have h1 := codeTo_len (ws := ws) (bs := bs) (k := k) (by omega)
    have h2 := codeP_len (ws := ws) (pcP_ne (bs := bs) (k := k) (by omega))
    rw [pcP_length (by omega)] at h2
    omega
theorem codeL_len (ws : List (List UInt8)) (bs : List UInt8) : (codeL ws bs).length ≤ 2 * bs.length := by
  have := codeTo_len (ws := ws) (bs := bs) (Nat.le_refl _)
  rwa [pieces_end] at this
def uncodeL (ws : List (List UInt8)) : List UInt8 → List UInt8 → List UInt8 × Nat
  | [], out => (out, 0)
  | [x], out => if x.toNat < 128 then (out ++ [x], 0) else if x.toNat = 255 then ([], 9) else if ws.length ≤ x.toNat - 128 then ([], 7) else (out ++ gs ws (x.toNat - 128), 0)
  | x :: y :: r, out => if x.toNat < 128 then uncodeL ws (y :: r) (out ++ [x]) else if x.toNat = 255 then (if y.toNat < 128 then ([], 3) else uncodeL ws r (out ++ [y])) else if ws.length ≤ x.toNat - 128 then ([], 7) else uncodeL ws (y :: r) (out ++ gs ws (x.toNat - 128))
theorem uncodeL_low {ws : List (List UInt8)} {x : UInt8} (h : x.toNat < 128) : ∀ (r out : List UInt8), uncodeL ws (x :: r) out = uncodeL ws r (out ++ [x])
  | [], out => by simp [uncodeL, h]
  | y :: r, out => by simp [uncodeL, h]
theorem uncodeL_esc {ws : List (List UInt8)} {x : UInt8} (h : x.toNat = 255) : ∀ (r out : List UInt8), uncodeL ws (x :: r) out = match r with | [] => ([], 9) | y :: r' => if y.toNat < 128 then ([], 3) else uncodeL ws r' (out ++ [y])
  | [], out => by simp [uncodeL, h]
  | y :: r, out => by simp [uncodeL, h]
theorem uncodeL_none {ws : List (List UInt8)} {x : UInt8} (h : 128 ≤ x.toNat) (h2 : x.toNat ≠ 255) (h3 : ws.length ≤ x.toNat - 128) : ∀ (r out : List UInt8), uncodeL ws (x :: r) out = ([], 7)
  | [], out => by simp [uncodeL, h2, h3, Nat.not_lt.2 h]
  | y :: r, out => by simp [uncodeL, h2, h3, Nat.not_lt.2 h]
theorem uncodeL_word {ws : List (List UInt8)} {x : UInt8} (h : 128 ≤ x.toNat) (h2 : x.toNat ≠ 255) (h3 : x.toNat - 128 < ws.length) : ∀ (r out : List UInt8), uncodeL ws (x :: r) out = uncodeL ws r (out ++ gs ws (x.toNat - 128))
  | [], out => by simp [uncodeL, h2, Nat.not_le.2 h3, Nat.not_lt.2 h]
  | y :: r, out => by simp [uncodeL, h2, Nat.not_le.2 h3, Nat.not_lt.2 h]
theorem uncodeL_lows {ws : List (List UInt8)} : ∀ (p r out : List UInt8), (∀ i, i < p.length → gb p i < 128) → uncodeL ws (p ++ r) out = uncodeL ws r (out ++ p)
  | [], r, out, _ => by simp
  | x :: p, r, out, h => by
    have h0 : x.toNat < 128 := by have := h 0 (by simp); simp [gb] at this; omega
    rw [List.cons_append, uncodeL_low h0, uncodeL_lows p r _ (fun i hi => h (i + 1) (by simpa using hi)), List.append_assoc]
    rfl
theorem uncode_piece {ws : List (List UInt8)} (hc : checkL ws = 0) {bs : List UInt8} {k : Nat} (hk : k < (piecesL bs).length) (r out : List UInt8) : uncodeL ws (codeP ws (pcP bs k) ++ r) out = uncodeL ws r (out ++ pcP bs k) := by
  obtain ⟨hl, hw, hnd⟩ := checkL_zero.1 hc
  rcases pcP_kind hk with ⟨-, h⟩ | ⟨-, b, hb, hL⟩
  · rw [codeP_word h (pcP_ne hk)]
    by_cases hm : pcP bs k ∈ ws
    · rw [if_pos hm]
      have hi : ws.idxOf (pcP bs k) < ws.length := List.idxOf_lt_length_iff.2 hm
      have ht : (UInt8.ofNat (128 + ws.idxOf (pcP bs k))).toNat = 128 + ws.idxOf (pcP bs k) := by rw [UInt8.toNat_ofNat']; exact Nat.mod_eq_of_lt (by omega)
      rw [List.cons_append, List.nil_append, uncodeL_word (by omega) (by omega) (by omega), ht, show 128 + ws.idxOf (pcP bs k) - 128 = ws.idxOf (pcP bs k) by omega, gs_get hi, List.getElem_idxOf]
    · rw [if_neg hm]
      exact uncodeL_lows _ _ _ fun i hi => letterI_lt (runL_letter (by omega))
  · rw [hb, codeP_byte hw]
    by_cases h : 128 ≤ (b.toNat : Int)
    · rw [if_pos h]
      show uncodeL ws (255 :: b :: r) out = _
      rw [uncodeL_esc (by rfl)]
      show (if b.toNat < 128 then _ else _) = _
      rw [if_neg (by omega)]
    · rw [if_neg h]
      exact uncodeL_low (by omega) _ _
theorem uncode_code {ws : List (List UInt8)} (hc : checkL ws = 0) (bs : List UInt8) : uncodeL ws (codeL ws bs) [] = (bs, 0) := by
  have key : ∀ (k : Nat), k ≤ (piecesL bs).length → ∀ r out, uncodeL ws (codeTo ws bs k ++ r) out = uncodeL ws r (out ++ bs.take (stP bs k)) := by
    intro k
    induction k with
    | zero => intro _ r out; simp [codeTo, stP]
    | succ k ih =>
      intro hk r out
      rw [codeTo, List.append_assoc, ih (by omega), uncode_piece hc (by omega), List.append_assoc]
      congr 2
      unfold pcP
      rw [stP, ← List.take_add]
  have := key _ (Nat.le_refl _) [] []
  rw [List.append_nil, pieces_end, List.take_length] at this
  exact this
theorem cntS_count (ss : List (List UInt8)) (s : List UInt8) : ∀ k, k ≤ ss.length → cntS ss s k = (ss.take k).count s
  | 0, _ => by simp [cntS]
  | k + 1, h => by
    rw [cntS, cntS_count ss s k (by omega), List.take_succ_eq_append_getElem (by omega), List.count_append, gs_get (by omega)]
    simp [List.count_cons]
def gainS (ws : List (List UInt8)) (s : List UInt8) : Int := gainL (ws.count s) s.length
def candP (ws : List (List UInt8)) (s : List UInt8) : Prop := isWordB s = true ∧ 0 < gainS ws s
def ahead (ws : List (List UInt8)) (x y : List UInt8) : Prop := gainS ws y < gainS ws x ∨ (gainS ws x = gainS ws y ∧ x < y)
theorem ahead_irrefl {ws : List (List UInt8)} {x : List UInt8} : ¬ ahead ws x x := by
  rintro (h | ⟨_, h⟩)
  · omega
  · exact List.lt_irrefl _ h
theorem ahead_trans {ws : List (List UInt8)} {x y z : List UInt8} (h : ahead ws x y) (h' : ahead ws y z) : ahead ws x z := by
  rcases h with h | ⟨e, h⟩ <;> rcases h' with h' | ⟨e', h'⟩
  · left; omega
  · left; omega
  · left; omega
  · right; exact ⟨by omega, List.lt_trans h h'⟩
theorem ahead_total {ws : List (List UInt8)} {x y : List UInt8} (h : x ≠ y) : ahead ws x y ∨ ahead ws y x := by
  rcases Int.lt_trichotomy (gainS ws x) (gainS ws y) with h1 | h1 | h1
  · right; left; exact h1
  · by_cases hxy : x < y
    · left; right; exact ⟨h1, hxy⟩
    · right; right
      refine ⟨h1.symm, ?_⟩
      rcases List.le_iff_lt_or_eq.1 (List.not_lt.1 hxy) with h2 | h2
      · exact h2
      · exact absurd h2.symm h
  · left; left; exact h1
def bestTo (ws out : List (List UInt8)) : Nat → List UInt8 × Int
  | 0 => ([], 0)
  | k + 1 =>
    if isWordB (gs ws k) = false ∨ gs ws k ∈ out then bestTo ws out k
    else if (bestTo ws out k).2 < gainS ws (gs ws k) ∨ (gainS ws (gs ws k) = (bestTo ws out k).2 ∧ 0 < gainS ws (gs ws k) ∧ gs ws k < (bestTo ws out k).1) then (gs ws k, gainS ws (gs ws k)) else bestTo ws out k
def learnSel (ws : List (List UInt8)) : Nat → List (List UInt8) → List (List UInt8)
  | 0, out => out
  | m + 1, out => if (bestTo ws out ws.length).2 ≤ 0 then out else learnSel ws m (out ++ [(bestTo ws out ws.length).1])
structure Best (ws out : List (List UInt8)) (k : Nat) : Prop where
  lo : 0 ≤ (bestTo ws out k).2
  mem : 0 < (bestTo ws out k).2 → (bestTo ws out k).1 ∈ ws ∧ candP ws (bestTo ws out k).1 ∧ (bestTo ws out k).1 ∉ out ∧ gainS ws (bestTo ws out k).1 = (bestTo ws out k).2
  all : ∀ j, j < k → isWordB (gs ws j) = true → gs ws j ∉ out → gainS ws (gs ws j) ≤ 0 ∨ (0 < (bestTo ws out k).2 ∧ (gs ws j = (bestTo ws out k).1 ∨ ahead ws (bestTo ws out k).1 (gs ws j)))
theorem best_any {ws out : List (List UInt8)} : ∀ {k : Nat}, k ≤ ws.length → Best ws out k
  | 0, _ => ⟨Int.le_refl _, fun h => absurd h (by simp [bestTo]), fun j hj => absurd hj (by omega)⟩
  | k + 1, hk => by
    have ih := best_any (ws := ws) (out := out) (k := k) (by omega)
    by_cases h1 : isWordB (gs ws k) = false ∨ gs ws k ∈ out
    · have e : bestTo ws out (k + 1) = bestTo ws out k := by rw [bestTo, if_pos h1]
      refine ⟨by rw [e]; exact ih.lo, by rw [e]; exact ih.mem, fun j hj a b => ?_⟩
      rw [e]
      rcases Nat.lt_succ_iff_lt_or_eq.1 hj with h | rfl
      · exact ih.all j h a b
      · rcases h1 with h1 | h1
        · rw [h1] at a; cases a
        · exact absurd h1 b
    · have h1' : isWordB (gs ws k) = true ∧ gs ws k ∉ out := by
        constructor
        · exact Bool.not_eq_false _ ▸ (fun h => h1 (.inl h))
        · exact fun h => h1 (.inr h)
      have hlo := ih.lo
      by_cases h2 : (bestTo ws out k).2 < gainS ws (gs ws k) ∨ (gainS ws (gs ws k) = (bestTo ws out k).2 ∧ 0 < gainS ws (gs ws k) ∧ gs ws k < (bestTo ws out k).1)
      · have e : bestTo ws out (k + 1) = (gs ws k, gainS ws (gs ws k)) := by rw [bestTo, if_neg h1, if_pos h2]
        have hpos : 0 < gainS ws (gs ws k) := by rcases h2 with h2 | h2 <;> omega
        refine ⟨by rw [e]; exact Int.le_of_lt hpos, fun _ => ?_, fun j hj a b => ?_⟩
        · rw [e]
          exact ⟨by rw [gs_get (by omega)]; exact List.getElem_mem _, ⟨h1'.1, hpos⟩, h1'.2, rfl⟩
        · rw [e]
          rcases Nat.lt_succ_iff_lt_or_eq.1 hj with h | rfl
          · rcases ih.all j h a b with h3 | ⟨h3, h4⟩
            · exact .inl h3
            · refine .inr ⟨hpos, .inr ?_⟩
              have hb := (ih.mem h3).2.2.2
              have hah : ahead ws (gs ws k) (bestTo ws out k).1 := by
                rcases h2 with h2 | ⟨h2, -, h5⟩
                · left; rw [hb]; exact h2
                · right; exact ⟨by rw [hb]; exact h2, h5⟩
              rcases h4 with h4 | h4
              · rw [h4]; exact hah
              · exact ahead_trans hah h4
          · exact .inr ⟨hpos, .inl rfl⟩
      · have e : bestTo ws out (k + 1) = bestTo ws out k := by rw [bestTo, if_neg h1, if_neg h2]
        refine ⟨by rw [e]; exact ih.lo, by rw [e]; exact ih.mem, fun j hj a b => ?_⟩
        rw [e]
        rcases Nat.lt_succ_iff_lt_or_eq.1 hj with h | rfl
        · exact ih.all j h a b
        · by_cases hg : gainS ws (gs ws j) ≤ 0
          · exact .inl hg
          · right
            have h3 : gainS ws (gs ws j) ≤ (bestTo ws out j).2 := by
              rcases Int.lt_or_le (bestTo ws out j).2 (gainS ws (gs ws j)) with h | h
              · exact absurd (.inl h) h2
              · exact h
            have hp : 0 < (bestTo ws out j).2 := by omega
            have hb := (ih.mem hp).2.2.2
            refine ⟨hp, ?_⟩
            by_cases he : gs ws j = (bestTo ws out j).1
            · exact .inl he
            · right
              rcases ahead_total (ws := ws) he with h4 | h4
              · exfalso
                rcases h4 with h4 | ⟨h4, h5⟩
                · omega
                · exact h2 (.inr ⟨by omega, by omega, h5⟩)
              · exact h4
structure Ranked (ws S : List (List UInt8)) : Prop where
  ord : S.Pairwise (ahead ws)
  mem : ∀ s, s ∈ S ↔ s ∈ ws ∧ candP ws s
theorem Ranked.take_not {ws S : List (List UInt8)} (h : Ranked ws S) {j i : Nat} (hi : i < S.length) : S[i] ∈ S.take j ↔ i < j := by
  constructor
  · intro hm
    obtain ⟨k, hk, e⟩ := List.mem_iff_getElem.1 hm
    rw [List.getElem_take] at e
    simp at hk
    rcases Nat.lt_trichotomy k i with h1 | h1 | h1
    · have := List.pairwise_iff_getElem.1 h.ord k i (by omega) hi h1
      rw [e] at this
      exact absurd this ahead_irrefl
    · omega
    · have := List.pairwise_iff_getElem.1 h.ord i k hi (by omega) h1
      rw [e] at this
      exact absurd this ahead_irrefl
  · intro hlt
    exact List.mem_iff_getElem.2 ⟨i, by simp; omega, by rw [List.getElem_take]⟩
theorem Ranked.best {ws S : List (List UInt8)} (h : Ranked ws S) (j : Nat) :
    (j < S.length → bestTo ws (S.take j) ws.length = (gs S j, gainS ws (gs S j)) ∧ 0 < gainS ws (gs S j)) ∧ (S.length ≤ j → (bestTo ws (S.take j) ws.length).2 ≤ 0) := by
  have B := best_any (ws := ws) (out := S.take j) (Nat.le_refl _)
  have hin : 0 < (bestTo ws (S.take j) ws.length).2 → ∃ i, ∃ hi : i < S.length, j ≤ i ∧ S[i] = (bestTo ws (S.take j) ws.length).1 := fun hp => by
    obtain ⟨m1, m2, m3, m4⟩ := B.mem hp
    obtain ⟨i, hi, e⟩ := List.mem_iff_getElem.1 ((h.mem _).2 ⟨m1, m2⟩)
    refine ⟨i, hi, ?_, e⟩
    rcases Nat.lt_or_ge i j with h1 | h1
    · exact absurd (by rw [← e]; exact (h.take_not hi).2 h1) m3
    · exact h1
  constructor
  · intro hj
    rw [gs_get hj]
    obtain ⟨m1, m2⟩ := (h.mem _).1 (List.getElem_mem hj)
    obtain ⟨a, ha, e⟩ := List.mem_iff_getElem.1 m1
    have hnot : S[j] ∉ S.take j := fun hm => absurd ((h.take_not hj).1 hm) (Nat.lt_irrefl _)
    have := B.all a ha (by rw [gs_get ha, e]; exact m2.1) (by rw [gs_get ha, e]; exact hnot)
    rw [gs_get ha, e] at this
    have hpos := m2.2
    rcases this with h1 | ⟨h1, h2⟩
    · omega
    · have hb := (B.mem h1).2.2.2
      have he : S[j] = (bestTo ws (S.take j) ws.length).1 := by
        rcases h2 with h2 | h2
        · exact h2
        · obtain ⟨i, hi, hji, e2⟩ := hin h1
          rcases Nat.lt_or_eq_of_le hji with h3 | h3
          · have := List.pairwise_iff_getElem.1 h.ord j i hj hi h3
            rw [e2] at this
            exact absurd (ahead_trans this h2) ahead_irrefl
          · subst h3; exact e2
      refine ⟨?_, hpos⟩
      rw [he, hb]
  · intro hj
    rcases Int.lt_or_le 0 (bestTo ws (S.take j) ws.length).2 with h1 | h1
    · obtain ⟨i, hi, hji, _⟩ := hin h1
      omega
    · exact h1
theorem Ranked.sel {ws S : List (List UInt8)} (h : Ranked ws S) : ∀ (m j : Nat), learnSel ws m (S.take j) = S.take (j + m)
  | 0, j => rfl
  | m + 1, j => by
    rw [learnSel]
    rcases Nat.lt_or_ge j S.length with hj | hj
    · obtain ⟨h1, h2⟩ := (h.best j).1 hj
      rw [h1]
      simp only
      rw [if_neg (by omega)]
      have : S.take j ++ [gs S j] = S.take (j + 1) := by rw [List.take_succ_eq_append_getElem hj, gs_get hj]
      rw [this, h.sel m (j + 1), Nat.add_right_comm, Nat.add_assoc]
    · rw [if_pos ((h.best j).2 hj), List.take_of_length_le hj, List.take_of_length_le (by omega)]
def learnL (bs : List UInt8) (most : Nat) : List (List UInt8) := learnSel (wordsL bs) most []
theorem Ranked.learn {bs : List UInt8} {S : List (List UInt8)} (h : Ranked (wordsL bs) S) (most : Nat) : S.take most = learnL bs most := by
  have := h.sel most 0
  rw [List.take_zero, Nat.zero_add] at this
  exact this.symm
theorem strB_get (s : List UInt8) (k : Nat) (h : k < (strB s).size) : (((strB s)[k]).toNat : Int) = gb s k := by
  have h' : k < s.length := by rwa [strB_size] at h
  simp [gb, List.getD, h']
  rfl
theorem allowed_any (s : List UInt8) (w : World) (hs : s.length ≤ 1000000000) :
    Calls Tryz.prog 178 #[.string (strB s)] w fun e w' => e = .returned (.bool (isWordB s)) ∧ w' = w := by
  have Hz := Lib.hid (strB_size s)
  have hsz : (strB s).size ≤ 1000000000 := by rw [Hz.out]; exact hs
  go_enter Tryz.func178, Tryz.ntmps178
  go_wp2
  go_loop [3, 6] (fun _ i => ∃ k : Nat, k ≤ (strB s).size ∧ i = .int .i64 k ∧ Hid (∀ j, j < k → letterI (gb s j) = true)) (fun _ i => (strB s).size - (intOf i).toNat)
  case atStart => exact ⟨0, Nat.zero_le _, rfl, fun j hj => absurd hj (by omega)⟩
  case round =>
    obtain ⟨k, hk, rfl, HK⟩ := hrel
    by_cases hlt : k < (strB s).size
    · have hg := strB_get s k hlt
      have hcal := letter_any ((((strB s)[k]).toNat : Int)) w
      by_cases he : letterI (gb s k) = true
      · rw [hg, he, ← hg] at hcal
        have Hcal := Lib.hid hcal; clear hcal
        have He := Lib.hid he; clear he hg
        go_wp2_with (go_at_call 248; refine Hcal.out.mono ?_; rintro e w1 ⟨rfl, hw1⟩; obtain rfl : w = w1 := hw1.symm)
        go_round
        case rel => exact ⟨k + 1, by omega, by go_num, fun j hj => by
          rcases Nat.lt_succ_iff_lt_or_eq.1 hj with h | h
          · exact HK.out j h
          · subst h; exact He.out⟩
        case measure => simp [intOf]; omega
      · have he' : letterI (gb s k) = false := by simpa using he
        rw [hg, he', ← hg] at hcal
        have Hcal := Lib.hid hcal; clear hcal
        have hfin : Hid (isWordB s = false) := by
          show _ = _
          have : runL s ≠ s.length := fun e => he (runL_letter (by rw [e, ← Hz.out]; exact hlt))
          simp [isWordB, this]
        clear he he' hg
        go_wp2_with (go_at_call 248; refine Hcal.out.mono ?_; rintro e w1 ⟨rfl, hw1⟩; obtain rfl : w = w1 := hw1.symm)
        go_ret
        exact ⟨ret_bool hfin.out.symm, rfl⟩
    · have hr : runL s = s.length := runL_all fun i hi => HK.out i (by have := Hz.out; omega)
      by_cases h1 : 2 ≤ (strB s).size
      · have d1 : decide ((2 : Int) ≤ ((strB s).size : Int)) = true := by simp; omega
        have hfin : Hid (decide (((strB s).size : Int) ≤ 32) = isWordB s) := by
          show _ = _
          have := Hz.out
          rw [this] at h1 ⊢
          simp [isWordB, hr, h1]; omega
        clear hr
        go_wp2
        go_ret
        exact ⟨ret_bool hfin.out, rfl⟩
      · have d1 : decide ((2 : Int) ≤ ((strB s).size : Int)) = false := by simp; omega
        have hfin : Hid (isWordB s = false) := by
          show _ = _
          have := Hz.out
          rw [this] at h1
          simp [isWordB, h1]
        clear hr
        go_wp2
        go_ret
        exact ⟨ret_bool hfin.out.symm, rfl⟩
theorem gainP_any (s : List UInt8) (k : Nat) (w : World) (hk : k ≤ 1000000000) (hs : s.length ≤ 1000000000) :
    Calls Tryz.prog 179 #[.string (strB s), .int .i64 (k : Int)] w fun e w' => e = .returned (.int .i64 (gainL k s.length)) ∧ w' = w := by
  have Hz := Lib.hid (strB_size s)
  have hz := Hz.out
  have hmul : (k : Int) * ((s.length : Int) - 1) ≤ 1000000000 * 1000000000 := by
    rcases Nat.eq_zero_or_pos s.length with h | h
    · rw [h]; omega
    · exact Int.mul_le_mul (by omega) (by omega) (by omega) (by omega)
  have hmul0 : -1000000000 ≤ (k : Int) * ((s.length : Int) - 1) := by
    rcases Nat.eq_zero_or_pos s.length with h | h
    · rw [h]; simp; omega
    · have : 0 ≤ (k : Int) * ((s.length : Int) - 1) := Int.mul_nonneg (by omega) (by omega)
      omega
  go_enter Tryz.func179, Tryz.ntmps179
  go_wp2
  go_ret
  exact ⟨rfl, rfl⟩
theorem tSS : Tryz.prog.underlying 92 = some (.slice (Tryz.prog.elem 92)) := by kernel_rfl
theorem eSS : Tryz.prog.elem 92 = 9 := by kernel_rfl
theorem sSS : ∀ W : World, (sizeOf 9).run Tryz.prog W = .ok 1 W := fun _ => by kernel_rfl
theorem gs_take (ss : List (List UInt8)) (m i : Nat) (hi : i < m) : gs (ss.take m) i = gs ss i := by simp [gs, List.getD, hi]
theorem Strs.cut_h {w : World} {A : Option Addr} {n c : Nat} {ss : List (List UInt8)} (hb : Strs w A n c ss) (h : Int) (h0 : 0 ≤ h) (hc : h ≤ n) :
    (∀ W : World, (Instr.slice 92 (.slice A n c) none (some (.int .i64 h)) none).run Tryz.prog W = .ok (.slice A h.toNat c) W) ∧ Strs w A h.toNat c (ss.take h.toNat) := by
  have hn := hb.2.1
  have hl := hb.1
  refine ⟨run_cut_h tSS eSS sSS h h0 (by omega), by simp; omega, by omega, fun hm => ?_⟩
  obtain ⟨b, off, hA, hbk, hcell⟩ := hb.2.2 (by omega)
  exact ⟨b, off, hA, hbk, fun i hi => by rw [hcell i (by omega)]; show some (Value.string _) = some (Value.string _); rw [gs_take _ _ _ hi]⟩
theorem placeL_ge (ss : List (List UInt8)) (s : List UInt8) : decide (0 ≤ placeL ss s) = decide (s ∈ ss) := by
  unfold placeL
  by_cases h : s ∈ ss
  · rw [if_pos (List.idxOf_lt_length_iff.2 h), decide_eq_true h, decide_eq_true (by omega)]
  · rw [if_neg (fun h' => h (List.idxOf_lt_length_iff.1 h')), decide_eq_false h, decide_eq_false (by omega)]
end Go.Proofs.YtckkmafppfcecaaGreatDoor.Dic
namespace Go.Proofs.YtckkmafppfcecaaGreatDoor.Dic
open Go.RowKit Go.Proofs
set_option linter.unusedVariables false
attribute [local go_sem] Oper.semAt_some
def boxLen (bx : Nat) (W : World) : Nat := match W.cell? ⟨bx, 0, none⟩ with
  | some (.slice _ n _) => n
  | _ => 0
theorem boxLen_of {W : World} {bx : Nat} {t : TypeId} {A : Option Addr} {n c : Nat} (h : Boxed W bx t (.slice A n c)) : boxLen bx W = n := by unfold boxLen; rw [h.cell]
def pcRow (b off c : Nat) (bs : List UInt8) (k : Nat) : Array Value := #[.slice (some ⟨b, off + stP bs k, none⟩) (plen (bs.drop (stP bs k))) (c - stP bs k), .bool (wdP bs k)]
def pcAb (bx : Nat) (X Y : World) : Prop := X.grownBy Y (some bx)
def pcKp (n0 bx : Nat) (X Y : World) : Prop := Y.heap[bx]? = X.heap[bx]? ∧ Below n0 X Y
def pcBox (W : World) (bx b off c : Nat) (bs : List UInt8) (k : Nat) : Prop := ∃ Ak, Boxed W bx 23 (.slice Ak (bs.length - stP bs k) (c - stP bs k)) ∧ (0 < bs.length - stP bs k → Ak = some ⟨b, off + stP bs k, none⟩)
theorem pcBox_next {W : World} {bx b off c st m q p n k : Nat} {bs : List UInt8} {t : Value} {A' : Option Addr} (h : Boxed W bx 23 t) (hl : bs.length = n) (hm : m = n - st) (hq : q = c - st) (hnext : stP bs (k + 1) = st + p) (hpm : p ≤ m) (hA' : 0 < m - p → A' = some ⟨b, off + st + p, none⟩) :
    pcBox (W.setCell ⟨bx, 0, none⟩ (.slice A' (m - p) (q - p))) bx b off c bs (k + 1) := by
  refine ⟨A', ?_, ?_⟩
  · rw [hl, hnext, show n - (st + p) = m - p by omega, show c - (st + p) = q - p by omega]
    exact h.set _
  · intro h0
    rw [hl, hnext] at h0
    rw [hA' (by omega), hnext, Nat.add_assoc]
theorem pieces1_gives (w0 : World) (A : Option Addr) (n c : Nat) (bs : List UInt8) (hx : Bytes w0 A n c bs) (hn : n ≤ 1000000000) (bx b off : Nat) (hbx : w0.heap.size ≤ bx) (hA : 0 < n → A = some ⟨b, off, none⟩) :
    Gives Tryz.prog 247 #[.pointer (some ⟨bx, 0, none⟩)] (pcRow b off c bs) (piecesL bs).length (pcAb bx) (pcKp w0.heap.size bx)
      (fun W => Boxed W bx 23 (.slice A n c) ∧ Below w0.heap.size w0 W) := by
  intro l J Jx W ⟨hbox, hbel⟩ hJ hJx hY h0
  have HY := Lib.hid hY; clear hY
  have Hl := Lib.hid hx.1
  have hstart : pcBox W bx b off c bs 0 := ⟨A, by rw [Hl.out]; exact hbox, fun h => by rw [Hl.out] at h; exact hA h⟩
  clear hbox
  refine callsIn_of_wp Tryz.func247 rfl trivial ?_ rfl
  simp only [Tryz.ntmps247, List.size_toArray, List.length_cons, List.length_nil, Nat.reduceAdd, Nat.reduceSub, Array.replicate_succ, Array.replicate_zero, List.push_toArray, List.append_toArray, List.nil_append, List.cons_append]
  gi_wp2
  gi_loopw [3] (fun _ wr => ∃ k : Nat, k ≤ (piecesL bs).length ∧ J k wr ∧ pcBox wr bx b off c bs k ∧ Below w0.heap.size w0 wr) (fun _ wr => boxLen bx wr)
  case atStart => exact ⟨0, by omega, h0, hstart, hbel⟩
  case round =>
    obtain ⟨k, hk, hJk, ⟨Ak, hbk, hAk⟩, hbelk⟩ := hrel
    rw [Hl.out] at hbk hAk
    have hst := (pieces_at hk).1
    rw [Hl.out] at hst
    by_cases hlt : stP bs k < n
    · have hk' := pieces_more hk (by rw [Hl.out]; exact hlt)
      obtain rfl := hAk (by omega)
      have hbytes : Bytes wr (some ⟨b, off + stP bs k, none⟩) (n - stP bs k) (c - stP bs k) (bs.drop (stP bs k)) := by
        have := (hx.below hbelk)
        rw [hA (by omega)] at this
        obtain ⟨A', hr, hv⟩ := this.cut_l tB eB sB (stP bs k : Int) (by omega) (by omega)
        have h2 := run_cut_l (P := Tryz.prog) (A := some ⟨b, off, none⟩) (n := n) (c := c) tB eB sB (stP bs k : Int) (by omega) (by omega) wr
        rw [hr wr] at h2
        injection h2 with h2
        injection h2 with h2 _ _
        rw [if_neg (by have := hx.2.1; rw [Int.toNat_natCast]; omega)] at h2
        rw [h2] at hv
        simpa [addr_add] using hv
      have hcell := hbk.cell
      have hfroz := hbk.frozen
      have hne := pieces_ne hk'
      obtain ⟨ds, hds⟩ : ∃ ds, ds = bs.drop (stP bs k) := ⟨_, rfl⟩
      have hy0 := HY.out k wr hk' hJk
      unfold pcRow wdP at hy0
      have hplen := plen_le hne
      rw [← hds] at hbytes hy0 hne hplen
      have hnext : Hid (stP bs (k + 1) = stP bs k + plen ds) := by show _ = _; rw [hds]; rfl
      obtain ⟨st, hst'⟩ : ∃ st, st = stP bs k := ⟨_, rfl⟩
      rw [← hst'] at hbytes hy0 hnext hcell hbk hst hlt
      clear hds hst' hAk
      have hdl := hbytes.1
      rw [hdl] at hplen
      have Hdl := Lib.hid hdl; clear hdl
      have hrle := runL_le ds
      rw [Hdl.out] at hrle
      have hplen1 := plen_pos ds
      obtain ⟨m, hm⟩ : ∃ m, m = n - st := ⟨_, rfl⟩
      obtain ⟨q, hq⟩ : ∃ q, q = c - st := ⟨_, rfl⟩
      rw [← hm, ← hq] at hcell hbytes hbk
      rw [← hm] at hplen hrle Hdl
      rw [← hq] at hy0
      have hmp : 0 < m := by omega
      have hm9 : m ≤ 1000000000 := by omega
      have Hm := Lib.hid hm; clear hm
      have Hq := Lib.hid hq; clear hq
      have d0 : decide ((0 : Int) < (m : Int)) = true := by simp; omega
      have d0' : decide (0 < m) = true := by simp; omega
      have hcap := hbytes.2.1
      gi_wp2
      gi_loop [3] (fun i => ∃ j : Nat, j ≤ runL ds ∧ i = .int .i64 (j : Int)) (fun i => runL ds - (intOf i).toNat)
      case atStart => exact ⟨0, by omega, rfl⟩
      case round =>
        obtain ⟨j, hj, rfl⟩ := hrel
        by_cases hjm : j < m
        · have d1 : decide ((j : Int) < (m : Int)) = true := by simp; omega
          have d1' : decide (j < m) = true := by simp; omega
          have c1 := hbytes.cell (k := j) hjm
          by_cases hjr : j < runL ds
          · have hle := runL_letter hjr
            have hcal := letter_any (gb ds j) wr
            rw [hle] at hcal
            have Hcal := Lib.hid hcal; clear hcal hle
            have HJ : Hid (j + 1 ≤ runL ds) := hjr
            gi_wp2_with (refine ⟨trivial, ?_⟩; gi_at_call 248; refine (callsIn_wide.2 Hcal.out).mono ?_; rintro e w1 ⟨rfl, hw1⟩; obtain rfl : wr = w1 := hw1.symm)
            go_round
            case rel => exact ⟨j + 1, HJ.out, by go_num⟩
            case measure => have := HJ.out; simp [intOf]; omega
          · obtain rfl : j = runL ds := by omega
            have hle := runL_stop (bs := ds) (by rw [Hdl.out]; exact hjm)
            have hcal := letter_any (gb ds (runL ds)) wr
            rw [hle] at hcal
            have Hcal := Lib.hid hcal; clear hcal hle
            rcases Nat.eq_zero_or_pos (runL ds) with hr0 | hr0
            · have hp1 : plen ds = 1 := by unfold plen; omega
              have hw0 : decide (0 < runL ds) = false := by simp; omega
              have hw0' : decide ((0 : Int) < (runL ds : Int)) = false := by simp; omega
              have hmx : max ((runL ds : Nat) : Int) 1 = 1 := by omega
              obtain ⟨r4, v4⟩ := hbytes.cut_h tB eB sB (1 : Int) (by omega) (by omega)
              have r5 := run_cut_l (P := Tryz.prog) (A := some ⟨b, off + st, none⟩) (n := m) (c := q) tB eB sB (1 : Int) (by omega) (by omega)
              rw [hp1, hw0] at hy0
              rw [hp1] at hnext
              obtain ⟨fn, tmps, assign, body, hy, hR⟩ := hy0
              have hr1 : runL ds < 1 := by omega
              clear hr0 hp1
              gi_wp2_with (refine ⟨trivial, ?_⟩; gi_at_call 248; refine (callsIn_wide.2 Hcal.out).mono ?_; rintro e w1 ⟨rfl, hw1⟩; obtain rfl : wr = w1 := hw1.symm)
              refine hR.mono ?_
              rintro e W3 (⟨rfl, hJ3, hk3⟩ | ⟨rfl, hJx3⟩)
              · have hbk3 : Boxed W3 bx 23 (.slice (some ⟨b, off + st, none⟩) m q) := hk3.1.trans hbk
                have hcell3 := hbk3.cell
                have hfroz3 := hbk3.frozen
                clear hR hy hcell hfroz
                gi_wp2
                go_roundw
                case rel =>
                  exact ⟨k + 1, hk', hJ _ _ _ hJ3 (grownBy_setCell' _ _ _), pcBox_next hbk3 Hl.out Hm.out Hq.out hnext.out (by omega) (fun h => by first | rfl | rw [if_neg (by omega)]), (hbelk.trans hk3.2).setCell (p := ⟨bx, 0, none⟩) hbx _⟩
                case measure => rw [boxLen_of (hbk3.set _), boxLen_of hbk]; omega
              · clear hR hy
                gi_wp2
                refine bodyPost_ret (results_none rfl _ _ _) rfl ?_
                exact ⟨⟨_, rfl⟩, .inr ⟨k + 1, hk', hJx3⟩⟩
            · have hp1 : plen ds = runL ds := by unfold plen; omega
              have hw0 : decide (0 < runL ds) = true := by simp; omega
              have hw0' : decide ((0 : Int) < (runL ds : Int)) = true := by simp; omega
              have hmx : max ((runL ds : Nat) : Int) 1 = (runL ds : Int) := by omega
              obtain ⟨r4, v4⟩ := hbytes.cut_h tB eB sB (runL ds : Int) (by omega) (by omega)
              rw [Int.toNat_natCast] at r4
              have r5 := run_cut_l (P := Tryz.prog) (A := some ⟨b, off + st, none⟩) (n := m) (c := q) tB eB sB (runL ds : Int) (by omega) (by omega)
              rw [Int.toNat_natCast] at r5
              rw [hp1, hw0] at hy0
              rw [hp1] at hnext
              obtain ⟨fn, tmps, assign, body, hy, hR⟩ := hy0
              clear hp1
              gi_wp2_with (refine ⟨trivial, ?_⟩; gi_at_call 248; refine (callsIn_wide.2 Hcal.out).mono ?_; rintro e w1 ⟨rfl, hw1⟩; obtain rfl : wr = w1 := hw1.symm)
              refine hR.mono ?_
              rintro e W3 (⟨rfl, hJ3, hk3⟩ | ⟨rfl, hJx3⟩)
              · have hbk3 : Boxed W3 bx 23 (.slice (some ⟨b, off + st, none⟩) m q) := hk3.1.trans hbk
                have hcell3 := hbk3.cell
                have hfroz3 := hbk3.frozen
                clear hR hy hcell hfroz
                gi_wp2
                go_roundw
                case rel =>
                  exact ⟨k + 1, hk', hJ _ _ _ hJ3 (grownBy_setCell' _ _ _), pcBox_next hbk3 Hl.out Hm.out Hq.out hnext.out (by omega) (fun h => by first | rfl | rw [if_neg (by omega)]), (hbelk.trans hk3.2).setCell (p := ⟨bx, 0, none⟩) hbx _⟩
                case measure => rw [boxLen_of (hbk3.set _), boxLen_of hbk]; omega
              · clear hR hy
                gi_wp2
                refine bodyPost_ret (results_none rfl _ _ _) rfl ?_
                exact ⟨⟨_, rfl⟩, .inr ⟨k + 1, hk', hJx3⟩⟩
        · have d1 : decide ((j : Int) < (m : Int)) = false := by simp; omega
          have d1' : decide (j < m) = false := by simp; omega
          obtain rfl : j = runL ds := by omega
          rcases Nat.eq_zero_or_pos (runL ds) with hr0 | hr0
          · exfalso; omega
          · have hp1 : plen ds = runL ds := by unfold plen; omega
            have hw0 : decide (0 < runL ds) = true := by simp; omega
            have hw0' : decide ((0 : Int) < (runL ds : Int)) = true := by simp; omega
            have hmx : max ((runL ds : Nat) : Int) 1 = (runL ds : Int) := by omega
            obtain ⟨r4, v4⟩ := hbytes.cut_h tB eB sB (runL ds : Int) (by omega) (by omega)
            rw [Int.toNat_natCast] at r4
            have r5 := run_cut_l (P := Tryz.prog) (A := some ⟨b, off + st, none⟩) (n := m) (c := q) tB eB sB (runL ds : Int) (by omega) (by omega)
            rw [Int.toNat_natCast] at r5
            rw [hp1, hw0] at hy0
            rw [hp1] at hnext
            obtain ⟨fn, tmps, assign, body, hy, hR⟩ := hy0
            clear hp1
            gi_wp2
            refine ⟨trivial, ?_⟩
            gi_wp2
            refine hR.mono ?_
            rintro e W3 (⟨rfl, hJ3, hk3⟩ | ⟨rfl, hJx3⟩)
            · have hbk3 : Boxed W3 bx 23 (.slice (some ⟨b, off + st, none⟩) m q) := hk3.1.trans hbk
              have hcell3 := hbk3.cell
              have hfroz3 := hbk3.frozen
              clear hR hy hcell hfroz
              gi_wp2
              go_roundw
              case rel =>
                exact ⟨k + 1, hk', hJ _ _ _ hJ3 (grownBy_setCell' _ _ _), pcBox_next hbk3 Hl.out Hm.out Hq.out hnext.out (by omega) (fun h => by first | rfl | rw [if_neg (by omega)]), (hbelk.trans hk3.2).setCell (p := ⟨bx, 0, none⟩) hbx _⟩
              case measure => rw [boxLen_of (hbk3.set _), boxLen_of hbk]; omega
            · clear hR hy
              gi_wp2
              refine bodyPost_ret (results_none rfl _ _ _) rfl ?_
              exact ⟨⟨_, rfl⟩, .inr ⟨k + 1, hk', hJx3⟩⟩
    · have hkl : k = (piecesL bs).length := by
        rcases Nat.lt_or_ge k (piecesL bs).length with h | h
        · have := pieces_ne h
          rw [ne_eq, List.drop_eq_nil_iff, Hl.out] at this
          omega
        · omega
      have d0 : decide ((0 : Int) < ((n - stP bs k : Nat) : Int)) = false := by simp; omega
      have hcell := hbk.cell
      have hz : n - stP bs k = 0 := by omega
      rw [hz] at hcell
      have d0' : decide ((0 : Int) < ((0 : Nat) : Int)) = false := rfl
      gi_wp2
      go_end0
      exact ⟨⟨_, rfl⟩, .inl (hkl ▸ hJk)⟩
end Go.Proofs.YtckkmafppfcecaaGreatDoor.Dic
