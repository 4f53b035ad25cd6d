/- The reference of layer 15: Form. -/
import Derived.Test.YtmijalhilalaoaaDoorIg
namespace Go.Proofs.YtmijalhilalaoaaDoor
open Go.RowKit Go.Proofs
set_option linter.unusedVariables false

def sumA : List Arr → Int
  | [] => 0
  | x :: l => x.size + sumA l
theorem arrGo_bad : ∀ (l : List Arr) (left : Int), left ≤ 65536 → (∃ x ∈ l, x.size < 1 ∨ 65536 < x.size) → arrGo left l = 2
  | [], _, _, ⟨x, hx, _⟩ => by simp at hx
  | y :: l, left, hl, ⟨x, hx, hb⟩ => by
    rw [arrGo]
    by_cases h1 : y.size < 1 ∨ left < y.size
    · rw [if_pos h1]
    · rw [if_neg h1]
      rcases List.mem_cons.1 hx with rfl | hx
      · omega
      · exact arrGo_bad l _ (by omega) ⟨x, hx, hb⟩
theorem arrGo_sum : ∀ (l : List Arr) (left : Int), 0 ≤ left → (∀ x ∈ l, 1 ≤ x.size) → arrGo left l = if left < sumA l then 2 else 0
  | [], left, hl, _ => by rw [arrGo, sumA, if_neg (by omega)]
  | y :: l, left, hl, h => by
    have hy := h y (by simp)
    have hs : 0 ≤ sumA l := by
      have : ∀ m : List Arr, (∀ x ∈ m, 1 ≤ x.size) → 0 ≤ sumA m := fun m => by
        induction m with
        | nil => intro _; exact Int.le_refl _
        | cons z m ih => intro hm; have := hm z (by simp); have := ih (fun x hx => hm x (by simp [hx])); rw [sumA]; omega
      exact this l (fun x hx => h x (by simp [hx]))
    rw [arrGo, sumA]
    by_cases h1 : y.size < 1 ∨ left < y.size
    · rw [if_pos h1, if_pos (by omega)]
    · rw [if_neg h1, arrGo_sum l _ (by omega) (fun x hx => h x (by simp [hx]))]
      by_cases h2 : left - y.size < sumA l
      · rw [if_pos h2, if_pos (by omega)]
      · rw [if_neg h2, if_neg (by omega)]
theorem sumA_take {l : List Arr} {k : Nat} (hk : k < l.length) : sumA (l.take (k + 1)) = sumA (l.take k) + (gA l k).size := by
  have : ∀ (m : List Arr) (x : Arr), sumA (m ++ [x]) = sumA m + x.size := fun m x => by
    induction m with
    | nil => show x.size + 0 = 0 + x.size; omega
    | cons z m ih => rw [List.cons_append, sumA, sumA, ih]; omega
  rw [List.take_succ_eq_append_getElem hk, this, gA_get hk]

set_option maxRecDepth 100000 in
set_option maxHeartbeats 4000000 in
theorem formR_any (A A' : Option Addr) (n c n' c' : Nat) (L : Int) (p : Prg) (w : World) (hx : Progs w A n c L A' n' c' p) :
    Calls Tryd.prog 54 #[.agg #[.slice A n c, .int .i64 L, .slice A' n' c']] w fun e w' => e = .returned (.int .i64 (formE p)) ∧ Below w.heap.size w w' := by
  have hL := bounds_i64 hx.wf
  have HnA := Lib.hid hx.arrs.1
  have HnC := Lib.hid hx.code.1
  have hE : Hid (formE p = if arrE p.arrs ≠ 0 then arrE p.arrs else if p.locs < 0 ∨ 16 < p.locs then 2 else if 1024 < p.code.length then 6 else codeE p.code) := rfl
  rw [← hx.locs, HnC.out] at hE
  have hAE : Hid (arrE p.arrs = if 8 < p.arrs.length then 6 else arrGo 65536 p.arrs) := rfl
  rw [HnA.out] at hAE
  have g0 : Below w.heap.size w (w.alloc (.cells #[.slice A n c, .int .i64 L, .slice A' n' c'] 25)) := balloc (Below.refl _ _) _
  have r0 := rowV.new w 25 #[.slice A n c, .int .i64 L, .slice A' n' c']
  have hx0 := hx.below g0
  obtain ⟨w0, hw0⟩ : ∃ w0, w0 = w.alloc (.cells #[.slice A n c, .int .i64 L, .slice A' n' c'] 25) := ⟨_, rfl⟩
  rw [← hw0] at g0 r0 hx0
  have Hw0 := Lib.hid hw0
  clear hw0
  obtain ⟨c0, c1, c2⟩ := three_cells r0
  go_enter Tryd.func54, Tryd.ntmps54
  go_upto_region 1 with (fail)
  rw [← Hw0.out]
  clear Hw0
  by_cases h1 : 8 < n
  · have d1 : decide ((8 : Int) < (n : Int)) = true := by simp; omega
    have d1' : decide (8 < n) = true := by simp; omega
    have hE' : Hid (formE p = 6) := by show _ = _; rw [hE.out, hAE.out, if_pos h1, if_pos (by omega)]
    go_wp2_with fail
    go_ret
    exact ⟨ret_int hE'.out.symm, g0⟩
  · have d1 : decide ((8 : Int) < (n : Int)) = false := by simp; omega
    have d1' : decide (8 < n) = false := by simp; omega
    rw [if_neg h1] at hAE
    go_wp2_with fail
    go_loop [3, 4] (fun s i => ∃ (k : Nat) (t : Int), k ≤ n ∧ 0 ≤ t ∧ t ≤ 65536 * k ∧ i = .int .i64 (k : Int) ∧ s = .int .i64 t ∧ Hid (t = sumA (p.arrs.take k)) ∧ Hid (∀ j, j < k → 1 ≤ (gA p.arrs j).size)) (fun _ i => n - (intOf i).toNat)
    case atStart => exact ⟨0, 0, Nat.zero_le _, by omega, by omega, rfl, rfl, rfl, fun j hj => absurd hj (by omega)⟩
    case round =>
      obtain ⟨k, t, hk, ht0, ht1, rfl, rfl, HS, HA⟩ := hrel
      by_cases hlt : k < n
      · have e1 : decide ((k : Int) < (n : Int)) = true := by simp; omega
        have e1' : decide (k < n) = true := by simp; omega
        obtain ⟨b, off, rfl, hbl, hcell⟩ := hx0.arrs.get hlt
        obtain ⟨q1, q2⟩ := hcell k hlt
        have hsz := bounds_i64 (hx0.arrs.size hlt)
        have hst := Lib.hid (sumA_take (l := p.arrs) (k := k) (by rw [HnA.out]; exact hlt))
        have hmem := Lib.hid (gA_mem (l := p.arrs) (k := k) (by rw [HnA.out]; exact hlt))
        clear hcell
        obtain ⟨x, hxe⟩ : ∃ x, x = gA p.arrs k := ⟨_, rfl⟩
        have Hxe := Lib.hid hxe
        rw [← hxe] at q1 q2 hsz hst hmem
        clear hxe
        obtain ⟨wd, sz⟩ := x
        dsimp only at q1 q2 hsz hst
        by_cases h2 : sz < 1
        · have d2 : decide (sz < 1) = true := by simpa using h2
          have hE' : Hid (formE p = 2) := by show _ = _; rw [hE.out, hAE.out, arrGo_bad _ _ (Int.le_refl _) ⟨_, hmem.out, .inl h2⟩, if_pos (by omega)]
          go_wp2_with fail
          go_ret
          exact ⟨ret_int hE'.out.symm, g0⟩
        · have d2 : decide (sz < 1) = false := by simpa using h2
          by_cases h3 : 65536 < sz
          · have d3 : decide (65536 < sz) = true := by simpa using h3
            have hE' : Hid (formE p = 2) := by show _ = _; rw [hE.out, hAE.out, arrGo_bad _ _ (Int.le_refl _) ⟨_, hmem.out, .inr h3⟩, if_pos (by omega)]
            go_wp2_with fail
            go_ret
            exact ⟨ret_int hE'.out.symm, g0⟩
          · have d3 : decide (65536 < sz) = false := by simpa using h3
            have HA' : Hid (∀ j, j < k + 1 → 1 ≤ (gA p.arrs j).size) := fun j hj => by
              rcases Nat.lt_succ_iff_lt_or_eq.1 hj with h | h
              · exact HA.out j h
              · subst h; rw [← Hxe.out]; show 1 ≤ sz; omega
            go_wp2_with fail
            go_round
            case rel => exact ⟨k + 1, t + sz, by omega, by omega, by push_cast; omega, by go_num, by go_num, (show _ = _ by rw [hst.out, HS.out]), HA'⟩
            case measure => simp [intOf]; omega
      · have e1 : decide ((k : Int) < (n : Int)) = false := by simp; omega
        have e1' : decide (k < n) = false := by simp; omega
        have hkn : k = n := by omega
        have hG : Hid (arrGo 65536 p.arrs = if 65536 < t then 2 else 0) := by
          show _ = _
          rw [arrGo_sum p.arrs 65536 (by omega) (fun x hx => by
            obtain ⟨j, hj, rfl⟩ := List.getElem_of_mem hx
            rw [← gA_get hj]
            exact HA.out j (by rw [hkn, ← HnA.out]; exact hj)), HS.out, List.take_of_length_le (by rw [HnA.out]; omega)]
        clear HS HA hkn
        by_cases h2 : 65536 < t
        · have d2 : decide (65536 < t) = true := by simpa using h2
          have hE' : Hid (formE p = 2) := by show _ = _; rw [hE.out, hAE.out, hG.out, if_pos h2, if_pos (by omega)]
          go_wp2_with fail
          go_ret
          exact ⟨ret_int hE'.out.symm, g0⟩
        · have d2 : decide (65536 < t) = false := by simpa using h2
          rw [hG.out, if_neg h2] at hAE
          rw [hAE.out, if_neg (by omega)] at hE
          clear hG hAE
          by_cases h3 : L < 0
          · have d3 : decide (L < 0) = true := by simpa using h3
            rw [if_pos (.inl h3)] at hE
            go_wp2_with fail
            go_ret
            exact ⟨ret_int hE.out.symm, g0⟩
          · have d3 : decide (L < 0) = false := by simpa using h3
            by_cases h4 : 16 < L
            · have d4 : decide (16 < L) = true := by simpa using h4
              rw [if_pos (.inr h4)] at hE
              go_wp2_with fail
              go_ret
              exact ⟨ret_int hE.out.symm, g0⟩
            · have d4 : decide (16 < L) = false := by simpa using h4
              rw [if_neg (by omega)] at hE
              by_cases h5 : 1024 < n'
              · have d5 : decide ((1024 : Int) < (n' : Int)) = true := by simp; omega
                have d5' : decide (1024 < n') = true := by simp; omega
                rw [if_pos h5] at hE
                go_wp2_with fail
                go_ret
                exact ⟨ret_int hE.out.symm, g0⟩
              · have d5 : decide ((1024 : Int) < (n' : Int)) = false := by simp; omega
                have d5' : decide (1024 < n') = false := by simp; omega
                rw [if_neg h5] at hE
                go_wp2_with fail
                go_loopw [5] (fun i wr => ∃ k : Nat, k ≤ n' ∧ i = .int .i64 (k : Int) ∧ Hid (codeE (p.code.drop k) = codeE p.code) ∧ Below w0.heap.size w0 wr) (fun i _ => n' - (intOf i).toNat)
                case atStart => exact ⟨0, Nat.zero_le _, rfl, rfl, Below.refl _ _⟩
                case round =>
                  obtain ⟨k, hk, rfl, HG, hb⟩ := hrel
                  have r3 := r0.below hb r0.lt
                  obtain ⟨j0, j1, j2⟩ := three_cells r3
                  by_cases hlt : k < n'
                  · have e1 : decide ((k : Int) < (n' : Int)) = true := by simp; omega
                    have e1' : decide (k < n') = true := by simp; omega
                    obtain ⟨b, off, rfl, hbl, hcell⟩ := (hx0.code.below hb).get hlt
                    obtain ⟨q1, q2⟩ := hcell k hlt
                    obtain ⟨a0, a1, a2⟩ := hx0.code.arg hlt
                    have hd := Lib.hid (drop_gI (l := p.code) (k := k) (by rw [HnC.out]; exact hlt))
                    clear hcell
                    obtain ⟨x, hxe⟩ : ∃ x, x = gI p.code k := ⟨_, rfl⟩
                    rw [← hxe] at q1 q2 a0 a1 a2 hd
                    clear hxe
                    have H2 := Lib.hid (checkR_any x wr a0 a1)
                    have hG : Hid (codeE p.code = if chkE x ≠ 0 then chkE x else codeE (p.code.drop (k + 1))) := by show _ = _; rw [← HG.out, hd.out]; rfl
                    obtain ⟨ce, hce⟩ : ∃ ce, ce = chkE x := ⟨_, rfl⟩
                    rw [← hce] at H2 hG
                    clear hce hd HG
                    go_wp2_with fail
                    refine H2.out.mono ?_
                    rintro e w2 ⟨rfl, hb2⟩
                    have b3 := hb.trans (hb2.mono hb.size)
                    clear H2 hb2
                    by_cases h6 : ce = 0
                    · have d6 : (ce != 0) = false := by simp [h6]
                      rw [if_neg (by omega)] at hG
                      clear h6
                      go_wp2_with fail
                      go_roundw
                      case rel => exact ⟨k + 1, by omega, by go_num, hG.out.symm, b3⟩
                      case measure => simp [intOf]; omega
                    · have d6 : (ce != 0) = true := by simp [h6]
                      rw [if_pos h6] at hG
                      go_wp2_with fail
                      go_ret
                      exact ⟨ret_int (by rw [hE.out, hG.out]), g0.trans (b3.mono g0.size)⟩
                  · have e1 : decide ((k : Int) < (n' : Int)) = false := by simp; omega
                    have e1' : decide (k < n') = false := by simp; omega
                    have hG : Hid (codeE p.code = 0) := by show _ = _; rw [← HG.out, List.drop_of_length_le (by rw [HnC.out]; omega)]; rfl
                    go_wp2_with fail
                    go_ret
                    exact ⟨ret_int (by rw [hE.out, hG.out]), g0.trans (hb.mono g0.size)⟩
end Go.Proofs.YtmijalhilalaoaaDoor
