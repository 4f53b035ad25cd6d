/- Forward of the program. -/
import Derived.Test.YtdebhdopginllaaDoorDt
namespace Go.Proofs.YtdebhdopginllaaDoor
open Go.RowKit Go.Proofs Go.Sort
set_option linter.unusedVariables false

theorem learnSel_ok {ws : List (List UInt8)} : ∀ (m : Nat) (out : List (List UInt8)), out.Nodup → (∀ s ∈ out, s ∈ ws ∧ candP ws s) → (learnSel ws m out).Nodup ∧ (∀ s ∈ learnSel ws m out, s ∈ ws ∧ candP ws s) ∧ (learnSel ws m out).length ≤ out.length + m
  | 0, out, h1, h2 => ⟨h1, h2, Nat.le_refl _⟩
  | m + 1, out, h1, h2 => by
    rw [learnSel]
    have B := best_any (ws := ws) (out := out) (Nat.le_refl _)
    by_cases h : (bestTo ws out ws.length).2 ≤ 0
    · rw [if_pos h]; exact ⟨h1, h2, by omega⟩
    · rw [if_neg h]
      obtain ⟨b1, b2, b3, b4⟩ := B.mem (by omega)
      have ih := learnSel_ok m (out ++ [(bestTo ws out ws.length).1]) (by
        rw [List.nodup_append]
        refine ⟨h1, by simp, fun a ha b hb e => ?_⟩
        rw [List.mem_singleton] at hb
        subst hb e
        exact b3 ha) (fun s hs => by
        rw [List.mem_append, List.mem_singleton] at hs
        rcases hs with hs | rfl
        · exact h2 s hs
        · exact ⟨b1, b2⟩)
      refine ⟨ih.1, ih.2.1, ?_⟩
      have := ih.2.2
      rw [List.length_append] at this
      simp at this
      omega
theorem learn_check (bs : List UInt8) {most : Nat} (h : most ≤ 64) : checkL (learnL bs most) = 0 := by
  obtain ⟨h1, h2, h3⟩ := learnSel_ok (ws := wordsL bs) most [] List.nodup_nil (fun s hs => by cases hs)
  exact checkL_zero.2 ⟨by simp at h3; unfold learnL; omega, fun s hs => (h2 s hs).2.1, h1⟩

/-- the texts of a list. -/
def textsL : List (List UInt8) → List UInt8
  | [] => []
  | s :: r => UInt8.ofNat s.length :: s ++ textsL r
theorem textsL_append (x y : List (List UInt8)) : textsL (x ++ y) = textsL x ++ textsL y := by
  induction x with
  | nil => rfl
  | cons s r ih => simp [textsL, ih]
theorem textsL_len {ws : List (List UInt8)} (h : ∀ s ∈ ws, s.length ≤ 32) : (textsL ws).length ≤ 33 * ws.length := by
  induction ws with
  | nil => simp [textsL]
  | cons s r ih =>
    have := h s (by simp)
    have := ih (fun s hs => h s (by simp [hs]))
    simp [textsL]; omega
def forwardL (bs : List UInt8) : List UInt8 := UInt8.ofNat (learnL bs 64).length :: textsL (learnL bs 64) ++ codeL (learnL bs 64) bs
theorem word_le {s : List UInt8} (h : isWordB s = true) : s.length ≤ 32 := by simp [isWordB] at h; exact h.2.1

set_option maxRecDepth 100000 in
set_option maxHeartbeats 2000000 in
theorem forwardP_any (A : Option Addr) (c m : Nat) (bs : List UInt8) (w : World) (hy : Bytes w A m c bs) (hm : m ≤ 2000) :
    Calls Tryd.prog 13 #[.slice A m c] w (RetBytes w (forwardL bs) 0) := by
  have Hl := Lib.hid hy.1
  have hcal := learnP_any A c m bs 64 w hy hm (by omega)
  have hck := learn_check bs (most := 64) (by omega)
  obtain ⟨hwl, hww, hwn⟩ := checkL_zero.1 hck
  have hlr : learnR bs 64 = (learnL bs 64, 0) := by unfold learnR; rw [if_neg (by omega)]; rfl
  rw [hlr] at hcal
  have Hcal := Lib.hid hcal; clear hcal hlr
  have hF : Hid (forwardL bs = UInt8.ofNat (learnL bs 64).length :: textsL (learnL bs 64) ++ codeL (learnL bs 64) bs) := rfl
  obtain ⟨ws, hws⟩ : ∃ ws, ws = learnL bs 64 := ⟨_, rfl⟩
  rw [← hws] at Hcal hF hck hwl hww
  clear hws hwn
  have Hck := Lib.hid hck; clear hck
  have Hww := Lib.hid hww; clear hww
  go_enter Tryd.func13, Tryd.ntmps13
  go_wp2_with fail
  refine Hcal.out.mono ?_
  rintro e w1 ⟨A1, n1, c1, rfl, hs1, hb1⟩
  have Hn1 := Lib.hid hs1.1
  rw [Hn1.out] at hwl
  have hcc := codeP_any A1 A c1 c n1 m ws bs w1 hs1 (hy.below hb1) (by omega) (fun s hs => by have := word_le (Hww.out s hs); omega) hm
  have hcr : codeR ws bs = (codeL ws bs, 0) := by unfold codeR; rw [if_pos Hck.out]
  rw [hcr] at hcc
  have Hcc := Lib.hid hcc; clear hcc hcr Hcal
  go_wp2_with fail
  refine Hcc.out.mono ?_
  rintro e w2 ⟨A2, n2, c2, rfl, hx2, hb2⟩
  have hs2 := hs1.below hb2
  have hn2 : n2 ≤ 4000 := by rw [← hx2.1]; have := codeL_len ws bs; rw [Hl.out] at this; omega
  have hpi := Lib.hid (putInt_small none 0 0 [] n1 w2 (Bytes.nil w2 0) (by omega) (by omega))
  clear Hcc hs1
  go_wp2_with fail
  refine hpi.out.mono ?_
  rintro e w3 ⟨A3, n3, c3, rfl, ho3, hb3⟩
  rw [List.nil_append] at ho3
  have hn3 : n3 ≤ 1 := by rw [← ho3.length]; simp
  clear hpi
  have hb13 : Below w2.heap.size w2 w3 := hb3
  go_wp2_with fail
  go_loopw [7, 9, 32] (fun o _ i wr => ∃ (k : Nat) (A4 : Option Addr) (n4 c4 : Nat) (B4 : Nat), k ≤ n1 ∧ i = .int .i64 (k : Int) ∧ o = .slice A4 n4 c4 ∧ n4 ≤ 1 + 33 * k ∧ w2.heap.size ≤ B4 ∧ B4 ≤ wr.heap.size ∧ Own encB wr B4 5 A4 n4 c4 (UInt8.ofNat n1 :: textsL (ws.take k)) ∧ Below w2.heap.size w2 wr) (fun _ _ i _ => n1 - (intOf i).toNat)
  case atStart => exact ⟨0, A3, n3, c3, w2.heap.size, Nat.zero_le _, rfl, rfl, by omega, Nat.le_refl _, hb3.size, ho3, hb3⟩
  case round =>
    obtain ⟨k, A4, n4, c4, B4, hk, rfl, rfl, hn4, hB4, hB4', ho4, hb4⟩ := hrel
    by_cases hlt : k < n1
    · have dk : decide ((k : Int) < (n1 : Int)) = true := by simp; omega
      have dk' : decide (k < n1) = true := by simp; omega
      have hkl : k < ws.length := by rw [Hn1.out]; exact hlt
      obtain ⟨b5, off5, rfl, hb5, hc5⟩ := (hs2.below hb4).get hlt
      have c5 := hc5 k hlt
      clear hc5
      have hwk : (gs ws k).length ≤ 32 := by rw [gs_get hkl]; exact word_le (Hww.out _ (List.getElem_mem hkl))
      have hnx : Hid (textsL (ws.take (k + 1)) = textsL (ws.take k) ++ (UInt8.ofNat (gs ws k).length :: gs ws k)) := by
        show _ = _
        rw [List.take_succ_eq_append_getElem hkl, textsL_append, ← gs_get hkl]
        simp [textsL]
      have hpt := Lib.hid (putText_small A4 n4 c4 _ (gs ws k) wr ho4.bytesB (by omega) (by omega))
      have hlen4 := Lib.hid ho4.length
      go_wp2_with fail
      refine hpt.out.mono ?_
      rintro e w6 ⟨A6, n6, c6, rfl, ho6, hb6⟩
      have hn6 : Hid (n6 ≤ n4 + 33) := by
        show _ ≤ _
        have h1 := ho6.length
        rw [List.length_append, hlen4.out] at h1
        simp at h1
        omega
      go_wp2_with fail
      go_roundw
      case rel => exact ⟨k + 1, A6, n6, c6, wr.heap.size, by omega, by go_num, rfl, by have := hn6.out; omega, hb4.size, hb6.size, by rw [hnx.out]; simpa using ho6, hb4.trans (hb6.mono hb4.size)⟩
      case measure => simp [intOf]; omega
    · have dk : decide ((k : Int) < (n1 : Int)) = false := by simp; omega
      have dk' : decide (k < n1) = false := by simp; omega
      have hnx : Hid (ws.take k = ws) := List.take_of_length_le (by rw [Hn1.out]; omega)
      have hx4 := hx2.below hb4
      have m1 : Hid (n4 + n2 ≤ maxLen ∧ (n4 + n2) * 1 ≤ 140737488355328) := ⟨by simp [maxLen]; omega, by omega⟩
      have d65 : decide ((65536 : Int) < ((n4 + n2 : Nat) : Int)) = false := by simp; omega
      have d65' : decide ((65536 : Int) < (n4 : Int) + (n2 : Int)) = false := by simp; omega
      have HxL := Lib.hid hx4.1
      have hB4h := Lib.hid hB4'
      go_wp2_with (at_builtin; refine wpList_app (enc := encB) rfl (.tmp 40) (.tmp 41) rfl uB infoB encB_one rfl rfl ho4 hB4h.out A2 n2 c2 (codeL ws bs) 0 HxL.out hx4.2.2 rfl m1.out.1 m1.out.2 ?_; intro A7 c7 W7 ho7 hb7 hg7)
      go_ret2
      rw [hF.out, ← Hn1.out] at *
      rw [hnx.out] at ho7
      rw [Hn1.out]
      rw [Hn1.out] at ho7
      refine RetBytes.mk rfl (Own.bytesB ho7) ?_
      exact hb1.trans ((hb2.trans ((hb4.mono hb2.size).trans (hb7.mono (Nat.le_trans hb2.size hB4)))).mono hb1.size)
end Go.Proofs.YtdebhdopginllaaDoor
