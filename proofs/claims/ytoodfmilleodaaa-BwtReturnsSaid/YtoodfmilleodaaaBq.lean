/- Pack and Unpack of layer 33. -/
import Derived.Test.YtoodfmilleodaaaBo
namespace Go.Proofs.Ytoodfmilleodaaa
open Go.RowKit Go.Proofs Go.Sort
set_option linter.unusedVariables false

def packRes (bs : List UInt8) : List UInt8 × Nat := if 65536 < bs.length then ([], 5) else (putL (primN bs) ++ fwdL bs, 0)
def unpackRes (bs : List UInt8) : List UInt8 × Int := if 65536 < bs.length then ([], 5) else if (intL bs).2.2 ≠ 0 then ([], ((intL bs).2.2 : Int)) else (invRes (intL bs).2.1 ((intL bs).1 : Int), invErr (intL bs).2.1 ((intL bs).1 : Int))
theorem putL_le (n : Nat) : (putL n).length ≤ 2 := by unfold putL; split <;> simp
theorem intL_len (bs : List UInt8) : (intL bs).2.1.length ≤ bs.length := by
  unfold intL
  split
  · simp
  · split
    · simp
    · split
      · simp
      · split
        · simp
        · simp

set_option maxHeartbeats 1000000 in
theorem pack_any (A : Option Addr) (n c : Nat) (bs : List UInt8) (w : World) (hx : Bytes w A n c bs) (hn : n ≤ 1000000000) (hn2 : n ≤ 255 ∨ 65536 < n) :
    Calls Try.prog 28 #[.slice A n c] w (RetBytes w (packRes bs).1 ((packRes bs).2 : Int)) := by
  have Hn := Lib.hid hx.1
  have hcal := forward_any A n c bs w hx hn
  by_cases h1 : 65536 < n
  · have hR : Hid (packRes bs = ([], 5)) := by show _ = _; unfold packRes; rw [Hn.out, if_pos h1]
    have hF : fwdRes bs = ([], 0, 5) := by unfold fwdRes; rw [Hn.out, if_pos h1]
    rw [hF] at hcal
    have Hcal := Lib.hid hcal; clear hcal hF
    go_enter Try.func28, Try.ntmps28
    go_wp2_with fail
    refine Hcal.out.mono ?_
    rintro e w1 ⟨A1, n1, c1, rfl, -, hb1⟩
    go_wp2_with fail
    go_ret2
    rw [hR.out]
    exact RetBytes.err rfl hb1
  · have hR : Hid (packRes bs = (putL (primN bs) ++ fwdL bs, 0)) := by show _ = _; unfold packRes; rw [Hn.out, if_neg h1]
    have hF : fwdRes bs = (fwdL bs, primN bs, 0) := by unfold fwdRes; rw [Hn.out, if_neg h1]
    rw [hF] at hcal
    have Hcal := Lib.hid hcal; clear hcal hF
    have hpn := primN_le bs
    rw [Hn.out] at hpn
    have hn255 : n ≤ 255 := by omega
    have hfl := fwdTo_le bs (bs.length + 1)
    have hfl' : (fwdL bs).length ≤ n + 1 := by unfold fwdL; rw [Hn.out] at hfl ⊢; exact hfl
    clear hfl h1 hn2
    obtain ⟨q, hq⟩ : ∃ q, q = primN bs := ⟨_, rfl⟩
    rw [← hq] at hR Hcal hpn
    clear hq
    go_enter Try.func28, Try.ntmps28
    go_wp2_with fail
    refine Hcal.out.mono ?_
    rintro e w1 ⟨A1, n1, c1, rfl, hx1, hb1⟩
    have hn1 : n1 ≤ 256 := by have := hx1.1; simp only at this; omega
    have Hcal2 := Lib.hid (putInt_255 none 0 0 [] q w1 (Bytes.nil w1 0) (by omega) (by omega))
    clear Hcal
    go_wp2_with fail
    refine Hcal2.out.mono ?_
    rintro e w2 ⟨A2, n2, c2, rfl, ho2, hb2⟩
    rw [List.nil_append] at ho2
    have hn2 : n2 ≤ 2 := by rw [← ho2.length]; exact putL_le _
    have hx2 := hx1.below hb2
    have Hx2 := Lib.hid hx2.1
    have m1 : Hid (n2 + n1 ≤ maxLen ∧ (n2 + n1) * 1 ≤ 140737488355328) := ⟨by simp [maxLen]; omega, by omega⟩
    have d1 : decide ((65536 : Int) < ((n2 + n1 : Nat) : Int)) = false := by simp; omega
    have d2 : decide ((65536 : Int) < (n2 : Int) + (n1 : Int)) = false := by simp; omega
    have hB2 := hb2.size
    clear Hcal2
    go_wp2_with (at_builtin; refine wpList_app (enc := encB) rfl (.tmp 18) (.tmp 19) rfl uB infoB encB_one rfl rfl ho2 hB2 A1 n1 c1 (fwdL bs) 0 Hx2.out hx2.2.2 rfl m1.out.1 m1.out.2 ?_; intro A7 c7 W7 ho7 hb7 hg7)
    go_ret2
    rw [hR.out]
    exact RetBytes.mk rfl ho7.bytesB (hb1.trans ((hb2.trans hb7).mono hb1.size))

set_option maxHeartbeats 1000000 in
theorem packR_any (A : Option Addr) (n c : Nat) (bs : List UInt8) (w : World) (hx : Bytes w A n c bs) (hn : n ≤ 1000000000) (hn2 : n ≤ 255 ∨ 65536 < n) :
    Calls Try.prog 29 #[.slice A n c] w (RetBytes w (packRes bs).1 ((packRes bs).2 : Int)) := by
  have Hn := Lib.hid hx.1
  have hcal := forwardR_any A n c bs w hx hn
  by_cases h1 : 65536 < n
  · have hR : Hid (packRes bs = ([], 5)) := by show _ = _; unfold packRes; rw [Hn.out, if_pos h1]
    have hF : fwdRes bs = ([], 0, 5) := by unfold fwdRes; rw [Hn.out, if_pos h1]
    rw [hF] at hcal
    have Hcal := Lib.hid hcal; clear hcal hF
    go_enter Try.func29, Try.ntmps29
    go_wp2_with fail
    refine Hcal.out.mono ?_
    rintro e w1 ⟨A1, n1, c1, rfl, -, hb1⟩
    go_wp2_with fail
    go_ret2
    rw [hR.out]
    exact RetBytes.err rfl hb1
  · have hR : Hid (packRes bs = (putL (primN bs) ++ fwdL bs, 0)) := by show _ = _; unfold packRes; rw [Hn.out, if_neg h1]
    have hF : fwdRes bs = (fwdL bs, primN bs, 0) := by unfold fwdRes; rw [Hn.out, if_neg h1]
    rw [hF] at hcal
    have Hcal := Lib.hid hcal; clear hcal hF
    have hpn := primN_le bs
    rw [Hn.out] at hpn
    have hn255 : n ≤ 255 := by omega
    have hfl := fwdTo_le bs (bs.length + 1)
    have hfl' : (fwdL bs).length ≤ n + 1 := by unfold fwdL; rw [Hn.out] at hfl ⊢; exact hfl
    clear hfl h1 hn2
    obtain ⟨q, hq⟩ : ∃ q, q = primN bs := ⟨_, rfl⟩
    rw [← hq] at hR Hcal hpn
    clear hq
    go_enter Try.func29, Try.ntmps29
    go_wp2_with fail
    refine Hcal.out.mono ?_
    rintro e w1 ⟨A1, n1, c1, rfl, hx1, hb1⟩
    have hn1 : n1 ≤ 256 := by have := hx1.1; simp only at this; omega
    have Hcal2 := Lib.hid (putIntR_255 none 0 0 [] q w1 (Bytes.nil w1 0) (by omega) (by omega))
    clear Hcal
    go_wp2_with fail
    refine Hcal2.out.mono ?_
    rintro e w2 ⟨A2, n2, c2, rfl, ho2, hb2⟩
    rw [List.nil_append] at ho2
    have hn2 : n2 ≤ 2 := by rw [← ho2.length]; exact putL_le _
    have hx2 := hx1.below hb2
    have Hx2 := Lib.hid hx2.1
    have m1 : Hid (n2 + n1 ≤ maxLen ∧ (n2 + n1) * 1 ≤ 140737488355328) := ⟨by simp [maxLen]; omega, by omega⟩
    have d1 : decide ((65536 : Int) < ((n2 + n1 : Nat) : Int)) = false := by simp; omega
    have d2 : decide ((65536 : Int) < (n2 : Int) + (n1 : Int)) = false := by simp; omega
    have hB2 := hb2.size
    clear Hcal2
    go_wp2_with (at_builtin; refine wpList_app (enc := encB) rfl (.tmp 18) (.tmp 19) rfl uB infoB encB_one rfl rfl ho2 hB2 A1 n1 c1 (fwdL bs) 0 Hx2.out hx2.2.2 rfl m1.out.1 m1.out.2 ?_; intro A7 c7 W7 ho7 hb7 hg7)
    go_ret2
    rw [hR.out]
    exact RetBytes.mk rfl ho7.bytesB (hb1.trans ((hb2.trans hb7).mono hb1.size))

set_option maxHeartbeats 1000000 in
theorem unpack_any (A : Option Addr) (n c : Nat) (bs : List UInt8) (w : World) (hx : Bytes w A n c bs) (hn : n ≤ 1000000000) :
    Calls Try.prog 30 #[.slice A n c] w (RetBytes w (unpackRes bs).1 (unpackRes bs).2) := by
  have Hn := Lib.hid hx.1
  by_cases h1 : 65536 < n
  · have hR : Hid (unpackRes bs = ([], 5)) := by show _ = _; unfold unpackRes; rw [Hn.out, if_pos h1]
    have d1 : decide ((65536 : Int) < (n : Int)) = true := by simp; omega
    have d2 : decide (65536 < n) = true := by simp; omega
    go_enter Try.func30, Try.ntmps30
    go_wp2_with fail
    go_ret2
    rw [hR.out]
    exact RetBytes.err rfl (Below.refl _ _)
  · have d1 : decide ((65536 : Int) < (n : Int)) = false := by simp; omega
    have d2 : decide (65536 < n) = false := by simp; omega
    have hU : unpackRes bs = if (intL bs).2.2 ≠ 0 then ([], ((intL bs).2.2 : Int)) else (invRes (intL bs).2.1 ((intL bs).1 : Int), invErr (intL bs).2.1 ((intL bs).1 : Int)) := by unfold unpackRes; rw [Hn.out, if_neg h1]
    have hcal := intP_any A n c bs w hx (by omega)
    have hil := intL_len bs
    rw [Hn.out] at hil
    obtain ⟨x, hxe⟩ : ∃ x, x = intL bs := ⟨_, rfl⟩
    rw [← hxe] at hcal hU hil
    clear hxe
    obtain ⟨v, rest, er⟩ := x
    simp only at hU hil
    have Hcal := Lib.hid hcal; clear hcal
    by_cases he : er = 0
    · subst he
      rw [if_neg (by simp)] at hU
      have HU := Lib.hid hU; clear hU
      go_enter Try.func30, Try.ntmps30
      go_wp2_with fail
      refine Hcal.out.mono ?_
      rintro e w1 ⟨A1, n1, c1, rfl, ho1, hb1⟩
      have hl1 := ho1.length
      simp only at hl1
      have Hc2 := Lib.hid (inverseP_any A1 n1 c1 (v : Int) rest w1 ho1.bytesB (by omega))
      clear Hcal
      go_wp2_with fail
      refine Hc2.out.mono ?_
      rintro e w2 ⟨A2, n2, c2, rfl, hx2, hb2⟩
      go_wp2_with fail
      go_ret2
      rw [HU.out]
      exact RetBytes.mk rfl hx2 (hb1.trans (hb2.mono hb1.size))
    · rw [if_pos he] at hU
      have HU := Lib.hid hU; clear hU
      have d3 : ((er : Int) != 0) = true := by simp; exact he
      clear he
      go_enter Try.func30, Try.ntmps30
      go_wp2_with fail
      refine Hcal.out.mono ?_
      rintro e w1 ⟨A1, n1, c1, rfl, ho1, hb1⟩
      go_wp2_with fail
      go_ret2
      rw [HU.out]
      exact RetBytes.err rfl hb1
end Go.Proofs.Ytoodfmilleodaaa
