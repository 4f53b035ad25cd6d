/- The transforms of the kinds 0 .. 3; the examples of the chapter. -/
import Derived.Test.YtckkmafppfcecaaGreatDoorZf
import Derived.Test.YtckkmafppfcecaaGreatDoorZh
import Derived.Test.YtckkmafppfcecaaGreatDoorZi
import Derived.Test.YtckkmafppfcecaaGreatDoorYh
namespace Go.Proofs.YtckkmafppfcecaaGreatDoor
open Go.RowKit Go.Proofs
set_option linter.unusedVariables false
set_option linter.unusedSimpArgs false

set_option maxRecDepth 100000 in
theorem same_any (A : Option Addr) (n c : Nat) (wd : Int) (bs : List UInt8) (w : World) (hx : Bytes w A n c bs) (hn : n ≤ 1000000) :
    Calls Tryz.prog 55 #[.slice A n c, .int .i64 wd] w (RetBytes w bs 0) := by
  have HC := Lib.hid (clone_any A n c bs w hx hn)
  clear hx
  go_enter Tryz.func55, Tryz.ntmps55
  go_wp2_with fail
  refine HC.out.mono ?_
  rintro e w1 ⟨A1, n1, c1, rfl, ho1, hb1⟩
  have HF := Lib.hid (And.intro ho1 hb1)
  clear ho1 hb1
  go_wp2_with fail
  go_ret2
  exact RetBytes.mk rfl HF.out.1.bytesB HF.out.2
/-- the transforms of the kinds 0 .. 3, forward. -/
def trA : Trf := fun k wd bs => if k = 1 then (if limD bs.length wd = 0 then deltaF wd.toNat bs else [], limD bs.length wd) else if k = 2 then (if limD bs.length wd = 0 then columnsF wd.toNat bs else [], limD bs.length wd) else (bs, 0)
theorem limD_ok {n : Nat} {wd : Int} (h : limD n wd = 0) : 1 ≤ wd := by unfold limD at h; split at h; (cases h); split at h; (cases h); omega
theorem fw0 (T : World → Prop) : FwC T trA 3 0 := fun f B hf => ⟨55, #[], rfl, enters_of Tryz.func55 (by kernel_rfl) rfl, fun w A n c bs wd _ _ hx hn _ => ⟨same_any A n c wd bs w hx (by unfold LIM at hn; omega), fun _ => by show bs.length ≤ _; rw [hx.1]; exact hn⟩⟩
theorem fw3 (T : World → Prop) : FwC T trA 3 3 := fun f B hf => ⟨55, #[], rfl, enters_of Tryz.func55 (by kernel_rfl) rfl, fun w A n c bs wd _ _ hx hn _ => ⟨same_any A n c wd bs w hx (by unfold LIM at hn; omega), fun _ => by show bs.length ≤ _; rw [hx.1]; exact hn⟩⟩
theorem fw1 (T : World → Prop) : FwC T trA 3 1 := fun f B hf => ⟨56, #[], rfl, enters_of Tryz.func56 (by kernel_rfl) rfl, fun w A n c bs wd _ _ hx hn _ => by
  have h := deltaF_any A n c wd bs w hx (by unfold LIM at hn; omega)
  rw [← hx.1] at h ⊢
  exact ⟨h, fun h0 => by
    show (if limD bs.length wd = 0 then deltaF wd.toNat bs else []).length ≤ LIM
    have h0' : limD bs.length wd = 0 := h0
    rw [if_pos h0', deltaF_length, hx.1]; exact hn⟩⟩
theorem fw2 (T : World → Prop) : FwC T trA 3 2 := fun f B hf => ⟨58, #[], rfl, enters_of Tryz.func58 (by kernel_rfl) rfl, fun w A n c bs wd _ _ hx hn _ => by
  have h := columnsF_any A n c wd bs w hx (by unfold LIM at hn; omega)
  rw [← hx.1] at h ⊢
  exact ⟨h, fun h0 => by
    show (if limD bs.length wd = 0 then columnsF wd.toNat bs else []).length ≤ LIM
    have h1 := limD_ok (h0 : limD bs.length wd = 0)
    have h0' : limD bs.length wd = 0 := h0
    rw [if_pos h0', columnsF_length (by omega), hx.1]; exact hn⟩⟩
def lA : List Stg := [(0, 2), (1, 0), (2, 0)]
def bA6 : List UInt8 := [1, 5, 2, 7, 3, 9]
theorem awF : fwP trA lA bA6 = ([1, 1, 1, 5, 2, 2], 0) := by decide +kernel
def tx1 : List UInt8 := [116, 97, 98, 108, 101, 32, 50, 32, 100, 101, 108, 116, 97, 32, 99, 111, 108, 117, 109, 110, 115]
def tx2 : List UInt8 := [115, 111, 114, 116, 32, 114, 101, 99, 101, 110, 99, 121, 32, 114, 117, 110, 115]
def tx3 : List UInt8 := [115, 111, 114, 116, 32, 114, 117, 110, 115]
def tx4 : List UInt8 := [100, 101, 108, 116, 97]
def tx5 : List UInt8 := [116, 97, 98, 108, 101, 32, 54, 53]
def tx6 : List UInt8 := [116, 97, 98, 108, 101, 32, 120]
def lB : List Stg := [(7, 0), (8, 0), (9, 0)]
theorem aw1 : parseP tx1 = (lA, 0, 0) := by decide +kernel
theorem aw2 : parseP tx2 = (lB, 0, 0) := by decide +kernel
theorem aw3 : parseP tx3 = ([], 5, 13) := by decide +kernel
theorem aw4 : parseP tx4 = ([], 0, 13) := by decide +kernel
theorem aw5 : parseP tx5 = ([], 0, 2) := by decide +kernel
theorem aw6 : parseP tx6 = ([], 6, 4) := by decide +kernel
theorem awT : typeP lB (0, 0) = (0, 0) ∧ (typE lB (0, 0)).1 = 0 := by decide +kernel
end Go.Proofs.YtckkmafppfcecaaGreatDoor
