/- Zv. -/
import Derived.Test.YtohadkmaemmfgaaGreatDoorRI57
import Derived.Test.YtohadkmaemmfgaaGreatDoorRI58
import Derived.Test.YtohadkmaemmfgaaGreatDoorRI20
set_option maxRecDepth 100000
set_option maxHeartbeats 4000000
namespace Go.Proofs.YtohadkmaemmfgaaGreatDoor
open Go.RowKit Go.Proofs
set_option linter.unusedVariables false
set_option linter.unusedSimpArgs false
theorem plain1_any (g B : Nat) (heg : Enters Tryz.prog g) (p : Option Addr) (A : Option Addr) (n c : Nat) (wd : Int) (rs : List UInt8 × Int) (w : World) (hb : BoxF w B p g) (hc : Calls Tryz.prog g #[.slice A n c] w (RetBytes w rs.1 rs.2)) :
    Calls Tryz.prog 74 #[.slice A n c, .int .i64 wd, .pointer p] w (RetBytes w rs.1 rs.2) := by
  obtain ⟨b, rfl, -, hcell⟩ := hb
  obtain ⟨bs, e⟩ := rs
  dsimp only at hc ⊢
  have HC := Lib.hid hc
  clear hc
  unfold Enters at heg
  go_enter Tryz.func74, Tryz.ntmps74
  go_wp2_with fail
  refine HC.out.mono ?_
  rintro e w1 ⟨A1, n1, c1, rfl, hx1, hb1⟩
  have HF := Lib.hid (And.intro hx1 hb1)
  clear hx1 hb1 heg
  go_wp2_with fail
  go_ret2
  exact RetBytes.mk rfl HF.out.1 HF.out.2
theorem FwC.congr {T : World → Prop} {F G : Trf} {o k : Nat} (h : ∀ wd bs, F k wd bs = G k wd bs) (hF : FwC T F o k) : FwC T G o k := fun f B hf => by
  obtain ⟨g, lb, h1, h2, h3⟩ := hF f B hf
  exact ⟨g, lb, h1, h2, fun w A n c bs wd a1 a2 a3 a4 a5 => by rw [← h]; exact h3 w A n c bs wd a1 a2 a3 a4 a5⟩
theorem fwPlain {T : World → Prop} {F : Trf} {o k i g : Nat} (hi : i < 12) (hs : ∀ f : Nat → Value, (shV f)[k * 5 + o]? = some (f i)) (hg : fnsI.getD i 0 = g) (heg : Enters Tryz.prog g)
    (hc : ∀ (w : World) (A : Option Addr) (n c : Nat) (bs : List UInt8) (wd : Int), T w → Bytes w A n c bs → n ≤ LIM → Calls Tryz.prog g #[.slice A n c] w (RetBytes w (F k wd bs).1 (F k wd bs).2) ∧ ((F k wd bs).2 = 0 → (F k wd bs).1.length ≤ LIM)) : FwC T F o k := fun f B hf => by
  obtain ⟨p, hp⟩ := hf i
  refine ⟨74, #[.pointer p], by rw [hs, hp], enters_of Tryz.func74 (by kernel_rfl) rfl, fun w A n c bs wd hcl hT hx hn hwd => ?_⟩
  obtain ⟨p', e, hbx⟩ := hcl i hi
  rw [hp] at e
  unfold clV at e
  obtain rfl : p = p' := by
    injection e with _ _ e
    have := congrArg (fun a : Array Value => a.toList) e
    simpa using this
  rw [hg] at hbx
  obtain ⟨h1, h2⟩ := hc w A n c bs wd hT hx hn
  exact ⟨plain1_any g B heg p A n c wd (F k wd bs) w hbx h1, h2⟩
end Go.Proofs.YtohadkmaemmfgaaGreatDoor
