/- Zj Zv Zl. -/
import Derived.Test.YtohadkmaemmfgaaGreatDoorRA22
import Derived.Test.YtohadkmaemmfgaaGreatDoorRA10
import Derived.Test.YtohadkmaemmfgaaGreatDoorRA25
import Derived.Test.YtohadkmaemmfgaaGreatDoorRA26
import Derived.Test.YtohadkmaemmfgaaGreatDoorRA11
import Derived.Test.YtohadkmaemmfgaaGreatDoorRA21
set_option maxRecDepth 100000
set_option maxHeartbeats 4000000
namespace Go.Proofs.YtohadkmaemmfgaaGreatDoor
open Go.RowKit Go.Proofs
set_option linter.unusedVariables false
set_option linter.unusedSimpArgs false
theorem same_any (A : Option Addr) (n c : Nat) (wd : Int) (bs : List UInt8) (w : World) (hx : Bytes w A n c bs) (hn : n ≤ 1000000) :
    Calls Tryz.prog 27 #[.slice A n c, .int .i64 wd] w (RetBytes w bs 0) := by
  have HC := Lib.hid (clone_any A n c bs w hx hn)
  clear hx
  go_enter Tryz.func27, Tryz.ntmps27
  go_wp2_with fail
  refine HC.out.mono ?_
  rintro e w1 ⟨A1, n1, c1, rfl, ho1, hb1⟩
  have HF := Lib.hid (And.intro ho1 hb1)
  clear ho1 hb1
  go_wp2_with fail
  go_ret2
  exact RetBytes.mk rfl HF.out.1.bytesB HF.out.2
def trA : Trf := fun k wd bs => if k = 1 then (if limD bs.length wd = 0 then deltaF wd.toNat bs else [], limD bs.length wd) else if k = 2 then (if limD bs.length wd = 0 then columnsF wd.toNat bs else [], limD bs.length wd) else (bs, 0)
theorem limD_ok {n : Nat} {wd : Int} (h : limD n wd = 0) : 1 ≤ wd := by unfold limD at h; split at h; (cases h); split at h; (cases h); omega
theorem fw0 (T : World → Prop) : FwC T trA 3 0 := fun f B hf => ⟨27, #[], rfl, enters_of Tryz.func27 (by kernel_rfl) rfl, fun w A n c bs wd _ _ hx hn _ => ⟨same_any A n c wd bs w hx (by unfold LIM at hn; omega), fun _ => by show bs.length ≤ _; rw [hx.1]; exact hn⟩⟩
theorem fw3 (T : World → Prop) : FwC T trA 3 3 := fun f B hf => ⟨27, #[], rfl, enters_of Tryz.func27 (by kernel_rfl) rfl, fun w A n c bs wd _ _ hx hn _ => ⟨same_any A n c wd bs w hx (by unfold LIM at hn; omega), fun _ => by show bs.length ≤ _; rw [hx.1]; exact hn⟩⟩
theorem fw1 (T : World → Prop) : FwC T trA 3 1 := fun f B hf => ⟨28, #[], rfl, enters_of Tryz.func28 (by kernel_rfl) rfl, fun w A n c bs wd _ _ hx hn _ => by
  have h := deltaF_any A n c wd bs w hx (by unfold LIM at hn; omega)
  rw [← hx.1] at h ⊢
  exact ⟨h, fun h0 => by
    show (if limD bs.length wd = 0 then deltaF wd.toNat bs else []).length ≤ LIM
    have h0' : limD bs.length wd = 0 := h0
    rw [if_pos h0', deltaF_length, hx.1]; exact hn⟩⟩
theorem fw2 (T : World → Prop) : FwC T trA 3 2 := fun f B hf => ⟨30, #[], rfl, enters_of Tryz.func30 (by kernel_rfl) rfl, fun w A n c bs wd _ _ hx hn _ => by
  have h := columnsF_any A n c wd bs w hx (by unfold LIM at hn; omega)
  rw [← hx.1] at h ⊢
  exact ⟨h, fun h0 => by
    show (if limD bs.length wd = 0 then columnsF wd.toNat bs else []).length ≤ LIM
    have h1 := limD_ok (h0 : limD bs.length wd = 0)
    have h0' : limD bs.length wd = 0 := h0
    rw [if_pos h0', columnsF_length (by omega), hx.1]; exact hn⟩⟩
def lA : List Stg := [(0, 2), (1, 0), (2, 0)]
def bA6 : List UInt8 := [1, 5, 2, 7, 3, 9]
theorem awF : fwP trA lA bA6 = ([1, 1, 1, 5, 2, 2], 0) := by decide +kernel
def tx1 : List UInt8 := [116, 97, 98, 108, 101, 32, 50, 32, 100, 101, 108, 116, 97, 32, 99, 111, 108, 117, 109, 110, 115]
def tx2 : List UInt8 := [115, 111, 114, 116, 32, 114, 101, 99, 101, 110, 99, 121, 32, 114, 117, 110, 115]
def tx3 : List UInt8 := [115, 111, 114, 116, 32, 114, 117, 110, 115]
def tx4 : List UInt8 := [100, 101, 108, 116, 97]
def tx5 : List UInt8 := [116, 97, 98, 108, 101, 32, 54, 53]
def tx6 : List UInt8 := [116, 97, 98, 108, 101, 32, 120]
def lB : List Stg := [(7, 0), (8, 0), (9, 0)]
theorem aw1 : parseP tx1 = (lA, 0, 0) := by decide +kernel
theorem aw2 : parseP tx2 = (lB, 0, 0) := by decide +kernel
theorem aw3 : parseP tx3 = ([], 5, 13) := by decide +kernel
theorem aw4 : parseP tx4 = ([], 0, 13) := by decide +kernel
theorem aw5 : parseP tx5 = ([], 0, 2) := by decide +kernel
theorem aw6 : parseP tx6 = ([], 6, 4) := by decide +kernel
theorem awT : typeP lB (0, 0) = (0, 0) ∧ (typE lB (0, 0)).1 = 0 := by decide +kernel
theorem plain1_any (g B : Nat) (heg : Enters Tryz.prog g) (p : Option Addr) (A : Option Addr) (n c : Nat) (wd : Int) (rs : List UInt8 × Int) (w : World) (hb : BoxF w B p g) (hc : Calls Tryz.prog g #[.slice A n c] w (RetBytes w rs.1 rs.2)) :
    Calls Tryz.prog 74 #[.slice A n c, .int .i64 wd, .pointer p] w (RetBytes w rs.1 rs.2) := by
  obtain ⟨b, rfl, -, hcell⟩ := hb
  obtain ⟨bs, e⟩ := rs
  dsimp only at hc ⊢
  have HC := Lib.hid hc
  clear hc
  unfold Enters at heg
  go_enter Tryz.func74, Tryz.ntmps74
  go_wp2_with fail
  refine HC.out.mono ?_
  rintro e w1 ⟨A1, n1, c1, rfl, hx1, hb1⟩
  have HF := Lib.hid (And.intro hx1 hb1)
  clear hx1 hb1 heg
  go_wp2_with fail
  go_ret2
  exact RetBytes.mk rfl HF.out.1 HF.out.2
theorem FwC.congr {T : World → Prop} {F G : Trf} {o k : Nat} (h : ∀ wd bs, F k wd bs = G k wd bs) (hF : FwC T F o k) : FwC T G o k := fun f B hf => by
  obtain ⟨g, lb, h1, h2, h3⟩ := hF f B hf
  exact ⟨g, lb, h1, h2, fun w A n c bs wd a1 a2 a3 a4 a5 => by rw [← h]; exact h3 w A n c bs wd a1 a2 a3 a4 a5⟩
theorem fwPlain {T : World → Prop} {F : Trf} {o k i g : Nat} (hi : i < 12) (hs : ∀ f : Nat → Value, (shV f)[k * 5 + o]? = some (f i)) (hg : fnsI.getD i 0 = g) (heg : Enters Tryz.prog g)
    (hc : ∀ (w : World) (A : Option Addr) (n c : Nat) (bs : List UInt8) (wd : Int), T w → Bytes w A n c bs → n ≤ LIM → Calls Tryz.prog g #[.slice A n c] w (RetBytes w (F k wd bs).1 (F k wd bs).2) ∧ ((F k wd bs).2 = 0 → (F k wd bs).1.length ≤ LIM)) : FwC T F o k := fun f B hf => by
  obtain ⟨p, hp⟩ := hf i
  refine ⟨74, #[.pointer p], by rw [hs, hp], enters_of Tryz.func74 (by kernel_rfl) rfl, fun w A n c bs wd hcl hT hx hn hwd => ?_⟩
  obtain ⟨p', e, hbx⟩ := hcl i hi
  rw [hp] at e
  unfold clV at e
  obtain rfl : p = p' := by
    injection e with _ _ e
    have := congrArg (fun a : Array Value => a.toList) e
    simpa using this
  rw [hg] at hbx
  obtain ⟨h1, h2⟩ := hc w A n c bs wd hT hx hn
  exact ⟨plain1_any g B heg p A n c wd (F k wd bs) w hbx h1, h2⟩
theorem fails_any (s : List UInt8) (at_ e : Int) (w : World) (hs : s.length < 1000) (hT : TabY w) (hp : parseP s = ([], at_, e)) :
    Calls Tryz.prog 14 #[.string (strB s), .int .i64 at_, .int .i64 e] w fun e' w' => e' = .returned (.bool true) ∧ Below w.heap.size w w' := by
  have HC := parse_any s w (by omega) hT
  unfold ParsePost at HC
  simp only [hp] at HC
  replace HC := Lib.hid HC
  have q1 : (at_ == at_) = true := beq_self_eq_true _
  have q2 : (e == e) = true := beq_self_eq_true _
  clear hp hT
  go_enter Tryz.func14, Tryz.ntmps14
  go_wp2_with fail
  refine HC.out.mono ?_
  rintro e' w1 ⟨A, n, c, rfl, ho, hst, hb⟩
  have hn : n = 0 := by have := hst.1; simpa using this.symm
  subst hn
  have HB := Lib.hid hb
  clear ho hst hb
  go_wp2_with fail
  go_ret
  exact ⟨rfl, HB.out⟩
theorem hFA : ∀ T : World → Prop, ∀ s ∈ lA, FwC T trA 3 s.1.toNat := fun T s hs => by
  simp only [lA, List.mem_cons, List.not_mem_nil, or_false] at hs
  rcases hs with rfl | rfl | rfl
  · exact fw0 T
  · exact fw1 T
  · exact fw2 T
theorem awake_any (w : World) (hT : TabY w) : Calls Tryz.prog 6 #[] w fun e w' => e = .returned (.bool true) ∧ Below w.heap.size w w' := by
  have HP1 := Lib.hid (parse_any tx1 w (by decide) hT)
  have HT := Lib.hid hT
  clear hT
  have e1 : strB tx1 = ⟨#[116, 97, 98, 108, 101, 32, 50, 32, 100, 101, 108, 116, 97, 32, 99, 111, 108, 117, 109, 110, 115]⟩ := rfl
  have e2 : strB tx2 = ⟨#[115, 111, 114, 116, 32, 114, 101, 99, 101, 110, 99, 121, 32, 114, 117, 110, 115]⟩ := rfl
  have e3 : strB tx3 = ⟨#[115, 111, 114, 116, 32, 114, 117, 110, 115]⟩ := rfl
  have e4 : strB tx4 = ⟨#[100, 101, 108, 116, 97]⟩ := rfl
  have e5 : strB tx5 = ⟨#[116, 97, 98, 108, 101, 32, 54, 53]⟩ := rfl
  have e6 : strB tx6 = ⟨#[116, 97, 98, 108, 101, 32, 120]⟩ := rfl
  have E := Lib.hid (And.intro e1 (And.intro e2 (And.intro e3 (And.intro e4 (And.intro e5 e6)))))
  clear e1 e2 e3 e4 e5 e6
  go_enter Tryz.func6, Tryz.ntmps6
  go_wp2_with fail
  rw [← E.out.1]
  refine HP1.out.mono ?_
  unfold ParsePost
  rw [aw1]
  rintro e w1 ⟨A1, n1, c1, rfl, -, hs1, hb1⟩
  obtain rfl : n1 = 3 := hs1.1.symm
  have HS1 := Lib.hid hs1
  have HB1 := Lib.hid hb1
  clear hs1 hb1 HP1
  go_wp2_with fail
  obtain ⟨w2, hw2⟩ : ∃ w2, w2 = w1.alloc (.cells #[.int .u8 1, .int .u8 5, .int .u8 2, .int .u8 7, .int .u8 3, .int .u8 9] 5) := ⟨_, rfl⟩
  rw [← hw2]
  have hb2 : Below w1.heap.size w1 w2 := by rw [hw2]; exact balloc (Below.refl _ _) _
  have hr2 : rowV w2 w1.heap.size 5 #[.int .u8 1, .int .u8 5, .int .u8 2, .int .u8 7, .int .u8 3, .int .u8 9] := by rw [hw2]; exact rowV.new w1 _ _
  have hy2 : Bytes w2 (some ⟨w1.heap.size, 0, none⟩) 6 6 bA6 := by
    refine ⟨rfl, Nat.le_refl _, fun _ => ⟨w1.heap.size, 0, rfl, hr2.lt, fun i hi => ?_⟩⟩
    rw [Nat.zero_add]
    refine hr2.cell ?_
    match i, hi with
    | 0, _ => rfl
    | 1, _ => rfl
    | 2, _ => rfl
    | 3, _ => rfl
    | 4, _ => rfl
    | 5, _ => rfl
  have HFW := forward_any (fun _ => True) (fun _ _ _ _ => trivial) trA A1 3 c1 lA (some ⟨w1.heap.size, 0, none⟩) 6 6 bA6 w2 (HS1.out.below hb2) (by decide) hy2 (by decide) trivial (fun _ => hFA _)
  rw [awF] at HFW
  have HB2 := Lib.hid (HB1.out.trans (hb2.mono HB1.out.size))
  clear hw2 hb2 hr2 hy2
  refine HFW.mono ?_
  rintro e w3 ⟨A3, n3, c3, rfl, hy3, hb3⟩
  obtain rfl : n3 = 6 := hy3.1.symm
  have HB3 := Lib.hid (HB2.out.trans (hb3.mono HB2.out.size))
  have HY3 := Lib.hid hy3
  clear hb3 hy3 HFW
  go_wp2_with fail
  rw [← E.out.2.1]
  refine (parse_any tx2 w3 (by decide) (HT.out.below HB3.out)).mono ?_
  unfold ParsePost
  rw [aw2]
  rintro e w4 ⟨A4, n4, c4, rfl, -, hs4, hb4⟩
  obtain rfl : n4 = 3 := hs4.1.symm
  have HB4 := Lib.hid (HB3.out.trans (hb4.mono HB3.out.size))
  have HY4 := Lib.hid (HY3.out.below hb4)
  have HTY := type_any A4 3 c4 lB 0 0 w4 hs4 (by decide)
  rw [awT.1, awT.2] at HTY
  replace HTY := Lib.hid HTY
  clear hb4 hs4
  go_wp2_with fail
  refine HTY.out.mono ?_
  rintro e w5 ⟨rfl, hb5⟩
  have HB5 := Lib.hid (HB4.out.trans (hb5.mono HB4.out.size))
  have hy5 := HY4.out.below (hb5.trans (balloc (Below.refl _ _) (.cells #[.int .i64 0, .int .i64 0] 35)|>.mono hb5.size))
  have r1 := hy5.str 23 5 9 uB Tryz.underlying5 Tryz.underlying9
  have HB6 := Lib.hid (balloc HB5.out (.cells #[.int .i64 0, .int .i64 0] 35))
  have q9 : ((strB [1, 1, 1, 5, 2, 2]).toList == ([1, 1, 1, 5, 2, 2] : List UInt8)) = true := by rw [strB_toList]; rfl
  clear hb5 hy5 HTY
  go_wp2_with fail
  rw [← E.out.2.2.1]
  refine (fails_any tx3 5 13 _ (by decide) (HT.out.below HB6.out) aw3).mono ?_
  rintro e w7 ⟨rfl, hb7⟩
  have HB7 := Lib.hid (HB6.out.trans (hb7.mono HB6.out.size))
  clear hb7
  go_wp2_with fail
  rw [← E.out.2.2.2.1]
  refine (fails_any tx4 0 13 _ (by decide) (HT.out.below HB7.out) aw4).mono ?_
  rintro e w8 ⟨rfl, hb8⟩
  have HB8 := Lib.hid (HB7.out.trans (hb8.mono HB7.out.size))
  clear hb8
  go_wp2_with fail
  rw [← E.out.2.2.2.2.1]
  refine (fails_any tx5 0 2 _ (by decide) (HT.out.below HB8.out) aw5).mono ?_
  rintro e w9 ⟨rfl, hb9⟩
  have HB9 := Lib.hid (HB8.out.trans (hb9.mono HB8.out.size))
  clear hb9
  go_wp2_with fail
  rw [← E.out.2.2.2.2.2]
  refine (fails_any tx6 6 4 _ (by decide) (HT.out.below HB9.out) aw6).mono ?_
  rintro e w10 ⟨rfl, hb10⟩
  have HB10 := Lib.hid (HB9.out.trans (hb10.mono HB9.out.size))
  clear hb10
  go_wp2_with fail
  go_ret
  exact ⟨rfl, HB10.out⟩
end Go.Proofs.YtohadkmaemmfgaaGreatDoor
