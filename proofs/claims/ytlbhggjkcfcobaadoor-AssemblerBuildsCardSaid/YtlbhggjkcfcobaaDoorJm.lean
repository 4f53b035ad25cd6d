/- The text that is built of declarations and instructions has these instructions: the walk of AssemblerBuilds. (Printed by wip/mkjm.py.) -/
import Derived.Test.YtlbhggjkcfcobaaDoorJl
import Derived.Deep.RegionHeld3
import Derived.Deep.DeepCutAuto
import Derived.Deep.CutBlock
namespace Go.Proofs.YtlbhggjkcfcobaaDoor
open Go.RowKit Go.Proofs
set_option linter.unusedVariables false
set_option linter.unusedSimpArgs false

abbrev It := UInt8 × Nat × Bool
def gIt (l : List It) (k : Nat) : It := l.getD k (0, 0, false)
/-- items in memory. -/
def ItemsM (w : World) (A : Option Addr) (n c : Nat) (l : List It) : Prop := l.length = n ∧ n ≤ c ∧ (∀ x ∈ l, x.2.1 < 4294967296) ∧
  (0 < n → ∃ b off, A = some ⟨b, off, none⟩ ∧ b < w.heap.size ∧ ∀ i, i < n → w.cell? ⟨b, off + i * 3, none⟩ = some (.int .u8 ((gIt l i).1.toNat : Int)) ∧ w.cell? ⟨b, off + i * 3 + 1, none⟩ = some (.int .u32 ((gIt l i).2.1 : Int)) ∧ w.cell? ⟨b, off + i * 3 + 2, none⟩ = some (.bool (gIt l i).2.2))
theorem bdrewJ {B : Nat} {w w1 : World} (h : Below B w w1) : Below B w w1.drew := bdrew h 1
theorem wrapJ {z : Int} (h0 : 0 ≤ z) (h1 : z < 4611686018427387904) : IntKind.i64.wrap z = z := wrap_small z h0 (by omega)
theorem ItemsM.below {w w' : World} {A : Option Addr} {n c : Nat} {l : List It} (h : ItemsM w A n c l) (hb : Below w.heap.size w w') : ItemsM w' A n c l := ⟨h.1, h.2.1, h.2.2.1, fun hn => by
  obtain ⟨b, off, rfl, hlt, hc⟩ := h.2.2.2 hn
  exact ⟨b, off, rfl, Nat.lt_of_lt_of_le hlt hb.size, fun i hi => ⟨(hb.cell (p := ⟨b, off + i * 3, none⟩) hlt).trans (hc i hi).1, (hb.cell (p := ⟨b, off + i * 3 + 1, none⟩) hlt).trans (hc i hi).2.1, (hb.cell (p := ⟨b, off + i * 3 + 2, none⟩) hlt).trans (hc i hi).2.2⟩⟩⟩
theorem ItemsM.arg {w : World} {A : Option Addr} {n c : Nat} {l : List It} (h : ItemsM w A n c l) {k : Nat} (hk : k < n) : (gIt l k).2.1 < 4294967296 := by
  refine h.2.2.1 _ ?_
  unfold gIt
  rw [List.getD_eq_getElem?_getD, List.getElem?_eq_getElem (by rw [h.1]; exact hk)]
  exact List.getElem_mem _
theorem wrap32J {z : Int} (h0 : 0 ≤ z) (h1 : z < 4294967296) : IntKind.u32.wrap z = z := by rw [IntKind.wrap_u32']; omega
theorem sum_le : ∀ (l : List Arr), (∀ a ∈ l, a.size ≤ 256) → (l.map (·.size)).sum ≤ 256 * (l.length : Int)
  | [], _ => by simp
  | x :: l, h => by
    have h1 := sum_le l (fun a ha => h a (by simp [ha]))
    have h2 := h x (by simp)
    rw [List.map_cons, List.sum_cons, List.length_cons]
    omega
theorem bytes_cell {w : World} {A : Option Addr} {n c : Nat} {bs : List UInt8} (h : Bytes w A n c bs) (hn : 0 < n) : ∃ b off, A = some ⟨b, off, none⟩ ∧ b < w.heap.size ∧ ∀ i, i < n → w.cell? ⟨b, off + i, none⟩ = some (.int .u8 ((bs.getD i 0).toNat : Int)) := h.2.2 hn

set_option maxRecDepth 100000 in
set_option maxHeartbeats 40000000 in
theorem builds_any (A0 : Option Addr) (n0 c0 : Nat) (bs : List UInt8) (lv : Nat) (A2 : Option Addr) (n2 c2 : Nat) (its : List It) (w : World) (h0 : Bytes w A0 n0 c0 bs) (hlv : lv < 256) (h2 : ItemsM w A2 n2 c2 its) (hn0 : n0 < 9223372036854775808) (hn2 : n2 < 9223372036854775808) (hE : ErrR w) (hTI : TabI w) (hT : T64 w) :
    Calls Tryd.prog 7 #[.slice A0 n0 c0, .int .u8 (lv : Int), .slice A2 n2 c2] w (RetB w true) := by
  have HE := Lib.hid (And.intro hE (And.intro hTI hT))
  clear hE hTI hT
  by_cases h60 : 60 < n2
  · have d1 : decide ((60 : Int) < (n2 : Int)) = true := by simp; omega
    have d1' : decide (60 < n2) = true := by simp; omega
    go_enter Tryd.func7, Tryd.ntmps7
    go_wp2_with fail
    refine (awake_any w HE.out.1).mono ?_
    rintro e w1 ⟨rfl, hb1⟩
    go_wp2_with fail
    go_ret
    exact ⟨rfl, hb1⟩
  have d1 : decide ((60 : Int) < (n2 : Int)) = false := by simp; omega
  have d1' : decide (60 < n2) = false := by simp; omega
  obtain ⟨L, hL⟩ : ∃ L, L = lv % 5 := ⟨_, rfl⟩
  have hL5 : L < 5 := by omega
  have eL : (lv : Int) % 5 = (L : Int) := by omega
  have HH0 := Lib.hid h0
  have HH2 := Lib.hid h2
  have hn260 : n2 ≤ 60 := by omega
  clear h0 h2 h60 hL
  go_enter Tryd.func7, Tryd.ntmps7
  go_upto_block 0 with fail
  go_cut [9, 10, 11] from 27 (fun _ _ _ wx => ∃ (k : Nat) (T : List UInt8) (Aa : Option Addr) (na ca : Nat), k ≤ n0 ∧ k ≤ 5 ∧ Hid (BI w wx w.heap.size (w.heap.size + 1) T ((bs.take k).map arrP) [] Aa na ca (L : Int) none 0 0 ∧ Cl T (wArrs nmB 0 ((bs.take k).map arrP)) ∧ T.length ≤ 20 * k))
  case first =>
   as_aux_lemma =>
    go_wp2_with fail
    have HINIT : Hid (BI w ((w.alloc (.cells #[.slice none 0 0, .int .i64 (L : Int), .slice none 0 0] 27)).alloc (.cells #[.pointer none, .slice none 0 0] 45)) w.heap.size (w.heap.size + 1) [] [] [] none 0 0 (L : Int) none 0 0) := by
      have r1 := rowV.new w 27 #[.slice none 0 0, .int .i64 (L : Int), .slice none 0 0]
      have hb := BldF.fresh (w.alloc (.cells #[.slice none 0 0, .int .i64 (L : Int), .slice none 0 0] 27))
      have hs : (w.alloc (.cells #[.slice none 0 0, .int .i64 (L : Int), .slice none 0 0] 27)).heap.size = w.heap.size + 1 := by simp
      rw [hs] at hb
      exact ⟨r1.below (balloc (Below.refl _ _) _) r1.lt, hb, OwnS.nil _ _ _ _ _, OwnS.nil _ _ _ _ _, balloc (balloc (Below.refl _ _) _) _, Nat.le_refl _, Nat.le_succ _, by simp⟩
    obtain ⟨wi, hwi⟩ : ∃ wi, wi = (w.alloc (.cells #[.slice none 0 0, .int .i64 (L : Int), .slice none 0 0] 27)).alloc (.cells #[.pointer none, .slice none 0 0] 45) := ⟨_, rfl⟩
    rw [← hwi] at HINIT ⊢
    clear hwi eL
    go_loopw [9, 10, 11] (fun s9 _ _ wr => ∃ (k : Nat) (T : List UInt8) (Aa : Option Addr) (na ca : Nat), k ≤ n0 ∧ k ≤ 5 ∧ s9 = .int .i64 (k : Int) ∧ Hid (BI w wr w.heap.size (w.heap.size + 1) T ((bs.take k).map arrP) [] Aa na ca (L : Int) none 0 0 ∧ Cl T (wArrs nmB 0 ((bs.take k).map arrP)) ∧ T.length ≤ 20 * k)) (fun s9 _ _ _ => 5 - (intOf s9).toNat)
    case atStart => exact ⟨0, [], none, 0, 0, Nat.zero_le _, Nat.zero_le _, rfl, HINIT.out, Cl.nil, Nat.le_refl _⟩
    case round =>
      clear HINIT
      obtain ⟨k, T, Aa, na, ca, hk, hk5, rfl, HJ⟩ := hrel
      by_cases hin : k < n0 ∧ k < 5
      · have d2 : decide ((k : Int) < (n0 : Int)) = true := by simp; omega
        have d2' : decide (k < n0) = true := by simp; omega
        have d3 : decide ((k : Int) < 5) = true := by simp; omega
        have d3' : decide (k < 5) = true := by simp; omega
        obtain ⟨b, off, rfl, hbl, hcell⟩ := bytes_cell (HH0.out.below HJ.out.1.b) (by omega)
        have hc := hcell k hin.1
        obtain ⟨v, hv⟩ : ∃ v, v = bs.getD k 0 := ⟨_, rfl⟩
        rw [← hv] at hc
        obtain ⟨z, hz⟩ : ∃ z, z = v.toNat := ⟨_, rfl⟩
        have hz256 : z < 256 := by rw [hz]; exact v.toNat_lt
        rw [← hz] at hc
        obtain ⟨wd, hwd⟩ : ∃ wd, wd = decide (z % 2 = 1) := ⟨_, rfl⟩
        obtain ⟨sz, hsz⟩ : ∃ sz, sz = 1 + z := ⟨_, rfl⟩
        have ewd : ((z : Int) % 2 == 1) = wd := by
          rw [hwd]
          by_cases h : z % 2 = 1
          · rw [decide_eq_true h]; simp; omega
          · rw [decide_eq_false h]; simp; omega
        have esz : 1 + (z : Int) = (sz : Int) := by omega
        have hwz : IntKind.i64.wrap (z : Int) = (z : Int) := wrapJ (by omega) (by omega)
        have hws : IntKind.i64.wrap (sz : Int) = (sz : Int) := wrapJ (by omega) (by omega)
        have htm : ((z : Int).tmod 2 == 1) = wd := by rw [Int.tmod_eq_emod_of_nonneg (by omega)]; exact ewd
        have hsz256 : sz ≤ 256 := by omega
        have HP : Hid (arrP v = ⟨wd, (sz : Int)⟩) := by show arrP v = _; unfold arrP; rw [← hz, ← hwd, ← hsz]
        have HTK : Hid ((bs.take (k + 1)).map arrP = (bs.take k).map arrP ++ [⟨wd, (sz : Int)⟩]) := by
          show _ = _
          have hkb : k < bs.length := by rw [HH0.out.1]; exact hin.1
          have e : bs.take (k + 1) = bs.take k ++ [v] := by
            rw [List.take_add_one, List.getElem?_eq_getElem hkb, hv, List.getD_eq_getElem?_getD, List.getElem?_eq_getElem hkb]
            rfl
          rw [e, List.map_append, List.map_cons, List.map_nil, HP.out]
        have HLN : Hid (((bs.take k).map arrP).length = k) := by show _ = _; rw [List.length_map, List.length_take, HH0.out.1]; omega
        have HWT : Hid (kindW wd ++ [32, 97] ++ decS k ++ [32] ++ decS sz ++ [10] = arrT k v) := by
          show _ = _
          unfold arrT
          rw [HP.out, hsz, hz]
        have HCL : Hid (Cl (T ++ arrT k v) (wArrs nmB 0 ((bs.take k).map arrP ++ [⟨wd, (sz : Int)⟩]))) := by
          show Cl _ _
          have h1 := HJ.out.2.1.arr k v
          rw [snocArrs, HLN.out, Nat.zero_add]
          rw [HP.out] at h1
          have e : ((sz : Nat) : Int).toNat = 1 + v.toNat := by omega
          dsimp only
          rw [e]
          exact h1
        have HTL : Hid ((T ++ arrT k v).length ≤ 20 * (k + 1)) := by
          have h1 := HJ.out.2.2
          have h2 : (decS k).length ≤ 1 := decS_len 0 k (by omega)
          have h3 : (decS (1 + v.toNat)).length ≤ 3 := decS_len 2 _ (by omega)
          have h4 : (kindW (arrP v).word).length = 5 := by cases (arrP v).word <;> rfl
          show _ ≤ _
          unfold arrT
          simp only [List.length_append, List.length_cons, List.length_nil]
          omega
        have HTX : Hid (T.length ≤ 200) := by have := HJ.out.2.2; show _ ≤ _; omega
        clear hv hcell hz hwd hsz
        go_wp2_with fail
        have hcl : Hid (∀ o : Obj, (wr.drew.alloc o).cell? ⟨b, off + k, none⟩ = some (.int .u8 (z : Int))) := fun o => ((balloc ((Drawn.drewN wr 1).below wr.heap.size) o).cell (p := ⟨b, off + k, none⟩) hbl).trans hc
        go_region_held3 (fun W => W.cell? ⟨b, off + k, none⟩ = some (.int .u8 (z : Int)))
          (first
            | go_keep
            | exact hc
            | exact hcl.out _)
          (first | fail)
        have hbq : Below wr.heap.size wr (wr.alloc (.cells #[.bool wd, .int .i64 (sz : Int)] 47)).drew := bdrewJ (balloc (Below.refl _ _) _)
        have HI5 := HJ.out.1.below hbq
        have hr10 : rowV (wr.alloc (.cells #[.bool wd, .int .i64 (sz : Int)] 47)).drew wr.heap.size 47 #[.bool wd, .int .i64 (sz : Int)] := rowV.new wr 47 #[.bool wd, .int .i64 (sz : Int)]
        obtain ⟨w5, hw5⟩ : ∃ w5, w5 = (wr.alloc (.cells #[.bool wd, .int .i64 (sz : Int)] 47)).drew := ⟨_, rfl⟩
        rw [← hw5] at hr10 HI5
        have H5 := Lib.hid (And.intro HI5 hr10)
        have a1 : w5.cell? ⟨wr.heap.size, 0, none⟩ = some (.bool wd) := cell_rowV hr10 rfl
        have a2 : w5.cell? ⟨wr.heap.size, 1, none⟩ = some (.int .i64 (sz : Int)) := cell_rowV hr10 rfl
        have hlt5 : wr.heap.size < w5.heap.size := hr10.lt
        have z1 := decS_le (n := k) (by omega)
        have z2 := decS_le (n := sz) (by omega)
        have zk : (strB (decS k)).size ≤ 11 := z1
        have zs : (strB (decS sz)).size ≤ 11 := z2
        have s1 : ¬ 9223372036854775807 < 7 + (strB (decS k)).size := by omega
        have s1' : ¬ 9223372036854775807 < 5 + 2 + (strB (decS k)).size := by omega
        have s2 : ¬ 9223372036854775807 < 7 + (strB (decS k)).size + 1 := by omega
        have s3 : ¬ 9223372036854775807 < 7 + (strB (decS k)).size + 1 + (strB (decS sz)).size := by omega
        have s4 : ¬ 9223372036854775807 < 7 + (strB (decS k)).size + 1 + (strB (decS sz)).size + 1 := by omega
        have s1b : ((⟨#[119, 111, 114, 100, 115]⟩ : ByteArray) ++ (⟨#[32, 97]⟩ : ByteArray)).size = 7 := by kernel_rfl
        have s1c : ((⟨#[98, 121, 116, 101, 115]⟩ : ByteArray) ++ (⟨#[32, 97]⟩ : ByteArray)).size = 7 := by kernel_rfl
        have HVS : Hid (strB (kindW wd) ++ (⟨#[32, 97]⟩ : ByteArray) ++ strB (decS k) ++ (⟨#[32]⟩ : ByteArray) ++ strB (decS sz) ++ (⟨#[10]⟩ : ByteArray) = strB (arrT k v)) := by
          show _ = _
          rw [← HWT.out, ← strB_append, ← strB_append, ← strB_append, ← strB_append, ← strB_append]; rfl
        have hT5 : TabI w5 := HE.out.2.1.below HI5.b
        have H1 := Lib.hid (itoa_any k w5.drew (by omega) hT5)
        have m1 : Hid (na + 1 ≤ maxLen ∧ (na + 1) * 16 ≤ 140737488355328) := by
          have h1 : ((bs.take k).map arrP).length = na := HI5.oa.length (fun _ => rfl) (by decide)
          have h2 := HLN.out
          exact ⟨by simp [maxLen]; omega, by omega⟩
        clear HI5 hr10 hbq
        cases wd with
        | true =>
          rw [← hw5]
          clear hw5
          have HVT : Hid ((⟨#[119, 111, 114, 100, 115]⟩ : ByteArray) ++ (⟨#[32, 97]⟩ : ByteArray) ++ strB (decS k) ++ (⟨#[32]⟩ : ByteArray) ++ strB (decS sz) ++ (⟨#[10]⟩ : ByteArray) = strB (arrT k v)) := HVS.out
          go_wp2_with fail
          go_region_held3 (fun W => W.cell? ⟨wr.heap.size, 1, none⟩ = some (.int .i64 (sz : Int)))
            (first
              | go_keep
              | exact a2
              | exact (hb6.cell (p := ⟨wr.heap.size, 1, none⟩) hlt5).trans a2
              | exact (hb7.cell (p := ⟨wr.heap.size, 1, none⟩) hr6).trans m2
              | exact m8)
            (first
              | (go_at_call_of 19 (Value.int .i64 (k : Int)); refine H1.out.mono ?_; rintro e w6 ⟨rfl, hb6⟩; have hr6 : wr.heap.size < w6.heap.size := Nat.lt_of_lt_of_le hlt5 hb6.size; have m2 := (hb6.cell (p := ⟨wr.heap.size, 1, none⟩) hlt5).trans a2)
              | (go_at_call_of 19 (Value.int .i64 (sz : Int)); refine (itoa_any sz w6 (by omega) (TabI.below (w := w5.drew) hT5 hb6)).mono ?_; rintro e w7 ⟨rfl, hb7⟩; have b57 : Below w5.heap.size w5 w7 := ((Drawn.drewN w5 1).below _).trans (hb6.trans (hb7.mono hb6.size)); have HI7 := Lib.hid (And.intro (H5.out.1.below b57) (H5.out.2.below b57 hlt5)))
              | (go_at_call 18; rw [HVT.out]; refine (bldF_str (w.heap.size + 1) (w.heap.size + 1) T (arrT k v) w7 HI7.out.1.bl (by have := HTL.out; rw [List.length_append] at this; omega) (Nat.le_of_lt HI7.out.1.lt)).mono ?_; rintro e w8 ⟨rfl, hB8, hb8, hk8⟩; have HI8 := Lib.hid (And.intro (HI7.out.1.wrote hB8 hb8 hk8) (HI7.out.1.bl.kept_row hk8 HI7.out.2 (by decide) (by decide))); have m8 : w8.cell? ⟨wr.heap.size, 1, none⟩ = some (.int .i64 (sz : Int)) := cell_rowV HI8.out.2 rfl))
          have m80 : w8.cell? ⟨wr.heap.size, 0, none⟩ = some (.bool true) := cell_rowV HI8.out.2 rfl
          have p80 : w8.cell? ⟨w.heap.size, 0, none⟩ = some (.slice Aa na ca) := cell_rowV HI8.out.1.row rfl
          have m81 : w8.cell? ⟨wr.heap.size, 1, none⟩ = some (.int .i64 (sz : Int)) := cell_rowV HI8.out.2 rfl
          go_wp2_with (first | (at_builtin; refine wpList_pushT (enc := encAr) rfl (.tmp 65) (.tmp 67) rfl uAr infoAr encAr_one rfl (fun _ => rfl) (by decide) rfl HI8.out.1.oa HI8.out.1.b.size (⟨true, (sz : Int)⟩ : Arr) _ rfl (by first | rfl | (simp only [setCell_size]; rfl)) m1.out.1 m1.out.2 ?_; intro A9 c9 w9 ho9 hb9 hg9 hf9; have r9 := HI8.out.1.row.grown hg9 (fun e => (HI8.out.1.oa.ne_row HI8.out.1.row (by decide)) _ e.symm rfl); have t0 : w9.cell? ⟨w.heap.size, 0, none⟩ = some (.slice Aa na ca) := cell_rowV r9 rfl; have tf := frozen_rowV' r9 0; clear r9))
          have HFN : Hid (BI w (w9.setCell ⟨w.heap.size, 0, none⟩ (.slice A9 (na + 1) c9)) w.heap.size (w.heap.size + 1) (T ++ arrT k v) ((bs.take (k + 1)).map arrP) [] A9 (na + 1) c9 (L : Int) none 0 0 ∧ Cl (T ++ arrT k v) (wArrs nmB 0 ((bs.take (k + 1)).map arrP)) ∧ (T ++ arrT k v).length ≤ 20 * (k + 1)) := by
            rw [HTK.out]
            exact ⟨HI8.out.1.pushArr ho9 hb9 hg9, HCL.out, HTL.out⟩
          go_roundw
          case rel => exact ⟨k + 1, _, _, _, _, by omega, by omega, by go_num, HFN.out⟩
          case measure => simp [intOf]; omega
        | false =>
          rw [← hw5]
          clear hw5
          have HVT : Hid ((⟨#[98, 121, 116, 101, 115]⟩ : ByteArray) ++ (⟨#[32, 97]⟩ : ByteArray) ++ strB (decS k) ++ (⟨#[32]⟩ : ByteArray) ++ strB (decS sz) ++ (⟨#[10]⟩ : ByteArray) = strB (arrT k v)) := HVS.out
          go_wp2_with fail
          go_region_held3 (fun W => W.cell? ⟨wr.heap.size, 1, none⟩ = some (.int .i64 (sz : Int)))
            (first
              | go_keep
              | exact a2
              | exact (hb6.cell (p := ⟨wr.heap.size, 1, none⟩) hlt5).trans a2
              | exact (hb7.cell (p := ⟨wr.heap.size, 1, none⟩) hr6).trans m2
              | exact m8)
            (first
              | (go_at_call_of 19 (Value.int .i64 (k : Int)); refine H1.out.mono ?_; rintro e w6 ⟨rfl, hb6⟩; have hr6 : wr.heap.size < w6.heap.size := Nat.lt_of_lt_of_le hlt5 hb6.size; have m2 := (hb6.cell (p := ⟨wr.heap.size, 1, none⟩) hlt5).trans a2)
              | (go_at_call_of 19 (Value.int .i64 (sz : Int)); refine (itoa_any sz w6 (by omega) (TabI.below (w := w5.drew) hT5 hb6)).mono ?_; rintro e w7 ⟨rfl, hb7⟩; have b57 : Below w5.heap.size w5 w7 := ((Drawn.drewN w5 1).below _).trans (hb6.trans (hb7.mono hb6.size)); have HI7 := Lib.hid (And.intro (H5.out.1.below b57) (H5.out.2.below b57 hlt5)))
              | (go_at_call 18; rw [HVT.out]; refine (bldF_str (w.heap.size + 1) (w.heap.size + 1) T (arrT k v) w7 HI7.out.1.bl (by have := HTL.out; rw [List.length_append] at this; omega) (Nat.le_of_lt HI7.out.1.lt)).mono ?_; rintro e w8 ⟨rfl, hB8, hb8, hk8⟩; have HI8 := Lib.hid (And.intro (HI7.out.1.wrote hB8 hb8 hk8) (HI7.out.1.bl.kept_row hk8 HI7.out.2 (by decide) (by decide))); have m8 : w8.cell? ⟨wr.heap.size, 1, none⟩ = some (.int .i64 (sz : Int)) := cell_rowV HI8.out.2 rfl))
          have m80 : w8.cell? ⟨wr.heap.size, 0, none⟩ = some (.bool false) := cell_rowV HI8.out.2 rfl
          have p80 : w8.cell? ⟨w.heap.size, 0, none⟩ = some (.slice Aa na ca) := cell_rowV HI8.out.1.row rfl
          have m81 : w8.cell? ⟨wr.heap.size, 1, none⟩ = some (.int .i64 (sz : Int)) := cell_rowV HI8.out.2 rfl
          go_wp2_with (first | (at_builtin; refine wpList_pushT (enc := encAr) rfl (.tmp 65) (.tmp 67) rfl uAr infoAr encAr_one rfl (fun _ => rfl) (by decide) rfl HI8.out.1.oa HI8.out.1.b.size (⟨false, (sz : Int)⟩ : Arr) _ rfl (by first | rfl | (simp only [setCell_size]; rfl)) m1.out.1 m1.out.2 ?_; intro A9 c9 w9 ho9 hb9 hg9 hf9; have r9 := HI8.out.1.row.grown hg9 (fun e => (HI8.out.1.oa.ne_row HI8.out.1.row (by decide)) _ e.symm rfl); have t0 : w9.cell? ⟨w.heap.size, 0, none⟩ = some (.slice Aa na ca) := cell_rowV r9 rfl; have tf := frozen_rowV' r9 0; clear r9))
          have HFN : Hid (BI w (w9.setCell ⟨w.heap.size, 0, none⟩ (.slice A9 (na + 1) c9)) w.heap.size (w.heap.size + 1) (T ++ arrT k v) ((bs.take (k + 1)).map arrP) [] A9 (na + 1) c9 (L : Int) none 0 0 ∧ Cl (T ++ arrT k v) (wArrs nmB 0 ((bs.take (k + 1)).map arrP)) ∧ (T ++ arrT k v).length ≤ 20 * (k + 1)) := by
            rw [HTK.out]
            exact ⟨HI8.out.1.pushArr ho9 hb9 hg9, HCL.out, HTL.out⟩
          go_roundw
          case rel => exact ⟨k + 1, _, _, _, _, by omega, by omega, by go_num, HFN.out⟩
          case measure => simp [intOf]; omega
      · by_cases hkn : k < n0
        · have d2 : decide ((k : Int) < (n0 : Int)) = true := by simp; omega
          have d2' : decide (k < n0) = true := by simp; omega
          have d3 : decide ((k : Int) < 5) = false := by simp; omega
          have d3' : decide (k < 5) = false := by simp; omega
          go_wp2_with fail
          go_meet
          exact ⟨k, T, Aa, na, ca, hk, hk5, HJ.out⟩
        · have d2 : decide ((k : Int) < (n0 : Int)) = false := by simp; omega
          have d2' : decide (k < n0) = false := by simp; omega
          go_wp2_with fail
          go_meet
          exact ⟨k, T, Aa, na, ca, hk, hk5, HJ.out⟩
  case rest =>
    obtain ⟨k0, T0, Aa, na, ca, hk0, hk5, HA0⟩ := hcut
    have HSZ : Hid (((bs.take k0).map arrP).length = k0 ∧ (∀ x ∈ (bs.take k0).map arrP, 1 ≤ x.size ∧ x.size ≤ 256)) := by
      refine ⟨by rw [List.length_map, List.length_take, HH0.out.1]; omega, fun x hx => ?_⟩
      obtain ⟨v, _, rfl⟩ := List.mem_map.1 hx
      have := v.toNat_lt
      show 1 ≤ ((1 + v.toNat : Nat) : Int) ∧ ((1 + v.toNat : Nat) : Int) ≤ 256
      omega
    obtain ⟨arrs, har⟩ : ∃ arrs, arrs = (bs.take k0).map arrP := ⟨_, rfl⟩
    rw [← har] at HA0 HSZ
    clear har
    have HA1 : Hid (BI w wc w.heap.size (w.heap.size + 1) T0 arrs [] Aa na ca (L : Int) none 0 0 ∧ Cl T0 (wArrs nmB 0 arrs ++ wLocs nlX 0 0) ∧ T0.length ≤ 100 + 12 * 0) := by
      refine ⟨HA0.out.1, ?_, by have := HA0.out.2.2; omega⟩
      show Cl T0 (wArrs nmB 0 arrs ++ [])
      rw [List.append_nil]
      exact HA0.out.2.1
    have hl5 : arrs.length ≤ 5 := by have := HSZ.out.1; omega
    have hna : arrs.length = na := HA0.out.1.oa.length (fun _ => rfl) (by decide)
    have HNA : Hid (arrs.length = na) := hna
    have hna5 : na ≤ 5 := by omega
    clear HA0 hna hl5 hk0 hk5 eL
    go_wp2_with fail
    go_loopw [12] (fun s12 wr => ∃ (j : Nat) (T : List UInt8), j ≤ L ∧ s12 = .int .i64 (j : Int) ∧ Hid (BI w wr w.heap.size (w.heap.size + 1) T arrs [] Aa na ca (L : Int) none 0 0 ∧ Cl T (wArrs nmB 0 arrs ++ wLocs nlX 0 j) ∧ T.length ≤ 100 + 12 * j)) (fun s12 _ => L - (intOf s12).toNat)
    case atStart => exact ⟨0, T0, Nat.zero_le _, rfl, HA1.out⟩
    case round =>
      clear HA1
      obtain ⟨j, T, hj, rfl, HJ⟩ := hrel
      have c1 : wr.cell? ⟨w.heap.size, 1, none⟩ = some (.int .i64 (L : Int)) := cell_rowV HJ.out.1.row rfl
      by_cases hjL : j < L
      · have d2 : decide ((j : Int) < (L : Int)) = true := by simp; omega
        have d2' : decide (j < L) = true := by simp; omega
        have z1 := decS_le (n := j) (by omega)
        have zk : (strB (decS j)).size ≤ 11 := z1
        have s1 : ¬ 9223372036854775807 < 8 + (strB (decS j)).size := by omega
        have s2 : ¬ 9223372036854775807 < 8 + (strB (decS j)).size + 1 := by omega
        have HVS : Hid ((⟨#[108, 111, 99, 97, 108, 32, 120, 95]⟩ : ByteArray) ++ strB (decS j) ++ (⟨#[10]⟩ : ByteArray) = strB (locT j)) := by
          show _ = _
          unfold locT
          rw [← strB_append, ← strB_append]; rfl
        have H1 := Lib.hid (itoa_any j wr (by omega) (HE.out.2.1.below HJ.out.1.b))
        have HTL : Hid ((T ++ locT j).length ≤ 100 + 12 * (j + 1)) := by
          have h1 := HJ.out.2.2
          have h2 : (decS j).length ≤ 1 := decS_len 0 j (by omega)
          show _ ≤ _
          unfold locT
          simp only [List.length_append, List.length_cons, List.length_nil]
          omega
        have HCL : Hid (Cl (T ++ locT j) (wArrs nmB 0 arrs ++ wLocs nlX 0 (j + 1))) := by
          show Cl _ _
          have h1 := HJ.out.2.1.loc j
          rw [snocLocs, Nat.zero_add, ← List.append_assoc]
          exact h1
        go_wp2_with fail
        refine H1.out.mono ?_
        rintro e w6 ⟨rfl, hb6⟩
        have HI6 := Lib.hid (HJ.out.1.below hb6)
        clear hb6
        go_wp2_with fail
        rw [HVS.out]
        refine (bldF_str (w.heap.size + 1) (w.heap.size + 1) T (locT j) w6 HI6.out.bl (by have := HTL.out; rw [List.length_append] at this; omega) (Nat.le_of_lt HI6.out.lt)).mono ?_
        rintro e w8 ⟨rfl, hB8, hb8, hk8⟩
        have HI8 := Lib.hid (HI6.out.wrote hB8 hb8 hk8)
        clear hB8 hb8 hk8
        go_wp2_with fail
        go_roundw
        case rel => exact ⟨j + 1, _, by omega, by go_num, HI8.out, HCL.out, HTL.out⟩
        case measure => simp [intOf]; omega
      · have d2 : decide ((j : Int) < (L : Int)) = false := by simp; omega
        have d2' : decide (j < L) = false := by simp; omega
        obtain rfl : j = L := by omega
        obtain ⟨ws0, hws0⟩ : ∃ ws0, ws0 = wArrs nmB 0 arrs ++ wLocs nlX 0 j := ⟨_, rfl⟩
        have HJ2 := HJ.out
        rw [← hws0] at HJ2
        have HA2 : Hid (BI w wr w.heap.size (w.heap.size + 1) T arrs [] Aa na ca (j : Int) none 0 0 ∧ Cl T (ws0 ++ []) ∧ CodeW ⟨arrs, (List.range arrs.length).map nmB, (List.range j).map nlX, [], []⟩ [] [] ∧ ([] : List Ins).length ≤ 0 ∧ T.length ≤ 160 + 30 * 0) := ⟨HJ2.1, by rw [List.append_nil]; exact HJ2.2.1, .nil, Nat.le_refl _, by have := HJ2.2.2; omega⟩
        have HWS := Lib.hid hws0
        clear HJ HJ2 hws0 hjL hj
        go_wp2_with fail
        go_loopw [13, 14, 15] (fun s13 _ _ wr => ∃ (k : Nat) (T : List UInt8) (code : List Ins) (x : List (List UInt8)) (Ac : Option Addr) (nc cc : Nat), k ≤ n2 ∧ s13 = .int .i64 (k : Int) ∧ Hid (BI w wr w.heap.size (w.heap.size + 1) T arrs code Aa na ca (j : Int) Ac nc cc ∧ Cl T (ws0 ++ x) ∧ CodeW ⟨arrs, (List.range arrs.length).map nmB, (List.range j).map nlX, [], []⟩ code x ∧ code.length ≤ k ∧ T.length ≤ 160 + 30 * k)) (fun s13 _ _ _ => n2 - (intOf s13).toNat)
        case atStart => exact ⟨0, T, [], [], none, 0, 0, Nat.zero_le _, rfl, HA2.out⟩
        case round =>
          clear HA2
          obtain ⟨k, T, code, x, Ac, nc, cc, hk, rfl, HJ⟩ := hrel
          by_cases hkn : k < n2
          · have d2 : decide ((k : Int) < (n2 : Int)) = true := by simp; omega
            have d2' : decide (k < n2) = true := by simp; omega
            obtain ⟨b, off, rfl, hbl, hcell⟩ := (HH2.out.below HJ.out.1.b).2.2.2 (by omega)
            obtain ⟨q0, q1, q2⟩ := hcell k hkn
            have ha0 := HH2.out.arg hkn
            obtain ⟨o, a, hx, hit⟩ : ∃ o a hx, gIt its k = (o, a, hx) := ⟨_, _, _, rfl⟩
            rw [hit] at q0 q1 q2 ha0
            dsimp only at q0 q1 q2 ha0
            obtain ⟨z, hz⟩ : ∃ z, z = o.toNat := ⟨_, rfl⟩
            have hz256 : z < 256 := by rw [hz]; exact o.toNat_lt
            rw [← hz] at q0
            obtain ⟨op, hop⟩ : ∃ op, op = z % 36 := ⟨_, rfl⟩
            have h36 : op < 36 := by omega
            obtain ⟨oI, hoI⟩ : ∃ oI : Int, oI = (op : Int) := ⟨_, rfl⟩
            have e36 : (z : Int) % 36 = oI := by omega
            have e36t : (z : Int).tmod 36 = oI := by rw [Int.tmod_eq_emod_of_nonneg (by omega)]; exact e36
            have hwz : IntKind.i64.wrap (z : Int) = (z : Int) := wrapJ (by omega) (by omega)
            have hn60 : Hid (k ≤ 60) := by show k ≤ 60; omega
            have HBD := Lib.hid hbl
            have r5 := rowV.new wr 57 #[.int .i64 oI, .int .u32 0]
            have b5 : Below wr.heap.size wr (wr.alloc (.cells #[.int .i64 oI, .int .u32 0] 57)) := balloc (Below.refl _ _) _
            obtain ⟨w5, hw5⟩ : ∃ w5, w5 = wr.alloc (.cells #[.int .i64 oI, .int .u32 0] 57) := ⟨_, rfl⟩
            rw [← hw5] at r5 b5
            have HW5 : Hid (wr.alloc (.cells #[.int .i64 oI, .int .u32 0] 57) = w5) := hw5.symm
            have p0 : w5.cell? ⟨wr.heap.size, 0, none⟩ = some (.int .i64 oI) := cell_rowV r5 rfl
            have H5 := Lib.hid (And.intro r5 b5)
            have H1 := name_any oI w5
            rw [show opX oI = opO op by rw [hoI]; unfold opX; rw [if_pos (by omega), Int.toNat_natCast]] at H1
            replace H1 := Lib.hid H1
            have HOI := Lib.hid hoI
            clear hcell hit hz hop r5 b5 hw5 hbl hoI
            go_wp2_with fail
            rw [HW5.out]
            go_wp2_with fail
            refine H1.out.mono ?_
            rintro e w6 ⟨rfl, hb6⟩
            have H6 := Lib.hid (And.intro (H5.out.1.below hb6 H5.out.1.lt) (H5.out.2.trans (hb6.mono H5.out.2.size)))
            have t0 : w6.cell? ⟨wr.heap.size, 0, none⟩ = some (.int .i64 oI) := cell_rowV H6.out.1 rfl
            have t1 : w6.cell? ⟨wr.heap.size, 1, none⟩ = some (.int .u32 0) := cell_rowV H6.out.1 rfl
            have f1 := frozen_rowV' H6.out.1 1
            have i1 : w6.cell? ⟨b, off + k * 3 + 1, none⟩ = some (.int .u32 (a : Int)) := (H6.out.2.cell (p := ⟨b, off + k * 3 + 1, none⟩) HBD.out).trans q1
            have i2 : w6.cell? ⟨b, off + k * 3 + 2, none⟩ = some (.bool hx) := (H6.out.2.cell (p := ⟨b, off + k * 3 + 2, none⟩) HBD.out).trans q2
            clear hb6 p0 H1 HW5
            have znm : (strB (opO op).name).size ≤ 12 := (fit_name ⟨op, h36⟩).2.2
            have hcase : op = 0 ∨ op = 35 ∨ op = 1 ∨ op = 2 ∨ op = 3 ∨ op = 4 ∨ (4 < op ∧ op ≠ 35) := by omega
            rcases hcase with ho | ho | ho | ho | ho | ho | ho
            · as_aux_lemma =>
                have k0 : (oI == 0) = true := by have := HOI.out; simp; omega
                have k35 : (oI == 35) = false := by have := HOI.out; simp; omega
                have k1 : (oI == 1) = false := by have := HOI.out; simp; omega
                have k2 : (oI == 2) = false := by have := HOI.out; simp; omega
                have k3 : (oI == 3) = false := by have := HOI.out; simp; omega
                have k4 : (oI == 4) = false := by have := HOI.out; simp; omega
                have HO := Lib.hid ho
                clear ho
                have hb1 : Below wr.heap.size wr (w6.setCell ⟨wr.heap.size, 1, none⟩ (.int .u32 (a : Int))) := (H6.out.2).trans (Below.setG (Nat.le_refl wr.heap.size) _)
                have HI1 := Lib.hid (HJ.out.1.below hb1)
                have HR1 : Hid (rowV (w6.setCell ⟨wr.heap.size, 1, none⟩ (.int .u32 (a : Int))) wr.heap.size 57 #[.int .i64 oI, .int .u32 (a : Int)]) := (H6.out.1).set 1 _
                have HTE : Hid (TabI (w6.setCell ⟨wr.heap.size, 1, none⟩ (.int .u32 (a : Int))) ∧ T64 (w6.setCell ⟨wr.heap.size, 1, none⟩ (.int .u32 (a : Int)))) := ⟨HE.out.2.1.below HI1.out.b, HE.out.2.2.below HI1.out.b⟩
                clear hb1
                cases hx with
                | true =>
                  have HOK : Hid (ItemOk arrs.length j op a (some (48 :: 120 :: hxS a))) := by
                    show ItemOk _ _ _ _ _
                    exact .inl ⟨by have := HO.out; omega, _, rfl, numL_hxS (by omega)⟩
                  have HCW : Hid (CodeW ⟨arrs, (List.range arrs.length).map nmB, (List.range j).map nlX, [], []⟩ (code ++ [⟨oI, (a : Int)⟩]) (x ++ ((opO op).name :: (some (48 :: 120 :: hxS a) : Option (List UInt8)).toList))) := by
                    show CodeW _ _ _
                    have h1 := HJ.out.2.2.1.snoc (insW_item (s := ⟨arrs, (List.range arrs.length).map nmB, (List.range j).map nlX, [], []⟩) rfl rfl h36 HOK.out)
                    rw [← HOI.out] at h1
                    exact h1
                  have HCL : Hid (Cl (T ++ itemT op (some (48 :: 120 :: hxS a))) (ws0 ++ (x ++ ((opO op).name :: (some (48 :: 120 :: hxS a) : Option (List UInt8)).toList)))) := by
                    show Cl _ _
                    have h1 := HJ.out.2.1.item h36 (some (48 :: 120 :: hxS a)) (fun y hy => by injection hy with hy; rw [← hy]; exact ⟨by simp, fit_cons (by decide) (fit_cons (by decide) (fit_hex _))⟩)
                    rw [List.append_assoc] at h1
                    exact h1
                  have HTL : Hid ((T ++ itemT op (some (48 :: 120 :: hxS a))).length ≤ 160 + 30 * (k + 1)) := by
                    have h1 := HJ.out.2.2.2.2
                    have h2 : (opO op).name.length ≤ 12 := znm
                    have h3 := hxS_len 7 a (by omega)
                    show _ ≤ _
                    unfold itemT
                    simp only [List.length_append, List.length_cons, List.length_nil]
                    omega
                  have m1 : Hid (nc + 1 ≤ maxLen ∧ (nc + 1) * 16 ≤ 140737488355328) := by
                    have h1 : code.length = nc := HJ.out.1.oc.length (fun _ => rfl) (by decide)
                    have h2 := HJ.out.2.2.2.1
                    exact ⟨by simp [maxLen]; omega, by omega⟩
                  have HV1 : strB (opO op).name ++ (strB [32, 48, 120] ++ strB (hxS a)) ++ strB [32] = strB (itemT op (some (48 :: 120 :: hxS a))) := by rw [strB_append, strB_append, strB_append]; simp [itemT, nlX, nmB]
                  have HVS : Hid (strB (opO op).name ++ ((⟨#[32, 48, 120]⟩ : ByteArray) ++ strB (hxS a)) ++ (⟨#[32]⟩ : ByteArray) = strB (itemT op (some (48 :: 120 :: hxS a)))) := HV1
                  clear HV1
                  have zk : (strB (hxS a)).size ≤ 8 := hxS_len 7 _ (by omega)
                  have s1 : ¬ 9223372036854775807 < 3 + (strB (hxS a)).size := by omega
                  have s2 : ¬ 9223372036854775807 < (strB (opO op).name).size + (3 + (strB (hxS a)).size) := by omega
                  have s3 : ¬ 9223372036854775807 < (strB (opO op).name).size + (3 + (strB (hxS a)).size) + 1 := by omega
                  have HC := Lib.hid (format16_any a (by omega) (w6.setCell ⟨wr.heap.size, 1, none⟩ (.int .u32 (a : Int))) HTE.out.2)
                  go_wp2_with fail
                  refine HC.out.mono ?_
                  rintro e w7 ⟨rfl, hb7⟩
                  have HI7 := Lib.hid (HI1.out.below hb7)
                  have HR7 := Lib.hid (HR1.out.below hb7 HR1.out.lt)
                  have n70 : w7.cell? ⟨wr.heap.size, 0, none⟩ = some (.int .i64 oI) := cell_rowV HR7.out rfl
                  clear hb7
                  go_wp2_with fail
                  rw [HVS.out]
                  refine (bldF_str (w.heap.size + 1) (w.heap.size + 1) T (itemT op (some (48 :: 120 :: hxS a))) w7 HI7.out.bl (by have := HTL.out; rw [List.length_append] at this; omega) (Nat.le_of_lt HI7.out.lt)).mono ?_
                  rintro e w9 ⟨rfl, hB9, hb9, hk9⟩
                  have HI9 := Lib.hid (HI7.out.wrote hB9 hb9 hk9)
                  have r9 := HI7.out.bl.kept_row hk9 HR7.out (by decide) (by decide)
                  have u0 : w9.cell? ⟨wr.heap.size, 0, none⟩ = some (.int .i64 oI) := cell_rowV r9 rfl
                  have u1 : w9.cell? ⟨wr.heap.size, 1, none⟩ = some (.int .u32 (a : Int)) := cell_rowV r9 rfl
                  have pc : w9.cell? ⟨w.heap.size, 2, none⟩ = some (.slice Ac nc cc) := cell_rowV HI9.out.row rfl
                  clear hB9 hb9 hk9 r9
                  go_wp2_with (first | (at_builtin; refine wpList_pushT (enc := encIn) rfl (.tmp 196) (.tmp 198) rfl uIn infoIn encIn_one rfl (fun _ => rfl) (by decide) rfl HI9.out.oc HI9.out.b.size (⟨oI, (a : Int)⟩ : Ins) _ rfl (by first | rfl | (simp only [setCell_size]; rfl)) m1.out.1 m1.out.2 ?_; intro A10 c10 w10 ho10 hb10 hg10 hf10; have rX := HI9.out.row.grown hg10 (fun e => (HI9.out.oc.ne_row HI9.out.row (by decide)) _ e.symm rfl); have tt : w10.cell? ⟨w.heap.size, 2, none⟩ = some (.slice Ac nc cc) := cell_rowV rX rfl; have tf := frozen_rowV' rX 2; clear rX))
                  have HFN := Lib.hid (HI9.out.pushCode ho10 hb10 hg10)
                  go_roundw
                  case rel => exact ⟨k + 1, _, _, _, _, _, _, by omega, by go_num, HFN.out, HCL.out, HCW.out, by have := HJ.out.2.2.2.1; simp; omega, HTL.out⟩
                  case measure => simp [intOf]; omega
                | false =>
                  have HOK : Hid (ItemOk arrs.length j op a (some (decS a))) := by
                    show ItemOk _ _ _ _ _
                    exact .inl ⟨by have := HO.out; omega, _, rfl, numL_decS (by omega)⟩
                  have HCW : Hid (CodeW ⟨arrs, (List.range arrs.length).map nmB, (List.range j).map nlX, [], []⟩ (code ++ [⟨oI, (a : Int)⟩]) (x ++ ((opO op).name :: (some (decS a) : Option (List UInt8)).toList))) := by
                    show CodeW _ _ _
                    have h1 := HJ.out.2.2.1.snoc (insW_item (s := ⟨arrs, (List.range arrs.length).map nmB, (List.range j).map nlX, [], []⟩) rfl rfl h36 HOK.out)
                    rw [← HOI.out] at h1
                    exact h1
                  have HCL : Hid (Cl (T ++ itemT op (some (decS a))) (ws0 ++ (x ++ ((opO op).name :: (some (decS a) : Option (List UInt8)).toList)))) := by
                    show Cl _ _
                    have h1 := HJ.out.2.1.item h36 (some (decS a)) (fun y hy => by injection hy with hy; rw [← hy]; exact ⟨decS_ne _, fit_dec _⟩)
                    rw [List.append_assoc] at h1
                    exact h1
                  have HTL : Hid ((T ++ itemT op (some (decS a))).length ≤ 160 + 30 * (k + 1)) := by
                    have h1 := HJ.out.2.2.2.2
                    have h2 : (opO op).name.length ≤ 12 := znm
                    have h3 := decS_len 9 a (by omega)
                    show _ ≤ _
                    unfold itemT
                    simp only [List.length_append, List.length_cons, List.length_nil]
                    omega
                  have m1 : Hid (nc + 1 ≤ maxLen ∧ (nc + 1) * 16 ≤ 140737488355328) := by
                    have h1 : code.length = nc := HJ.out.1.oc.length (fun _ => rfl) (by decide)
                    have h2 := HJ.out.2.2.2.1
                    exact ⟨by simp [maxLen]; omega, by omega⟩
                  have HV1 : strB (opO op).name ++ (strB [32] ++ strB (decS a)) ++ strB [32] = strB (itemT op (some (decS a))) := by rw [strB_append, strB_append, strB_append]; simp [itemT, nlX, nmB]
                  have HVS : Hid (strB (opO op).name ++ ((⟨#[32]⟩ : ByteArray) ++ strB (decS a)) ++ (⟨#[32]⟩ : ByteArray) = strB (itemT op (some (decS a)))) := HV1
                  clear HV1
                  have zk : (strB (decS a)).size ≤ 10 := decS_len 9 _ (by omega)
                  have s1 : ¬ 9223372036854775807 < 1 + (strB (decS a)).size := by omega
                  have s2 : ¬ 9223372036854775807 < (strB (opO op).name).size + (1 + (strB (decS a)).size) := by omega
                  have s3 : ¬ 9223372036854775807 < (strB (opO op).name).size + (1 + (strB (decS a)).size) + 1 := by omega
                  have HC := Lib.hid (itoa_any a (w6.setCell ⟨wr.heap.size, 1, none⟩ (.int .u32 (a : Int))) (by omega) HTE.out.1)
                  go_wp2_with fail
                  refine HC.out.mono ?_
                  rintro e w7 ⟨rfl, hb7⟩
                  have HI7 := Lib.hid (HI1.out.below hb7)
                  have HR7 := Lib.hid (HR1.out.below hb7 HR1.out.lt)
                  have n70 : w7.cell? ⟨wr.heap.size, 0, none⟩ = some (.int .i64 oI) := cell_rowV HR7.out rfl
                  clear hb7
                  go_wp2_with fail
                  rw [HVS.out]
                  refine (bldF_str (w.heap.size + 1) (w.heap.size + 1) T (itemT op (some (decS a))) w7 HI7.out.bl (by have := HTL.out; rw [List.length_append] at this; omega) (Nat.le_of_lt HI7.out.lt)).mono ?_
                  rintro e w9 ⟨rfl, hB9, hb9, hk9⟩
                  have HI9 := Lib.hid (HI7.out.wrote hB9 hb9 hk9)
                  have r9 := HI7.out.bl.kept_row hk9 HR7.out (by decide) (by decide)
                  have u0 : w9.cell? ⟨wr.heap.size, 0, none⟩ = some (.int .i64 oI) := cell_rowV r9 rfl
                  have u1 : w9.cell? ⟨wr.heap.size, 1, none⟩ = some (.int .u32 (a : Int)) := cell_rowV r9 rfl
                  have pc : w9.cell? ⟨w.heap.size, 2, none⟩ = some (.slice Ac nc cc) := cell_rowV HI9.out.row rfl
                  clear hB9 hb9 hk9 r9
                  go_wp2_with (first | (at_builtin; refine wpList_pushT (enc := encIn) rfl (.tmp 196) (.tmp 198) rfl uIn infoIn encIn_one rfl (fun _ => rfl) (by decide) rfl HI9.out.oc HI9.out.b.size (⟨oI, (a : Int)⟩ : Ins) _ rfl (by first | rfl | (simp only [setCell_size]; rfl)) m1.out.1 m1.out.2 ?_; intro A10 c10 w10 ho10 hb10 hg10 hf10; have rX := HI9.out.row.grown hg10 (fun e => (HI9.out.oc.ne_row HI9.out.row (by decide)) _ e.symm rfl); have tt : w10.cell? ⟨w.heap.size, 2, none⟩ = some (.slice Ac nc cc) := cell_rowV rX rfl; have tf := frozen_rowV' rX 2; clear rX))
                  have HFN := Lib.hid (HI9.out.pushCode ho10 hb10 hg10)
                  go_roundw
                  case rel => exact ⟨k + 1, _, _, _, _, _, _, by omega, by go_num, HFN.out, HCL.out, HCW.out, by have := HJ.out.2.2.2.1; simp; omega, HTL.out⟩
                  case measure => simp [intOf]; omega
            · as_aux_lemma =>
                obtain ⟨m, hm⟩ : ∃ m, m = a % 16 := ⟨_, rfl⟩
                have hm16 : m < 16 := by omega
                have em : (a : Int) % 16 = (m : Int) := by omega
                have emt : (a : Int).tmod 16 = (m : Int) := by rw [Int.tmod_eq_emod_of_nonneg (by omega)]; exact em
                clear hm
                have k0 : (oI == 0) = false := by have := HOI.out; simp; omega
                have k35 : (oI == 35) = true := by have := HOI.out; simp; omega
                have k1 : (oI == 1) = false := by have := HOI.out; simp; omega
                have k2 : (oI == 2) = false := by have := HOI.out; simp; omega
                have k3 : (oI == 3) = false := by have := HOI.out; simp; omega
                have k4 : (oI == 4) = false := by have := HOI.out; simp; omega
                have HO := Lib.hid ho
                clear ho
                have hb1 : Below wr.heap.size wr (w6.setCell ⟨wr.heap.size, 1, none⟩ (.int .u32 (m : Int))) := (H6.out.2).trans (Below.setG (Nat.le_refl wr.heap.size) _)
                have HI1 := Lib.hid (HJ.out.1.below hb1)
                have HR1 : Hid (rowV (w6.setCell ⟨wr.heap.size, 1, none⟩ (.int .u32 (m : Int))) wr.heap.size 57 #[.int .i64 oI, .int .u32 (m : Int)]) := (H6.out.1).set 1 _
                have HTE : Hid (TabI (w6.setCell ⟨wr.heap.size, 1, none⟩ (.int .u32 (m : Int))) ∧ T64 (w6.setCell ⟨wr.heap.size, 1, none⟩ (.int .u32 (m : Int)))) := ⟨HE.out.2.1.below HI1.out.b, HE.out.2.2.below HI1.out.b⟩
                clear hb1
                cases hx with
                | true =>
                  have HOK : Hid (ItemOk arrs.length j op m (some (48 :: 120 :: hxS m))) := by
                    show ItemOk _ _ _ _ _
                    exact .inr (.inl ⟨by have := HO.out; omega, by omega, _, rfl, numL_hxS (by omega)⟩)
                  have HCW : Hid (CodeW ⟨arrs, (List.range arrs.length).map nmB, (List.range j).map nlX, [], []⟩ (code ++ [⟨oI, (m : Int)⟩]) (x ++ ((opO op).name :: (some (48 :: 120 :: hxS m) : Option (List UInt8)).toList))) := by
                    show CodeW _ _ _
                    have h1 := HJ.out.2.2.1.snoc (insW_item (s := ⟨arrs, (List.range arrs.length).map nmB, (List.range j).map nlX, [], []⟩) rfl rfl h36 HOK.out)
                    rw [← HOI.out] at h1
                    exact h1
                  have HCL : Hid (Cl (T ++ itemT op (some (48 :: 120 :: hxS m))) (ws0 ++ (x ++ ((opO op).name :: (some (48 :: 120 :: hxS m) : Option (List UInt8)).toList)))) := by
                    show Cl _ _
                    have h1 := HJ.out.2.1.item h36 (some (48 :: 120 :: hxS m)) (fun y hy => by injection hy with hy; rw [← hy]; exact ⟨by simp, fit_cons (by decide) (fit_cons (by decide) (fit_hex _))⟩)
                    rw [List.append_assoc] at h1
                    exact h1
                  have HTL : Hid ((T ++ itemT op (some (48 :: 120 :: hxS m))).length ≤ 160 + 30 * (k + 1)) := by
                    have h1 := HJ.out.2.2.2.2
                    have h2 : (opO op).name.length ≤ 12 := znm
                    have h3 := hxS_len 7 m (by omega)
                    show _ ≤ _
                    unfold itemT
                    simp only [List.length_append, List.length_cons, List.length_nil]
                    omega
                  have m1 : Hid (nc + 1 ≤ maxLen ∧ (nc + 1) * 16 ≤ 140737488355328) := by
                    have h1 : code.length = nc := HJ.out.1.oc.length (fun _ => rfl) (by decide)
                    have h2 := HJ.out.2.2.2.1
                    exact ⟨by simp [maxLen]; omega, by omega⟩
                  have HV1 : strB (opO op).name ++ (strB [32, 48, 120] ++ strB (hxS m)) ++ strB [32] = strB (itemT op (some (48 :: 120 :: hxS m))) := by rw [strB_append, strB_append, strB_append]; simp [itemT, nlX, nmB]
                  have HVS : Hid (strB (opO op).name ++ ((⟨#[32, 48, 120]⟩ : ByteArray) ++ strB (hxS m)) ++ (⟨#[32]⟩ : ByteArray) = strB (itemT op (some (48 :: 120 :: hxS m)))) := HV1
                  clear HV1
                  have zk : (strB (hxS m)).size ≤ 8 := hxS_len 7 _ (by omega)
                  have s1 : ¬ 9223372036854775807 < 3 + (strB (hxS m)).size := by omega
                  have s2 : ¬ 9223372036854775807 < (strB (opO op).name).size + (3 + (strB (hxS m)).size) := by omega
                  have s3 : ¬ 9223372036854775807 < (strB (opO op).name).size + (3 + (strB (hxS m)).size) + 1 := by omega
                  have HC := Lib.hid (format16_any m (by omega) (w6.setCell ⟨wr.heap.size, 1, none⟩ (.int .u32 (m : Int))) HTE.out.2)
                  go_wp2_with fail
                  refine HC.out.mono ?_
                  rintro e w7 ⟨rfl, hb7⟩
                  have HI7 := Lib.hid (HI1.out.below hb7)
                  have HR7 := Lib.hid (HR1.out.below hb7 HR1.out.lt)
                  have n70 : w7.cell? ⟨wr.heap.size, 0, none⟩ = some (.int .i64 oI) := cell_rowV HR7.out rfl
                  clear hb7
                  go_wp2_with fail
                  rw [HVS.out]
                  refine (bldF_str (w.heap.size + 1) (w.heap.size + 1) T (itemT op (some (48 :: 120 :: hxS m))) w7 HI7.out.bl (by have := HTL.out; rw [List.length_append] at this; omega) (Nat.le_of_lt HI7.out.lt)).mono ?_
                  rintro e w9 ⟨rfl, hB9, hb9, hk9⟩
                  have HI9 := Lib.hid (HI7.out.wrote hB9 hb9 hk9)
                  have r9 := HI7.out.bl.kept_row hk9 HR7.out (by decide) (by decide)
                  have u0 : w9.cell? ⟨wr.heap.size, 0, none⟩ = some (.int .i64 oI) := cell_rowV r9 rfl
                  have u1 : w9.cell? ⟨wr.heap.size, 1, none⟩ = some (.int .u32 (m : Int)) := cell_rowV r9 rfl
                  have pc : w9.cell? ⟨w.heap.size, 2, none⟩ = some (.slice Ac nc cc) := cell_rowV HI9.out.row rfl
                  clear hB9 hb9 hk9 r9
                  go_wp2_with (first | (at_builtin; refine wpList_pushT (enc := encIn) rfl (.tmp 196) (.tmp 198) rfl uIn infoIn encIn_one rfl (fun _ => rfl) (by decide) rfl HI9.out.oc HI9.out.b.size (⟨oI, (m : Int)⟩ : Ins) _ rfl (by first | rfl | (simp only [setCell_size]; rfl)) m1.out.1 m1.out.2 ?_; intro A10 c10 w10 ho10 hb10 hg10 hf10; have rX := HI9.out.row.grown hg10 (fun e => (HI9.out.oc.ne_row HI9.out.row (by decide)) _ e.symm rfl); have tt : w10.cell? ⟨w.heap.size, 2, none⟩ = some (.slice Ac nc cc) := cell_rowV rX rfl; have tf := frozen_rowV' rX 2; clear rX))
                  have HFN := Lib.hid (HI9.out.pushCode ho10 hb10 hg10)
                  go_roundw
                  case rel => exact ⟨k + 1, _, _, _, _, _, _, by omega, by go_num, HFN.out, HCL.out, HCW.out, by have := HJ.out.2.2.2.1; simp; omega, HTL.out⟩
                  case measure => simp [intOf]; omega
                | false =>
                  have HOK : Hid (ItemOk arrs.length j op m (some (decS m))) := by
                    show ItemOk _ _ _ _ _
                    exact .inr (.inl ⟨by have := HO.out; omega, by omega, _, rfl, numL_decS (by omega)⟩)
                  have HCW : Hid (CodeW ⟨arrs, (List.range arrs.length).map nmB, (List.range j).map nlX, [], []⟩ (code ++ [⟨oI, (m : Int)⟩]) (x ++ ((opO op).name :: (some (decS m) : Option (List UInt8)).toList))) := by
                    show CodeW _ _ _
                    have h1 := HJ.out.2.2.1.snoc (insW_item (s := ⟨arrs, (List.range arrs.length).map nmB, (List.range j).map nlX, [], []⟩) rfl rfl h36 HOK.out)
                    rw [← HOI.out] at h1
                    exact h1
                  have HCL : Hid (Cl (T ++ itemT op (some (decS m))) (ws0 ++ (x ++ ((opO op).name :: (some (decS m) : Option (List UInt8)).toList)))) := by
                    show Cl _ _
                    have h1 := HJ.out.2.1.item h36 (some (decS m)) (fun y hy => by injection hy with hy; rw [← hy]; exact ⟨decS_ne _, fit_dec _⟩)
                    rw [List.append_assoc] at h1
                    exact h1
                  have HTL : Hid ((T ++ itemT op (some (decS m))).length ≤ 160 + 30 * (k + 1)) := by
                    have h1 := HJ.out.2.2.2.2
                    have h2 : (opO op).name.length ≤ 12 := znm
                    have h3 := decS_len 9 m (by omega)
                    show _ ≤ _
                    unfold itemT
                    simp only [List.length_append, List.length_cons, List.length_nil]
                    omega
                  have m1 : Hid (nc + 1 ≤ maxLen ∧ (nc + 1) * 16 ≤ 140737488355328) := by
                    have h1 : code.length = nc := HJ.out.1.oc.length (fun _ => rfl) (by decide)
                    have h2 := HJ.out.2.2.2.1
                    exact ⟨by simp [maxLen]; omega, by omega⟩
                  have HV1 : strB (opO op).name ++ (strB [32] ++ strB (decS m)) ++ strB [32] = strB (itemT op (some (decS m))) := by rw [strB_append, strB_append, strB_append]; simp [itemT, nlX, nmB]
                  have HVS : Hid (strB (opO op).name ++ ((⟨#[32]⟩ : ByteArray) ++ strB (decS m)) ++ (⟨#[32]⟩ : ByteArray) = strB (itemT op (some (decS m)))) := HV1
                  clear HV1
                  have zk : (strB (decS m)).size ≤ 10 := decS_len 9 _ (by omega)
                  have s1 : ¬ 9223372036854775807 < 1 + (strB (decS m)).size := by omega
                  have s2 : ¬ 9223372036854775807 < (strB (opO op).name).size + (1 + (strB (decS m)).size) := by omega
                  have s3 : ¬ 9223372036854775807 < (strB (opO op).name).size + (1 + (strB (decS m)).size) + 1 := by omega
                  have HC := Lib.hid (itoa_any m (w6.setCell ⟨wr.heap.size, 1, none⟩ (.int .u32 (m : Int))) (by omega) HTE.out.1)
                  go_wp2_with fail
                  refine HC.out.mono ?_
                  rintro e w7 ⟨rfl, hb7⟩
                  have HI7 := Lib.hid (HI1.out.below hb7)
                  have HR7 := Lib.hid (HR1.out.below hb7 HR1.out.lt)
                  have n70 : w7.cell? ⟨wr.heap.size, 0, none⟩ = some (.int .i64 oI) := cell_rowV HR7.out rfl
                  clear hb7
                  go_wp2_with fail
                  rw [HVS.out]
                  refine (bldF_str (w.heap.size + 1) (w.heap.size + 1) T (itemT op (some (decS m))) w7 HI7.out.bl (by have := HTL.out; rw [List.length_append] at this; omega) (Nat.le_of_lt HI7.out.lt)).mono ?_
                  rintro e w9 ⟨rfl, hB9, hb9, hk9⟩
                  have HI9 := Lib.hid (HI7.out.wrote hB9 hb9 hk9)
                  have r9 := HI7.out.bl.kept_row hk9 HR7.out (by decide) (by decide)
                  have u0 : w9.cell? ⟨wr.heap.size, 0, none⟩ = some (.int .i64 oI) := cell_rowV r9 rfl
                  have u1 : w9.cell? ⟨wr.heap.size, 1, none⟩ = some (.int .u32 (m : Int)) := cell_rowV r9 rfl
                  have pc : w9.cell? ⟨w.heap.size, 2, none⟩ = some (.slice Ac nc cc) := cell_rowV HI9.out.row rfl
                  clear hB9 hb9 hk9 r9
                  go_wp2_with (first | (at_builtin; refine wpList_pushT (enc := encIn) rfl (.tmp 196) (.tmp 198) rfl uIn infoIn encIn_one rfl (fun _ => rfl) (by decide) rfl HI9.out.oc HI9.out.b.size (⟨oI, (m : Int)⟩ : Ins) _ rfl (by first | rfl | (simp only [setCell_size]; rfl)) m1.out.1 m1.out.2 ?_; intro A10 c10 w10 ho10 hb10 hg10 hf10; have rX := HI9.out.row.grown hg10 (fun e => (HI9.out.oc.ne_row HI9.out.row (by decide)) _ e.symm rfl); have tt : w10.cell? ⟨w.heap.size, 2, none⟩ = some (.slice Ac nc cc) := cell_rowV rX rfl; have tf := frozen_rowV' rX 2; clear rX))
                  have HFN := Lib.hid (HI9.out.pushCode ho10 hb10 hg10)
                  go_roundw
                  case rel => exact ⟨k + 1, _, _, _, _, _, _, by omega, by go_num, HFN.out, HCL.out, HCW.out, by have := HJ.out.2.2.2.1; simp; omega, HTL.out⟩
                  case measure => simp [intOf]; omega
            · as_aux_lemma =>
                have k0 : (oI == 0) = false := by have := HOI.out; simp; omega
                have k35 : (oI == 35) = false := by have := HOI.out; simp; omega
                have k1 : (oI == 1) = true := by have := HOI.out; simp; omega
                have k2 : (oI == 2) = false := by have := HOI.out; simp; omega
                have k3 : (oI == 3) = false := by have := HOI.out; simp; omega
                have k4 : (oI == 4) = false := by have := HOI.out; simp; omega
                have HO := Lib.hid ho
                clear ho
                have HI6 := Lib.hid (HJ.out.1.below H6.out.2)
                have g1 : w6.cell? ⟨w.heap.size, 1, none⟩ = some (.int .i64 (j : Int)) := cell_rowV HI6.out.row rfl
                by_cases hz0 : j = 0
                · have y0 : ((j : Int) == 0) = true := by simp; omega
                  have HZ := Lib.hid hz0
                  clear HI6 hz0
                  go_wp2_with fail
                  have HI6 := Lib.hid (HJ.out.1.below H6.out.2)
                  go_roundw
                  case rel => exact ⟨k + 1, T, code, x, Ac, nc, cc, by omega, by go_num, HI6.out, HJ.out.2.1, HJ.out.2.2.1, by have := HJ.out.2.2.2.1; omega, by have := HJ.out.2.2.2.2; omega⟩
                  case measure => simp [intOf]; omega
                · have y0 : ((j : Int) == 0) = false := by simp; omega
                  obtain ⟨m, hm⟩ : ∃ m, m = a % j := ⟨_, rfl⟩
                  have hmlt : m < j := by rw [hm]; exact Nat.mod_lt _ (by omega)
                  have em : (a : Int) % (j : Int) = (m : Int) := by rw [hm]; exact (Int.natCast_emod a j).symm
                  have emt : (a : Int).tmod (j : Int) = (m : Int) := by rw [Int.tmod_eq_emod_of_nonneg (by omega)]; exact em
                  have hne : ¬ (j : Int) = 0 := by omega
                  have hcb : j ≤ 5 := by omega
                  have hwc : IntKind.u32.wrap (j : Int) = (j : Int) := wrap32J (by omega) (by omega)
                  clear hm
                  go_wp2_with fail
                  refine wp_region_quiet_tail 10 (by kernel_rfl) (by kernel_rfl) ?_
                  simp only [List.take_succ_cons, List.take_zero, List.drop_succ_cons, List.drop_zero]
                  repeat (go_big_quiet_step (fail))
                  refine wpQuiet_nil ?_
                  intro _ hw'
                  obtain ⟨nq, hw''⟩ := hw'
                  subst hw''
                  have hbq : Below wr.heap.size wr (w6.drewN nq) := H6.out.2.trans ((Drawn.drewN w6 nq).below _)
                  have hrq : rowV (w6.drewN nq) wr.heap.size 57 #[.int .i64 oI, .int .u32 0] := H6.out.1.below ((Drawn.drewN w6 nq).below _) H6.out.1.lt
                  obtain ⟨wq, hwq⟩ : ∃ wq, wq = w6.drewN nq := ⟨_, rfl⟩
                  rw [← hwq] at hbq hrq ⊢
                  have HQ := Lib.hid (And.intro hrq hbq)
                  have v0 : wq.cell? ⟨wr.heap.size, 0, none⟩ = some (.int .i64 oI) := cell_rowV hrq rfl
                  have v1 : wq.cell? ⟨wr.heap.size, 1, none⟩ = some (.int .u32 0) := cell_rowV hrq rfl
                  have vf := frozen_rowV' hrq 1
                  clear hbq hrq hwq
                  have hb1 : Below wr.heap.size wr (wq.setCell ⟨wr.heap.size, 1, none⟩ (.int .u32 (m : Int))) := (HQ.out.2).trans (Below.setG (Nat.le_refl wr.heap.size) _)
                  have HI1 := Lib.hid (HJ.out.1.below hb1)
                  have HR1 : Hid (rowV (wq.setCell ⟨wr.heap.size, 1, none⟩ (.int .u32 (m : Int))) wr.heap.size 57 #[.int .i64 oI, .int .u32 (m : Int)]) := (HQ.out.1).set 1 _
                  have HTE : Hid (TabI (wq.setCell ⟨wr.heap.size, 1, none⟩ (.int .u32 (m : Int))) ∧ T64 (wq.setCell ⟨wr.heap.size, 1, none⟩ (.int .u32 (m : Int)))) := ⟨HE.out.2.1.below HI1.out.b, HE.out.2.2.below HI1.out.b⟩
                  clear hb1
                  have HOK : Hid (ItemOk arrs.length j op m (some (nlX m))) := by
                    show ItemOk _ _ _ _ _
                    exact .inr (.inr (.inl ⟨by have := HO.out; omega, hmlt, by omega, rfl⟩))
                  have HCW : Hid (CodeW ⟨arrs, (List.range arrs.length).map nmB, (List.range j).map nlX, [], []⟩ (code ++ [⟨oI, (m : Int)⟩]) (x ++ ((opO op).name :: (some (nlX m) : Option (List UInt8)).toList))) := by
                    show CodeW _ _ _
                    have h1 := HJ.out.2.2.1.snoc (insW_item (s := ⟨arrs, (List.range arrs.length).map nmB, (List.range j).map nlX, [], []⟩) rfl rfl h36 HOK.out)
                    rw [← HOI.out] at h1
                    exact h1
                  have HCL : Hid (Cl (T ++ itemT op (some (nlX m))) (ws0 ++ (x ++ ((opO op).name :: (some (nlX m) : Option (List UInt8)).toList)))) := by
                    show Cl _ _
                    have h1 := HJ.out.2.1.item h36 (some (nlX m)) (fun y hy => by injection hy with hy; rw [← hy]; exact ⟨by simp [nlX], fit_nl m⟩)
                    rw [List.append_assoc] at h1
                    exact h1
                  have HTL : Hid ((T ++ itemT op (some (nlX m))).length ≤ 160 + 30 * (k + 1)) := by
                    have h1 := HJ.out.2.2.2.2
                    have h2 : (opO op).name.length ≤ 12 := znm
                    have h3 : (nlX m).length ≤ 12 := by have := decS_len 9 m (by omega); unfold nlX; simp; omega
                    show _ ≤ _
                    unfold itemT
                    simp only [List.length_append, List.length_cons, List.length_nil]
                    omega
                  have m1 : Hid (nc + 1 ≤ maxLen ∧ (nc + 1) * 16 ≤ 140737488355328) := by
                    have h1 : code.length = nc := HJ.out.1.oc.length (fun _ => rfl) (by decide)
                    have h2 := HJ.out.2.2.2.1
                    exact ⟨by simp [maxLen]; omega, by omega⟩
                  have HV1 : strB (opO op).name ++ (strB [32, 120, 95] ++ strB (decS m)) ++ strB [32] = strB (itemT op (some (nlX m))) := by rw [strB_append, strB_append, strB_append]; simp [itemT, nlX, nmB]
                  have HVS : Hid (strB (opO op).name ++ ((⟨#[32, 120, 95]⟩ : ByteArray) ++ strB (decS m)) ++ (⟨#[32]⟩ : ByteArray) = strB (itemT op (some (nlX m)))) := HV1
                  clear HV1
                  have zk : (strB (decS m)).size ≤ 10 := decS_len 9 _ (by omega)
                  have s1 : ¬ 9223372036854775807 < 3 + (strB (decS m)).size := by omega
                  have s2 : ¬ 9223372036854775807 < (strB (opO op).name).size + (3 + (strB (decS m)).size) := by omega
                  have s3 : ¬ 9223372036854775807 < (strB (opO op).name).size + (3 + (strB (decS m)).size) + 1 := by omega
                  have HC := Lib.hid (itoa_any m (wq.setCell ⟨wr.heap.size, 1, none⟩ (.int .u32 (m : Int))) (by omega) HTE.out.1)
                  go_wp2_with fail
                  refine HC.out.mono ?_
                  rintro e w7 ⟨rfl, hb7⟩
                  have HI7 := Lib.hid (HI1.out.below hb7)
                  have HR7 := Lib.hid (HR1.out.below hb7 HR1.out.lt)
                  have n70 : w7.cell? ⟨wr.heap.size, 0, none⟩ = some (.int .i64 oI) := cell_rowV HR7.out rfl
                  clear hb7
                  go_wp2_with fail
                  rw [HVS.out]
                  refine (bldF_str (w.heap.size + 1) (w.heap.size + 1) T (itemT op (some (nlX m))) w7 HI7.out.bl (by have := HTL.out; rw [List.length_append] at this; omega) (Nat.le_of_lt HI7.out.lt)).mono ?_
                  rintro e w9 ⟨rfl, hB9, hb9, hk9⟩
                  have HI9 := Lib.hid (HI7.out.wrote hB9 hb9 hk9)
                  have r9 := HI7.out.bl.kept_row hk9 HR7.out (by decide) (by decide)
                  have u0 : w9.cell? ⟨wr.heap.size, 0, none⟩ = some (.int .i64 oI) := cell_rowV r9 rfl
                  have u1 : w9.cell? ⟨wr.heap.size, 1, none⟩ = some (.int .u32 (m : Int)) := cell_rowV r9 rfl
                  have pc : w9.cell? ⟨w.heap.size, 2, none⟩ = some (.slice Ac nc cc) := cell_rowV HI9.out.row rfl
                  clear hB9 hb9 hk9 r9
                  go_wp2_with (first | (at_builtin; refine wpList_pushT (enc := encIn) rfl (.tmp 196) (.tmp 198) rfl uIn infoIn encIn_one rfl (fun _ => rfl) (by decide) rfl HI9.out.oc HI9.out.b.size (⟨oI, (m : Int)⟩ : Ins) _ rfl (by first | rfl | (simp only [setCell_size]; rfl)) m1.out.1 m1.out.2 ?_; intro A10 c10 w10 ho10 hb10 hg10 hf10; have rX := HI9.out.row.grown hg10 (fun e => (HI9.out.oc.ne_row HI9.out.row (by decide)) _ e.symm rfl); have tt : w10.cell? ⟨w.heap.size, 2, none⟩ = some (.slice Ac nc cc) := cell_rowV rX rfl; have tf := frozen_rowV' rX 2; clear rX))
                  have HFN := Lib.hid (HI9.out.pushCode ho10 hb10 hg10)
                  go_roundw
                  case rel => exact ⟨k + 1, _, _, _, _, _, _, by omega, by go_num, HFN.out, HCL.out, HCW.out, by have := HJ.out.2.2.2.1; simp; omega, HTL.out⟩
                  case measure => simp [intOf]; omega
            · as_aux_lemma =>
                have k0 : (oI == 0) = false := by have := HOI.out; simp; omega
                have k35 : (oI == 35) = false := by have := HOI.out; simp; omega
                have k1 : (oI == 1) = false := by have := HOI.out; simp; omega
                have k2 : (oI == 2) = true := by have := HOI.out; simp; omega
                have k3 : (oI == 3) = false := by have := HOI.out; simp; omega
                have k4 : (oI == 4) = false := by have := HOI.out; simp; omega
                have HO := Lib.hid ho
                clear ho
                have HI6 := Lib.hid (HJ.out.1.below H6.out.2)
                have g1 : w6.cell? ⟨w.heap.size, 1, none⟩ = some (.int .i64 (j : Int)) := cell_rowV HI6.out.row rfl
                by_cases hz0 : j = 0
                · have y0 : ((j : Int) == 0) = true := by simp; omega
                  have HZ := Lib.hid hz0
                  clear HI6 hz0
                  go_wp2_with fail
                  have HI6 := Lib.hid (HJ.out.1.below H6.out.2)
                  go_roundw
                  case rel => exact ⟨k + 1, T, code, x, Ac, nc, cc, by omega, by go_num, HI6.out, HJ.out.2.1, HJ.out.2.2.1, by have := HJ.out.2.2.2.1; omega, by have := HJ.out.2.2.2.2; omega⟩
                  case measure => simp [intOf]; omega
                · have y0 : ((j : Int) == 0) = false := by simp; omega
                  obtain ⟨m, hm⟩ : ∃ m, m = a % j := ⟨_, rfl⟩
                  have hmlt : m < j := by rw [hm]; exact Nat.mod_lt _ (by omega)
                  have em : (a : Int) % (j : Int) = (m : Int) := by rw [hm]; exact (Int.natCast_emod a j).symm
                  have emt : (a : Int).tmod (j : Int) = (m : Int) := by rw [Int.tmod_eq_emod_of_nonneg (by omega)]; exact em
                  have hne : ¬ (j : Int) = 0 := by omega
                  have hcb : j ≤ 5 := by omega
                  have hwc : IntKind.u32.wrap (j : Int) = (j : Int) := wrap32J (by omega) (by omega)
                  clear hm
                  go_wp2_with fail
                  refine wp_region_quiet_tail 10 (by kernel_rfl) (by kernel_rfl) ?_
                  simp only [List.take_succ_cons, List.take_zero, List.drop_succ_cons, List.drop_zero]
                  repeat (go_big_quiet_step (fail))
                  refine wpQuiet_nil ?_
                  intro _ hw'
                  obtain ⟨nq, hw''⟩ := hw'
                  subst hw''
                  have hbq : Below wr.heap.size wr (w6.drewN nq) := H6.out.2.trans ((Drawn.drewN w6 nq).below _)
                  have hrq : rowV (w6.drewN nq) wr.heap.size 57 #[.int .i64 oI, .int .u32 0] := H6.out.1.below ((Drawn.drewN w6 nq).below _) H6.out.1.lt
                  obtain ⟨wq, hwq⟩ : ∃ wq, wq = w6.drewN nq := ⟨_, rfl⟩
                  rw [← hwq] at hbq hrq ⊢
                  have HQ := Lib.hid (And.intro hrq hbq)
                  have v0 : wq.cell? ⟨wr.heap.size, 0, none⟩ = some (.int .i64 oI) := cell_rowV hrq rfl
                  have v1 : wq.cell? ⟨wr.heap.size, 1, none⟩ = some (.int .u32 0) := cell_rowV hrq rfl
                  have vf := frozen_rowV' hrq 1
                  clear hbq hrq hwq
                  have hb1 : Below wr.heap.size wr (wq.setCell ⟨wr.heap.size, 1, none⟩ (.int .u32 (m : Int))) := (HQ.out.2).trans (Below.setG (Nat.le_refl wr.heap.size) _)
                  have HI1 := Lib.hid (HJ.out.1.below hb1)
                  have HR1 : Hid (rowV (wq.setCell ⟨wr.heap.size, 1, none⟩ (.int .u32 (m : Int))) wr.heap.size 57 #[.int .i64 oI, .int .u32 (m : Int)]) := (HQ.out.1).set 1 _
                  have HTE : Hid (TabI (wq.setCell ⟨wr.heap.size, 1, none⟩ (.int .u32 (m : Int))) ∧ T64 (wq.setCell ⟨wr.heap.size, 1, none⟩ (.int .u32 (m : Int)))) := ⟨HE.out.2.1.below HI1.out.b, HE.out.2.2.below HI1.out.b⟩
                  clear hb1
                  have HOK : Hid (ItemOk arrs.length j op m (some (nlX m))) := by
                    show ItemOk _ _ _ _ _
                    exact .inr (.inr (.inl ⟨by have := HO.out; omega, hmlt, by omega, rfl⟩))
                  have HCW : Hid (CodeW ⟨arrs, (List.range arrs.length).map nmB, (List.range j).map nlX, [], []⟩ (code ++ [⟨oI, (m : Int)⟩]) (x ++ ((opO op).name :: (some (nlX m) : Option (List UInt8)).toList))) := by
                    show CodeW _ _ _
                    have h1 := HJ.out.2.2.1.snoc (insW_item (s := ⟨arrs, (List.range arrs.length).map nmB, (List.range j).map nlX, [], []⟩) rfl rfl h36 HOK.out)
                    rw [← HOI.out] at h1
                    exact h1
                  have HCL : Hid (Cl (T ++ itemT op (some (nlX m))) (ws0 ++ (x ++ ((opO op).name :: (some (nlX m) : Option (List UInt8)).toList)))) := by
                    show Cl _ _
                    have h1 := HJ.out.2.1.item h36 (some (nlX m)) (fun y hy => by injection hy with hy; rw [← hy]; exact ⟨by simp [nlX], fit_nl m⟩)
                    rw [List.append_assoc] at h1
                    exact h1
                  have HTL : Hid ((T ++ itemT op (some (nlX m))).length ≤ 160 + 30 * (k + 1)) := by
                    have h1 := HJ.out.2.2.2.2
                    have h2 : (opO op).name.length ≤ 12 := znm
                    have h3 : (nlX m).length ≤ 12 := by have := decS_len 9 m (by omega); unfold nlX; simp; omega
                    show _ ≤ _
                    unfold itemT
                    simp only [List.length_append, List.length_cons, List.length_nil]
                    omega
                  have m1 : Hid (nc + 1 ≤ maxLen ∧ (nc + 1) * 16 ≤ 140737488355328) := by
                    have h1 : code.length = nc := HJ.out.1.oc.length (fun _ => rfl) (by decide)
                    have h2 := HJ.out.2.2.2.1
                    exact ⟨by simp [maxLen]; omega, by omega⟩
                  have HV1 : strB (opO op).name ++ (strB [32, 120, 95] ++ strB (decS m)) ++ strB [32] = strB (itemT op (some (nlX m))) := by rw [strB_append, strB_append, strB_append]; simp [itemT, nlX, nmB]
                  have HVS : Hid (strB (opO op).name ++ ((⟨#[32, 120, 95]⟩ : ByteArray) ++ strB (decS m)) ++ (⟨#[32]⟩ : ByteArray) = strB (itemT op (some (nlX m)))) := HV1
                  clear HV1
                  have zk : (strB (decS m)).size ≤ 10 := decS_len 9 _ (by omega)
                  have s1 : ¬ 9223372036854775807 < 3 + (strB (decS m)).size := by omega
                  have s2 : ¬ 9223372036854775807 < (strB (opO op).name).size + (3 + (strB (decS m)).size) := by omega
                  have s3 : ¬ 9223372036854775807 < (strB (opO op).name).size + (3 + (strB (decS m)).size) + 1 := by omega
                  have HC := Lib.hid (itoa_any m (wq.setCell ⟨wr.heap.size, 1, none⟩ (.int .u32 (m : Int))) (by omega) HTE.out.1)
                  go_wp2_with fail
                  refine HC.out.mono ?_
                  rintro e w7 ⟨rfl, hb7⟩
                  have HI7 := Lib.hid (HI1.out.below hb7)
                  have HR7 := Lib.hid (HR1.out.below hb7 HR1.out.lt)
                  have n70 : w7.cell? ⟨wr.heap.size, 0, none⟩ = some (.int .i64 oI) := cell_rowV HR7.out rfl
                  clear hb7
                  go_wp2_with fail
                  rw [HVS.out]
                  refine (bldF_str (w.heap.size + 1) (w.heap.size + 1) T (itemT op (some (nlX m))) w7 HI7.out.bl (by have := HTL.out; rw [List.length_append] at this; omega) (Nat.le_of_lt HI7.out.lt)).mono ?_
                  rintro e w9 ⟨rfl, hB9, hb9, hk9⟩
                  have HI9 := Lib.hid (HI7.out.wrote hB9 hb9 hk9)
                  have r9 := HI7.out.bl.kept_row hk9 HR7.out (by decide) (by decide)
                  have u0 : w9.cell? ⟨wr.heap.size, 0, none⟩ = some (.int .i64 oI) := cell_rowV r9 rfl
                  have u1 : w9.cell? ⟨wr.heap.size, 1, none⟩ = some (.int .u32 (m : Int)) := cell_rowV r9 rfl
                  have pc : w9.cell? ⟨w.heap.size, 2, none⟩ = some (.slice Ac nc cc) := cell_rowV HI9.out.row rfl
                  clear hB9 hb9 hk9 r9
                  go_wp2_with (first | (at_builtin; refine wpList_pushT (enc := encIn) rfl (.tmp 196) (.tmp 198) rfl uIn infoIn encIn_one rfl (fun _ => rfl) (by decide) rfl HI9.out.oc HI9.out.b.size (⟨oI, (m : Int)⟩ : Ins) _ rfl (by first | rfl | (simp only [setCell_size]; rfl)) m1.out.1 m1.out.2 ?_; intro A10 c10 w10 ho10 hb10 hg10 hf10; have rX := HI9.out.row.grown hg10 (fun e => (HI9.out.oc.ne_row HI9.out.row (by decide)) _ e.symm rfl); have tt : w10.cell? ⟨w.heap.size, 2, none⟩ = some (.slice Ac nc cc) := cell_rowV rX rfl; have tf := frozen_rowV' rX 2; clear rX))
                  have HFN := Lib.hid (HI9.out.pushCode ho10 hb10 hg10)
                  go_roundw
                  case rel => exact ⟨k + 1, _, _, _, _, _, _, by omega, by go_num, HFN.out, HCL.out, HCW.out, by have := HJ.out.2.2.2.1; simp; omega, HTL.out⟩
                  case measure => simp [intOf]; omega
            · as_aux_lemma =>
                have k0 : (oI == 0) = false := by have := HOI.out; simp; omega
                have k35 : (oI == 35) = false := by have := HOI.out; simp; omega
                have k1 : (oI == 1) = false := by have := HOI.out; simp; omega
                have k2 : (oI == 2) = false := by have := HOI.out; simp; omega
                have k3 : (oI == 3) = true := by have := HOI.out; simp; omega
                have k4 : (oI == 4) = false := by have := HOI.out; simp; omega
                have HO := Lib.hid ho
                clear ho
                have HI6 := Lib.hid (HJ.out.1.below H6.out.2)
                have g1 : w6.cell? ⟨w.heap.size, 0, none⟩ = some (.slice Aa na ca) := cell_rowV HI6.out.row rfl
                by_cases hz0 : na = 0
                · have y0 : ((na : Int) == 0) = true := by simp; omega
                  have HZ := Lib.hid hz0
                  clear HI6 hz0
                  go_wp2_with fail
                  have HI6 := Lib.hid (HJ.out.1.below H6.out.2)
                  go_roundw
                  case rel => exact ⟨k + 1, T, code, x, Ac, nc, cc, by omega, by go_num, HI6.out, HJ.out.2.1, HJ.out.2.2.1, by have := HJ.out.2.2.2.1; omega, by have := HJ.out.2.2.2.2; omega⟩
                  case measure => simp [intOf]; omega
                · have y0 : ((na : Int) == 0) = false := by simp; omega
                  obtain ⟨m, hm⟩ : ∃ m, m = a % na := ⟨_, rfl⟩
                  have hmlt : m < na := by rw [hm]; exact Nat.mod_lt _ (by omega)
                  have em : (a : Int) % (na : Int) = (m : Int) := by rw [hm]; exact (Int.natCast_emod a na).symm
                  have emt : (a : Int).tmod (na : Int) = (m : Int) := by rw [Int.tmod_eq_emod_of_nonneg (by omega)]; exact em
                  have hne : ¬ (na : Int) = 0 := by omega
                  have hcb : na ≤ 5 := by omega
                  have hwc : IntKind.u32.wrap (na : Int) = (na : Int) := wrap32J (by omega) (by omega)
                  clear hm
                  go_wp2_with fail
                  refine wp_region_quiet_tail 11 (by kernel_rfl) (by kernel_rfl) ?_
                  simp only [List.take_succ_cons, List.take_zero, List.drop_succ_cons, List.drop_zero]
                  repeat (go_big_quiet_step (fail))
                  refine wpQuiet_nil ?_
                  intro _ hw'
                  obtain ⟨nq, hw''⟩ := hw'
                  subst hw''
                  have hbq : Below wr.heap.size wr (w6.drewN nq) := H6.out.2.trans ((Drawn.drewN w6 nq).below _)
                  have hrq : rowV (w6.drewN nq) wr.heap.size 57 #[.int .i64 oI, .int .u32 0] := H6.out.1.below ((Drawn.drewN w6 nq).below _) H6.out.1.lt
                  obtain ⟨wq, hwq⟩ : ∃ wq, wq = w6.drewN nq := ⟨_, rfl⟩
                  rw [← hwq] at hbq hrq ⊢
                  have HQ := Lib.hid (And.intro hrq hbq)
                  have v0 : wq.cell? ⟨wr.heap.size, 0, none⟩ = some (.int .i64 oI) := cell_rowV hrq rfl
                  have v1 : wq.cell? ⟨wr.heap.size, 1, none⟩ = some (.int .u32 0) := cell_rowV hrq rfl
                  have vf := frozen_rowV' hrq 1
                  clear hbq hrq hwq
                  have hb1 : Below wr.heap.size wr (wq.setCell ⟨wr.heap.size, 1, none⟩ (.int .u32 (m : Int))) := (HQ.out.2).trans (Below.setG (Nat.le_refl wr.heap.size) _)
                  have HI1 := Lib.hid (HJ.out.1.below hb1)
                  have HR1 : Hid (rowV (wq.setCell ⟨wr.heap.size, 1, none⟩ (.int .u32 (m : Int))) wr.heap.size 57 #[.int .i64 oI, .int .u32 (m : Int)]) := (HQ.out.1).set 1 _
                  have HTE : Hid (TabI (wq.setCell ⟨wr.heap.size, 1, none⟩ (.int .u32 (m : Int))) ∧ T64 (wq.setCell ⟨wr.heap.size, 1, none⟩ (.int .u32 (m : Int)))) := ⟨HE.out.2.1.below HI1.out.b, HE.out.2.2.below HI1.out.b⟩
                  clear hb1
                  have HOK : Hid (ItemOk arrs.length j op m (some (nmB m))) := by
                    show ItemOk _ _ _ _ _
                    exact .inr (.inr (.inr (.inl ⟨by have := HO.out; omega, by rw [HNA.out]; exact hmlt, by rw [HNA.out]; omega, rfl⟩)))
                  have HCW : Hid (CodeW ⟨arrs, (List.range arrs.length).map nmB, (List.range j).map nlX, [], []⟩ (code ++ [⟨oI, (m : Int)⟩]) (x ++ ((opO op).name :: (some (nmB m) : Option (List UInt8)).toList))) := by
                    show CodeW _ _ _
                    have h1 := HJ.out.2.2.1.snoc (insW_item (s := ⟨arrs, (List.range arrs.length).map nmB, (List.range j).map nlX, [], []⟩) rfl rfl h36 HOK.out)
                    rw [← HOI.out] at h1
                    exact h1
                  have HCL : Hid (Cl (T ++ itemT op (some (nmB m))) (ws0 ++ (x ++ ((opO op).name :: (some (nmB m) : Option (List UInt8)).toList)))) := by
                    show Cl _ _
                    have h1 := HJ.out.2.1.item h36 (some (nmB m)) (fun y hy => by injection hy with hy; rw [← hy]; exact ⟨by simp [nmB], fit_nm m⟩)
                    rw [List.append_assoc] at h1
                    exact h1
                  have HTL : Hid ((T ++ itemT op (some (nmB m))).length ≤ 160 + 30 * (k + 1)) := by
                    have h1 := HJ.out.2.2.2.2
                    have h2 : (opO op).name.length ≤ 12 := znm
                    have h3 : (nmB m).length ≤ 12 := by have := decS_len 9 m (by omega); unfold nmB; simp; omega
                    show _ ≤ _
                    unfold itemT
                    simp only [List.length_append, List.length_cons, List.length_nil]
                    omega
                  have m1 : Hid (nc + 1 ≤ maxLen ∧ (nc + 1) * 16 ≤ 140737488355328) := by
                    have h1 : code.length = nc := HJ.out.1.oc.length (fun _ => rfl) (by decide)
                    have h2 := HJ.out.2.2.2.1
                    exact ⟨by simp [maxLen]; omega, by omega⟩
                  have HV1 : strB (opO op).name ++ (strB [32, 97] ++ strB (decS m)) ++ strB [32] = strB (itemT op (some (nmB m))) := by rw [strB_append, strB_append, strB_append]; simp [itemT, nlX, nmB]
                  have HVS : Hid (strB (opO op).name ++ ((⟨#[32, 97]⟩ : ByteArray) ++ strB (decS m)) ++ (⟨#[32]⟩ : ByteArray) = strB (itemT op (some (nmB m)))) := HV1
                  clear HV1
                  have zk : (strB (decS m)).size ≤ 10 := decS_len 9 _ (by omega)
                  have s1 : ¬ 9223372036854775807 < 2 + (strB (decS m)).size := by omega
                  have s2 : ¬ 9223372036854775807 < (strB (opO op).name).size + (2 + (strB (decS m)).size) := by omega
                  have s3 : ¬ 9223372036854775807 < (strB (opO op).name).size + (2 + (strB (decS m)).size) + 1 := by omega
                  have HC := Lib.hid (itoa_any m (wq.setCell ⟨wr.heap.size, 1, none⟩ (.int .u32 (m : Int))) (by omega) HTE.out.1)
                  go_wp2_with fail
                  refine HC.out.mono ?_
                  rintro e w7 ⟨rfl, hb7⟩
                  have HI7 := Lib.hid (HI1.out.below hb7)
                  have HR7 := Lib.hid (HR1.out.below hb7 HR1.out.lt)
                  have n70 : w7.cell? ⟨wr.heap.size, 0, none⟩ = some (.int .i64 oI) := cell_rowV HR7.out rfl
                  clear hb7
                  go_wp2_with fail
                  rw [HVS.out]
                  refine (bldF_str (w.heap.size + 1) (w.heap.size + 1) T (itemT op (some (nmB m))) w7 HI7.out.bl (by have := HTL.out; rw [List.length_append] at this; omega) (Nat.le_of_lt HI7.out.lt)).mono ?_
                  rintro e w9 ⟨rfl, hB9, hb9, hk9⟩
                  have HI9 := Lib.hid (HI7.out.wrote hB9 hb9 hk9)
                  have r9 := HI7.out.bl.kept_row hk9 HR7.out (by decide) (by decide)
                  have u0 : w9.cell? ⟨wr.heap.size, 0, none⟩ = some (.int .i64 oI) := cell_rowV r9 rfl
                  have u1 : w9.cell? ⟨wr.heap.size, 1, none⟩ = some (.int .u32 (m : Int)) := cell_rowV r9 rfl
                  have pc : w9.cell? ⟨w.heap.size, 2, none⟩ = some (.slice Ac nc cc) := cell_rowV HI9.out.row rfl
                  clear hB9 hb9 hk9 r9
                  go_wp2_with (first | (at_builtin; refine wpList_pushT (enc := encIn) rfl (.tmp 196) (.tmp 198) rfl uIn infoIn encIn_one rfl (fun _ => rfl) (by decide) rfl HI9.out.oc HI9.out.b.size (⟨oI, (m : Int)⟩ : Ins) _ rfl (by first | rfl | (simp only [setCell_size]; rfl)) m1.out.1 m1.out.2 ?_; intro A10 c10 w10 ho10 hb10 hg10 hf10; have rX := HI9.out.row.grown hg10 (fun e => (HI9.out.oc.ne_row HI9.out.row (by decide)) _ e.symm rfl); have tt : w10.cell? ⟨w.heap.size, 2, none⟩ = some (.slice Ac nc cc) := cell_rowV rX rfl; have tf := frozen_rowV' rX 2; clear rX))
                  have HFN := Lib.hid (HI9.out.pushCode ho10 hb10 hg10)
                  go_roundw
                  case rel => exact ⟨k + 1, _, _, _, _, _, _, by omega, by go_num, HFN.out, HCL.out, HCW.out, by have := HJ.out.2.2.2.1; simp; omega, HTL.out⟩
                  case measure => simp [intOf]; omega
            · as_aux_lemma =>
                have k0 : (oI == 0) = false := by have := HOI.out; simp; omega
                have k35 : (oI == 35) = false := by have := HOI.out; simp; omega
                have k1 : (oI == 1) = false := by have := HOI.out; simp; omega
                have k2 : (oI == 2) = false := by have := HOI.out; simp; omega
                have k3 : (oI == 3) = false := by have := HOI.out; simp; omega
                have k4 : (oI == 4) = true := by have := HOI.out; simp; omega
                have HO := Lib.hid ho
                clear ho
                have HI6 := Lib.hid (HJ.out.1.below H6.out.2)
                have g1 : w6.cell? ⟨w.heap.size, 0, none⟩ = some (.slice Aa na ca) := cell_rowV HI6.out.row rfl
                by_cases hz0 : na = 0
                · have y0 : ((na : Int) == 0) = true := by simp; omega
                  have HZ := Lib.hid hz0
                  clear HI6 hz0
                  go_wp2_with fail
                  have HI6 := Lib.hid (HJ.out.1.below H6.out.2)
                  go_roundw
                  case rel => exact ⟨k + 1, T, code, x, Ac, nc, cc, by omega, by go_num, HI6.out, HJ.out.2.1, HJ.out.2.2.1, by have := HJ.out.2.2.2.1; omega, by have := HJ.out.2.2.2.2; omega⟩
                  case measure => simp [intOf]; omega
                · have y0 : ((na : Int) == 0) = false := by simp; omega
                  obtain ⟨m, hm⟩ : ∃ m, m = a % na := ⟨_, rfl⟩
                  have hmlt : m < na := by rw [hm]; exact Nat.mod_lt _ (by omega)
                  have em : (a : Int) % (na : Int) = (m : Int) := by rw [hm]; exact (Int.natCast_emod a na).symm
                  have emt : (a : Int).tmod (na : Int) = (m : Int) := by rw [Int.tmod_eq_emod_of_nonneg (by omega)]; exact em
                  have hne : ¬ (na : Int) = 0 := by omega
                  have hcb : na ≤ 5 := by omega
                  have hwc : IntKind.u32.wrap (na : Int) = (na : Int) := wrap32J (by omega) (by omega)
                  clear hm
                  go_wp2_with fail
                  refine wp_region_quiet_tail 11 (by kernel_rfl) (by kernel_rfl) ?_
                  simp only [List.take_succ_cons, List.take_zero, List.drop_succ_cons, List.drop_zero]
                  repeat (go_big_quiet_step (fail))
                  refine wpQuiet_nil ?_
                  intro _ hw'
                  obtain ⟨nq, hw''⟩ := hw'
                  subst hw''
                  have hbq : Below wr.heap.size wr (w6.drewN nq) := H6.out.2.trans ((Drawn.drewN w6 nq).below _)
                  have hrq : rowV (w6.drewN nq) wr.heap.size 57 #[.int .i64 oI, .int .u32 0] := H6.out.1.below ((Drawn.drewN w6 nq).below _) H6.out.1.lt
                  obtain ⟨wq, hwq⟩ : ∃ wq, wq = w6.drewN nq := ⟨_, rfl⟩
                  rw [← hwq] at hbq hrq ⊢
                  have HQ := Lib.hid (And.intro hrq hbq)
                  have v0 : wq.cell? ⟨wr.heap.size, 0, none⟩ = some (.int .i64 oI) := cell_rowV hrq rfl
                  have v1 : wq.cell? ⟨wr.heap.size, 1, none⟩ = some (.int .u32 0) := cell_rowV hrq rfl
                  have vf := frozen_rowV' hrq 1
                  clear hbq hrq hwq
                  have hb1 : Below wr.heap.size wr (wq.setCell ⟨wr.heap.size, 1, none⟩ (.int .u32 (m : Int))) := (HQ.out.2).trans (Below.setG (Nat.le_refl wr.heap.size) _)
                  have HI1 := Lib.hid (HJ.out.1.below hb1)
                  have HR1 : Hid (rowV (wq.setCell ⟨wr.heap.size, 1, none⟩ (.int .u32 (m : Int))) wr.heap.size 57 #[.int .i64 oI, .int .u32 (m : Int)]) := (HQ.out.1).set 1 _
                  have HTE : Hid (TabI (wq.setCell ⟨wr.heap.size, 1, none⟩ (.int .u32 (m : Int))) ∧ T64 (wq.setCell ⟨wr.heap.size, 1, none⟩ (.int .u32 (m : Int)))) := ⟨HE.out.2.1.below HI1.out.b, HE.out.2.2.below HI1.out.b⟩
                  clear hb1
                  have HOK : Hid (ItemOk arrs.length j op m (some (nmB m))) := by
                    show ItemOk _ _ _ _ _
                    exact .inr (.inr (.inr (.inl ⟨by have := HO.out; omega, by rw [HNA.out]; exact hmlt, by rw [HNA.out]; omega, rfl⟩)))
                  have HCW : Hid (CodeW ⟨arrs, (List.range arrs.length).map nmB, (List.range j).map nlX, [], []⟩ (code ++ [⟨oI, (m : Int)⟩]) (x ++ ((opO op).name :: (some (nmB m) : Option (List UInt8)).toList))) := by
                    show CodeW _ _ _
                    have h1 := HJ.out.2.2.1.snoc (insW_item (s := ⟨arrs, (List.range arrs.length).map nmB, (List.range j).map nlX, [], []⟩) rfl rfl h36 HOK.out)
                    rw [← HOI.out] at h1
                    exact h1
                  have HCL : Hid (Cl (T ++ itemT op (some (nmB m))) (ws0 ++ (x ++ ((opO op).name :: (some (nmB m) : Option (List UInt8)).toList)))) := by
                    show Cl _ _
                    have h1 := HJ.out.2.1.item h36 (some (nmB m)) (fun y hy => by injection hy with hy; rw [← hy]; exact ⟨by simp [nmB], fit_nm m⟩)
                    rw [List.append_assoc] at h1
                    exact h1
                  have HTL : Hid ((T ++ itemT op (some (nmB m))).length ≤ 160 + 30 * (k + 1)) := by
                    have h1 := HJ.out.2.2.2.2
                    have h2 : (opO op).name.length ≤ 12 := znm
                    have h3 : (nmB m).length ≤ 12 := by have := decS_len 9 m (by omega); unfold nmB; simp; omega
                    show _ ≤ _
                    unfold itemT
                    simp only [List.length_append, List.length_cons, List.length_nil]
                    omega
                  have m1 : Hid (nc + 1 ≤ maxLen ∧ (nc + 1) * 16 ≤ 140737488355328) := by
                    have h1 : code.length = nc := HJ.out.1.oc.length (fun _ => rfl) (by decide)
                    have h2 := HJ.out.2.2.2.1
                    exact ⟨by simp [maxLen]; omega, by omega⟩
                  have HV1 : strB (opO op).name ++ (strB [32, 97] ++ strB (decS m)) ++ strB [32] = strB (itemT op (some (nmB m))) := by rw [strB_append, strB_append, strB_append]; simp [itemT, nlX, nmB]
                  have HVS : Hid (strB (opO op).name ++ ((⟨#[32, 97]⟩ : ByteArray) ++ strB (decS m)) ++ (⟨#[32]⟩ : ByteArray) = strB (itemT op (some (nmB m)))) := HV1
                  clear HV1
                  have zk : (strB (decS m)).size ≤ 10 := decS_len 9 _ (by omega)
                  have s1 : ¬ 9223372036854775807 < 2 + (strB (decS m)).size := by omega
                  have s2 : ¬ 9223372036854775807 < (strB (opO op).name).size + (2 + (strB (decS m)).size) := by omega
                  have s3 : ¬ 9223372036854775807 < (strB (opO op).name).size + (2 + (strB (decS m)).size) + 1 := by omega
                  have HC := Lib.hid (itoa_any m (wq.setCell ⟨wr.heap.size, 1, none⟩ (.int .u32 (m : Int))) (by omega) HTE.out.1)
                  go_wp2_with fail
                  refine HC.out.mono ?_
                  rintro e w7 ⟨rfl, hb7⟩
                  have HI7 := Lib.hid (HI1.out.below hb7)
                  have HR7 := Lib.hid (HR1.out.below hb7 HR1.out.lt)
                  have n70 : w7.cell? ⟨wr.heap.size, 0, none⟩ = some (.int .i64 oI) := cell_rowV HR7.out rfl
                  clear hb7
                  go_wp2_with fail
                  rw [HVS.out]
                  refine (bldF_str (w.heap.size + 1) (w.heap.size + 1) T (itemT op (some (nmB m))) w7 HI7.out.bl (by have := HTL.out; rw [List.length_append] at this; omega) (Nat.le_of_lt HI7.out.lt)).mono ?_
                  rintro e w9 ⟨rfl, hB9, hb9, hk9⟩
                  have HI9 := Lib.hid (HI7.out.wrote hB9 hb9 hk9)
                  have r9 := HI7.out.bl.kept_row hk9 HR7.out (by decide) (by decide)
                  have u0 : w9.cell? ⟨wr.heap.size, 0, none⟩ = some (.int .i64 oI) := cell_rowV r9 rfl
                  have u1 : w9.cell? ⟨wr.heap.size, 1, none⟩ = some (.int .u32 (m : Int)) := cell_rowV r9 rfl
                  have pc : w9.cell? ⟨w.heap.size, 2, none⟩ = some (.slice Ac nc cc) := cell_rowV HI9.out.row rfl
                  clear hB9 hb9 hk9 r9
                  go_wp2_with (first | (at_builtin; refine wpList_pushT (enc := encIn) rfl (.tmp 196) (.tmp 198) rfl uIn infoIn encIn_one rfl (fun _ => rfl) (by decide) rfl HI9.out.oc HI9.out.b.size (⟨oI, (m : Int)⟩ : Ins) _ rfl (by first | rfl | (simp only [setCell_size]; rfl)) m1.out.1 m1.out.2 ?_; intro A10 c10 w10 ho10 hb10 hg10 hf10; have rX := HI9.out.row.grown hg10 (fun e => (HI9.out.oc.ne_row HI9.out.row (by decide)) _ e.symm rfl); have tt : w10.cell? ⟨w.heap.size, 2, none⟩ = some (.slice Ac nc cc) := cell_rowV rX rfl; have tf := frozen_rowV' rX 2; clear rX))
                  have HFN := Lib.hid (HI9.out.pushCode ho10 hb10 hg10)
                  go_roundw
                  case rel => exact ⟨k + 1, _, _, _, _, _, _, by omega, by go_num, HFN.out, HCL.out, HCW.out, by have := HJ.out.2.2.2.1; simp; omega, HTL.out⟩
                  case measure => simp [intOf]; omega
            · as_aux_lemma =>
                have k0 : (oI == 0) = false := by have := HOI.out; simp; omega
                have k35 : (oI == 35) = false := by have := HOI.out; simp; omega
                have k1 : (oI == 1) = false := by have := HOI.out; simp; omega
                have k2 : (oI == 2) = false := by have := HOI.out; simp; omega
                have k3 : (oI == 3) = false := by have := HOI.out; simp; omega
                have k4 : (oI == 4) = false := by have := HOI.out; simp; omega
                have HO := Lib.hid ho
                clear ho
                have HI7 := Lib.hid (HJ.out.1.below H6.out.2)
                have HR7 : Hid (rowV w6 wr.heap.size 57 #[.int .i64 oI, .int .u32 ((0 : Nat) : Int)]) := H6.out.1
                have HOK : Hid (ItemOk arrs.length j op (0 : Nat) (none)) := by
                  show ItemOk _ _ _ _ _
                  exact .inr (.inr (.inr (.inr ⟨HO.out.1, HO.out.2, rfl, rfl⟩)))
                have HCW : Hid (CodeW ⟨arrs, (List.range arrs.length).map nmB, (List.range j).map nlX, [], []⟩ (code ++ [⟨oI, ((0 : Nat) : Int)⟩]) (x ++ ((opO op).name :: (none : Option (List UInt8)).toList))) := by
                  show CodeW _ _ _
                  have h1 := HJ.out.2.2.1.snoc (insW_item (s := ⟨arrs, (List.range arrs.length).map nmB, (List.range j).map nlX, [], []⟩) rfl rfl h36 HOK.out)
                  rw [← HOI.out] at h1
                  exact h1
                have HCL : Hid (Cl (T ++ itemT op (none)) (ws0 ++ (x ++ ((opO op).name :: (none : Option (List UInt8)).toList)))) := by
                  show Cl _ _
                  have h1 := HJ.out.2.1.item h36 (none) (fun y hy => by cases hy)
                  rw [List.append_assoc] at h1
                  exact h1
                have HTL : Hid ((T ++ itemT op (none)).length ≤ 160 + 30 * (k + 1)) := by
                  have h1 := HJ.out.2.2.2.2
                  have h2 : (opO op).name.length ≤ 12 := znm
                  skip
                  show _ ≤ _
                  unfold itemT
                  simp only [List.length_append, List.length_cons, List.length_nil]
                  omega
                have m1 : Hid (nc + 1 ≤ maxLen ∧ (nc + 1) * 16 ≤ 140737488355328) := by
                  have h1 : code.length = nc := HJ.out.1.oc.length (fun _ => rfl) (by decide)
                  have h2 := HJ.out.2.2.2.1
                  exact ⟨by simp [maxLen]; omega, by omega⟩
                have HV1 : strB (opO op).name ++ strB [32] = strB (itemT op none) := by rw [strB_append]; simp [itemT]
                have HVS : Hid (strB (opO op).name ++ (⟨#[32]⟩ : ByteArray) = strB (itemT op none)) := HV1
                clear HV1
                have s3 : ¬ 9223372036854775807 < (strB (opO op).name).size + 1 := by omega
                go_wp2_with fail
                rw [HVS.out]
                refine (bldF_str (w.heap.size + 1) (w.heap.size + 1) T (itemT op (none)) w6 HI7.out.bl (by have := HTL.out; rw [List.length_append] at this; omega) (Nat.le_of_lt HI7.out.lt)).mono ?_
                rintro e w9 ⟨rfl, hB9, hb9, hk9⟩
                have HI9 := Lib.hid (HI7.out.wrote hB9 hb9 hk9)
                have r9 := HI7.out.bl.kept_row hk9 HR7.out (by decide) (by decide)
                have u0 : w9.cell? ⟨wr.heap.size, 0, none⟩ = some (.int .i64 oI) := cell_rowV r9 rfl
                have u1 : w9.cell? ⟨wr.heap.size, 1, none⟩ = some (.int .u32 ((0 : Nat) : Int)) := cell_rowV r9 rfl
                have pc : w9.cell? ⟨w.heap.size, 2, none⟩ = some (.slice Ac nc cc) := cell_rowV HI9.out.row rfl
                clear hB9 hb9 hk9 r9
                go_wp2_with (first | (at_builtin; refine wpList_pushT (enc := encIn) rfl (.tmp 196) (.tmp 198) rfl uIn infoIn encIn_one rfl (fun _ => rfl) (by decide) rfl HI9.out.oc HI9.out.b.size (⟨oI, ((0 : Nat) : Int)⟩ : Ins) _ rfl (by first | rfl | (simp only [setCell_size]; rfl)) m1.out.1 m1.out.2 ?_; intro A10 c10 w10 ho10 hb10 hg10 hf10; have rX := HI9.out.row.grown hg10 (fun e => (HI9.out.oc.ne_row HI9.out.row (by decide)) _ e.symm rfl); have tt : w10.cell? ⟨w.heap.size, 2, none⟩ = some (.slice Ac nc cc) := cell_rowV rX rfl; have tf := frozen_rowV' rX 2; clear rX))
                have HFN := Lib.hid (HI9.out.pushCode ho10 hb10 hg10)
                go_roundw
                case rel => exact ⟨k + 1, _, _, _, _, _, _, by omega, by go_num, HFN.out, HCL.out, HCW.out, by have := HJ.out.2.2.2.1; simp; omega, HTL.out⟩
                case measure => simp [intOf]; omega
          · as_aux_lemma =>
              have d2 : decide ((k : Int) < (n2 : Int)) = false := by simp; omega
              have d2' : decide (k < n2) = false := by simp; omega
              have hk60 : k ≤ 60 := by omega
              have hTl : T.length ≤ 8192 := by have := HJ.out.2.2.2.2; omega
              have hw : wordsT T = wArrs nmB 0 arrs ++ (wLocs nlX 0 j ++ x) := by
                have := HJ.out.2.1.all
                rw [HWS.out, List.append_assoc] at this
                exact this
              have hal : arrs.length ≤ 5 := by rw [HNA.out]; exact hna5
              have hrd := read_built (fun k h => nmB_name h) nmB_inj (fun k h => nlX_name h) nlX_inj nmB_nlX hTl (by omega) (fun a h => (HSZ.out.2 a h).1) (by have := sum_le arrs (fun a h => (HSZ.out.2 a h).2); omega) (by omega) (by have := HJ.out.2.2.2.1; omega) HJ.out.2.2.1 hw
              have F := readL_formed hrd
              have H2 := Lib.hid (fun W h => assemble_any T W (by omega) h)
              rw [hrd] at H2
              have hfs := F.sizes
              have hfi := F.ins
              have HPR : Hid (prgOf ⟨arrs, (List.range arrs.length).map nmB, (List.range j).map nlX, code, []⟩ = ⟨arrs, (j : Int), code⟩ ∧ ((((List.range j).map nlX).length : Nat) : Int) = (j : Int)) := by
                have e : ((List.range j).map nlX).length = j := by rw [List.length_map, List.length_range]
                refine ⟨?_, by rw [e]⟩
                unfold prgOf
                dsimp only
                rw [e]
              have hcl : code.length = nc := HJ.out.1.oc.length (fun _ => rfl) (by decide)
              have HWT : Hid (∀ X, rowV X w.heap.size 27 #[.slice Aa na ca, .int .i64 (j : Int), .slice Ac nc cc] → OwnS encAr 2 X w.heap.size 47 Aa na ca arrs → OwnS encIn 2 X w.heap.size 57 Ac nc cc code → Progs X Aa na ca (j : Int) Ac nc cc ⟨arrs, (j : Int), code⟩) := fun X _ h1 h2 =>
                ⟨h1.toArrs (fun y hy => WalkArith.wf_i64 (by have := hfs y hy; omega)), rfl, h2.toCodes (fun y hy => by
                  obtain ⟨g1, g2, g3, g4, _⟩ := hfi y hy
                  exact ⟨g3, g4, WalkArith.wf_i64 (by omega)⟩), WalkArith.wf_i64 (by omega)⟩
              have HNC : Hid (na ≤ 100000 ∧ nc ≤ 100000) := ⟨by omega, by have := HJ.out.2.2.2.1; omega⟩
              have HTX := Lib.hid (bldF_text (w.heap.size + 1) (w.heap.size + 1) T wr HJ.out.1.bl (Nat.le_of_lt HJ.out.1.lt))
              clear hrd F hfs hfi hcl hw hal
              go_wp2_with fail
              refine HTX.out.mono ?_
              rintro e w4 ⟨rfl, hb4, hk4⟩
              have r4 := HJ.out.1.bl.kept_row hk4 HJ.out.1.row (by decide) (by decide)
              have o4 := HJ.out.1.bl.kept_own hk4 HJ.out.1.oa (by decide) (by decide)
              have q4 := HJ.out.1.bl.kept_own hk4 HJ.out.1.oc (by decide) (by decide)
              have H4 := Lib.hid (And.intro r4 (And.intro (HWT.out w4 r4 o4 q4) (HJ.out.1.b.trans (hb4.mono HJ.out.1.h8))))
              clear r4 o4 q4 hb4 hk4 HTX HWT
              go_wp2_with fail
              refine (H2.out w4 (HE.out.1.below H4.out.2.2)).mono ?_
              rintro e w5 ⟨D, m, d, D', m', d', rfl, hq, hb5⟩
              dsimp only at hq ⊢
              rw [HPR.out.1] at hq
              rw [HPR.out.2] at hq ⊢
              have rq := rowV.new w5 27 #[.slice D m d, .int .i64 (j : Int), .slice D' m' d']
              have g3 := (Below.refl w5.heap.size w5).alloc (Nat.le_refl _) (.cells #[.slice D m d, .int .i64 (j : Int), .slice D' m' d'] 27)
              have gab := hb5.trans (g3.mono hb5.size)
              have em : m = na := hq.arrs.1.symm.trans H4.out.2.1.arrs.1
              have em' : m' = nc := hq.code.1.symm.trans H4.out.2.1.code.1
              have HM : Hid (m ≤ 100000 ∧ m' ≤ 100000) := by rw [em, em']; exact HNC
              have H5 := And.intro rq (And.intro (hq.below g3) (And.intro (H4.out.1.below gab H4.out.1.lt) (And.intro (H4.out.2.1.below gab) (H4.out.2.2.trans (gab.mono H4.out.2.2.size)))))
              obtain ⟨wb, hwb⟩ : ∃ wb, wb = w5.alloc (.cells #[.slice D m d, .int .i64 (j : Int), .slice D' m' d'] 27) := ⟨_, rfl⟩
              rw [← hwb] at H5
              have H5 := Lib.hid H5
              have HWB := Lib.hid hwb
              clear rq g3 gab hq hb5 hwb H4 H2 em em'
              go_wp2_with fail
              rw [← HWB.out]
              refine (awake_any wb (HE.out.1.below H5.out.2.2.2.2)).mono ?_
              rintro e w6 ⟨rfl, hb6⟩
              have H6 := And.intro (H5.out.1.below hb6 H5.out.1.lt) (And.intro (H5.out.2.1.below hb6) (And.intro (H5.out.2.2.1.below hb6 H5.out.2.2.1.lt) (And.intro (H5.out.2.2.2.1.below hb6) (H5.out.2.2.2.2.trans (hb6.mono H5.out.2.2.2.2.size)))))
              obtain ⟨p0, p1, p2⟩ := three_cellsV H6.2.2.1
              obtain ⟨t0, t1, t2⟩ := three_cellsV H6.1
              have HS := same15_any D D' m d m' d' (j : Int) Aa Ac na ca nc cc (j : Int) ⟨arrs, (j : Int), code⟩ ⟨arrs, (j : Int), code⟩ w6 H6.2.1 H6.2.2.2.1 HM.out.1 HM.out.2
              rw [sameP_self] at HS
              replace HS := Lib.hid HS
              have HBL := Lib.hid H6.2.2.2.2
              clear H6 hb6 H5
              go_wp2_with fail
              refine HS.out.mono ?_
              rintro e w7 ⟨rfl, hb7⟩
              have HBM := Lib.hid (HBL.out.trans (hb7.mono HBL.out.size))
              clear hb7
              go_wp2_with fail
              go_ret
              exact ⟨by simp, HBM.out⟩
end Go.Proofs.YtlbhggjkcfcobaaDoor
