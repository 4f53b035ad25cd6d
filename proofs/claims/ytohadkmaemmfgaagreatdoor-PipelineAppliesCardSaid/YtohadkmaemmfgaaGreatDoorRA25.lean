/- Yz Zi Zw Pa. -/
import Derived.Test.YtohadkmaemmfgaaGreatDoorRA02
import Derived.Lib.Replace
import Derived.Shelf.Strings.Repeat
import Derived.Test.YtohadkmaemmfgaaGreatDoorRA05
import Derived.Test.YtohadkmaemmfgaaGreatDoorRA09
import Derived.Deep.RegionHeld3
import Derived.Shelf.Abstract
set_option maxRecDepth 100000
set_option maxHeartbeats 4000000
namespace Go.Proofs.YtohadkmaemmfgaaGreatDoor
open Go.RowKit Go.Proofs
set_option linter.unusedVariables false
set_option linter.unusedSimpArgs false
def StgOk (s : Stg) : Prop := 0 ≤ s.1 ∧ s.1 < 10 ∧ (s.1 = 0 → 1 ≤ s.2 ∧ s.2 ≤ 64) ∧ (s.1 ≠ 0 → s.2 = 0)
theorem errP_ok {s : Stg} {t : Ty} (h : errP s t = 0) : StgOk s := by
  unfold errP at h
  unfold StgOk
  split at h
  · omega
  · split at h
    · omega
    · omega
theorem fstE_all {f : Nat → Int} : ∀ (m k : Nat), (fstE f m k).1 = 0 → ∀ j, k ≤ j → j < k + m → f j = 0
  | 0, k, _, j, h1, h2 => by omega
  | m + 1, k, h, j, h1, h2 => by
    rw [fstE] at h
    by_cases hk : f k = 0
    · rw [if_pos hk] at h
      rcases Nat.eq_or_lt_of_le h1 with h3 | h3
      · rw [← h3]; exact hk
      · exact fstE_all m (k + 1) h j h3 (by omega)
    · rw [if_neg hk] at h
      exact absurd h hk
theorem typE_ok {l : List Stg} {t : Ty} (h : (typE l t).1 = 0) : l.length ≤ 8 ∧ tyOk t = true ∧ (∀ k, k < l.length → eK l t k = 0) ∧ (∀ s ∈ l, StgOk s) := by
  unfold typE at h
  split at h
  · cases h
  · rename_i h1
    split at h
    · cases h
    · rename_i h2
      have ha := fstE_all _ _ h
      refine ⟨by omega, by simpa using h2, fun k hk => ha k (Nat.zero_le _) (by omega), fun s hs => ?_⟩
      obtain ⟨k, hk, rfl⟩ := List.getElem_of_mem hs
      have := ha k (Nat.zero_le _) (by omega)
      have hg : sG l k = l[k] := by unfold sG; rw [List.getD_eq_getElem?_getD, List.getElem?_eq_getElem hk]; rfl
      unfold eK at this
      rw [hg] at this
      exact errP_ok this
abbrev Trf := Nat → Int → List UInt8 → List UInt8 × Int
def fwS (F : Trf) (l : List Stg) (bs : List UInt8) : Nat → List UInt8 × Int
  | 0 => (bs, 0)
  | k + 1 => if (fwS F l bs k).2 = 0 then F (sG l k).1.toNat (tK l (0, 0) k).2 (fwS F l bs k).1 else ([], (fwS F l bs k).2)
def fin (x : List UInt8 × Int) : List UInt8 × Int := if x.2 = 0 then x else ([], x.2)
def begE (l : List Stg) (n : Nat) : Int := if (typE l (0, 0)).1 = 0 then (if 65536 < n then 5 else 0) else (typE l (0, 0)).1
def fwP (F : Trf) (l : List Stg) (bs : List UInt8) : List UInt8 × Int := if begE l bs.length = 0 then fin (fwS F l bs l.length) else ([], begE l bs.length)
theorem fwS_next {F : Trf} {l : List Stg} {bs : List UInt8} {k : Nat} (h : (fwS F l bs k).2 = 0) : fwS F l bs (k + 1) = F (sG l k).1.toNat (tK l (0, 0) k).2 (fwS F l bs k).1 := by rw [fwS, if_pos h]
theorem fwS_stay {F : Trf} {l : List Stg} {bs : List UInt8} {k : Nat} (h : (fwS F l bs k).2 ≠ 0) : ∀ j, k ≤ j → (fwS F l bs j).2 = (fwS F l bs k).2 := by
  intro j hj
  induction j with
  | zero => obtain rfl : k = 0 := by omega
            rfl
  | succ j ih =>
    by_cases e : k = j + 1
    · rw [e]
    · have := ih (by omega)
      rw [fwS, if_neg (by rw [this]; exact h)]
      exact this
def LIM : Nat := 200000
def FwC (T : World → Prop) (F : Trf) (o k : Nat) : Prop := ∀ (f : Nat → Value) (B : Nat), IsCl f → ∃ g lb, (shV f)[k * 5 + o]? = some (.func (.func g) #[] lb) ∧ Enters Tryz.prog g ∧
  ∀ (w : World) (A : Option Addr) (n c : Nat) (bs : List UInt8) (wd : Int), ClAt w B f → T w → Bytes w A n c bs → n ≤ LIM → 0 ≤ wd ∧ wd ≤ 64 →
    Calls Tryz.prog g (#[.slice A n c, .int .i64 wd] ++ lb) w (RetBytes w (F k wd bs).1 (F k wd bs).2) ∧ ((F k wd bs).2 = 0 → (F k wd bs).1.length ≤ LIM)
theorem begin_any (A : Option Addr) (n c : Nat) (l : List Stg) (A' : Option Addr) (n' c' : Nat) (w : World) (hx : Stgs w A n c l) (hn : n ≤ 1000000000000) :
    Calls Tryz.prog 15 #[.slice A n c, .slice A' n' c'] w fun e w' => (if begE l n' = 0 then ∃ A2 c2, e = .returned (.tuple #[.slice A2 (l.length + 1) c2, .int .i64 0]) ∧ OwnS encTy 2 w' w.heap.size 35 A2 (l.length + 1) c2 (tysTo l (0, 0) l.length) else ∃ A2 n2 c2, e = .returned (.tuple #[.slice A2 n2 c2, .int .i64 (begE l n')])) ∧ Below w.heap.size w w' := by
  have HC := types_any A n c l 0 0 w hx hn
  unfold begE
  unfold TysPost at HC
  clear hx
  by_cases he : (typE l (0, 0)).1 = 0
  · simp only [if_pos he] at HC ⊢
    replace HC := Lib.hid HC
    by_cases h6 : 65536 < n'
    · simp only [if_pos h6, if_neg (show ¬ ((5 : Int) = 0) by decide)]
      have d0 : decide ((65536 : Int) < (n' : Int)) = true := decide_eq_true (by omega)
      have d0' : decide (65536 < n') = true := decide_eq_true h6
      clear he h6
      go_enter Tryz.func15, Tryz.ntmps15
      go_wp2_with fail
      refine HC.out.mono ?_
      rintro e w1 ⟨⟨A1, c1, rfl, ho1⟩, hb1⟩
      have HF := Lib.hid (And.intro ho1 hb1)
      clear ho1 hb1
      go_wp2_with fail
      go_ret2
      exact ⟨⟨_, _, _, rfl⟩, HF.out.2⟩
    · simp only [if_neg h6, if_true]
      have d0 : decide ((65536 : Int) < (n' : Int)) = false := decide_eq_false (by omega)
      have d0' : decide (65536 < n') = false := decide_eq_false h6
      clear he h6
      go_enter Tryz.func15, Tryz.ntmps15
      go_wp2_with fail
      refine HC.out.mono ?_
      rintro e w1 ⟨⟨A1, c1, rfl, ho1⟩, hb1⟩
      have HF := Lib.hid (And.intro ho1 hb1)
      clear ho1 hb1
      go_wp2_with fail
      go_ret2
      exact ⟨⟨_, _, rfl, HF.out.1⟩, HF.out.2⟩
  · simp only [if_neg he] at HC ⊢
    replace HC := Lib.hid HC
    have q0 : ((typE l (0, 0)).1 == 0) = false := by simpa using he
    obtain ⟨er, her⟩ : ∃ er, er = (typE l (0, 0)).1 := ⟨_, rfl⟩
    rw [← her] at q0 HC ⊢
    clear her he
    go_enter Tryz.func15, Tryz.ntmps15
    go_wp2_with fail
    refine HC.out.mono ?_
    rintro e w1 ⟨rfl, hb1⟩
    have HF := Lib.hid hb1
    clear hb1
    go_wp2_with fail
    go_ret2
    exact ⟨⟨_, _, _, rfl⟩, HF.out⟩
theorem tK_width (l : List Stg) (h : (typE l (0, 0)).1 = 0) : ∀ k, k ≤ l.length → tyOk (tK l (0, 0) k) = true
  | 0, _ => rfl
  | k + 1, hk => by
    have ih := tK_width l h k (by omega)
    have he := (typE_ok h).2.2.1 k (by omega)
    have hso := (typE_ok h).2.2.2 (sG l k) (by unfold sG; rw [List.getD_eq_getElem?_getD, List.getElem?_eq_getElem (show k < l.length by omega)]; exact List.getElem_mem _)
    have he' : errP (sG l k) (tK l (0, 0) k) = 0 := he
    rw [tK, stepP, if_pos he']
    unfold toP
    obtain ⟨h0, h1, h2, h3⟩ := hso
    split
    · rename_i e0
      unfold tyOk
      rw [if_pos rfl]
      exact decide_eq_true (h2 e0)
    · split
      · exact ih
      · split
        · rfl
        · split <;> rfl
theorem tyOk_width {t : Ty} (h : tyOk t = true) : 0 ≤ t.2 ∧ t.2 ≤ 64 := by
  unfold tyOk at h
  split at h
  · have := of_decide_eq_true h; omega
  · have := of_decide_eq_true h; omega
theorem forward_any (T : World → Prop) (hTb : ∀ W W', T W → Below W.heap.size W W' → T W') (F : Trf) (A : Option Addr) (n c : Nat) (l : List Stg) (A' : Option Addr) (n' c' : Nat) (bs : List UInt8) (w : World) (hx : Stgs w A n c l) (hn : n ≤ 1000000000000) (hy : Bytes w A' n' c' bs) (hn' : n' ≤ 1000000) (hT : T w)
    (hF : (typE l (0, 0)).1 = 0 → ∀ s ∈ l, FwC T F 3 s.1.toNat) :
    Calls Tryz.prog 7 #[.slice A n c, .slice A' n' c'] w (RetBytes w (fwP F l bs).1 (fwP F l bs).2) := by
  have z1 := zS
  have HC := begin_any A n c l A' n' c' w hx hn
  have hl' := hy.1
  unfold fwP
  rw [hl']
  by_cases he : begE l n' = 0
  · simp only [if_pos he] at HC ⊢
    have het : (typE l (0, 0)).1 = 0 := by unfold begE at he; by_cases h : (typE l (0, 0)).1 = 0; (exact h); rw [if_neg h] at he; exact absurd he h
    have hn6 : n' ≤ 65536 := by unfold begE at he; rw [if_pos het] at he; by_cases h : 65536 < n'; (rw [if_pos h] at he; cases he); omega
    have hF := hF het
    obtain ⟨h8, -, -, hso⟩ := typE_ok het
    have hl := hx.1
    have HC := Lib.hid HC
    have HX := Lib.hid hx
    have HY := Lib.hid hy
    have HT := Lib.hid hT
    have HSO := Lib.hid hso
    have HFC := Lib.hid hF
    have HWD := Lib.hid (fun k hk => tyOk_width (tK_width l het k hk))
    have HTB := Lib.hid hTb
    obtain ⟨fr, hfr⟩ : ∃ fr, fr = fin (fwS F l bs l.length) := ⟨_, rfl⟩
    rw [← hfr]
    have HFR := Lib.hid hfr
    clear hx hy hT hso hF he het hTb hfr
    go_enter Tryz.func7, Tryz.ntmps7
    go_wp2_with fail
    refine HC.out.mono ?_
    rintro e w0 ⟨⟨At, ct, rfl, hty⟩, hb0⟩
    have HTY := Lib.hid hty
    have HB0 := Lib.hid hb0
    clear hty hb0
    go_wp2_with fail
    refine (shapes_all w0).mono ?_
    rintro e w1 ⟨⟨f, hf, hca, rfl⟩, hb1⟩
    obtain ⟨w3, hw3, hw2, hb2, s2, r2⟩ := laidSh w1 f
    have Hr := Lib.hid (rowV.new w1 46 zeroS)
    have Hf := Lib.hid (allSh hf)
    have HF := Lib.hid hf
    have hb03 : Below w0.heap.size w0 w3 := hb1.trans (hb2.mono hb1.size)
    have HB3 := Lib.hid (HB0.out.trans (hb03.mono HB0.out.size))
    have HTY3 := Lib.hid (HTY.out.below hb03)
    have HCA := Lib.hid (hca.below hb2)
    have HR3 := Lib.hid r2
    have HCL := Lib.hid (clone_any A' n' c' bs w3 (HY.out.below HB3.out) hn')
    clear hb1 hb2 s2 r2 hf hb03 hca HTY
    go_wp2_with (refine wpList_store_row rfl 46 (.tmp 8) (.tmp 21) rfl _ _ rfl rfl _ _ Hr.out (iSh f) (zS_size f) Hf.out ?_)
    clear z1 Hr Hf
    rw [← hw3]
    clear hw3
    refine HCL.out.mono ?_
    rintro e w4 ⟨A4, n4, c4, rfl, ho4, hb4⟩
    obtain rfl : n' = n4 := by rw [← ho4.length]; exact hl'.symm
    have HO4 := Lib.hid ho4.bytesB
    have HB4 := Lib.hid (HB3.out.trans (hb4.mono HB3.out.size))
    have HTY4 := Lib.hid (HTY3.out.below hb4)
    have HCA4 := Lib.hid (HCA.out.below hb4)
    have HR4 := Lib.hid (HR3.out.below hb4 HR3.out.lt)
    clear ho4 hb4 HTY3 HCA HR3 HCL
    go_wp2_with fail
    go_loopw [7, 9, 10, 11, 26] (fun e o _ _ i wr => ∃ (k n3 c3 : Nat) (A3 : Option Addr), k ≤ n ∧ i = .int .i64 (k : Int) ∧ e = .int .i64 0 ∧ o = .slice A3 n3 c3 ∧ n3 ≤ LIM ∧ Hid ((fwS F l bs k).2 = 0 ∧ Bytes wr A3 n3 c3 (fwS F l bs k).1) ∧ Hid (Below w4.heap.size w4 wr)) (fun _ _ _ _ i _ => n - (intOf i).toNat)
    case atStart => exact ⟨0, n', c4, A4, Nat.zero_le _, rfl, rfl, rfl, by unfold LIM; omega, Lib.hid ⟨rfl, HO4.out⟩, Lib.hid (Below.refl _ _)⟩
    case round =>
      obtain ⟨k, n3, c3, A3, hk, rfl, rfl, rfl, hn3, HO, HB⟩ := hrel
      by_cases hlt : k < n
      · have d0 : decide ((k : Int) < (n : Int)) = true := decide_eq_true (by omega)
        have d0' : decide (k < n) = true := decide_eq_true hlt
        obtain ⟨sb, so, rfl, hsb, hs1, hs2⟩ := (HX.out.below (HB4.out.trans (HB.out.mono HB4.out.size))).cell hlt
        have hkl : k < l.length := by omega
        have hmem : sG l k ∈ l := by unfold sG; rw [List.getD_eq_getElem?_getD, List.getElem?_eq_getElem hkl]; exact List.getElem_mem hkl
        have hsok := HSO.out (sG l k) hmem
        have hfc := HFC.out (sG l k) hmem
        have hnx := fwS_next HO.out.1
        have hwd := HWD.out k (by omega)
        obtain ⟨ga, ea, -, hga, hca⟩ := HTY4.out.get (fun _ => rfl) (by decide) (0, 0) (by omega)
        have hta := hca k 1 (.int .i64 (tK l (0, 0) k).2) (by omega) (by
          have : (tysTo l (0, 0) l.length).getD k (0, 0) = tK l (0, 0) k := by unfold tysTo; simp [List.getD, show k < l.length + 1 by omega]
          rw [this]; rfl)
        subst ea
        obtain ⟨⟨kd, ar⟩, hs⟩ : ∃ s, s = sG l k := ⟨_, rfl⟩
        rw [← hs] at hs1 hs2 hsok hfc hnx
        clear hs hmem
        dsimp only at hs1 hs2 hnx hfc
        obtain ⟨hk0, hk1, -, -⟩ := hsok
        dsimp only at hk0 hk1
        obtain ⟨q, rfl⟩ : ∃ q : Nat, kd = (q : Int) := ⟨kd.toNat, by omega⟩
        have hq : q < 10 := by omega
        rw [Int.toNat_natCast] at hnx hfc
        obtain ⟨g, lb, hg, heg, hcal⟩ := hfc f w0.heap.size HF.out
        obtain ⟨wd, hwde⟩ : ∃ wd, wd = (tK l (0, 0) k).2 := ⟨_, rfl⟩
        rw [← hwde] at hwd hta hnx
        obtain ⟨xs, hxs⟩ : ∃ xs, xs = (fwS F l bs k).1 := ⟨_, rfl⟩
        have hbx := HO.out.2
        rw [← hxs] at hnx hbx
        obtain ⟨wS, hwS⟩ : ∃ wS, wS = wr.alloc (.cells #[.int .i64 (q : Int), .int .i64 ar] 50) := ⟨_, rfl⟩
        have hbS : Below wr.heap.size wr wS := by rw [hwS]; exact balloc (Below.refl _ _) _
        have rS : rowV wS wr.heap.size 50 #[.int .i64 (q : Int), .int .i64 ar] := by rw [hwS]; exact rowV.new wr _ _
        have hb4S : Below w4.heap.size w4 wS := HB.out.trans (hbS.mono HB.out.size)
        have u0 : wS.cell? ⟨wr.heap.size, 0, none⟩ = some (.int .i64 (q : Int)) := rS.cell rfl
        have u1 : wS.cell? ⟨w1.heap.size, q * 5 + 3, none⟩ = some (.func (.func g) #[] lb) := (HR4.out.below hb4S HR4.out.lt).cell hg
        have u2 : wS.cell? ⟨ga, k * 2 + 1, none⟩ = some (.int .i64 wd) := (hb4S.cell (p := ⟨ga, k * 2 + 1, none⟩) hga).trans hta
        obtain ⟨rs, hrs⟩ : ∃ rs, rs = F q wd xs := ⟨_, rfl⟩
        have HCALL : Hid (∀ qq, Calls Tryz.prog g (#[.slice A3 n3 c3, .int .i64 wd] ++ lb) (wS.drewN qq) (fun e w' => ∃ A n c, e = .returned (.tuple #[.slice A n c, .int .i64 rs.2]) ∧ Bytes w' A n c rs.1 ∧ Below wS.heap.size wS w')) := fun qq => by
          have hb4q := bdrew hb4S qq
          refine ((hcal (wS.drewN qq) A3 n3 c3 xs wd (HCA4.out.below hb4q) (HTB.out _ _ HT.out (HB4.out.trans (hb4q.mono HB4.out.size))) ((hbx.below hbS).below ((Drawn.drewN wS qq).below _)) hn3 hwd).1).mono ?_
          rintro e w' ⟨A2, n2, c2, rfl, h1, h2⟩
          rw [← hrs] at h1 ⊢
          exact ⟨A2, n2, c2, rfl, h1, (bdrew (Below.refl wS.heap.size wS) qq).trans h2⟩
        have HLN : Hid (rs.2 = 0 → rs.1.length ≤ LIM) := by
          have := (hcal (wS.drewN 0) A3 n3 c3 xs wd (HCA4.out.below (bdrew hb4S 0)) (HTB.out _ _ HT.out (HB4.out.trans ((bdrew hb4S 0).mono HB4.out.size))) ((hbx.below hbS).below ((Drawn.drewN wS 0).below _)) hn3 hwd).2
          rw [← hrs] at this
          exact this
        have HNX : Hid (fwS F l bs (k + 1) = rs) := by show _ = _; rw [hnx, hrs]
        have hltk : Hid (w1.heap.size < wS.heap.size ∧ ga < wS.heap.size) := ⟨(HR4.out.below hb4S HR4.out.lt).lt, World.block_lt_of_cell? wS _ u2⟩
        have dq : decide ((q : Int) < 10) = true := decide_eq_true (by omega)
        have dq' : decide (q < 10) = true := decide_eq_true (by omega)
        have dq0 : decide ((0 : Int) ≤ (q : Int)) = true := decide_eq_true (by omega)
        have dk : decide ((k : Int) < ((l.length + 1 : Nat) : Int)) = true := decide_eq_true (by omega)
        have HS : Hid (∀ W, Below wS.heap.size wS W → W.cell? ⟨wr.heap.size, 0, none⟩ = some (.int .i64 (q : Int)) ∧ W.cell? ⟨w1.heap.size, q * 5 + 3, none⟩ = some (.func (.func g) #[] lb) ∧ W.cell? ⟨ga, k * 2 + 1, none⟩ = some (.int .i64 wd)) := fun W hb => ⟨(hb.cell (p := ⟨wr.heap.size, 0, none⟩) rS.lt).trans u0, (hb.cell (p := ⟨w1.heap.size, q * 5 + 3, none⟩) hltk.out.1).trans u1, (hb.cell (p := ⟨ga, k * 2 + 1, none⟩) hltk.out.2).trans u2⟩
        have HS0 := HS.out wS (Below.refl _ _)
        have HWS := Lib.hid hwS
        have HBS := Lib.hid hb4S
        obtain ⟨er, her⟩ : ∃ er, er = rs.2 := ⟨_, rfl⟩
        have HER := Lib.hid her
        rw [← her] at HCALL
        have HEG := heg
        unfold Enters at HEG
        clear hcal hnx hrs hbx hxs hwde hwd hbS hb4S rS hwS hga hca hta hg hfc hkl her heg
        go_wp2_with fail
        rw [← HWS.out]
        clear u0 u1 u2
        have kb0 : (0 : Int) ≤ (k : Int) := by omega
        have kb1 : (k : Int) ≤ (n : Int) := by omega
        have kb2 : (k : Int) < (n : Int) + 1 := by omega
        have kb3 : (k : Int) < ((n + 1 : Nat) : Int) := by omega
        have kb4 : k < n + 1 := by omega
        go_region_held3 (fun W => W.cell? ⟨wr.heap.size, 0, none⟩ = some (.int .i64 (q : Int)) ∧ W.cell? ⟨w1.heap.size, q * 5 + 3, none⟩ = some (.func (.func g) #[] lb) ∧ W.cell? ⟨ga, k * 2 + 1, none⟩ = some (.int .i64 wd))
          (first | go_keep | exact HS0 | exact HS.out _ hb5)
          (first | (refine (HCALL.out _).mono ?_; rintro e w5 ⟨A5, n5, c5, rfl, hx5, hb5⟩))
        have HB5 := Lib.hid (HBS.out.trans (hb5.mono HBS.out.size))
        have HX5 := Lib.hid hx5
        have hn5 := hx5.1
        clear hx5 hb5 HS0
        by_cases h0 : er = 0
        · subst h0
          have h5 := HLN.out HER.out.symm
          rw [hn5] at h5
          have HO5 : Hid ((fwS F l bs (k + 1)).2 = 0 ∧ Bytes w5 A5 n5 c5 (fwS F l bs (k + 1)).1) := by
            show _ ∧ _
            rw [HNX.out]
            exact ⟨HER.out.symm, HX5.out⟩
          have HL5 := Lib.hid h5
          clear h5 hn5
          go_wp2_with fail
          go_roundw
          case rel => exact ⟨k + 1, n5, c5, A5, by omega, by go_num, rfl, rfl, HL5.out, HO5, HB5⟩
          case measure => (simp [intOf]) <;> omega
        · have q0 : (er == 0) = false := by simpa using h0
          have HR : Hid (fr = ([], er)) := by
            show _ = _
            rw [HFR.out]
            have hst := fwS_stay (F := F) (l := l) (bs := bs) (k := k + 1) (by rw [HNX.out, ← HER.out]; exact h0) l.length (by omega)
            rw [HNX.out, ← HER.out] at hst
            unfold fin
            rw [hst, if_neg h0]
          clear h0 hn5
          go_wp2_with fail
          go_ret2
          rw [HR.out]
          exact RetBytes.err rfl (HB4.out.trans (HB5.out.mono HB4.out.size))
      · obtain rfl : k = n := by omega
        have d0 : decide ((k : Int) < (k : Int)) = false := by simp
        have HR : Hid (fr = fwS F l bs k) := by
          show _ = _
          rw [HFR.out, hl]
          unfold fin
          rw [if_pos HO.out.1]
        go_wp2_with fail
        go_ret2
        rw [HR.out]
        exact RetBytes.mk HO.out.1.symm HO.out.2 (HB4.out.trans (HB.out.mono HB4.out.size))
  · simp only [if_neg he] at HC ⊢
    have q0 : (begE l n' == 0) = false := by simpa using he
    obtain ⟨er, her⟩ : ∃ er, er = begE l n' := ⟨_, rfl⟩
    rw [← her] at HC q0 ⊢
    replace HC := Lib.hid HC
    clear her he hF hx hy hT hTb
    go_enter Tryz.func7, Tryz.ntmps7
    go_wp2_with fail
    refine HC.out.mono ?_
    rintro e w0 ⟨⟨At, nt, ct, rfl⟩, hb0⟩
    have HB0 := Lib.hid hb0
    clear hb0
    go_wp2_with fail
    go_ret2
    exact RetBytes.err rfl HB0.out
def FLen (F : Trf) : Prop := ∀ k wd bs, bs.length ≤ 65536 → (F k wd bs).2 = 0 → (F k wd bs).1.length ≤ 65536
theorem fwS_len {F : Trf} (hF : FLen F) {l : List Stg} {bs : List UInt8} (hb : bs.length ≤ 65536) : ∀ k, (fwS F l bs k).2 = 0 → (fwS F l bs k).1.length ≤ 65536
  | 0, _ => hb
  | k + 1, h => by
    have h0 : (fwS F l bs k).2 = 0 := by
      by_cases h1 : (fwS F l bs k).2 = 0
      · exact h1
      · rw [fwS, if_neg h1] at h; exact h
    rw [fwS_next h0] at h ⊢
    exact hF _ _ _ (fwS_len hF hb k h0) h
def WOk (k : Nat) (wd : Int) : Prop := k < 10 ∧ (k = 1 ∨ k = 2 → 1 ≤ wd ∧ wd ≤ 64)
theorem stage_ok {l : List Stg} (h : (typE l (0, 0)).1 = 0) {k : Nat} (hk : k < l.length) : WOk (sG l k).1.toNat (tK l (0, 0) k).2 := by
  have hw := tK_width l h k (by omega)
  obtain ⟨-, -, he, hs⟩ := typE_ok h
  have hso := hs (sG l k) (by unfold sG; rw [List.getD_eq_getElem?_getD, List.getElem?_eq_getElem hk]; exact List.getElem_mem _)
  have he := he k hk
  obtain ⟨h0, h1, -, -⟩ := hso
  refine ⟨by omega, fun hk12 => ?_⟩
  have hfr : frK (sG l k).1 = 1 := by unfold frK; rw [if_pos (by omega)]
  unfold eK errP at he
  rw [hfr] at he
  have ht : (tK l (0, 0) k).1 = 1 := by
    split at he
    · cases he
    · split at he
      · cases he
      · split at he
        · cases he
        · rename_i h3; omega
  unfold tyOk at hw
  rw [if_pos ht] at hw
  exact of_decide_eq_true hw
section
variable {F G : Trf} {l : List Stg} {bs : List UInt8}
end
end Go.Proofs.YtohadkmaemmfgaaGreatDoor
