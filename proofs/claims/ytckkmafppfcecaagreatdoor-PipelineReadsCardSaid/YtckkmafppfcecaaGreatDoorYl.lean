/- Print of the program. -/
import Derived.Test.YtckkmafppfcecaaGreatDoorYx
import Derived.Test.YtckkmafppfcecaaGreatDoorYz
import Derived.Shelf.Strings.OnBuilder
namespace Go.Proofs.YtckkmafppfcecaaGreatDoor
open Go.RowKit Go.Proofs
set_option linter.unusedVariables false
set_option linter.unusedSimpArgs false

theorem joinP_cons : ∀ (r : List (List UInt8)) (x : List UInt8), joinP (x :: r) = x ++ Lib.joinTail [32] r
  | [], x => by simp [joinP, Lib.joinTail]
  | y :: r, x => by
    rw [joinP, joinP_cons r y]
    simp [Lib.joinTail]
theorem join_joinP : ∀ ws : List (List UInt8), Lib.join ws [32] = joinP ws
  | [] => rfl
  | x :: r => by rw [Lib.join_cons, joinP_cons]
def encSs (x : List UInt8) : List Value := [.string (strB x)]
theorem encSs_one (x : List UInt8) : ∀ u ∈ encSs x, u.oneCell' = true := by intro u hu; simp [encSs] at hu; subst hu; rfl
theorem infoSs : (Tryz.prog.info? 9).map (fun i => (i.zero, i.size, i.bytes)) = some (some (.string ByteArray.empty), 1, 16) := by kernel_rfl
theorem uSs : Tryz.prog.underlying 92 = some (.slice 9) := Tryz.underlying92
theorem joinS_any (B : Nat) (A : Option Addr) (n c : Nat) (ws : List (List UInt8)) (w : World) (h : OwnS encSs 1 w B 9 A n c ws) (hl : (joinP ws).length ≤ 1000000) (hn : n ≤ 1000000) :
    Calls Tryz.prog 45 #[.slice A n c, .string ⟨#[32]⟩] w fun e w' => e = .returned (.string (strB (joinP ws))) ∧ Below w.heap.size w w' := by
  have hlen := h.length (fun _ => rfl) (by decide)
  rcases Nat.eq_zero_or_pos n with h0 | h0
  · subst h0
    obtain rfl : ws = [] := List.eq_nil_of_length_eq_zero hlen
    refine (Any.strings_Join_none Tryz.lays156 Tryz.Builder_Extra_156 A c ⟨#[32]⟩ w).mono ?_
    rintro e w' ⟨rfl, rfl⟩
    exact ⟨rfl, Below.refl _ _⟩
  · obtain ⟨g, rfl, -, hlt, hc⟩ := h.get (fun _ => rfl) (by decide) [] h0
    have hmm : (ws.map strB).map (·.data.toList) = ws := (List.map_map (l := ws) (f := strB) (g := fun x : ByteArray => x.data.toList)).trans (List.map_id ws)
    have H := Tryz.strings_Join g 0 c (ws.map strB) ⟨#[32]⟩ w (fun j x hj => by
      rw [List.getElem?_map, Option.map_eq_some_iff] at hj
      obtain ⟨y, hy, rfl⟩ := hj
      have hjl : j < ws.length := (List.getElem?_eq_some_iff.1 hy).1
      have := hc j 0 _ (by omega) rfl
      rw [List.getD_eq_getElem?_getD, hy] at this
      rw [Nat.zero_add]
      simpa using this) hlt (by rw [List.length_map]; omega) (by rw [List.length_map, hlen]; exact h.cap) (by rw [hmm, show (⟨#[32]⟩ : ByteArray).data.toList = [32] from rfl, join_joinP]; omega)
    rw [hmm, show (⟨#[32]⟩ : ByteArray).data.toList = [32] from rfl, join_joinP, List.length_map, hlen] at H
    exact H

set_option maxRecDepth 100000 in
set_option maxHeartbeats 4000000 in
theorem print_any (A : Option Addr) (n c : Nat) (l : List Stg) (w : World) (hx : Stgs w A n c l) (hn : n ≤ 1000000000000) (hT : TabY w) :
    Calls Tryz.prog 23 #[.slice A n c] w fun e w' => e = .returned (.tuple #[.string (strB (printP l).1), .int .i64 (printP l).2]) ∧ Below w.heap.size w w' := by
  have z1 := zS
  have HC := Lib.hid (check_any A n c l w hx hn)
  have hP : printP l = if (typE l (0, 0)).1 = 0 then (joinP (wordsOf l), 0) else ([], (typE l (0, 0)).1) := rfl
  have hok := fun h => typE_ok (l := l) (t := (0, 0)) h
  have hpp := fun h => parse_print (l := l) h
  obtain ⟨er, her⟩ : ∃ er, er = (typE l (0, 0)).1 := ⟨_, rfl⟩
  rw [← her] at HC hP hok hpp
  clear her
  by_cases he : er = 0
  · rw [if_pos he] at hP
    obtain ⟨h8, -, -, hso⟩ := hok he
    have hjl := (hpp he).1
    rw [hP]
    subst he
    have HX := Lib.hid hx
    have HT := Lib.hid hT
    have HSO := Lib.hid hso
    have hl := hx.1
    clear hok hpp hP hx hT hso
    go_enter Tryz.func23, Tryz.ntmps23
    go_wp2_with fail
    refine HC.out.mono ?_
    rintro e w0 ⟨rfl, hb0⟩
    go_wp2_with fail
    refine (shapes_any w0).mono ?_
    rintro e w1 ⟨⟨f, hf, rfl⟩, hb1⟩
    obtain ⟨w3, hw3, hw2, hb2, s2, r2⟩ := laidSh w1 f
    have Hr := Lib.hid (rowV.new w1 63 zeroS)
    have Hf := Lib.hid (allSh hf)
    have HF := Lib.hid hf
    have hb02 := hb0.trans ((hb1.trans (hb2.mono hb1.size)).mono hb0.size)
    have HB3 := Lib.hid hb02
    have HR3 := Lib.hid r2
    have HX3 := Lib.hid (HX.out.below hb02)
    clear hb0 hb1 hb2 s2 r2 hf hb02 HX
    go_wp2_with (refine wpList_store_row rfl 63 (.tmp 5) (.tmp 14) rfl _ _ rfl rfl _ _ Hr.out (iSh f) (zS_size f) Hf.out ?_)
    clear z1 Hr Hf
    rw [← hw3]
    clear hw3
    go_loopw [6, 8, 17] (fun o _ i wr => ∃ (k n3 c3 : Nat) (A3 : Option Addr), k ≤ n ∧ n3 ≤ 2 * k ∧ i = .int .i64 (k : Int) ∧ o = .slice A3 n3 c3 ∧ Hid (OwnS encSs 1 wr w3.heap.size 9 A3 n3 c3 (wordsOf (l.take k))) ∧ Hid (Below w3.heap.size w3 wr)) (fun _ _ i _ => n - (intOf i).toNat)
    case atStart => exact ⟨0, 0, 0, none, Nat.zero_le _, Nat.zero_le _, rfl, rfl, Lib.hid (OwnS.nil _ _ _ _ _), Lib.hid (Below.refl _ _)⟩
    case round =>
      obtain ⟨k, n3, c3, A3, hk, hn3, rfl, rfl, HO, HB⟩ := hrel
      by_cases hlt : k < n
      · have d0 : decide ((k : Int) < (n : Int)) = true := by simp; omega
        have d0' : decide (k < n) = true := by simp; omega
        obtain ⟨sb, so, rfl, hsb, hs1, hs2⟩ := HX3.out.cell hlt
        have y1 : wr.cell? ⟨sb, so + k * 2, none⟩ = some (.int .i64 (sG l k).1) := (HB.out.cell (p := ⟨sb, so + k * 2, none⟩) hsb).trans hs1
        have y2 : wr.cell? ⟨sb, so + k * 2 + 1, none⟩ = some (.int .i64 (sG l k).2) := (HB.out.cell (p := ⟨sb, so + k * 2 + 1, none⟩) hsb).trans hs2
        have hkl : k < l.length := by omega
        have hwn := wordsOf_next hkl
        have hsok := HSO.out (sG l k) (by unfold sG; rw [List.getD_eq_getElem?_getD, List.getElem?_eq_getElem hkl]; exact List.getElem_mem hkl)
        obtain ⟨⟨kd, ar⟩, hs⟩ : ∃ s, s = sG l k := ⟨_, rfl⟩
        rw [← hs] at y1 y2 hwn hsok
        clear hs hs1 hs2
        dsimp only at y1 y2 hwn
        obtain ⟨hk0, hk1, hk2, hk3⟩ := hsok
        dsimp only at hk0 hk1 hk2 hk3
        obtain ⟨q, rfl⟩ : ∃ q : Nat, kd = (q : Int) := ⟨kd.toNat, by omega⟩
        have hq : q < 10 := by omega
        obtain ⟨ug, vg, ul, vl, q0, q1, q2, q3, q4⟩ := shV_at HF.out hq
        have rK := HR3.out.below HB.out HR3.out.lt
        have k0 := rK.cell q0
        clear q0 q1 q2 q3 q4
        have hltk : w1.heap.size < wr.heap.size := rK.lt
        have dq : decide ((q : Int) < 10) = true := by simp; omega
        have dq' : decide (q < 10) = true := by simp; omega
        have dq0 : decide ((0 : Int) ≤ (q : Int)) = true := by simp
        have HWN := Lib.hid hwn
        have hoX := HO.out.below (balloc (Below.refl _ _) (.cells #[.int .i64 (q : Int), .int .i64 ar] 67))
        have HOX := Lib.hid (And.intro hoX (balloc HB.out (.cells #[.int .i64 (q : Int), .int .i64 ar] 67)))
        have HSX := Lib.hid HOX.out.2.size
        have hml := Lib.hid (show n3 + 1 ≤ maxLen ∧ (n3 + 1) * 16 ≤ 140737488355328 ∧ n3 + 1 + 1 ≤ maxLen ∧ (n3 + 1 + 1) * 16 ≤ 140737488355328 by unfold maxLen; omega)
        have HSZ : Hid (wr.heap.size + 1 = (wr.alloc (.cells #[.int .i64 (q : Int), .int .i64 ar] 67)).heap.size) := (World.size_alloc _ _).symm
        have rS := rowV.new wr 67 #[.int .i64 (q : Int), .int .i64 ar]
        have HRS := Lib.hid rS
        obtain ⟨nm, hnm⟩ : ∃ nm, nm = nameP (q : Int) := ⟨_, rfl⟩
        rw [← hnm] at k0 HWN
        clear hwn rK rS hnm hoX
        by_cases hz : q = 0
        · have d1 : ((q : Int) == 0) = true := by rw [hz]; rfl
          have hwn2 := HWN.out
          rw [if_pos (by rw [hz]; rfl)] at hwn2
          have ha := hk2 (by rw [hz]; rfl)
          obtain ⟨a, rfl⟩ : ∃ a : Nat, ar = (a : Int) := ⟨ar.toNat, by omega⟩
          rw [Int.toNat_natCast] at hwn2
          have HW2 := Lib.hid hwn2
          clear hwn2 hk2 hk3 hz
          go_wp2_with (at_builtin; refine wpList_pushS (enc := encSs) rfl (.tmp 21) (.tmp 27) rfl uSs infoSs encSs_one rfl (fun _ => rfl) (by decide) rfl HOX.out.1 HSX.out nm _ rfl (congrArg (fun g => Value.slice (some ⟨g, 0, none⟩) 1 1) HSZ.out) hml.out.1 hml.out.2.1 ?_; intro A6 c6 w6 ho6 hb6 hg6; have hrs := HRS.out.grown hg6 (fun e => (HOX.out.1.ne_row HRS.out (by decide)) _ e.symm rfl); obtain ⟨v1, v2⟩ := two_cellsV hrs)
          have HN6 := Lib.hid (And.intro ho6 (HOX.out.2.trans hb6))
          have HI := Lib.hid (itoa_any a w6 (by omega) ((HT.out.below HB3.out).ti.below HN6.out.2))
          clear hrs ho6 hb6 hg6
          refine HI.out.mono ?_
          rintro e w7 ⟨rfl, hb7⟩
          have HN7 := Lib.hid (And.intro (HN6.out.1.below hb7) (HN6.out.2.trans (hb7.mono HN6.out.2.size)))
          have HS7 := Lib.hid HN7.out.2.size
          clear hb7
          go_wp2_with (at_builtin; refine wpList_pushS (enc := encSs) rfl (.tmp 32) (.tmp 36) rfl uSs infoSs encSs_one rfl (fun _ => rfl) (by decide) rfl HN7.out.1 HS7.out (decS a) _ rfl rfl hml.out.2.2.1 hml.out.2.2.2 ?_; intro A8 c8 w8 ho8 hb8 hg8)
          have HN8 := Lib.hid (And.intro ho8 (HN7.out.2.trans hb8))
          clear ho8 hb8 hg8
          go_roundw
          case rel => exact ⟨k + 1, n3 + 1 + 1, c8, A8, by omega, by omega, by go_num, rfl, Lib.hid (by rw [HW2.out, show wordsOf (l.take k) ++ [nm, decS a] = wordsOf (l.take k) ++ [nm] ++ [decS a] by simp]; exact HN8.out.1), Lib.hid HN8.out.2⟩
          case measure => (simp [intOf]) <;> omega
        · have d1 : ((q : Int) == 0) = false := by simp; omega
          have hwn2 := HWN.out
          rw [if_neg (by omega)] at hwn2
          have HW2 := Lib.hid hwn2
          clear hwn2 hk2 hk3 hz
          go_wp2_with (at_builtin; refine wpList_pushS (enc := encSs) rfl (.tmp 21) (.tmp 27) rfl uSs infoSs encSs_one rfl (fun _ => rfl) (by decide) rfl HOX.out.1 HSX.out nm _ rfl (congrArg (fun g => Value.slice (some ⟨g, 0, none⟩) 1 1) HSZ.out) hml.out.1 hml.out.2.1 ?_; intro A6 c6 w6 ho6 hb6 hg6; have hrs := HRS.out.grown hg6 (fun e => (HOX.out.1.ne_row HRS.out (by decide)) _ e.symm rfl); obtain ⟨v1, v2⟩ := two_cellsV hrs)
          have HN6 := Lib.hid (And.intro ho6 (HOX.out.2.trans hb6))
          clear hrs ho6 hb6 hg6
          go_roundw
          case rel => exact ⟨k + 1, n3 + 1, c6, A6, by omega, by omega, by go_num, rfl, Lib.hid (by rw [HW2.out]; exact HN6.out.1), Lib.hid HN6.out.2⟩
          case measure => (simp [intOf]) <;> omega
      · obtain rfl : k = n := by omega
        have d0 : decide ((k : Int) < (k : Int)) = false := by simp
        have ho := HO.out
        rw [List.take_of_length_le (by omega)] at ho
        have HJ := Lib.hid (joinS_any w3.heap.size A3 n3 c3 (wordsOf l) wr ho (by omega) (by omega))
        clear ho
        go_wp2_with fail
        refine HJ.out.mono ?_
        rintro e w5 ⟨rfl, hb5⟩
        have HBL := Lib.hid (HB3.out.trans ((HB.out.trans (hb5.mono HB.out.size)).mono HB3.out.size))
        clear hb5
        go_wp2_with fail
        go_ret2
        exact ⟨rfl, HBL.out⟩
  · rw [if_neg he] at hP
    rw [hP]
    have q0 : (er == 0) = false := by simpa using he
    clear hok hpp hP he
    go_enter Tryz.func23, Tryz.ntmps23
    go_wp2_with fail
    refine HC.out.mono ?_
    rintro e w0 ⟨rfl, hb0⟩
    go_wp2_with fail
    go_ret2
    exact ⟨rfl, hb0⟩
end Go.Proofs.YtckkmafppfcecaaGreatDoor
