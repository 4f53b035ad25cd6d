/- Np Nq Ns Nt. -/
import Derived.Test.YtckkmafppfcecaaGreatDoorCN27
import Derived.Test.YtckkmafppfcecaaGreatDoorCN32
import Derived.Test.YtckkmafppfcecaaGreatDoorCN29
import Derived.Test.YtckkmafppfcecaaGreatDoorCN38
import Derived.Test.YtckkmafppfcecaaGreatDoorCN45
import Derived.Test.YtckkmafppfcecaaGreatDoorCN03
import Derived.Test.YtckkmafppfcecaaGreatDoorCN31
/- All transforms forward; Forward of pipelines whole. -/
namespace Go.Proofs.YtckkmafppfcecaaGreatDoor
open Go.RowKit Go.Proofs
set_option linter.unusedVariables false
set_option linter.unusedSimpArgs false

/-- the transforms, forward. -/
def trF : Trf := fun k wd bs =>
  if k = 4 then (if 65536 < bs.length then [] else callsP 1 bs, if 65536 < bs.length then 5 else 0)
  else if k = 5 then ((Dic.forwardQ bs).1, ((Dic.forwardQ bs).2 : Int))
  else if k = 6 then lzF bs
  else if k = 7 then ((Bwt.packQ bs).1, ((Bwt.packQ bs).2 : Int))
  else if k = 8 then (if 65536 < bs.length then [] else recF lst0 bs, if 65536 < bs.length then 5 else 0)
  else if k = 9 then runsP bs
  else trA k wd bs
theorem runsP_length {bs : List UInt8} : (runsP bs).1.length ≤ 65536 := by
  unfold runsP
  split
  · exact Nat.zero_le _
  · split
    · exact Nat.zero_le _
    · rename_i h; show (runsL bs).length ≤ _; omega
theorem trF_len : FLen trF := fun k wd bs hb h => by
  unfold trF at h ⊢
  split at h
  · rename_i e; rw [if_pos e]; show (if 65536 < bs.length then [] else callsP 1 bs).length ≤ _; rw [if_neg (by omega), callsP_length]; exact hb
  rename_i e4; rw [if_neg e4]
  split at h
  · rename_i e; rw [if_pos e]; exact Dic.forwardQ_length bs
  rename_i e5; rw [if_neg e5]
  split at h
  · rename_i e; rw [if_pos e]; exact lzF_length
  rename_i e6; rw [if_neg e6]
  split at h
  · rename_i e; rw [if_pos e]; exact Bwt.packQ_length bs
  rename_i e7; rw [if_neg e7]
  split at h
  · rename_i e; rw [if_pos e]; show (if 65536 < bs.length then [] else recF lst0 bs).length ≤ _; rw [if_neg (by omega), recF_length]; exact hb
  rename_i e8; rw [if_neg e8]
  split at h
  · rename_i e; rw [if_pos e]; exact runsP_length
  rename_i e9; rw [if_neg e9]
  unfold trA at h ⊢
  split at h
  · rename_i e; rw [if_pos e]
    have h0 : limD bs.length wd = 0 := h
    show (if limD bs.length wd = 0 then deltaF wd.toNat bs else []).length ≤ _
    rw [if_pos h0, deltaF_length]; exact hb
  rename_i e1; rw [if_neg e1]
  split at h
  · rename_i e; rw [if_pos e]
    have h0 : limD bs.length wd = 0 := h
    have h1 := limD_ok h0
    show (if limD bs.length wd = 0 then columnsF wd.toNat bs else []).length ≤ _
    rw [if_pos h0, columnsF_length (by omega)]; exact hb
  rename_i e2; rw [if_neg e2]
  exact hb
theorem fwAll (T : World → Prop) : ∀ k, k < 10 → FwC T trF 3 k := by
  intro k hk
  match k, hk with
  | 0, _ => exact (fw0 T).congr fun wd bs => rfl
  | 1, _ => exact (fw1 T).congr fun wd bs => rfl
  | 2, _ => exact (fw2 T).congr fun wd bs => rfl
  | 3, _ => exact (fw3 T).congr fun wd bs => rfl
  | 4, _ =>
    refine fwPlain (i := 0) (g := 61) (by decide) (fun f => rfl) rfl (enters_of Tryz.func61 (by kernel_rfl) rfl) fun w A n c bs wd _ hx hn => ⟨?_, fun h0 => ?_⟩
    · have h := callsF_any A n c bs w hx (by unfold LIM at hn; omega)
      rw [← hx.1] at h ⊢
      exact h
    · show (if 65536 < bs.length then [] else callsP 1 bs).length ≤ LIM
      split
      · exact Nat.zero_le _
      · rw [callsP_length, hx.1]; exact hn
  | 5, _ =>
    refine fwPlain (i := 2) (g := 63) (by decide) (fun f => rfl) rfl (enters_of Tryz.func63 (by kernel_rfl) rfl) fun w A n c bs wd _ hx hn => ⟨?_, fun h0 => ?_⟩
    · exact (Dic.forwardQ_any A c n bs w hx (by unfold LIM at hn; omega)).mono fun e w' h => h
    · exact Nat.le_trans (Dic.forwardQ_length bs) (by unfold LIM; omega)
  | 6, _ =>
    refine fwPlain (i := 4) (g := 65) (by decide) (fun f => rfl) rfl (enters_of Tryz.func65 (by kernel_rfl) rfl) fun w A n c bs wd _ hx hn => ⟨?_, fun h0 => ?_⟩
    · exact lzF_any A n c bs w hx (by unfold LIM at hn; omega)
    · exact Nat.le_trans lzF_length (by unfold LIM; omega)
  | 7, _ =>
    refine fwPlain (i := 6) (g := 67) (by decide) (fun f => rfl) rfl (enters_of Tryz.func67 (by kernel_rfl) rfl) fun w A n c bs wd _ hx hn => ⟨?_, fun h0 => ?_⟩
    · exact (Bwt.packQ_any A n c bs w hx (by unfold LIM at hn; omega)).mono fun e w' h => h
    · exact Nat.le_trans (Bwt.packQ_length bs) (by unfold LIM; omega)
  | 8, _ =>
    refine fwPlain (i := 8) (g := 69) (by decide) (fun f => rfl) rfl (enters_of Tryz.func69 (by kernel_rfl) rfl) fun w A n c bs wd _ hx hn => ⟨?_, fun h0 => ?_⟩
    · have h := recF_any A n c bs w hx (by unfold LIM at hn; omega)
      rw [← hx.1] at h ⊢
      exact h
    · show (if 65536 < bs.length then [] else recF lst0 bs).length ≤ LIM
      split
      · exact Nat.zero_le _
      · rw [recF_length, hx.1]; exact hn
  | 9, _ =>
    refine fwPlain (i := 10) (g := 71) (by decide) (fun f => rfl) rfl (enters_of Tryz.func71 (by kernel_rfl) rfl) fun w A n c bs wd _ hx hn => ⟨?_, fun h0 => ?_⟩
    · exact runsF_any A n c bs w hx (by unfold LIM at hn; omega)
    · exact Nat.le_trans runsP_length (by unfold LIM; omega)
theorem forwardAll_any (A : Option Addr) (n c : Nat) (l : List Stg) (A' : Option Addr) (n' c' : Nat) (bs : List UInt8) (w : World) (hx : Stgs w A n c l) (hn : n ≤ 1000000000000) (hy : Bytes w A' n' c' bs) (hn' : n' ≤ 1000000) :
    Calls Tryz.prog 12 #[.slice A n c, .slice A' n' c'] w (RetBytes w (fwP trF l bs).1 (fwP trF l bs).2) :=
  forward_any (fun _ => True) (fun _ _ _ _ => trivial) trF A n c l A' n' c' bs w hx hn hy hn' trivial fun h s hs => by
    obtain ⟨h0, h1, -, -⟩ := (typE_ok h).2.2.2 s hs
    exact fwAll _ _ (by omega)
end Go.Proofs.YtckkmafppfcecaaGreatDoor
/- What law 'composes' asks of its pipelines: Calm, few. -/
namespace Go.Proofs.YtckkmafppfcecaaGreatDoor
open Go.RowKit Go.Proofs
set_option linter.unusedVariables false
set_option linter.unusedSimpArgs false

/-- how many stages are of the dictionary's kind. -/
def cntD (l : List Stg) : Nat := (l.filter fun s => s.1 == 5).length
/-- Calm. -/
def calmB (l : List Stg) : Bool := decide (cntD l ≤ 2)
theorem cntD_le (l : List Stg) : cntD l ≤ l.length := List.length_filter_le _ _
theorem cntD_next {l : List Stg} {k : Nat} (h : k < l.length) : cntD (l.take (k + 1)) = cntD (l.take k) + if (sG l k).1 = 5 then 1 else 0 := by
  have e : l[k]? = some (sG l k) := by unfold sG; rw [List.getD_eq_getElem?_getD, List.getElem?_eq_getElem h]; rfl
  unfold cntD
  rw [List.take_add_one, e]
  simp only [Option.toList_some, List.filter_append, List.length_append]
  congr 1
  by_cases h5 : (sG l k).1 = 5
  · rw [if_pos h5]; simp [h5]
  · rw [if_neg h5]; simp [h5]

set_option maxRecDepth 100000 in
theorem calm_any (A : Option Addr) (n c : Nat) (l : List Stg) (w : World) (hx : Stgs w A n c l) (hn : n ≤ maxLen) :
    Calls Tryz.prog 14 #[.slice A n c] w fun e w' => e = .returned (.bool (calmB l)) ∧ w' = w := by
  have hl := hx.1
  have hn' : n ≤ 9223372036854775807 := hn
  have HX := Lib.hid hx
  have HL := Lib.hid hl
  have HN : Hid (∀ k, k < n → cntD (l.take (k + 1)) = cntD (l.take k) + if (sG l k).1 = 5 then 1 else 0) := fun k hk => cntD_next (by omega)
  have HC : Hid (calmB l = decide (((cntD (l.take n) : Nat) : Int) ≤ 2)) := by
    unfold Hid calmB
    rw [← hl, List.take_length]
    simp only [decide_eq_decide]
    omega
  obtain ⟨f, hf⟩ : ∃ f : Nat → Nat, f = fun k => cntD (l.take k) := ⟨_, rfl⟩
  have hf0 : f 0 = 0 := by rw [hf]; rfl
  have HF : Hid (∀ k, cntD (l.take k) = f k) := fun k => by rw [hf]
  have hfl : ∀ k, k ≤ n → f k ≤ k := fun k hk => by
    rw [hf]
    have := cntD_le (l.take k)
    rw [List.length_take] at this
    exact Nat.le_trans this (Nat.min_le_left _ _)
  have HFL := Lib.hid hfl
  rw [HC.out, HF.out]
  clear hx hl hn hf hfl
  go_enter Tryz.func14, Tryz.ntmps14
  go_wp2_with fail
  go_loop [3, 4] (fun q i => ∃ k : Nat, k ≤ n ∧ i = .int .i64 (k : Int) ∧ q = .int .i64 ((f k : Nat) : Int)) (fun _ i => n - (intOf i).toNat)
  case atStart => exact ⟨0, Nat.zero_le _, rfl, by rw [hf0]; rfl⟩
  case round =>
    obtain ⟨k, hk, rfl, rfl⟩ := hrel
    have hfk := HFL.out k hk
    by_cases hlt : k < n
    · have d0 : decide ((k : Int) < (n : Int)) = true := decide_eq_true (by omega)
      have d0' : decide (k < n) = true := decide_eq_true hlt
      obtain ⟨b1, o1, rfl, -, c1, c2⟩ := HX.out.cell hlt
      have hnx := HN.out k hlt
      rw [HF.out, HF.out] at hnx
      have hcap := HX.out.2.1
      obtain ⟨u, hu⟩ : ∃ u, u = (sG l k).1 := ⟨_, rfl⟩
      rw [← hu] at c1 hnx
      obtain ⟨g, hg⟩ : ∃ g, g = f (k + 1) := ⟨_, rfl⟩
      rw [← hg] at hnx
      obtain ⟨g0, hg0⟩ : ∃ g0, g0 = f k := ⟨_, rfl⟩
      rw [← hg0] at hnx hfk
      rw [← hg0]
      have HG := Lib.hid hg
      clear hu hg hg0 c2
      by_cases h5 : u = 5
      · have q0 : (u == 5) = true := by simp [h5]
        rw [if_pos h5] at hnx
        clear h5
        go_wp2_with fail
        go_round
        case rel => exact ⟨k + 1, by omega, by go_num, by rw [← HG.out, hnx]; go_num⟩
        case measure => (simp [intOf]) <;> omega
      · have q0 : (u == 5) = false := by simp [h5]
        rw [if_neg h5] at hnx
        clear h5
        go_wp2_with fail
        go_round
        case rel => exact ⟨k + 1, by omega, by go_num, by rw [← HG.out, hnx]; rfl⟩
        case measure => (simp [intOf]) <;> omega
    · obtain rfl : k = n := by omega
      have d0 : decide ((k : Int) < (k : Int)) = false := decide_eq_false (by omega)
      have d0' : decide (k < k) = false := decide_eq_false (by omega)
      go_wp2_with fail
      go_ret
      exact ⟨rfl, rfl⟩
/-- few. -/
def fewB (l : List Stg) (n : Nat) : Bool := decide (l.length ≤ 20) && (decide (n ≤ 200) && calmB l)
set_option maxRecDepth 100000 in
theorem few_any (A : Option Addr) (n c : Nat) (l : List Stg) (A' : Option Addr) (n' c' : Nat) (w : World) (hx : Stgs w A n c l) :
    Calls Tryz.prog 10 #[.slice A n c, .slice A' n' c'] w fun e w' => e = .returned (.bool (fewB l n')) ∧ w' = w := by
  have hl := hx.1
  unfold fewB
  rw [hl]
  by_cases h1 : n ≤ 20
  · have d1 : decide ((n : Int) ≤ 20) = true := decide_eq_true (by omega)
    have d1' : decide (n ≤ 20) = true := decide_eq_true h1
    by_cases h2 : n' ≤ 200
    · have d2 : decide ((n' : Int) ≤ 200) = true := decide_eq_true (by omega)
      have d2' : decide (n' ≤ 200) = true := decide_eq_true h2
      have HC := Lib.hid (calm_any A n c l w hx (by unfold maxLen; omega))
      obtain ⟨q, hq⟩ : ∃ q, q = calmB l := ⟨_, rfl⟩
      rw [← hq] at HC ⊢
      clear hq hl hx h1 h2
      rw [d1', d2']
      go_enter Tryz.func10, Tryz.ntmps10
      go_wp2_with fail
      refine HC.out.mono ?_
      rintro e w1 ⟨rfl, hw⟩
      obtain rfl : w = w1 := hw.symm
      go_wp2_with fail
      go_ret
      exact ⟨rfl, rfl⟩
    · have d2 : decide ((n' : Int) ≤ 200) = false := decide_eq_false (by omega)
      have d2' : decide (n' ≤ 200) = false := decide_eq_false h2
      rw [d1', d2']
      clear hl hx h1 h2
      go_enter Tryz.func10, Tryz.ntmps10
      go_wp2_with fail
      go_ret
      exact ⟨rfl, rfl⟩
  · have d1 : decide ((n : Int) ≤ 20) = false := decide_eq_false (by omega)
    have d1' : decide (n ≤ 20) = false := decide_eq_false h1
    rw [d1']
    clear hl hx h1
    go_enter Tryz.func10, Tryz.ntmps10
    go_wp2_with fail
    go_ret
    exact ⟨rfl, rfl⟩
end Go.Proofs.YtckkmafppfcecaaGreatDoor
/- The law 'composes': its walk. -/
namespace Go.Proofs.YtckkmafppfcecaaGreatDoor
open Go.RowKit Go.Proofs
set_option linter.unusedVariables false
set_option linter.unusedSimpArgs false

theorem uGs : Tryz.prog.underlying 22 = some (.slice 67) := by kernel_rfl
theorem infoG : (Tryz.prog.info? 67).map (fun i => (i.zero, i.size, i.bytes)) = some (some (.agg #[.int .i64 0, .int .i64 0]), 2, 16) := by kernel_rfl
theorem encG_one : ∀ (x : Stg), ∀ u ∈ encG x, u.oneCell' = true := by
  intro x u hu
  simp only [encG, List.mem_cons, List.not_mem_nil, or_false] at hu
  rcases hu with rfl | rfl <;> rfl
theorem own_noneG (w : World) : OwnS encG 2 (w.alloc (.cells #[] 67)) w.heap.size 67 (some ⟨w.heap.size, 0, none⟩) 0 0 [] :=
  ⟨rfl, .inr ⟨w.heap.size, 0, #[], rfl, Nat.le_refl _, World.alloc_heap_new w _, Nat.le_refl _, Nat.zero_le _, rfl, rfl⟩⟩
theorem fwP_len {F : Trf} (hF : FLen F) {l : List Stg} {bs : List UInt8} (hb : bs.length ≤ 65536) (h : (fwP F l bs).2 = 0) : (fwP F l bs).1.length ≤ 65536 := by
  unfold fwP at h ⊢
  split at h
  · rename_i e
    rw [if_pos e]
    have f2 : ∀ x, (fin x).2 = x.2 := fun x => by unfold fin; split <;> rfl
    rw [f2] at h
    have e1 : fin (fwS F l bs l.length) = fwS F l bs l.length := by unfold fin; rw [if_pos h]
    rw [e1]
    exact fwS_len hF hb _ h
  · rename_i e
    rw [if_neg e]
    exact Nat.zero_le _
theorem stgs_nil (w : World) : Stgs w none 0 0 [] := ⟨rfl, Nat.le_refl _, (fun x hx => absurd hx List.not_mem_nil), (fun h => absurd h (Nat.lt_irrefl _))⟩

section
variable (A : Option Addr) (n c : Nat) (l : List Stg) (A' : Option Addr) (m c' : Nat) (k : List Stg) (B : Option Addr) (nb cb : Nat) (bs : List UInt8) (w : World)
set_option maxRecDepth 100000 in
set_option maxHeartbeats 1000000 in
theorem composes_awake (hx : Stgs w A n c l) (hy : Stgs w A' m c' k) (hm : m ≤ maxLen) (hT : TabY w) (h : ¬ (fewB l nb = true ∧ calmB k = true ∧ m ≤ 20 ∧ n + m ≤ 8)) :
    Calls Tryz.prog 4 #[.slice A n c, .slice A' m c', .slice B nb cb] w fun e w' => e = .returned (.bool true) ∧ Below w.heap.size w w' := by
  have HA := Lib.hid (awake_any w hT)
  have HF := Lib.hid (few_any A n c l B nb cb w hx)
  have HC := Lib.hid (calm_any A' m c' k w hy hm)
  have hn20 : fewB l nb = true → n ≤ 20 := fun e => by
    unfold fewB at e
    rw [Bool.and_eq_true, hx.1] at e
    exact of_decide_eq_true e.1
  obtain ⟨q1, hq1⟩ : ∃ q, q = fewB l nb := ⟨_, rfl⟩
  obtain ⟨q2, hq2⟩ : ∃ q, q = calmB k := ⟨_, rfl⟩
  rw [← hq1] at HF h hn20
  rw [← hq2] at HC h
  clear hq1 hq2 hx hy hT hm
  cases q1 with
  | false =>
    clear h hn20
    go_enter Tryz.func4, Tryz.ntmps4
    go_wp2_with fail
    refine HF.out.mono ?_
    rintro e w1 ⟨rfl, hw⟩
    obtain rfl : w = w1 := hw.symm
    go_wp2_with fail
    refine HA.out.mono ?_
    rintro e w1 ⟨rfl, hb1⟩
    have HB1 := Lib.hid hb1
    clear hb1
    go_wp2_with fail
    go_ret
    exact ⟨rfl, HB1.out⟩
  | true =>
    have hn20 := hn20 rfl
    cases q2 with
    | false =>
      clear h
      go_enter Tryz.func4, Tryz.ntmps4
      go_wp2_with fail
      refine HF.out.mono ?_
      rintro e w1 ⟨rfl, hw⟩
      obtain rfl : w = w1 := hw.symm
      go_wp2_with fail
      refine HC.out.mono ?_
      rintro e w1 ⟨rfl, hw⟩
      obtain rfl : w = w1 := hw.symm
      go_wp2_with fail
      refine HA.out.mono ?_
      rintro e w1 ⟨rfl, hb1⟩
      have HB1 := Lib.hid hb1
      clear hb1
      go_wp2_with fail
      go_ret
      exact ⟨rfl, HB1.out⟩
    | true =>
      by_cases h20 : 20 < m
      · have d0 : decide ((20 : Int) < (m : Int)) = true := decide_eq_true (by omega)
        have d0' : decide (20 < m) = true := decide_eq_true h20
        clear h h20
        go_enter Tryz.func4, Tryz.ntmps4
        go_wp2_with fail
        refine HF.out.mono ?_
        rintro e w1 ⟨rfl, hw⟩
        obtain rfl : w = w1 := hw.symm
        go_wp2_with fail
        refine HC.out.mono ?_
        rintro e w1 ⟨rfl, hw⟩
        obtain rfl : w = w1 := hw.symm
        go_wp2_with fail
        refine HA.out.mono ?_
        rintro e w1 ⟨rfl, hb1⟩
        have HB1 := Lib.hid hb1
        clear hb1
        go_wp2_with fail
        go_ret
        exact ⟨rfl, HB1.out⟩
      · have d0 : decide ((20 : Int) < (m : Int)) = false := decide_eq_false (by omega)
        have d0' : decide (20 < m) = false := decide_eq_false h20
        have h8 : 8 < n + m := by
          rcases Nat.lt_or_ge 8 (n + m) with h8 | h8
          · exact h8
          · exact absurd ⟨rfl, rfl, by omega, h8⟩ h
        have d1 : decide ((8 : Int) < (n : Int) + (m : Int)) = true := decide_eq_true (by omega)
        have d1' : decide (8 < n + m) = true := decide_eq_true h8
        have d1'' : decide ((8 : Int) < ((n + m : Nat) : Int)) = true := decide_eq_true (by omega)
        clear h
        go_enter Tryz.func4, Tryz.ntmps4
        go_wp2_with fail
        refine HF.out.mono ?_
        rintro e w1 ⟨rfl, hw⟩
        obtain rfl : w = w1 := hw.symm
        go_wp2_with fail
        refine HC.out.mono ?_
        rintro e w1 ⟨rfl, hw⟩
        obtain rfl : w = w1 := hw.symm
        go_wp2_with fail
        refine HA.out.mono ?_
        rintro e w1 ⟨rfl, hb1⟩
        have HB1 := Lib.hid hb1
        clear hb1
        go_wp2_with fail
        go_ret
        exact ⟨rfl, HB1.out⟩
end
end Go.Proofs.YtckkmafppfcecaaGreatDoor
/- The law 'composes': its walk's main road. -/
namespace Go.Proofs.YtckkmafppfcecaaGreatDoor
open Go.RowKit Go.Proofs
set_option linter.unusedVariables false
set_option linter.unusedSimpArgs false

section
variable (A : Option Addr) (n c : Nat) (l : List Stg) (A' : Option Addr) (m c' : Nat) (k : List Stg) (B : Option Addr) (nb cb : Nat) (bs : List UInt8) (w : World)
set_option maxRecDepth 100000 in
set_option maxHeartbeats 4000000 in
theorem composes_main (hx : Stgs w A n c l) (hy : Stgs w A' m c' k) (hz : Bytes w B nb cb bs) (hT : TabY w) (hF0 : fewB l nb = true) (hC0 : calmB k = true) (h20 : m ≤ 20) (h8 : n + m ≤ 8) :
    Calls Tryz.prog 4 #[.slice A n c, .slice A' m c', .slice B nb cb] w fun e w' => e = .returned (.bool true) ∧ Below w.heap.size w w' := by
  have hF := Lib.hid (few_any A n c l B nb cb w hx)
  have hC := Lib.hid (calm_any A' m c' k w hy (by unfold maxLen; omega))
  have hl := hx.1
  have hk := hy.1
  have hnb : nb ≤ 200 := by
    unfold fewB at hF0
    rw [Bool.and_eq_true, Bool.and_eq_true] at hF0
    exact of_decide_eq_true hF0.2.1
  have hb65 : bs.length ≤ 65536 := by rw [hz.1]; omega
  have h8' : l.length + k.length ≤ 8 := by rw [hl, hk]; exact h8
  rw [hF0] at hF
  rw [hC0] at hC
  have d0 : decide ((20 : Int) < (m : Int)) = false := decide_eq_false (by omega)
  have d0' : decide (20 < m) = false := decide_eq_false (by omega)
  have d1 : decide ((8 : Int) < (n : Int) + (m : Int)) = false := decide_eq_false (by omega)
  have d1' : decide (8 < n + m) = false := decide_eq_false (by omega)
  have d1'' : decide ((8 : Int) < ((n + m : Nat) : Int)) = false := decide_eq_false (by omega)
  have hm : Hid (((0 + n ≤ maxLen) ∧ (0 + n) * 16 ≤ 140737488355328) ∧ ((n + m ≤ maxLen) ∧ (n + m) * 16 ≤ 140737488355328)) := by
    refine ⟨⟨?_, ?_⟩, ?_, ?_⟩ <;> (try unfold maxLen) <;> omega
  have HX := Lib.hid hx
  have HY := Lib.hid hy
  have HZ := Lib.hid hz
  have HT := Lib.hid hT
  have HWF : Hid (∀ x ∈ l ++ k, (Lit.int .i64 x.1).wf = true ∧ (Lit.int .i64 x.2).wf = true) := fun x h => by
    rcases List.mem_append.1 h with h | h
    · exact hx.2.2.1 x h
    · exact hy.2.2.1 x h
  clear hF0 hC0 hx hy hz hT hl hk
  go_enter Tryz.func4, Tryz.ntmps4
  go_wp2_with fail
  refine hF.out.mono ?_
  rintro e w1 ⟨rfl, hw⟩
  obtain rfl : w = w1 := hw.symm
  go_wp2_with fail
  refine hC.out.mono ?_
  rintro e w1 ⟨rfl, hw⟩
  obtain rfl : w = w1 := hw.symm
  have hbA : Below w.heap.size w (w.alloc (.cells #[] 67)) := balloc (Below.refl _ _) _
  have hAs := Lib.hid (HX.out.below hbA)
  have hAlt := Lib.hid hbA.size
  go_wp2_with (first | (at_builtin; refine wpList_appS (enc := encG) (sz := 2) rfl (.tmp 44) (.tmp 45) rfl uGs infoG encG_one rfl (fun _ => rfl) (by decide) rfl (own_noneG w) hAlt.out A n c l hAs.out.1 hAs.out.src.1 hAs.out.src.2 rfl hm.out.1.1 hm.out.1.2 ?_; intro A2 c2 w2 ho2 hb2 hg2; rw [Nat.zero_add, List.nil_append] at ho2; have HO2 := Lib.hid ho2; have HB2 := Lib.hid (hbA.trans hb2); clear ho2 hb2 hg2) | (at_builtin; refine wpList_appS (enc := encG) (sz := 2) rfl (.tmp 46) (.tmp 47) rfl uGs infoG encG_one rfl (fun _ => rfl) (by decide) rfl HO2.out HB2.out.size A' m c' k (HY.out.below HB2.out).1 (HY.out.below HB2.out).src.1 (HY.out.below HB2.out).src.2 rfl hm.out.2.1 hm.out.2.2 ?_; intro A3 c3 w3 ho3 hb3 hg3; have HO3 := Lib.hid ho3; have HB3 := Lib.hid (HB2.out.trans hb3); clear ho3 hb3 hg3))
  -- MAIN
  have HS3 := Lib.hid (HO3.out.stgs HWF.out)
  have HX3 := Lib.hid (HX.out.below HB3.out)
  have hn12 : n ≤ 1000000000000 := by omega
  have hm12 : m ≤ 1000000000000 := by omega
  have hnm12 : n + m ≤ 1000000000000 := by omega
  have HN := Lib.hid (And.intro hn12 (And.intro hm12 hnm12))
  clear HO2 HO3 HB2 hAs hAlt hbA HX HWF hm hn12 hm12 hnm12
  obtain ⟨⟨p1, p2⟩, hp⟩ : ∃ p, p = typeP l (0, 0) := ⟨_, rfl⟩
  obtain ⟨er, her⟩ : ∃ er, er = (typE l (0, 0)).1 := ⟨_, rfl⟩
  have H1 := type_any A n c l 0 0 w3 HX3.out HN.out.1
  have H2 := fun W hW => type_any A3 (n + m) c3 (l ++ k) 0 0 W hW HN.out.2.2
  rw [← hp, ← her] at H1
  have HPE := Lib.hid (And.intro hp her)
  clear hp her
  refine H1.mono ?_
  rintro e w4 ⟨rfl, hb4⟩
  obtain ⟨w5, hw5⟩ : ∃ v, v = w4.alloc (.cells #[.int .i64 p1, .int .i64 p2] 33) := ⟨_, rfl⟩
  have gw5 : Below w4.heap.size w4 w5 := by rw [hw5]; exact balloc (Below.refl _ _) _
  have rA : rowV w5 w4.heap.size 33 #[.int .i64 p1, .int .i64 p2] := by rw [hw5]; exact rowV.new w4 _ _
  have Hw5 := Lib.hid hw5
  have hb35 := hb4.trans (gw5.mono hb4.size)
  have HB5 := Lib.hid (HB3.out.trans (hb35.mono HB3.out.size))
  have HX5 := Lib.hid (HX3.out.below hb35)
  have HS5 := Lib.hid (HS3.out.below hb35)
  have RA5 := Lib.hid rA
  clear hb4 gw5 hw5 rA hb35 H1
  go_wp2_with fail
  rw [← Hw5.out]
  have hp := HPE.out.1
  have her := HPE.out.2
  by_cases he : er = 0
  · obtain ⟨⟨x1, x2⟩, hx⟩ : ∃ x, x = typeP k (p1, p2) := ⟨_, rfl⟩
    obtain ⟨fr, hfr⟩ : ∃ fr, fr = (typE k (p1, p2)).1 := ⟨_, rfl⟩
    have hrow := typ_row h8' (her ▸ he)
    rw [← hp, ← hx, ← hfr] at hrow
    have H3 := H2 w5 HS5.out
    rw [hrow.1, hrow.2] at H3
    have HY5 := Lib.hid (HY.out.below HB5.out)
    have q0 : (er == 0) = true := by simp [he]
    have q1 : (x1 == x1) = true := beq_self_eq_true _
    have q2 : (x2 == x2) = true := beq_self_eq_true _
    have q3 : (fr == fr) = true := beq_self_eq_true _
    have HE := Lib.hid (And.intro hp (And.intro her (And.intro he (And.intro hx (And.intro hfr hrow)))))
    have H4 := fun W hW => type_any A' m c' k p1 p2 W hW HN.out.2.1
    rw [← hx, ← hfr] at H4
    replace H4 := Lib.hid H4
    have H2' := Lib.hid H2
    clear hp her he hx hfr hrow H2
    refine H3.mono ?_
    rintro e w6 ⟨rfl, hb6⟩
    obtain ⟨w7, hw7⟩ : ∃ v, v = w6.alloc (.cells #[.int .i64 x1, .int .i64 x2] 33) := ⟨_, rfl⟩
    have gw7 : Below w6.heap.size w6 w7 := by rw [hw7]; exact balloc (Below.refl _ _) _
    have rB : rowV w7 w6.heap.size 33 #[.int .i64 x1, .int .i64 x2] := by rw [hw7]; exact rowV.new w6 _ _
    have Hw7 := Lib.hid hw7
    have hb57 := hb6.trans (gw7.mono hb6.size)
    have HB7 := Lib.hid (HB5.out.trans (hb57.mono HB5.out.size))
    have HY7 := Lib.hid (HY5.out.below hb57)
    have HX7 := Lib.hid (HX5.out.below hb57)
    have HS7 := Lib.hid (HS5.out.below hb57)
    have RA7 := Lib.hid (RA5.out.below hb57 RA5.out.lt)
    have RB7 := Lib.hid rB
    have k0 := RA7.out.cell (j := 0) rfl
    have k1 := RA7.out.cell (j := 1) rfl
    rw [hw7] at k0 k1
    clear hb6 gw7 hw7 rB hb57 H3
    go_wp2_with fail
    rw [← Hw7.out]
    refine (H4.out w7 HY7.out).mono ?_
    rintro e w8 ⟨rfl, hb8⟩
    obtain ⟨w9, hw9⟩ : ∃ v, v = w8.alloc (.cells #[.int .i64 x1, .int .i64 x2] 33) := ⟨_, rfl⟩
    have gw9 : Below w8.heap.size w8 w9 := by rw [hw9]; exact balloc (Below.refl _ _) _
    have rC : rowV w9 w8.heap.size 33 #[.int .i64 x1, .int .i64 x2] := by rw [hw9]; exact rowV.new w8 _ _
    have Hw9 := Lib.hid hw9
    have hb79 := hb8.trans (gw9.mono hb8.size)
    have HB9 := Lib.hid (HB7.out.trans (hb79.mono HB7.out.size))
    have HY9 := Lib.hid (HY7.out.below hb79)
    have HX9 := Lib.hid (HX7.out.below hb79)
    have HS9 := Lib.hid (HS7.out.below hb79)
    have HZ9 := Lib.hid (HZ.out.below HB9.out)
    have RA9 := Lib.hid (RA7.out.below hb79 RA7.out.lt)
    have RB9 := RB7.out.below hb79 RB7.out.lt
    clear k0 k1
    have k0 := RB9.cell (j := 0) rfl
    have k1 := RB9.cell (j := 1) rfl
    have k2 := rC.cell (j := 0) rfl
    have k3 := rC.cell (j := 1) rfl
    rw [hw9] at k0 k1 k2 k3
    clear hb8 gw9 hw9 rC hb79 RB9
    go_wp2_with fail
    rw [← Hw9.out]
    have H5 := forwardAll_any none 0 0 [] B nb cb bs w9 (stgs_nil _) (Nat.zero_le _) HZ9.out (Nat.le_trans hnb (by decide))
    rw [fwP_nil hb65] at H5
    refine H5.mono ?_
    rintro e w10 ⟨A10, n10, c10, rfl, hy10, hb10⟩
    have HB10 := Lib.hid (HB9.out.trans (hb10.mono HB9.out.size))
    have HY10 := Lib.hid (HY9.out.below hb10)
    have HX10 := Lib.hid (HX9.out.below hb10)
    have HS10 := Lib.hid (HS9.out.below hb10)
    have HZ10 := Lib.hid (HZ9.out.below hb10)
    have rA10 := RA9.out.below hb10 RA9.out.lt
    have j0 := rA10.cell (j := 0) rfl
    have j1 := rA10.cell (j := 1) rfl
    have r1 := hy10.str 23 5 9 uB Tryz.underlying5 Tryz.underlying9
    have r2 := HZ10.out.str 23 5 9 uB Tryz.underlying5 Tryz.underlying9
    have q9 : ((strB bs).toList == (strB bs).toList) = true := beq_self_eq_true _
    clear hy10 hb10 k0 k1 k2 k3 rA10 H5
    by_cases hp1 : p1 = 0
    · have q4 : (p1 == 0) = true := by simp [hp1]
      by_cases hp2 : p2 = 0
      · have q5 : (p2 == 0) = true := by simp [hp2]
        by_cases hf : fr = 0
        · have q6 : (fr == 0) = true := by simp [hf]
          have HP := Lib.hid (And.intro hp1 (And.intro hp2 hf))
          clear hp1 hp2 hf
          go_wp2_with fail
          obtain ⟨⟨o1, e1⟩, ho1⟩ : ∃ x, x = fwP trF l bs := ⟨_, rfl⟩
          obtain ⟨⟨o2, e2⟩, ho2⟩ : ∃ x, x = fwP trF (l ++ k) bs := ⟨_, rfl⟩
          have ht : typeP l (0, 0) = (0, 0) := by rw [← HE.out.1, HP.out.1, HP.out.2.1]
          have hR := fwP_row trF_len hb65 h8' (HE.out.2.1 ▸ HE.out.2.2.1) ht (by have := HE.out.2.2.2.2.1; rw [HP.out.1, HP.out.2.1] at this; rw [← this]; exact HP.out.2.2)
          have hL := fun h => fwP_len trF_len hb65 (l := l) h
          have H6 := forwardAll_any A n c l B nb cb bs w10 HX10.out HN.out.1 HZ10.out (Nat.le_trans hnb (by decide))
          rw [← ho1] at H6 hR hL
          rw [← ho2] at hR
          have HR := Lib.hid hR
          have HL := Lib.hid hL
          have HO2 := Lib.hid ho2
          clear ho1 ho2 ht hR hL r1 r2 q9
          refine H6.mono ?_
          rintro e w11 ⟨A11, n11, c11, rfl, hy11, hb11⟩
          have HB11 := Lib.hid (HB10.out.trans (hb11.mono HB10.out.size))
          have HY11 := Lib.hid (HY10.out.below hb11)
          have HS11 := Lib.hid (HS10.out.below hb11)
          have HZ11 := Lib.hid (HZ10.out.below hb11)
          have HD11 := Lib.hid hy11
          clear hb11 hy11 H6 j0 j1
          go_wp2_with fail
          have H7 := forwardAll_any A3 (n + m) c3 (l ++ k) B nb cb bs w11 HS11.out HN.out.2.2 HZ11.out (Nat.le_trans hnb (by decide))
          rw [← HO2.out] at H7
          refine H7.mono ?_
          rintro e w12 ⟨A12, n12, c12, rfl, hy12, hb12⟩
          have HB12 := Lib.hid (HB11.out.trans (hb12.mono HB11.out.size))
          have HY12 := Lib.hid (HY11.out.below hb12)
          have HD12 := Lib.hid (HD11.out.below hb12)
          have HW12 := Lib.hid hy12
          clear hb12 hy12 H7
          by_cases he1 : e1 = 0
          · have q7 : (e1 == 0) = true := by simp [he1]
            have hr := HR.out.2 he1
            have hlen : n11 ≤ 1000000 := by have h1 := HL.out he1; have h2 := HD12.out.1; omega
            have HLN := Lib.hid hlen
            have H8 := forwardAll_any A' m c' k A11 n11 c11 o1 w12 HY12.out HN.out.2.1 HD12.out HLN.out
            rw [← hr] at H8
            replace H8 := Lib.hid H8
            clear he1 hr hlen
            go_wp2_with fail
            refine H8.out.mono ?_
            rintro e w13 ⟨A13, n13, c13, rfl, hy13, hb13⟩
            have HB13 := Lib.hid (HB12.out.trans (hb13.mono HB12.out.size))
            have HD13 := Lib.hid hy13
            have HW13 := Lib.hid (HW12.out.below hb13)
            clear hb13 hy13 H8
            go_wp2_with fail
            refine (awake_any w13 (HT.out.below HB13.out)).mono ?_
            rintro e w14 ⟨rfl, hb⟩
            have HB14 := Lib.hid (HB13.out.trans (hb.mono HB13.out.size))
            have r1 := (HD13.out.below hb).str 23 5 9 uB Tryz.underlying5 Tryz.underlying9
            have r2 := (HW13.out.below hb).str 23 5 9 uB Tryz.underlying5 Tryz.underlying9
            have q8 : ((strB o2).toList == (strB o2).toList) = true := beq_self_eq_true _
            have q9 : (e2 == e2) = true := beq_self_eq_true _
            clear hb
            go_wp2_with fail
            go_ret
            exact ⟨rfl, HB14.out⟩
          · have q7 : (e1 == 0) = false := by simpa using he1
            have hr : e2 = e1 := HR.out.1 he1
            subst hr
            have q8 : (e2 == e2) = true := beq_self_eq_true _
            clear he1
            go_wp2_with fail
            refine (awake_any w12 (HT.out.below HB12.out)).mono ?_
            rintro e w13 ⟨rfl, hb⟩
            have HB13 := Lib.hid (HB12.out.trans (hb.mono HB12.out.size))
            clear hb
            go_wp2_with fail
            go_ret
            exact ⟨rfl, HB13.out⟩
        · have q6 : (fr == 0) = false := by simpa using hf
          clear hp1 hp2 hf
          go_wp2_with fail
          refine (awake_any w10 (HT.out.below HB10.out)).mono ?_
          rintro e w11 ⟨rfl, hb⟩
          have HB11 := Lib.hid (HB10.out.trans (hb.mono HB10.out.size))
          clear hb
          go_wp2_with fail
          go_ret
          exact ⟨rfl, HB11.out⟩
      · have q5 : (p2 == 0) = false := by simpa using hp2
        clear hp1 hp2
        go_wp2_with fail
        refine (awake_any w10 (HT.out.below HB10.out)).mono ?_
        rintro e w11 ⟨rfl, hb⟩
        have HB11 := Lib.hid (HB10.out.trans (hb.mono HB10.out.size))
        clear hb
        go_wp2_with fail
        go_ret
        exact ⟨rfl, HB11.out⟩
    · have q4 : (p1 == 0) = false := by simpa using hp1
      clear hp1
      go_wp2_with fail
      refine (awake_any w10 (HT.out.below HB10.out)).mono ?_
      rintro e w11 ⟨rfl, hb⟩
      have HB11 := Lib.hid (HB10.out.trans (hb.mono HB10.out.size))
      clear hb
      go_wp2_with fail
      go_ret
      exact ⟨rfl, HB11.out⟩
  · have H3 := H2 w5 HS5.out
    obtain ⟨⟨x1, x2⟩, hx⟩ : ∃ x, x = typeP (l ++ k) (0, 0) := ⟨_, rfl⟩
    have hfr := typ_bad h8' (her ▸ he)
    rw [← her] at hfr
    rw [← hx, hfr] at H3
    have q0 : (er == 0) = false := by simpa using he
    have q1 : (er == er) = true := beq_self_eq_true _
    clear hx hfr he hp her H2
    refine H3.mono ?_
    rintro e w6 ⟨rfl, hb6⟩
    obtain ⟨w7, hw7⟩ : ∃ v, v = w6.alloc (.cells #[.int .i64 x1, .int .i64 x2] 33) := ⟨_, rfl⟩
    have gw7 : Below w6.heap.size w6 w7 := by rw [hw7]; exact balloc (Below.refl _ _) _
    have rB : rowV w7 w6.heap.size 33 #[.int .i64 x1, .int .i64 x2] := by rw [hw7]; exact rowV.new w6 _ _
    have Hw7 := Lib.hid hw7
    have hb57 := hb6.trans (gw7.mono hb6.size)
    have HB7 := Lib.hid (HB5.out.trans (hb57.mono HB5.out.size))
    clear hb6 gw7 hw7 rB hb57 H3
    go_wp2_with fail
    rw [← Hw7.out]
    refine (awake_any w7 (HT.out.below HB7.out)).mono ?_
    rintro e w8 ⟨rfl, hb⟩
    have HB8 := Lib.hid (HB7.out.trans (hb.mono HB7.out.size))
    clear hb
    go_wp2_with fail
    go_ret
    exact ⟨rfl, HB8.out⟩
end
theorem pipelineComposes_any (A : Option Addr) (n c : Nat) (l : List Stg) (A' : Option Addr) (m c' : Nat) (k : List Stg) (B : Option Addr) (nb cb : Nat) (bs : List UInt8) (w : World) (hx : Stgs w A n c l) (hn : n ≤ maxLen) (hy : Stgs w A' m c' k) (hm : m ≤ maxLen) (hz : Bytes w B nb cb bs) (hb : nb ≤ maxLen) (hT : TabY w) :
    Calls Tryz.prog 4 #[.slice A n c, .slice A' m c', .slice B nb cb] w fun e w' => e = .returned (.bool true) ∧ Below w.heap.size w w' := by
  by_cases h : fewB l nb = true ∧ calmB k = true ∧ m ≤ 20 ∧ n + m ≤ 8
  · exact composes_main A n c l A' m c' k B nb cb bs w hx hy hz hT h.1 h.2.1 h.2.2.1 h.2.2.2
  · exact composes_awake A n c l A' m c' k B nb cb w hx hy hm hT h
end Go.Proofs.YtckkmafppfcecaaGreatDoor
