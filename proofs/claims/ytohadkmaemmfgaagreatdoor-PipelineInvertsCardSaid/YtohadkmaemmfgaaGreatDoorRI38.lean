/- Oj Ol. -/
import Derived.Test.YtohadkmaemmfgaaGreatDoorRI36
import Derived.Test.YtohadkmaemmfgaaGreatDoorRI37
import Derived.Test.YtohadkmaemmfgaaGreatDoorRI07
import Derived.Test.YtohadkmaemmfgaaGreatDoorRI23
import Derived.Test.YtohadkmaemmfgaaGreatDoorRI60
set_option maxRecDepth 100000
set_option maxHeartbeats 4000000
namespace Go.Proofs.YtohadkmaemmfgaaGreatDoor
open Go.RowKit Go.Proofs
set_option linter.unusedVariables false
set_option linter.unusedSimpArgs false
theorem rdT_lim {g : Nat → Bool} {N i j : Nat} {t : Tok} (h : rdT g N i = .ok (t, j)) : TokLim t := by
  unfold rdT at h
  split at h
  · cases h
  · split at h
    · injection h with h
      injection h with h1 h2
      subst h1
      exact ⟨Nat.zero_le _, Nat.zero_le _⟩
    · cases h
  · split at h
    · cases h
    · rename_i hr
      have h3 := rdM_le hr
      split at h
      · cases h
      · rename_i hr2
        have h4 := rdM_le hr2
        injection h with h
        injection h with h1 h2
        subst h1
        exact ⟨Nat.le_trans (Nat.succ_le_succ h3.2.2) (by decide), Nat.le_trans h4.2.2 (by decide)⟩
def DcD (g : Nat → Bool) (N i m : Nat) (l : List Tok) : Prop := decF g N 0 0 = (decF g N i m).map fun r => l ++ r
theorem DcD.start (g : Nat → Bool) (N : Nat) : DcD g N 0 0 [] := by
  unfold DcD
  cases decF g N 0 0 <;> rfl
theorem DcD.err {g : Nat → Bool} {N i m : Nat} {l : List Tok} {e : Int} (h : DcD g N i m l) (he : decF g N i m = .error e) : decF g N 0 0 = .error e := by
  unfold DcD at h
  rw [h, he]
  rfl
theorem DcD.done {g : Nat → Bool} {N i m : Nat} {l : List Tok} (h : DcD g N i m l) (he : endB g N i = true) : decF g N 0 0 = .ok l := by
  unfold DcD at h
  rw [h, decF_end he]
  show Except.ok (l ++ []) = _
  rw [List.append_nil]
theorem DcD.next {g : Nat → Bool} {N i j m : Nat} {t : Tok} {l : List Tok} (h : DcD g N i m l) (h1 : endB g N i = false) (h2 : rdT g N i = .ok (t, j)) (h3 : chkT t m = 0) : DcD g N j (m + tsz t) (l ++ [t]) := by
  unfold DcD at h ⊢
  rw [h, decF_more h1 h2 h3, map_map']
  congr 1
  funext r
  simp
theorem chkT_ok {t : Tok} {m : Nat} (h : chkT t m = 0) : m + tsz t ≤ 65536 := by
  unfold chkT at h
  split at h
  · cases h
  · split at h
    · cases h
    · split at h
      · cases h
      · omega
theorem tsz_one (t : Tok) : 1 ≤ tsz t := Nat.le_max_right _ _
def DecP (w : World) (bs : List UInt8) (e : Ending) (w' : World) : Prop := match decT bs with
  | .ok l => ∃ A2 m2 c2, m2 ≤ 65536 ∧ e = .returned (.tuple #[.slice A2 m2 c2, .int .i64 0]) ∧ OwnK w' w.heap.size A2 m2 c2 l ∧ (∀ t ∈ l, TokLim t) ∧ Below w.heap.size w w'
  | .error er => er ≠ 0 ∧ e = .returned (.tuple #[.slice none 0 0, .int .i64 er]) ∧ Below w.heap.size w w'
theorem DecP.bad {w w' : World} {bs : List UInt8} {e : Ending} {er : Int} (h : decT bs = .error er) (h0 : er ≠ 0) (he : e = .returned (.tuple #[.slice none 0 0, .int .i64 er])) (hb : Below w.heap.size w w') : DecP w bs e w' := by
  unfold DecP; rw [h]; exact ⟨h0, he, hb⟩
theorem DecP.good {w w' : World} {bs : List UInt8} {e : Ending} {l : List Tok} {A2 : Option Addr} {m2 c2 : Nat} (h : decT bs = .ok l) (hm : m2 ≤ 65536) (he : e = .returned (.tuple #[.slice A2 m2 c2, .int .i64 0])) (ho : OwnK w' w.heap.size A2 m2 c2 l) (hl : ∀ t ∈ l, TokLim t) (hb : Below w.heap.size w w') : DecP w bs e w' := by
  unfold DecP; rw [h]; exact ⟨A2, m2, c2, hm, he, ho, hl, hb⟩
structure DcI (w : World) (A : Option Addr) (n c : Nat) (bs : List UInt8) (i m : Nat) (A3 : Option Addr) (m3 c3 : Nat) (l : List Tok) (W : World) : Prop where
  sr : SR W w.heap.size A n c i
  own : OwnK W w.heap.size A3 m3 c3 l
  below : Below w.heap.size w W
  dec : DcD (bitD bs) (8 * n) i m l
  le : i ≤ 8 * n
  lim : ∀ t ∈ l, TokLim t
section
variable {w W W' : World} {A A3 : Option Addr} {n c i j m m3 c3 : Nat} {bs : List UInt8} {l : List Tok}
theorem DcI.ge (h : DcI w A n c bs i m A3 m3 c3 l W) : w.heap.size < W.heap.size := h.sr.lt
theorem DcI.grow (h : DcI w A n c bs i m A3 m3 c3 l W) (hb : Below W.heap.size W W') : DcI w A n c bs i m A3 m3 c3 l W' :=
  ⟨(hb.block _ h.sr.lt).trans h.sr, h.own.below hb, h.below.trans (hb.mono h.below.size), h.dec, h.le, h.lim⟩
end
theorem bytes_grown {w W W' : World} {A : Option Addr} {n c g : Nat} {bs : List UInt8} (hx : Bytes w A n c bs) (hb : Below w.heap.size w W) (hg : W.grownBy W' (some g)) (hge : w.heap.size ≤ g) : Bytes W' A n c bs :=
  hx.below (hb.grown hg hb.size (fun r e => by cases e; exact hge))
theorem decode_any (A : Option Addr) (n c : Nat) (bs : List UInt8) (w : World) (hx : Bytes w A n c bs) (hn : n ≤ 1000000) :
    Calls Tryz.prog 87 #[.slice A n c] w (DecP w bs) := by
  have hl := hx.1
  by_cases h6 : 65536 < n
  · have d0 : decide ((65536 : Int) < (n : Int)) = true := decide_eq_true (by omega)
    have d0' : decide (65536 < n) = true := decide_eq_true h6
    have HR : Hid (decT bs = .error 5) := by unfold Hid decT; rw [if_pos (by omega)]
    clear hx hl h6
    go_enter Tryz.func87, Tryz.ntmps87
    go_wp2_with fail
    go_ret2
    exact DecP.bad HR.out (by decide) rfl (Below.refl _ _)
  · have d0 : decide ((65536 : Int) < (n : Int)) = false := decide_eq_false (by omega)
    have d0' : decide (65536 < n) = false := decide_eq_false h6
    have hn6 : n ≤ 65536 := by omega
    have HDEC : Hid (decT bs = decF (bitD bs) (8 * n) 0 0) := by unfold Hid decT; rw [if_neg (by omega), hl]
    obtain ⟨w1, hw1⟩ : ∃ w1, w1 = w.alloc (.cells #[.slice A n c, .int .i64 ((8 * n : Nat) : Int), .int .i64 0] 186) := ⟨_, rfl⟩
    have hb1 : Below w.heap.size w w1 := by rw [hw1]; exact balloc (Below.refl _ _) _
    have hs1 : SR w1 w.heap.size A n c 0 := by rw [hw1]; exact rowV.new w _ _
    have HI0 : Hid (DcI w A n c bs 0 0 none 0 0 [] w1) := ⟨hs1, OwnS.nil _ _ _ _ _, hb1, DcD.start _ _, Nat.zero_le _, (fun t ht => by cases ht)⟩
    have HX := Lib.hid hx
    have HW1 := Lib.hid hw1
    have hNN : ((8 * n : Nat) : Int) = 8 * (n : Int) := by omega
    clear hx hl h6 hw1 hb1 hs1
    go_enter Tryz.func87, Tryz.ntmps87
    go_wp2_with fail
    go_loopw [5, 6, 7, 8] (fun vo vn _ _ wr => ∃ (i m : Nat) (A3 : Option Addr) (m3 c3 : Nat) (l : List Tok), vo = .slice A3 m3 c3 ∧ vn = .int .i64 (m : Int) ∧ m3 ≤ m ∧ m ≤ 65536 ∧ Hid (DcI w A n c bs i m A3 m3 c3 l wr)) (fun _ vn _ _ _ => 65537 - (intOf vn).toNat)
    case atStart => exact ⟨0, 0, none, 0, 0, [], rfl, rfl, Nat.le_refl _, Nat.zero_le _, by rw [HW1.out] at HI0; exact HI0⟩
    case round =>
      obtain ⟨i, m, A3, m3, c3, l, rfl, rfl, hm3, hm6, HD⟩ := hrel
      have HXr := Lib.hid (HX.out.below HD.out.below)
      have HEN := ended_any w.heap.size A n c i bs wr HD.out.sr HXr.out hn6 HD.out.le
      cases hE : endB (bitD bs) (8 * n) i with
      | true =>
        rw [hE] at HEN
        replace HEN := Lib.hid HEN
        have HR : Hid (decT bs = .ok l) := by show _ = _; rw [HDEC.out]; exact HD.out.dec.done hE
        clear hE
        go_wp2_with fail
        refine HEN.out.mono ?_
        rintro e w2 ⟨rfl, hb2⟩
        have HD2 := Lib.hid (HD.out.grow hb2)
        clear hb2
        go_wp2_with fail
        go_ret2
        exact DecP.good HR.out (Nat.le_trans hm3 hm6) rfl HD2.out.own HD2.out.lim HD2.out.below
      | false =>
        rw [hE] at HEN
        replace HEN := Lib.hid HEN
        have HEF := Lib.hid hE
        clear hE
        go_wp2_with fail
        refine HEN.out.mono ?_
        rintro e w2 ⟨rfl, hb2⟩
        have HD2 := Lib.hid (HD.out.grow hb2)
        clear hb2 HEN
        have hlt0 := HD2.out.sr.lt
        have hnx := next_any w.heap.size A n c i bs w2 HD2.out.sr (fun W hW => bytes_grown HX.out HD2.out.below hW (Nat.le_refl _)) hn6 HD2.out.le
        unfold NextP at hnx
        cases hT : rdT (bitD bs) (8 * n) i with
        | error er =>
          simp only [hT] at hnx
          have HNX := Lib.hid hnx
          have HR : Hid (decT bs = .error er) := by show _ = _; rw [HDEC.out]; exact HD2.out.dec.err (decF_err HEF.out hT)
          clear hnx hT
          go_wp2_with fail
          refine HNX.out.mono ?_
          rintro e w3 ⟨x, y, z, he0, rfl, hg3⟩
          have hb3 : Below w.heap.size w w3 := HD2.out.below.grown hg3 HD2.out.below.size (fun r e => by cases e; exact Nat.le_refl _)
          have HB4 : Hid (Below w.heap.size w (w3.alloc (.cells #[.int .i64 x, .int .i64 y, .int .u8 z] 180))) := balloc hb3 _
          have q0 : (er == 0) = false := by simpa using he0
          have q1 : (er != 0) = true := by simpa using he0
          have HE0 := Lib.hid he0
          clear hb3 hg3 he0
          go_wp2_with fail
          go_ret2
          exact DecP.bad HR.out HE0.out rfl HB4.out
        | ok tj =>
          obtain ⟨t, j⟩ := tj
          simp only [hT] at hnx
          have HNX := Lib.hid hnx
          have HLM := Lib.hid (rdT_lim hT)
          have hjle := (rdT_le hT).2
          have HTT := Lib.hid hT
          clear hnx hT
          go_wp2_with fail
          refine HNX.out.mono ?_
          rintro e w3 ⟨rfl, hs3, hg3⟩
          have hb3 : Below w.heap.size w w3 := HD2.out.below.grown hg3 HD2.out.below.size (fun r e => by cases e; exact Nat.le_refl _)
          have ho3 : OwnK w3 w.heap.size A3 m3 c3 l := HD2.out.own.grown hg3 (HD2.out.own.ne_row HD2.out.sr (by decide))
          obtain ⟨w4, hw4⟩ : ∃ w4, w4 = w3.alloc (.cells (tokV t) 180) := ⟨_, rfl⟩
          have hb34 : Below w3.heap.size w3 w4 := by rw [hw4]; exact balloc (Below.refl _ _) _
          have r4 : rowV w4 w3.heap.size 180 (tokV t) := by rw [hw4]; exact rowV.new w3 _ _
          have H4 : Hid (SR w4 w.heap.size A n c j ∧ OwnK w4 w.heap.size A3 m3 c3 l ∧ Below w.heap.size w w4 ∧ rowV w4 w3.heap.size 180 (tokV t)) := ⟨(hb34.block _ hs3.lt).trans hs3, ho3.below hb34, hb3.trans (hb34.mono hb3.size), r4⟩
          have k0 : (w3.alloc (.cells (tokV t) 180)).cell? ⟨w3.heap.size, 0, none⟩ = some (.int .i64 (t.len : Int)) := (tok_cells t w3).1
          have k1 : (w3.alloc (.cells (tokV t) 180)).cell? ⟨w3.heap.size, 1, none⟩ = some (.int .i64 (t.dst : Int)) := (tok_cells t w3).2.1
          have k2 : (w3.alloc (.cells (tokV t) 180)).cell? ⟨w3.heap.size, 2, none⟩ = some (.int .u8 (t.byt.toNat : Int)) := (tok_cells t w3).2.2
          have hck := lchk_any t m w4 HLM.out (by omega)
          obtain ⟨ck, hckd⟩ : ∃ ck, ck = chkT t m := ⟨_, rfl⟩
          rw [← hckd] at hck
          have HCK := Lib.hid hck
          have HCD := Lib.hid hckd
          have HBLK : Hid (∀ b, (Value.slice A3 m3 c3).ownBlock = some b → some b ≠ some w3.heap.size) := fun b hb e => by have := (ho3.blk hb).1; injection e with e; omega
          clear hck hckd
          have HW4 := Lib.hid hw4
          clear hb3 ho3 hs3 hg3 hb34 r4 hw4 HNX
          unfold tokV at *
          go_wp2_with fail
          rw [← HW4.out]
          refine HCK.out.mono ?_
          rintro e w5 ⟨rfl, hb5⟩
          obtain ⟨g1, g2, g3, g4⟩ := H4.out
          have H5 : Hid (SR w5 w.heap.size A n c j ∧ OwnK w5 w.heap.size A3 m3 c3 l ∧ Below w.heap.size w w5 ∧ rowV w5 w3.heap.size 180 (tokV t)) := ⟨(hb5.block _ g1.lt).trans g1, OwnS.below g2 hb5, g3.trans (hb5.mono g3.size), g4.below hb5 g4.lt⟩
          clear g1 g2 g3 g4 hb5 k0 k1 k2 HCK H4
          by_cases h0 : ck = 0
          · subst h0
            have HC0 : Hid (chkT t m = 0) := HCD.out.symm
            have k0 : w5.cell? ⟨w3.heap.size, 0, none⟩ = some (.int .i64 (t.len : Int)) := H5.out.2.2.2.cell rfl
            have k1 : w5.cell? ⟨w3.heap.size, 1, none⟩ = some (.int .i64 (t.dst : Int)) := H5.out.2.2.2.cell rfl
            have k2 : w5.cell? ⟨w3.heap.size, 2, none⟩ = some (.int .u8 (t.byt.toNat : Int)) := H5.out.2.2.2.cell rfl
            have hown : OwnK w5 w.heap.size A3 m3 c3 l := H5.out.2.1
            have HB5 := Lib.hid H5.out.2.2.1.size
            have m1 : Hid (m3 + 1 ≤ maxLen ∧ (m3 + 1) * 24 ≤ 140737488355328) := ⟨by simp [maxLen]; omega, by omega⟩
            have HOWN := Lib.hid hown
            clear hown
            have CELLS : Hid (∀ W6, w5.grownBy W6 (Value.slice A3 m3 c3).ownBlock → rowV W6 w3.heap.size 180 (tokV t) ∧ SR W6 w.heap.size A n c j) := fun W6 hg => ⟨H5.out.2.2.2.grown hg (fun e => by
                cases hb : (Value.slice A3 m3 c3).ownBlock with
                | none => rw [hb] at e; cases e
                | some b => rw [hb] at e; exact HBLK.out b hb e.symm), rowV.grown H5.out.1 hg (fun e => by
                cases hb : (Value.slice A3 m3 c3).ownBlock with
                | none => rw [hb] at e; cases e
                | some b => rw [hb] at e; exact OwnS.ne_row HOWN.out H5.out.1 (by decide) b hb e.symm)⟩
            go_wp2_with (at_builtin; refine wpList_pushS (enc := tokL) rfl (.tmp 35) (.tmp 37) rfl uTks infoTk tokL_one tokZ_size (fun _ => rfl) (by decide) rfl HOWN.out HB5.out t _ rfl rfl m1.out.1 m1.out.2 ?_; intro A6 c6 W6 ho6 hb6 hg6; have HO6 := Lib.hid (And.intro ho6 (And.intro hb6 hg6)); obtain ⟨hr6, -⟩ := CELLS.out W6 hg6; have y0 : W6.cell? ⟨w3.heap.size, 0, none⟩ = some (.int .i64 (t.len : Int)) := hr6.cell rfl; have y1 : W6.cell? ⟨w3.heap.size, 1, none⟩ = some (.int .i64 (t.dst : Int)) := hr6.cell rfl; have y2 : W6.cell? ⟨w3.heap.size, 2, none⟩ = some (.int .u8 (t.byt.toNat : Int)) := hr6.cell rfl; clear ho6 hb6 hg6 hr6)
            refine (lsize_any t W6 HLM.out).mono ?_
            rintro e w7 ⟨rfl, hb7⟩
            have hck := chkT_ok HC0.out
            have ht1 := tsz_one t
            obtain ⟨hr6, hs6⟩ := CELLS.out W6 HO6.out.2.2
            have h6 := H5.out.2.2.1.trans (HO6.out.2.1.mono (Nat.le_refl _))
            have hD7 : DcI w A n c bs j (m + tsz t) A6 (m3 + 1) c6 (l ++ [t]) w7 := ⟨(hb7.block _ hs6.lt).trans hs6, OwnS.below HO6.out.1 hb7, h6.trans (hb7.mono h6.size), HD2.out.dec.next HEF.out HTT.out HC0.out, hjle, fun u hu => by
              rcases List.mem_append.1 hu with h | h
              · exact HD2.out.lim u h
              · rw [List.mem_singleton.1 h]; exact HLM.out⟩
            have HD7 := Lib.hid hD7
            obtain ⟨sz, hsz⟩ : ∃ sz, sz = tsz t := ⟨_, rfl⟩
            rw [← hsz] at hck ht1 HD7 ⊢
            clear hsz hb7 hr6 hs6 h6 hD7
            go_wp2_with fail
            go_roundw
            case rel => exact ⟨j, m + sz, A6, m3 + 1, c6, l ++ [t], rfl, by go_num, by omega, hck, HD7⟩
            case measure => (simp [intOf]) <;> omega
          · have q0 : (ck == 0) = false := by simpa using h0
            have q1 : (ck != 0) = true := by simpa using h0
            have HR : Hid (decT bs = .error ck) := by
              show _ = _
              rw [HDEC.out]
              refine HD2.out.dec.err ?_
              rw [decF_bad HEF.out HTT.out (by rw [← HCD.out]; exact h0), ← HCD.out]
            have HE0 := Lib.hid h0
            clear h0
            go_wp2_with fail
            go_ret2
            exact DecP.bad HR.out HE0.out rfl H5.out.2.2.1
theorem own_ne_row {w : World} {B : Nat} {A : Option Addr} {n c : Nat} {xs : List UInt8} (h : Own encB w B 5 A n c xs) {g : Nat} {t : TypeId} {cs : Array Value} (hr : rowV w g t cs) (hne : 5 ≠ t) : some g ≠ (Value.slice A n c).ownBlock := fun e => by
  have h' : OwnS (fun b => [encB b]) 1 w B 5 A n c xs := by
    unfold OwnS
    rw [List.map_eq_flatMap.symm]
    exact h
  exact h'.ne_row hr hne g e.symm rfl
section
variable {α : Type} {enc : α → Value} {P : Program} {w : World} {B : Nat} {e t : TypeId} {A : Option Addr} {n c : Nat} {xs : List α} {zero : α} {bytes : Nat}
  {ops : Array Oper} {rest : List Oper} {o : Oper} {a : Act} {Q : Exit → Act → World → Prop}
theorem wpList_pushgv (hgd : o.guard = none) (s x : Operand) (ho : o.op = .call { callee := .builtin .append, args := #[s, x], argTypes := #[t, t] })
    (ht : P.underlying t = some (.slice e)) (hi : (P.info? e).map (fun i => (i.zero, i.size, i.bytes)) = some (some (enc zero), 1, bytes)) (h1 : ∀ x, (enc x).oneCell' = true) (hz : (enc zero).cells.size = 1)
    (hs : a.eval s = .slice A n c) (hown : Own enc w B e A n c xs) (hB : B ≤ w.heap.size) (y : α) (v : Value) (hv : enc y = v)
    (hx : a.eval x = .slice (some ⟨w.heap.size, 0, none⟩) 1 1) (hl : n + 1 ≤ maxLen) (hby : (n + 1) * bytes ≤ 140737488355328)
    (h : ∀ A2 c2 w', Own enc w' B e A2 (n + 1) c2 (xs ++ [y]) → Below B w w' → w.grownBy w' (Value.slice A n c).ownBlock → wpList P ops Q rest (a.put o.dst (.slice A2 (n + 1) c2)) w') : wpList P ops Q (o :: rest) a (w.alloc (.cells #[v] e)) := by
  subst hv
  refine wpList_plain hgd fun K hK => ?_
  obtain ⟨A2, c2, w', hrun, h2, h3, h4⟩ := run_append_own_one (P := P) o.type ht hi h1 hz hown hB y hl hby
  unfold Oper.wp execOp
  simp only [ho, resolve, invoke, builtin, Sem.run_bind, Sem.run_pure, Result.andThen_ok, List.map_toArray, List.map_cons, List.map_nil, hs, hx, hrun]
  exact hK _ _ (h A2 c2 w' h2 h3 (grownBy.trans' (World.grownBy_alloc w _ _) h4))
end
theorem lexpand_any (A : Option Addr) (n c : Nat) (l : List Tok) (w : World) (hx : Toks w A n c l) (hl : ∀ t ∈ l, TokLim t) (hn : n ≤ 1000000000) : Calls Tryz.prog 88 #[.slice A n c] w (RetBytes w (expandT l).1 (expandT l).2) := by
  have hln := hx.1
  have HCH := lcheck_any A n c l w hx hl hn
  by_cases h0 : chkL l = 0
  · have HE : Hid (expandT l = (expF l [], 0)) := by show _ = _; unfold expandT; rw [if_pos h0]
    have hn6 : n ≤ 65536 := by
      unfold chkL at h0
      split at h0
      · cases h0
      · omega
    have hF : chkF l 0 = 0 := by unfold chkL at h0; rw [if_neg (by omega)] at h0; exact h0
    rw [h0] at HCH
    replace HCH := Lib.hid HCH
    have HX := Lib.hid hx
    have HL := Lib.hid hl
    have HF := Lib.hid hF
    clear h0 hx hl hF
    go_enter Tryz.func88, Tryz.ntmps88
    go_wp2_with fail
    refine HCH.out.mono ?_
    rintro e w1 ⟨rfl, hb1⟩
    have HB1 := Lib.hid hb1
    clear hb1
    go_wp2_with fail
    go_loopw [5, 7, 15] (fun vo _ vi wr => ∃ (k m c2 : Nat) (A2 : Option Addr) (xs : List UInt8), k ≤ n ∧ m ≤ 65536 ∧ vi = .int .i64 (k : Int) ∧ vo = .slice A2 m c2 ∧ Hid (Own encB wr w.heap.size 5 A2 m c2 xs ∧ Below w.heap.size w wr ∧ chkF (l.drop k) m = 0 ∧ expF (l.drop k) xs = expF l [])) (fun _ _ vi _ => n - (intOf vi).toNat)
    case atStart => exact ⟨0, 0, 0, none, [], Nat.zero_le _, Nat.zero_le _, rfl, rfl, Lib.hid ⟨Own.nil _ _ _ _, HB1.out, HF.out, rfl⟩⟩
    case round =>
      obtain ⟨k, m, c2, A2, xs, hk, hm, rfl, rfl, HI⟩ := hrel
      have HML := Lib.hid HI.out.1.length
      by_cases hlt : k < n
      · have d1 : decide ((k : Int) < (n : Int)) = true := decide_eq_true (by omega)
        have d1' : decide (k < n) = true := decide_eq_true hlt
        obtain ⟨b, off, rfl, hbl, hcc⟩ := (HX.out.below HI.out.2.1 (Nat.le_refl _)).2.2 (by omega)
        obtain ⟨x0, x1, x2⟩ := hcc k hlt
        have hkl : k < l.length := by omega
        have hlim := HL.out _ (tG_mem hkl)
        have hd := HI.out.2.2.1
        have he := HI.out.2.2.2
        rw [tdrop hkl, chkF] at hd
        rw [tdrop hkl, expF_cons] at he
        obtain ⟨t, ht⟩ : ∃ t, t = tG l k := ⟨_, rfl⟩
        rw [← ht] at x0 x1 x2 hlim hd he
        have hc0 : chkT t m = 0 := by
          by_cases h : chkT t m = 0
          · exact h
          · rw [if_neg h] at hd; exact absurd hd h
        rw [if_pos hc0] at hd
        obtain ⟨hrt, hdm, hms⟩ := chkT_zero hc0
        obtain ⟨wa, hwa⟩ : ∃ wa, wa = wr.alloc (.cells (tokV t) 180) := ⟨_, rfl⟩
        have hba : Below wr.heap.size wr wa := by rw [hwa]; exact balloc (Below.refl _ _) _
        have ra : rowV wa wr.heap.size 180 (tokV t) := by rw [hwa]; exact rowV.new wr _ _
        have z0 : wa.cell? ⟨wr.heap.size, 0, none⟩ = some (.int .i64 (t.len : Int)) := ra.cell rfl
        have z1 : wa.cell? ⟨wr.heap.size, 1, none⟩ = some (.int .i64 (t.dst : Int)) := ra.cell rfl
        have z2 : wa.cell? ⟨wr.heap.size, 2, none⟩ = some (.int .u8 (t.byt.toNat : Int)) := ra.cell rfl
        have HWA := Lib.hid hwa
        have HA0 : Hid (Own encB wa w.heap.size 5 A2 m c2 xs ∧ Below w.heap.size w wa ∧ rowV wa wr.heap.size 180 (tokV t) ∧ w.heap.size ≤ wa.heap.size) := ⟨HI.out.1.below hba, HI.out.2.1.trans (hba.mono HI.out.2.1.size), ra, Nat.le_trans HI.out.2.1.size hba.size⟩
        have HA := HA0
        rw [hwa] at z0 z1 z2 HA
        have HD := Lib.hid hd
        have HEX := Lib.hid he
        clear hd he hwa hba ra ht hbl hcc hkl HI
        by_cases hl0 : t.len = 0
        · have q0 : ((t.len : Int) == 0) = true := by simp [hl0]
          have HT : Hid (oneT t xs = xs ++ [t.byt] ∧ tsz t = 1) := ⟨by unfold oneT; rw [if_pos hl0], by unfold tsz; rw [hl0]; rfl⟩
          have m1 : Hid (m + 1 ≤ maxLen ∧ (m + 1) * 1 ≤ 140737488355328) := ⟨by simp [maxLen]; omega, by omega⟩
          have hms1 : m + 1 ≤ 65536 := by rw [HT.out.2] at hms; exact hms
          clear hl0 hms
          unfold tokV at *
          go_wp2_with (at_builtin; refine wpList_pushgv (enc := encB) rfl (.tmp 22) (.tmp 25) rfl uB infoB encB_one rfl rfl HA.out.1 HA.out.2.2.2 t.byt _ rfl (by show Value.slice (some ⟨wr.heap.size + 1, 0, none⟩) 1 1 = _; simp) m1.out.1 m1.out.2 ?_; intro A6 c6 W6 ho6 hb6 hg6)
          have HF6 : Hid (Own encB W6 w.heap.size 5 A6 (m + 1) c6 (xs ++ [t.byt]) ∧ Below w.heap.size w W6 ∧ chkF (l.drop (k + 1)) (m + 1) = 0 ∧ expF (l.drop (k + 1)) (xs ++ [t.byt]) = expF l []) := ⟨ho6, HA.out.2.1.trans hb6, by have h := HD.out; rw [HT.out.2] at h; exact h, by have h := HEX.out; rw [HT.out.1] at h; exact h⟩
          clear ho6 hb6 hg6
          go_roundw
          case rel => exact ⟨k + 1, m + 1, c6, A6, xs ++ [t.byt], by omega, hms1, by go_num, rfl, HF6⟩
          case measure => (simp [intOf]) <;> omega
        · have q0 : ((t.len : Int) == 0) = false := by simpa using hl0
          obtain ⟨hlen, hds1, hds2⟩ := rightT_copy hrt hl0
          have HT : Hid (oneT t xs = copyN t.dst t.len xs ∧ tsz t = t.len) := ⟨by unfold oneT; rw [if_neg hl0], by unfold tsz; omega⟩
          have hms1 : m + t.len ≤ 65536 := by rw [HT.out.2] at hms; exact hms
          clear hl0 hms hrt
          have RT := Lib.hid HA.out.2.2.1
          obtain ⟨S, hS⟩ : ∃ S, S = wr.heap.size := ⟨_, rfl⟩
          unfold tokV at z0 z1 z2 HA HWA RT
          go_wp2_with fail
          rw [← hS]
          have HSS := Lib.hid hS
          clear hS
          go_loopw [5, 29] (fun vo vj wq => ∃ (j m2 c3 : Nat) (A3 : Option Addr) (ys : List UInt8), j ≤ t.len ∧ m2 = m + j ∧ vj = .int .i64 (j : Int) ∧ vo = .slice A3 m2 c3 ∧ Hid (Own encB wq w.heap.size 5 A3 m2 c3 ys ∧ ys = copyN t.dst j xs ∧ Below w.heap.size w wq ∧ rowV wq S 180 (tokV t))) (fun _ vj _ => t.len - (intOf vj).toNat)
          case atStart => exact ⟨0, m, c2, A2, xs, Nat.zero_le _, rfl, rfl, rfl, Lib.hid ⟨HA.out.1, rfl, HA.out.2.1, by rw [HSS.out]; exact HA.out.2.2.1⟩⟩
          case round =>
            clear z0 z1 z2
            obtain ⟨j, m2, c3, A3, ys, hj, hm2, rfl, rfl, HJ⟩ := hrel
            by_cases hjl : j < t.len
            · have e1 : decide ((j : Int) < (t.len : Int)) = true := decide_eq_true (by omega)
              have e1' : decide (j < t.len) = true := decide_eq_true hjl
              have y1 : wr.cell? ⟨S, 1, none⟩ = some (.int .i64 (t.dst : Int)) := HJ.out.2.2.2.cell rfl
              obtain ⟨p, hp⟩ : ∃ p, p = m2 - t.dst := ⟨_, rfl⟩
              have hpm : p < m2 := by omega
              have hpi : (m2 : Int) - (t.dst : Int) = (p : Int) := by omega
              obtain ⟨b3, off3, hA3, -, hc3⟩ := HJ.out.1.bytesB.get hpm
              subst hA3
              have c3' : wr.cell? ⟨b3, off3 + p, none⟩ = some (.int .u8 ((bA ys p).toNat : Int)) := hc3 p hpm
              have m1 : Hid (m2 + 1 ≤ maxLen ∧ (m2 + 1) * 1 ≤ 140737488355328) := ⟨by simp [maxLen]; omega, by omega⟩
              have hys : ys.length = m2 := HJ.out.1.length
              have HNX : Hid (ys ++ [bA ys p] = copyN t.dst (j + 1) xs) := by
                show _ = _
                have h1 := HJ.out.2.1
                rw [copyN_next, ← h1, hys, ← hp]
              have HBW := Lib.hid HJ.out.2.2.1.size
              have HOWN := Lib.hid HJ.out.1
              obtain ⟨yv, hyv⟩ : ∃ y, y = bA ys p := ⟨_, rfl⟩
              rw [← hyv] at c3' HNX
              have hy256 := yv.toNat_lt
              have hlm : m2 + 1 ≤ 65536 := by omega
              have HM2 := Lib.hid hm2
              clear hc3 hyv hys hp hm2
              go_wp2_with (at_builtin; refine wpList_pushgv (enc := encB) rfl (.tmp 31) (.tmp 40) rfl uB infoB encB_one rfl rfl HOWN.out HBW.out yv _ rfl rfl m1.out.1 m1.out.2 ?_; intro A6 c6 W6 ho6 hb6 hg6)
              have HF6 : Hid (Own encB W6 w.heap.size 5 A6 (m2 + 1) c6 (ys ++ [yv]) ∧ ys ++ [yv] = copyN t.dst (j + 1) xs ∧ Below w.heap.size w W6 ∧ rowV W6 S 180 (tokV t)) := ⟨ho6, HNX.out, HJ.out.2.2.1.trans hb6, HJ.out.2.2.2.grown hg6 (own_ne_row HOWN.out HJ.out.2.2.2 (by decide))⟩
              clear ho6 hb6 hg6
              go_roundw
              case rel => exact ⟨j + 1, m2 + 1, c6, A6, _, by omega, by have := HM2.out; omega, by go_num, rfl, HF6⟩
              case measure => (simp [intOf]) <;> omega
            · have e1 : decide ((j : Int) < (t.len : Int)) = false := decide_eq_false (by omega)
              have e1' : decide (j < t.len) = false := decide_eq_false hjl
              obtain rfl : j = t.len := by omega
              have HF6 : Hid (Own encB wr w.heap.size 5 A3 m2 c3 ys ∧ Below w.heap.size w wr ∧ chkF (l.drop (k + 1)) m2 = 0 ∧ expF (l.drop (k + 1)) ys = expF l []) := ⟨HJ.out.1, HJ.out.2.2.1, by have h := HD.out; rw [HT.out.2, ← hm2] at h; exact h, by have h := HEX.out; rw [HT.out.1, ← HJ.out.2.1] at h; exact h⟩
              have hlm : m2 ≤ 65536 := by omega
              clear hm2
              go_wp2_with fail
              go_roundw
              case rel => exact ⟨k + 1, m2, c3, A3, ys, by omega, by omega, by go_num, rfl, HF6⟩
              case measure => (simp [intOf]) <;> omega
      · have d1 : decide ((k : Int) < (n : Int)) = false := decide_eq_false (by omega)
        have d1' : decide (k < n) = false := decide_eq_false hlt
        have hres : expF l [] = xs := by
          have h := HI.out.2.2.2
          rw [List.drop_of_length_le (by omega)] at h
          exact h.symm
        have HRES := Lib.hid hres
        clear hres
        go_wp2_with fail
        go_ret2
        rw [HE.out]
        exact RetBytes.mk rfl (by rw [HRES.out]; exact HI.out.1.bytesB) HI.out.2.1
  · have HE : Hid (expandT l = ([], chkL l)) := by show _ = _; unfold expandT; rw [if_neg h0]
    have q0 : (chkL l != 0) = true := by simpa using h0
    rw [HE.out]
    obtain ⟨er, her⟩ : ∃ er, er = chkL l := ⟨_, rfl⟩
    rw [← her] at HCH q0 ⊢
    replace HCH := Lib.hid HCH
    clear her h0 hx hl HE
    go_enter Tryz.func88, Tryz.ntmps88
    go_wp2_with fail
    refine HCH.out.mono ?_
    rintro e w1 ⟨rfl, hb1⟩
    have HB1 := Lib.hid hb1
    clear hb1
    go_wp2_with fail
    go_ret2
    exact RetBytes.err rfl HB1.out
theorem lzI_any (A : Option Addr) (n c : Nat) (bs : List UInt8) (w : World) (hx : Bytes w A n c bs) (hn : n ≤ 1000000) :
    Calls Tryz.prog 38 #[.slice A n c] w (RetBytes w (lzI bs).1 (lzI bs).2) := by
  have hd := decode_any A n c bs w hx hn
  unfold DecP at hd
  cases h : decT bs with
  | error er =>
    simp only [h] at hd
    have HR : Hid (lzI bs = ([], er)) := by show _ = _; unfold lzI; rw [h]
    replace hd := Lib.hid hd
    clear h hx
    go_enter Tryz.func38, Tryz.ntmps38
    go_wp2_with fail
    refine hd.out.mono ?_
    rintro e w1 ⟨he0, rfl, hb1⟩
    have HB1 := Lib.hid hb1
    have q0 : (er != 0) = true := by simpa using he0
    clear hb1 he0
    go_wp2_with fail
    go_ret2
    rw [HR.out]
    exact RetBytes.err rfl HB1.out
  | ok l =>
    simp only [h] at hd
    have HR : Hid (lzI bs = expandT l) := by show _ = _; unfold lzI; rw [h]
    replace hd := Lib.hid hd
    rw [HR.out]
    clear h hx
    go_enter Tryz.func38, Tryz.ntmps38
    go_wp2_with fail
    refine hd.out.mono ?_
    rintro e w1 ⟨A2, m2, c2, hm2, rfl, ho, hl, hb1⟩
    have HC := Lib.hid (lexpand_any A2 m2 c2 l w1 (OwnS.toks ho) hl (by omega))
    have HB1 := Lib.hid hb1
    clear hb1 ho hl
    go_wp2_with fail
    refine HC.out.mono ?_
    rintro e w2 ⟨A3, m3, c3, rfl, hy, hb2⟩
    have HF := Lib.hid (And.intro hy (HB1.out.trans (hb2.mono HB1.out.size)))
    clear hy hb2
    go_wp2_with fail
    go_ret2
    exact RetBytes.mk rfl HF.out.1 HF.out.2
end Go.Proofs.YtohadkmaemmfgaaGreatDoor
