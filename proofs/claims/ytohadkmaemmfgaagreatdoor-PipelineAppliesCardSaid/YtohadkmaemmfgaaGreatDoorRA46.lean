/- Oc Od Oj Ol Pb Uf Uj Uk Ul Um Uo Pj. -/
import Derived.Test.YtohadkmaemmfgaaGreatDoorRA23
import Derived.Lib.AppendZeros
import Derived.Lib.AppendZerosOnto
import Derived.Lib.AppendStr
import Derived.Test.YtohadkmaemmfgaaGreatDoorRA40
import Derived.Test.YtohadkmaemmfgaaGreatDoorRA07
import Derived.Test.YtohadkmaemmfgaaGreatDoorRA24
import Derived.Test.YtohadkmaemmfgaaGreatDoorRA12
import Derived.Test.YtohadkmaemmfgaaGreatDoorRA37
import Derived.Test.YtohadkmaemmfgaaGreatDoorRA25
import Derived.Test.YtohadkmaemmfgaaGreatDoorRA44
import Derived.Test.YtohadkmaemmfgaaGreatDoorRA36
import Derived.Test.YtohadkmaemmfgaaGreatDoorRA39
import Derived.Test.YtohadkmaemmfgaaGreatDoorRA41
import Derived.Test.YtohadkmaemmfgaaGreatDoorRA42
import Derived.Test.YtohadkmaemmfgaaGreatDoorRA05
import Derived.Test.YtohadkmaemmfgaaGreatDoorRA38
import Derived.Test.YtohadkmaemmfgaaGreatDoorRA45
set_option maxRecDepth 100000
set_option maxHeartbeats 4000000
namespace Go.Proofs.YtohadkmaemmfgaaGreatDoor
open Go.RowKit Go.Proofs
set_option linter.unusedVariables false
set_option linter.unusedSimpArgs false

def ExD (bs : List UInt8) (k : Nat) (xs : List UInt8) : Prop := expR bs 0 0 = (expR bs k xs.length).map fun r => xs ++ r
theorem ExD.start (bs : List UInt8) : ExD bs 0 [] := by
  unfold ExD
  rw [List.length_nil]
  cases expR bs 0 0 <;> rfl
theorem map_map' {α β : Type} {x : Except Int α} {f : α → β} {g : β → β} : (x.map f).map g = x.map fun r => g (f r) := by cases x <;> rfl
theorem ExD.next {bs : List UInt8} {k : Nat} {xs : List UInt8} (h : ExD bs k xs) {k' : Nat} {ys : List UInt8} (he : expR bs k xs.length = (expR bs k' (xs ++ ys).length).map fun r => ys ++ r) : ExD bs k' (xs ++ ys) := by
  unfold ExD at h ⊢
  rw [h, he, map_map']
  congr 1
  funext r
  rw [List.append_assoc]
theorem ExD.err {bs : List UInt8} {k : Nat} {xs : List UInt8} (h : ExD bs k xs) {e : Int} (he : expR bs k xs.length = .error e) (hl : ¬ 65536 < bs.length) : expandP bs = ([], e) := by
  unfold ExD at h
  unfold expandP
  rw [if_neg hl, h, he]
  rfl
theorem ExD.done {bs : List UInt8} {k : Nat} {xs : List UInt8} (h : ExD bs k xs) (he : bs.length ≤ k) (hl : ¬ 65536 < bs.length) : expandP bs = (xs, 0) := by
  unfold ExD at h
  unfold expandP
  rw [if_neg hl, h, expR_end he]
  show (xs ++ [], 0) = _
  rw [List.append_nil]
def DcD (g : Nat → Bool) (N i m : Nat) (l : List Tok) : Prop := decF g N 0 0 = (decF g N i m).map fun r => l ++ r
theorem DcD.start (g : Nat → Bool) (N : Nat) : DcD g N 0 0 [] := by
  unfold DcD
  cases decF g N 0 0 <;> rfl
theorem DcD.err {g : Nat → Bool} {N i m : Nat} {l : List Tok} {e : Int} (h : DcD g N i m l) (he : decF g N i m = .error e) : decF g N 0 0 = .error e := by
  unfold DcD at h
  rw [h, he]
  rfl
theorem DcD.done {g : Nat → Bool} {N i m : Nat} {l : List Tok} (h : DcD g N i m l) (he : endB g N i = true) : decF g N 0 0 = .ok l := by
  unfold DcD at h
  rw [h, decF_end he]
  show Except.ok (l ++ []) = _
  rw [List.append_nil]
theorem DcD.next {g : Nat → Bool} {N i j m : Nat} {t : Tok} {l : List Tok} (h : DcD g N i m l) (h1 : endB g N i = false) (h2 : rdT g N i = .ok (t, j)) (h3 : chkT t m = 0) : DcD g N j (m + tsz t) (l ++ [t]) := by
  unfold DcD at h ⊢
  rw [h, decF_more h1 h2 h3, map_map']
  congr 1
  funext r
  simp
def DecP (w : World) (bs : List UInt8) (e : Ending) (w' : World) : Prop := match decT bs with
  | .ok l => ∃ A2 m2 c2, m2 ≤ 65536 ∧ e = .returned (.tuple #[.slice A2 m2 c2, .int .i64 0]) ∧ OwnK w' w.heap.size A2 m2 c2 l ∧ (∀ t ∈ l, TokLim t) ∧ Below w.heap.size w w'
  | .error er => er ≠ 0 ∧ e = .returned (.tuple #[.slice none 0 0, .int .i64 er]) ∧ Below w.heap.size w w'
theorem DecP.bad {w w' : World} {bs : List UInt8} {e : Ending} {er : Int} (h : decT bs = .error er) (h0 : er ≠ 0) (he : e = .returned (.tuple #[.slice none 0 0, .int .i64 er])) (hb : Below w.heap.size w w') : DecP w bs e w' := by
  unfold DecP; rw [h]; exact ⟨h0, he, hb⟩
theorem DecP.good {w w' : World} {bs : List UInt8} {e : Ending} {l : List Tok} {A2 : Option Addr} {m2 c2 : Nat} (h : decT bs = .ok l) (hm : m2 ≤ 65536) (he : e = .returned (.tuple #[.slice A2 m2 c2, .int .i64 0])) (ho : OwnK w' w.heap.size A2 m2 c2 l) (hl : ∀ t ∈ l, TokLim t) (hb : Below w.heap.size w w') : DecP w bs e w' := by
  unfold DecP; rw [h]; exact ⟨A2, m2, c2, hm, he, ho, hl, hb⟩
structure DcI (w : World) (A : Option Addr) (n c : Nat) (bs : List UInt8) (i m : Nat) (A3 : Option Addr) (m3 c3 : Nat) (l : List Tok) (W : World) : Prop where
  sr : SR W w.heap.size A n c i
  own : OwnK W w.heap.size A3 m3 c3 l
  below : Below w.heap.size w W
  dec : DcD (bitD bs) (8 * n) i m l
  le : i ≤ 8 * n
  lim : ∀ t ∈ l, TokLim t
section
variable {w W W' : World} {A A3 : Option Addr} {n c i j m m3 c3 : Nat} {bs : List UInt8} {l : List Tok}
theorem DcI.ge (h : DcI w A n c bs i m A3 m3 c3 l W) : w.heap.size < W.heap.size := h.sr.lt
theorem DcI.grow (h : DcI w A n c bs i m A3 m3 c3 l W) (hb : Below W.heap.size W W') : DcI w A n c bs i m A3 m3 c3 l W' :=
  ⟨(hb.block _ h.sr.lt).trans h.sr, h.own.below hb, h.below.trans (hb.mono h.below.size), h.dec, h.le, h.lim⟩
end
section
variable {α : Type} {enc : α → Value} {P : Program} {w : World} {B : Nat} {e t : TypeId} {A : Option Addr} {n c : Nat} {xs : List α} {zero : α} {bytes : Nat}
  {ops : Array Oper} {rest : List Oper} {o : Oper} {a : Act} {Q : Exit → Act → World → Prop}
end

def DgS (l : List UInt8) (j nn pw : Nat) : Prop := (nn ≤ 65536 ∧ nn = valR (l.take j) ∧ pw = 2 ^ j ∧ pw ≤ nn + 1) ∨ (65536 < nn ∧ nn ≤ 400000 ∧ nn ≤ valR (l.take j))
theorem DgS.start (l : List UInt8) : DgS l 0 0 1 := .inl ⟨by omega, rfl, rfl, by omega⟩
theorem DgS.le {l : List UInt8} {j nn pw : Nat} (h : DgS l j nn pw) : nn ≤ 400000 := by rcases h with h | h <;> omega
theorem DgS.pw {l : List UInt8} {j nn pw : Nat} (h : DgS l j nn pw) (hn : nn ≤ 65536) : pw ≤ 65537 := by rcases h with h | h <;> omega
theorem take_bAx {l : List UInt8} {j : Nat} (hj : j < l.length) : l.take (j + 1) = l.take j ++ [bA l j] := by
  rw [List.take_succ_eq_append_getElem hj]
  congr 2
  unfold bA; rw [List.getD_eq_getElem?_getD, List.getElem?_eq_getElem hj]; rfl
theorem valR_take {l : List UInt8} {j : Nat} (hj : j < l.length) : valR (l.take (j + 1)) = valR (l.take j) + 2 ^ j * ((bA l j).toNat + 1) := by
  rw [take_bAx hj, valR_snoc, List.length_take, Nat.min_eq_left (by omega)]
theorem DgS.add {l : List UInt8} {j nn pw : Nat} (h : DgS l j nn pw) (hn : nn ≤ 65536) (hj : j < l.length) (hx : (bA l j).toNat < 2) : DgS l (j + 1) (nn + ((bA l j).toNat + 1) * pw) (2 * pw) := by
  have h1 := h.pw hn
  rcases h with ⟨h2, h3, h4, h5⟩ | ⟨h2, _⟩
  · have e := valR_take hj
    rw [← h3, ← h4, Nat.mul_comm pw] at e
    have hp : 2 * pw = 2 ^ (j + 1) := by rw [Nat.pow_succ, h4, Nat.mul_comm]
    rcases (by omega : (bA l j).toNat = 0 ∨ (bA l j).toNat = 1) with hb | hb
    · rw [hb] at e ⊢
      by_cases hg : nn + (0 + 1) * pw ≤ 65536
      · exact .inl ⟨hg, e.symm, hp, by omega⟩
      · exact .inr ⟨by omega, by omega, by omega⟩
    · rw [hb] at e ⊢
      by_cases hg : nn + (1 + 1) * pw ≤ 65536
      · exact .inl ⟨hg, e.symm, hp, by omega⟩
      · exact .inr ⟨by omega, by omega, by omega⟩
  · omega
theorem DgS.skip {l : List UInt8} {j nn pw : Nat} (h : DgS l j nn pw) (hn : 65536 < nn) (hj : j < l.length) : DgS l (j + 1) nn pw := by
  rcases h with ⟨h2, _⟩ | ⟨h2, h3, h4⟩
  · omega
  · exact .inr ⟨h2, h3, by rw [valR_take hj]; omega⟩
def ReadP (w : World) (n i : Nat) (bs : List UInt8) (e : Ending) (w' : World) : Prop := match rdT (bitD bs) (8 * n) i with
  | .ok (t, j) => e = .returned (.tuple #[.agg (tokV t), .int .i64 (j : Int), .int .i64 0]) ∧ Below w.heap.size w w'
  | .error er => ∃ x y z q, er ≠ 0 ∧ e = .returned (.tuple #[.agg #[.int .i64 x, .int .i64 y, .int .u8 z], .int .i64 q, .int .i64 er]) ∧ Below w.heap.size w w'
theorem ReadP.bad {w w' : World} {n i : Nat} {bs : List UInt8} {e : Ending} {er x y z q : Int} (h : rdT (bitD bs) (8 * n) i = .error er) (h0 : er ≠ 0) (he : e = .returned (.tuple #[.agg #[.int .i64 x, .int .i64 y, .int .u8 z], .int .i64 q, .int .i64 er])) (hg : Below w.heap.size w w') : ReadP w n i bs e w' := by
  unfold ReadP
  rw [h]
  exact ⟨x, y, z, q, h0, he, hg⟩
theorem ReadP.good {w w' : World} {n i j : Nat} {bs : List UInt8} {e : Ending} {t : Tok} (h : rdT (bitD bs) (8 * n) i = .ok (t, j)) (he : e = .returned (.tuple #[.agg (tokV t), .int .i64 (j : Int), .int .i64 0])) (hg : Below w.heap.size w w') : ReadP w n i bs e w' := by
  unfold ReadP
  rw [h]
  exact ⟨he, hg⟩
structure RxI (w : World) (A : Option Addr) (n c N : Nat) (W : World) : Prop where
  box : rowV W w.heap.size 184 #[.slice A n c, .int .i64 (N : Int)]
  res : rowV W (w.heap.size + 1) 180 #[.int .i64 0, .int .i64 0, .int .u8 0]
  below : Below w.heap.size w W
section
variable {w W W' : World} {A : Option Addr} {n c N : Nat}
theorem RxI.call (h : RxI w A n c N W) (hb : Below W.heap.size W W') : RxI w A n c N W' := ⟨h.box.below hb h.box.lt, h.res.below hb h.res.lt, h.below.trans (hb.mono h.below.size)⟩
theorem RxI.lay (h : RxI w A n c N W) (x y z : Value) :
    rowV (((W.setCell ⟨w.heap.size + 1, 0, none⟩ x).setCell ⟨w.heap.size + 1, 1, none⟩ y).setCell ⟨w.heap.size + 1, 2, none⟩ z) (w.heap.size + 1) 180 #[x, y, z] ∧ Below w.heap.size w (((W.setCell ⟨w.heap.size + 1, 0, none⟩ x).setCell ⟨w.heap.size + 1, 1, none⟩ y).setCell ⟨w.heap.size + 1, 2, none⟩ z) :=
  ⟨((h.res.set 0 x).set 1 y).set 2 z, ((h.below.setCell (p := ⟨w.heap.size + 1, 0, none⟩) (Nat.le_succ _) x).setCell (p := ⟨w.heap.size + 1, 1, none⟩) (Nat.le_succ _) y).setCell (p := ⟨w.heap.size + 1, 2, none⟩) (Nat.le_succ _) z⟩
end
structure DcX (w : World) (A : Option Addr) (n c : Nat) (bs : List UInt8) (i m : Nat) (A3 : Option Addr) (m3 c3 : Nat) (l : List Tok) (W : World) : Prop where
  bx : rowV W w.heap.size 184 #[.slice A n c, .int .i64 ((8 * n : Nat) : Int)]
  own : OwnK W w.heap.size A3 m3 c3 l
  below : Below w.heap.size w W
  dec : DcD (bitD bs) (8 * n) i m l
  le : i ≤ 8 * n
  lim : ∀ t ∈ l, TokLim t
section
variable {w W W' : World} {A A3 : Option Addr} {n c i j m m3 c3 : Nat} {bs : List UInt8} {l : List Tok}
theorem DcX.grow (h : DcX w A n c bs i m A3 m3 c3 l W) (hb : Below W.heap.size W W') : DcX w A n c bs i m A3 m3 c3 l W' :=
  ⟨h.bx.below hb h.bx.lt, h.own.below hb, h.below.trans (hb.mono h.below.size), h.dec, h.le, h.lim⟩
end

def widL (l : List Stg) (k : Nat) : List Int := (List.range k).map fun i => (tK l (0, 0) i).2
theorem widL_next (l : List Stg) (k : Nat) : widL l (k + 1) = widL l k ++ [(tK l (0, 0) k).2] := by unfold widL; rw [List.range_succ, List.map_append]; rfl
theorem widL_at {l : List Stg} {n k : Nat} (h : k < n) : gi (widL l n) k = (tK l (0, 0) k).2 := by unfold gi widL; simp [List.getD, h]
def WdI (w : World) (t : Ty) (A : Option Addr) (k c : Nat) (xs : List Int) (W : World) : Prop := rowV W w.heap.size 35 #[.int .i64 t.1, .int .i64 t.2] ∧ Own (Value.int .i64) W (w.heap.size + 1) 3 A k c xs ∧ Below w.heap.size w W
theorem WdI.size {w W : World} {t : Ty} {A : Option Addr} {k c : Nat} {xs : List Int} (h : WdI w t A k c xs W) : w.heap.size + 1 ≤ W.heap.size := h.1.lt
theorem WdI.push {w W W' : World} {t : Ty} {A A' : Option Addr} {k c k' c' : Nat} {xs xs' : List Int} (h : WdI w t A k c xs W) (ho : Own (Value.int .i64) W' (w.heap.size + 1) 3 A' k' c' xs') (hb : Below (w.heap.size + 1) W W') : WdI w t A' k' c' xs' W' :=
  ⟨(hb.block _ (Nat.lt_succ_self _)).trans h.1, ho, h.2.2.trans (hb.mono (Nat.le_succ _))⟩
theorem WdI.call {w W W2 : World} {t : Ty} {A : Option Addr} {k c : Nat} {xs : List Int} (h : WdI w t A k c xs W) (hb : Below W.drew.heap.size W.drew W2) :
    W2.cell? ⟨w.heap.size, 0, none⟩ = some (.int .i64 t.1) ∧ W2.cell? ⟨w.heap.size, 1, none⟩ = some (.int .i64 t.2) ∧ W2.frozen? ⟨w.heap.size, 0, none⟩ = false ∧ W2.frozen? ⟨w.heap.size, 1, none⟩ = false ∧ w.heap.size < W2.heap.size ∧ Hid (WdI w t A k c xs W2) := by
  have h1 : rowV W.drew w.heap.size 35 #[.int .i64 t.1, .int .i64 t.2] := h.1
  have h2 := h1.below hb h.1.lt
  have ho : Own (Value.int .i64) W.drew (w.heap.size + 1) 3 A k c xs := h.2.1
  have hb3 : Below w.heap.size w W.drew := bdrew h.2.2 1
  exact ⟨(two_cellsV h2).1, (two_cellsV h2).2, h2.frozen 0, h2.frozen 1, h2.lt, Lib.hid ⟨h2, ho.below hb, hb3.trans (hb.mono hb3.size)⟩⟩
theorem WdI.set {w W : World} {t : Ty} {A : Option Addr} {k c : Nat} {xs : List Int} (h : WdI w t A k c xs W) (a b : Int) : WdI w (a, b) A k c xs ((W.setCell ⟨w.heap.size, 0, none⟩ (.int .i64 a)).setCell ⟨w.heap.size, 1, none⟩ (.int .i64 b)) := by
  refine ⟨(h.1.set 0 _).set 1 _, ?_, (h.2.2.setCell (p := ⟨w.heap.size, 0, none⟩) (Nat.le_refl _) _).setCell (p := ⟨w.heap.size, 1, none⟩) (Nat.le_refl _) _⟩
  refine ⟨h.2.1.1, ?_⟩
  rcases h.2.1.2 with h1 | ⟨g, cap, cur, h1, h2, h3, h4⟩
  · exact .inl h1
  · refine .inr ⟨g, cap, cur, h1, h2, ?_, h4⟩
    rw [Below.heap_setCell _ ⟨w.heap.size, 1, none⟩ _ _ (by show g ≠ w.heap.size; omega), Below.heap_setCell _ ⟨w.heap.size, 0, none⟩ _ _ (by show g ≠ w.heap.size; omega)]
    exact h3
theorem widths_any (A : Option Addr) (n c : Nat) (l : List Stg) (w : World) (hx : Stgs w A n c l) (hn : n ≤ 1000000) :
    Calls Tryz.prog 19 #[.slice A n c] w fun e w' => ∃ A2 c2, e = .returned (.slice A2 n c2) ∧ Own (Value.int .i64) w' (w.heap.size + 1) 3 A2 n c2 (widL l n) ∧ Below w.heap.size w w' := by
  have Hl := Lib.hid hx.1
  obtain ⟨w1, hw1⟩ : ∃ w1, w1 = w.alloc (.cells #[.int .i64 0, .int .i64 0] 35) := ⟨_, rfl⟩
  have hI0 : WdI w (0, 0) none 0 0 [] w1 := ⟨by rw [hw1]; exact rowV.new w _ _, Own.nil _ _ _ _, by rw [hw1]; exact balloc (Below.refl _ _) _⟩
  have HI0 := Lib.hid hI0
  have HW1 := Lib.hid hw1
  clear hI0 hw1
  go_enter Tryz.func19, Tryz.ntmps19
  go_wp2_with (refine wpList_store_new rfl 35 (.tmp 4) (.tmp 6) rfl #[.int .i64 0, .int .i64 0] 35 _ rfl rfl (by kernel_rfl) rfl (by simp [Value.oneCell']) ?_)
  rw [← HW1.out]
  go_wp2_with fail
  go_loopw [3, 5] (fun vo vi wr => ∃ (k c2 : Nat) (A2 : Option Addr), k ≤ n ∧ vi = .int .i64 (k : Int) ∧ vo = .slice A2 k c2 ∧ Hid (WdI w (tK l (0, 0) k) A2 k c2 (widL l k) wr)) (fun _ vi _ => n - (intOf vi).toNat)
  case atStart => exact ⟨0, 0, none, Nat.zero_le _, rfl, rfl, HI0⟩
  case round =>
    obtain ⟨k, c2, A2, hk, rfl, rfl, HI⟩ := hrel
    by_cases hlt : k < n
    · have d0 : decide ((k : Int) < (n : Int)) = true := decide_eq_true (by omega)
      have d0' : decide (k < n) = true := decide_eq_true hlt
      obtain ⟨sb, so, rfl, hsb, hs1, hs2⟩ := hx.cell hlt
      have HY := Lib.hid (fun W (hW : Below w.heap.size w W) => And.intro ((hW.cell (p := ⟨sb, so + k * 2, none⟩) hsb).trans hs1) ((hW.cell (p := ⟨sb, so + k * 2 + 1, none⟩) hsb).trans hs2))
      clear hs1 hs2
      have hN : Hid (stepP (sG l k) (tK l (0, 0) k) = tK l (0, 0) (k + 1)) := rfl
      have HWN := Lib.hid (widL_next l k)
      obtain ⟨s, hs⟩ : ∃ s, s = sG l k := ⟨_, rfl⟩
      obtain ⟨t, ht⟩ : ∃ t, t = tK l (0, 0) k := ⟨_, rfl⟩
      rw [← hs] at HY hN
      rw [← ht] at hN HI HWN
      clear hs ht
      obtain ⟨a1, a2⟩ := s
      obtain ⟨t1, t2⟩ := t
      dsimp only at HY HWN
      have HS := Lib.hid (refStep_any a1 a2 t1 t2)
      obtain ⟨nx, hnx⟩ : ∃ nx, nx = stepP (a1, a2) (t1, t2) := ⟨_, rfl⟩
      rw [← hnx] at HS hN
      clear hnx
      obtain ⟨n1, n2⟩ := nx
      dsimp only at HS
      obtain ⟨b1, b2⟩ := two_cellsV HI.out.1
      dsimp only at b1 b2
      have m1 : Hid (k + 1 ≤ maxLen ∧ (k + 1) * 8 ≤ 140737488355328) := ⟨by simp [maxLen]; omega, by omega⟩
      go_wp2_with (at_builtin; refine wpList_pushv (enc := Value.int .i64) rfl (.tmp 13) (.tmp 16) rfl Bwt.uI Bwt.infoI (fun _ => rfl) rfl rfl HI.out.2.1 HI.out.size t2 _ rfl rfl m1.out.1 m1.out.2 ?_; intro A6 c6 W6 ho6 hb6; have HI6 := Lib.hid (HI.out.push ho6 hb6); clear ho6 hb6)
      obtain ⟨y1, y2⟩ := HY.out W6 HI6.out.2.2
      obtain ⟨z1, z2⟩ := two_cellsV HI6.out.1
      dsimp only at z1 z2
      have z8 : w.heap.size < W6.heap.size := HI6.out.1.lt
      clear b1 b2
      go_region_with (first
        | (go_at_call 46; refine (HS.out (W6.drew)).mono ?_; rintro e w2 ⟨rfl, hb2⟩; obtain ⟨m1, m2, m3, m4, m5, HM⟩ := HI6.out.call hb2))
      all_goals
        go_wp2_with fail
        go_roundw
        case rel =>
          refine ⟨k + 1, c6, A6, by omega, by go_num, rfl, Lib.hid ?_⟩
          rw [← hN.out, HWN.out]
          exact HM.out.set n1 n2
        case measure => (simp [intOf]) <;> omega
    · obtain rfl : k = n := by omega
      have d0 : decide ((k : Int) < (k : Int)) = false := by simp
      go_wp2_with fail
      go_ret
      exact ⟨A2, c2, rfl, HI.out.2.1, HI.out.2.2⟩
theorem ref41F_any (A : Option Addr) (n c : Nat) (l : List Stg) (A' : Option Addr) (n' c' : Nat) (bs : List UInt8) (w : World) (hx : Stgs w A n c l) (hn : n ≤ 1000000) (hy : Bytes w A' n' c' bs) (hn' : n' ≤ 1000000) :
    Calls Tryz.prog 8 #[.slice A n c, .slice A' n' c'] w (RetBytes w (fwP trF l bs).1 (fwP trF l bs).2) := by
  have Hl := Lib.hid hx.1
  have Hb := Lib.hid hy.1
  have hchk := refCheck_any A n c l w hx (by omega)
  by_cases ht : (typE l (0, 0)).1 = 0
  · rw [ht] at hchk
    replace hchk := Lib.hid hchk
    by_cases h6 : 65536 < n'
    · have HR : Hid (fwP trF l bs = ([], 5)) := by show _ = _; unfold fwP begE; rw [if_pos ht, Hb.out, if_pos h6]; rfl
      have d0 : decide ((65536 : Int) < (n' : Int)) = true := decide_eq_true (by omega)
      have d0' : decide (65536 < n') = true := decide_eq_true h6
      rw [HR.out]
      clear ht h6 hx hy
      go_enter Tryz.func8, Tryz.ntmps8
      go_wp2_with fail
      refine hchk.out.mono ?_
      rintro e w1 ⟨rfl, hb1⟩
      have HB1 := Lib.hid hb1
      clear hb1
      go_wp2_with fail
      go_ret2
      exact RetBytes.err rfl HB1.out
    · have d0 : decide ((65536 : Int) < (n' : Int)) = false := decide_eq_false (by omega)
      have d0' : decide (65536 < n') = false := decide_eq_false h6
      have hn6 : n' ≤ 65536 := by omega
      have HR : Hid (fwP trF l bs = fin (fwS trF l bs n)) := by show _ = _; unfold fwP begE; rw [if_pos ht, Hb.out, if_neg h6, if_pos rfl, Hl.out]
      have HST := Lib.hid (fun k (hk : k < n) => stage_ok ht (k := k) (by rw [Hl.out]; exact hk))
      have HS0 := Lib.hid (fun s (hs : s ∈ l) => (typE_ok ht).2.2.2 s hs)
      have HX := Lib.hid hx
      have HY := Lib.hid hy
      rw [HR.out]
      clear ht h6 hx hy
      go_enter Tryz.func8, Tryz.ntmps8
      go_wp2_with fail
      refine hchk.out.mono ?_
      rintro e w1 ⟨rfl, hb1⟩
      have HB1 := Lib.hid hb1
      have HWD := Lib.hid (widths_any A n c l w1 (HX.out.below hb1) hn)
      clear hb1 hchk
      go_wp2_with fail
      refine HWD.out.mono ?_
      rintro e w2 ⟨AW, cW, rfl, hoW, hb2⟩
      have HB2 := Lib.hid (HB1.out.trans (hb2.mono HB1.out.size))
      have HOW := Lib.hid hoW.ints
      have hb3 : Below w2.heap.size w2 (w2.alloc (.cells #[] 5)) := (Below.refl _ _).alloc (Nat.le_refl _) _
      have HY3 := Lib.hid ((HY.out.below HB2.out).below hb3)
      have HB3 := Lib.hid hb3
      have m1 : Hid (0 + n' ≤ maxLen ∧ (0 + n') * 1 ≤ 140737488355328) := ⟨by simp [maxLen]; omega, by omega⟩
      clear hoW hb2 hb3 HWD
      go_wp2_with (at_builtin; refine wpList_app (enc := encB) rfl (.tmp 21) (.tmp 22) rfl uB infoB encB_one rfl rfl (own_empty w2 _) HB3.out.size A' n' c' bs 0 HY3.out.1 HY3.out.2.2 rfl m1.out.1 m1.out.2 ?_; intro A6 c6 W6 ho6 hb6 hg6; rw [List.nil_append, Nat.zero_add] at ho6; have H6 := Lib.hid (And.intro ho6.bytesB (HB3.out.trans hb6)); clear ho6 hb6 hg6)
      go_loopw [1, 8, 9, 10] (fun vb vi _ _ wr => ∃ (k : Nat) (A3 : Option Addr) (n3 c3 : Nat) (ys : List UInt8), k ≤ n ∧ vi = .int .i64 (k : Int) ∧ vb = .slice A3 n3 c3 ∧ n3 ≤ 65536 ∧ Hid (fwS trF l bs k = (ys, 0) ∧ Bytes wr A3 n3 c3 ys ∧ Below w2.heap.size w2 wr)) (fun _ vi _ _ _ => n - (intOf vi).toNat)
      case atStart => exact ⟨0, A6, n', c6, bs, Nat.zero_le _, rfl, by simp, by omega, Lib.hid ⟨rfl, H6.out.1, H6.out.2⟩⟩
      case round =>
        obtain ⟨k, A3, n3, c3, ys, hk, rfl, rfl, hn3, HI⟩ := hrel
        by_cases hlt : k < n
        · have d1 : decide ((k : Int) < (n : Int)) = true := decide_eq_true (by omega)
          have d1' : decide (k < n) = true := decide_eq_true hlt
          obtain ⟨sb, so, rfl, hsb, hs1, -⟩ := HX.out.cell hlt
          obtain ⟨bw, ow, rfl, hbw, hcw⟩ := HOW.out.get hlt
          have hcell := hcw k hlt
          rw [widL_at hlt] at hcell
          have y1 : wr.cell? ⟨sb, so + k * 2, none⟩ = some (.int .i64 (sG l k).1) := (HI.out.2.2.cell (p := ⟨sb, so + k * 2, none⟩) (Nat.lt_of_lt_of_le hsb HB2.out.size)).trans ((HB2.out.cell (p := ⟨sb, so + k * 2, none⟩) hsb).trans hs1)
          have y2 : wr.cell? ⟨bw, ow + k, none⟩ = some (.int .i64 (tK l (0, 0) k).2) := (HI.out.2.2.cell (p := ⟨bw, ow + k, none⟩) hbw).trans hcell
          have hmem : sG l k ∈ l := by unfold sG; rw [List.getD_eq_getElem?_getD, List.getElem?_eq_getElem (by rw [Hl.out]; exact hlt)]; exact List.getElem_mem _
          obtain ⟨h0, h1, -, -⟩ := HS0.out _ hmem
          have HNX : Hid (fwS trF l bs (k + 1) = trF (sG l k).1.toNat (tK l (0, 0) k).2 ys) := by
            show _ = _
            rw [fwS_next (by rw [HI.out.1]), HI.out.1]
          have HG := Lib.hid (refApplyF_any (sG l k).1 ⟨h0, by omega⟩ A3 n3 c3 (tK l (0, 0) k).2 ys wr.drew HI.out.2.1 (by omega))
          have HLN := fwS_len trF_len (l := l) (bs := bs) (by rw [Hb.out]; exact hn6) (k + 1)
          rw [HNX.out] at HLN
          obtain ⟨s1, hs1'⟩ : ∃ s, s = (sG l k).1 := ⟨_, rfl⟩
          obtain ⟨t2, ht2⟩ : ∃ s, s = (tK l (0, 0) k).2 := ⟨_, rfl⟩
          rw [← hs1'] at y1 HG HNX HLN
          rw [← ht2] at y2 HG HNX HLN
          obtain ⟨⟨o1, er⟩, ho1⟩ : ∃ x, x = trF s1.toNat t2 ys := ⟨_, rfl⟩
          rw [← ho1] at HG HNX HLN
          have HLEN := Lib.hid HLN
          have ysz : sb < wr.heap.size := Nat.lt_of_lt_of_le (Nat.lt_of_lt_of_le hsb HB2.out.size) HI.out.2.2.size
          clear hs1 hcw hcell hmem h0 h1 HLN hs1' ht2 ho1
          go_wp2_with fail
          go_region_with (first
            | (go_at_call 20; refine HG.out.mono ?_; rintro e w5 ⟨A5, n5, c5, rfl, hb5, hw5⟩; have H5 := Lib.hid (And.intro hb5 ((bdrew HI.out.2.2 1).trans (hw5.mono (bdrew HI.out.2.2 1).size))); clear hb5 hw5))
          all_goals
            by_cases he : er = 0
            · subst he
              have hl5 := HLEN.out rfl
              have hn5 : n5 ≤ 65536 := by have h := H5.out.1.1; rw [← h]; exact hl5
              clear hl5
              go_wp2_with fail
              go_roundw
              case rel => exact ⟨k + 1, A5, n5, c5, o1, hlt, by go_num, rfl, hn5, Lib.hid ⟨HNX.out, H5.out.1, H5.out.2⟩⟩
              case measure => (simp [intOf]) <;> omega
            · have q0 : (er != 0) = true := by simpa using he
              have HFI : Hid (fin (fwS trF l bs n) = ([], er)) := by
                show _ = _
                have h1 := fwS_stay (F := trF) (l := l) (bs := bs) (k := k + 1) (by rw [HNX.out]; exact he) n hlt
                rw [HNX.out] at h1
                unfold fin
                rw [if_neg (by rw [h1]; exact he), h1]
              clear he
              go_wp2_with fail
              go_ret2
              rw [HFI.out]
              exact RetBytes.err rfl (HB2.out.trans (H5.out.2.mono HB2.out.size))
        · obtain rfl : k = n := by omega
          have d1 : decide ((k : Int) < (k : Int)) = false := decide_eq_false (by omega)
          have d1' : decide (k < k) = false := decide_eq_false (by omega)
          have HFI : Hid (fin (fwS trF l bs k) = (ys, 0)) := by show _ = _; rw [HI.out.1]; rfl
          go_wp2_with fail
          go_ret2
          rw [HFI.out]
          exact RetBytes.mk rfl HI.out.2.1 (HB2.out.trans (HI.out.2.2.mono HB2.out.size))
  · rw [show (typE l (0, 0)).1 = (typE l (0, 0)).1 from rfl] at hchk
    have HR : Hid (fwP trF l bs = ([], (typE l (0, 0)).1)) := (by show _ = _; unfold fwP begE; rw [if_neg ht, if_neg ht])
    rw [HR.out]
    obtain ⟨er, her⟩ : ∃ er, er = (typE l (0, 0)).1 := ⟨_, rfl⟩
    rw [← her] at hchk ht ⊢
    have q0 : (er != 0) = true := by simpa using ht
    replace hchk := Lib.hid hchk
    clear ht hx hy her HR
    go_enter Tryz.func8, Tryz.ntmps8
    go_wp2_with fail
    refine hchk.out.mono ?_
    rintro e w1 ⟨rfl, hb1⟩
    have HB1 := Lib.hid hb1
    clear hb1
    go_wp2_with fail
    go_ret2
    exact RetBytes.err rfl HB1.out
section
variable (A : Option Addr) (n c : Nat) (l : List Stg) (B : Option Addr) (nb cb : Nat) (bs : List UInt8) (w : World)
theorem pipelineApplies_any (hx : Stgs w A n c l) (hn : n ≤ maxLen) (hz : Bytes w B nb cb bs) (hb : nb ≤ maxLen) (hT : TabY w) :
    Calls Tryz.prog 3 #[.slice A n c, .slice B nb cb] w fun e w' => e = .returned (.bool true) ∧ Below w.heap.size w w' := by
  have hF := few_any A n c l B nb cb w hx
  have HT := Lib.hid hT
  by_cases hF0 : fewB l nb = true
  · have hnb : nb ≤ 200 ∧ l.length ≤ 20 := by
      unfold fewB at hF0
      rw [Bool.and_eq_true, Bool.and_eq_true] at hF0
      exact ⟨of_decide_eq_true hF0.2.1, of_decide_eq_true hF0.1⟩
    have hl := hx.1
    have hn12 : n ≤ 1000000 := by omega
    rw [hF0] at hF
    have HF := Lib.hid hF
    have H1 := forwardAll_any A n c l B nb cb bs w hx (Nat.le_trans hn12 (by decide)) hz (by omega)
    have H2 := fun (W : World) (hW : Stgs W A n c l) (hB : Bytes W B nb cb bs) => ref41F_any A n c l B nb cb bs W hW hn12 hB (by omega)
    have HX := Lib.hid hx
    have HZ := Lib.hid hz
    obtain ⟨⟨o1, e1⟩, ho1⟩ : ∃ x, x = fwP trF l bs := ⟨_, rfl⟩
    rw [← ho1] at H1 H2
    replace H1 := Lib.hid H1
    replace H2 := Lib.hid H2
    have q1 : (e1 == e1) = true := beq_self_eq_true _
    have q8 : ((strB o1).toList == (strB o1).toList) = true := beq_self_eq_true _
    clear ho1 hF hF0 hx hn hz hb hT hl hn12 hnb
    go_enter Tryz.func3, Tryz.ntmps3
    go_wp2_with fail
    refine HF.out.mono ?_
    rintro e w1 ⟨rfl, hw⟩
    obtain rfl : w = w1 := hw.symm
    go_wp2_with fail
    refine H1.out.mono ?_
    rintro e w1 ⟨A1, n1, c1, rfl, hy1, hb1⟩
    have HB1 := Lib.hid hb1
    have HX1 := Lib.hid (HX.out.below hb1)
    have HZ1 := Lib.hid (HZ.out.below hb1)
    have HD1 := Lib.hid hy1
    clear hb1 hy1 H1
    go_wp2_with fail
    refine (H2.out w1 HX1.out HZ1.out).mono ?_
    rintro e w2 ⟨A2, n2, c2, rfl, hy2, hb2⟩
    have HB2 := Lib.hid (HB1.out.trans (hb2.mono HB1.out.size))
    have HD2 := Lib.hid (HD1.out.below hb2)
    have HE2 := Lib.hid hy2
    clear hb2 hy2 H2
    go_wp2_with fail
    refine (awake_any w2 (HT.out.below HB2.out)).mono ?_
    rintro e w4 ⟨rfl, hb⟩
    have HB4 := Lib.hid (HB2.out.trans (hb.mono HB2.out.size))
    have r1 := (HD2.out.below hb).str 23 5 9 uB Tryz.underlying5 Tryz.underlying9
    have r2 := (HE2.out.below hb).str 23 5 9 uB Tryz.underlying5 Tryz.underlying9
    clear hb
    go_wp2_with fail
    go_ret
    exact ⟨rfl, HB4.out⟩
  · have hF0 : fewB l nb = false := by simpa using hF0
    rw [hF0] at hF
    have HF := Lib.hid hF
    clear hF hF0 hx hn hz hb hT
    go_enter Tryz.func3, Tryz.ntmps3
    go_wp2_with fail
    refine HF.out.mono ?_
    rintro e w1 ⟨rfl, hw⟩
    obtain rfl : w = w1 := hw.symm
    go_wp2_with fail
    refine (awake_any w HT.out).mono ?_
    rintro e w1 ⟨rfl, hb1⟩
    have HB1 := Lib.hid hb1
    clear hb1
    go_wp2_with fail
    go_ret
    exact ⟨rfl, HB1.out⟩
end
end Go.Proofs.YtohadkmaemmfgaaGreatDoor
