/- Bd Bk Be Bp Bf. -/
import Derived.Test.YtohadkmaemmfgaaGreatDoorRI14
import Derived.Sort.QuietIn
import Derived.Sort.CutIn
import Derived.Test.YtohadkmaemmfgaaGreatDoorProg
import Derived.Test.YtohadkmaemmfgaaGreatDoorRI13
import Derived.Test.YtohadkmaemmfgaaGreatDoorRI09
import Derived.WalkLawsBesides
import Derived.Shelf.Abstract
set_option maxRecDepth 100000
set_option maxHeartbeats 4000000
namespace Go.Proofs.YtohadkmaemmfgaaGreatDoor.Bwt
open Go.RowKit Go.Proofs
set_option linter.unusedVariables false
attribute [local go_sem] Oper.semAt_some
def rowN (p k : Nat) : Nat := if k < p then k else k + 1
def allRow (p : Nat) (bs : List UInt8) (k : Nat) : Array Value := #[.int .i64 (rowN p k : Int), .int .u8 (gb bs k)]
def boxKp (n0 bx : Nat) (X Y : World) : Prop := Y.heap[bx]? = X.heap[bx]? ∧ Below n0 X Y
def BoxR (W : World) (bx : Nat) (A : Option Addr) (n c p : Nat) : Prop := Row id W bx 195 [.slice A n c, .int .i64 (p : Int)]
theorem all_any (A : Option Addr) (n c p : Nat) (w : World) :
    Calls Tryz.prog 307 #[rowsV A n c p] w fun e w' => e = .returned (.func (.func 316) #[] #[.pointer (some ⟨w.heap.size, 0, none⟩)]) ∧ w' = w.alloc (.cells #[.slice A n c, .int .i64 (p : Int)] 195) := by
  unfold rowsV
  go_enter Tryz.func307, Tryz.ntmps307
  go_wp2_with fail
  go_ret
  exact ⟨rfl, rfl⟩
theorem all1_gives (w0 : World) (A : Option Addr) (n c p : Nat) (bs : List UInt8) (hx : Bytes w0 A n c bs) (hn : n ≤ 65536) (hp : p ≤ n) (bx : Nat) (hbx : w0.heap.size ≤ bx) :
    Gives Tryz.prog 316 #[.pointer (some ⟨bx, 0, none⟩)] (allRow p bs) n (fun X Y => Y = X) (boxKp w0.heap.size bx) (fun W => BoxR W bx A n c p ∧ Below w0.heap.size w0 W) := by
  intro l J Jx W ⟨hbox, hbel⟩ hJ hJx hY h0
  have HY := Lib.hid hY; clear hY
  have b0 : W.cell? ⟨bx, 0, none⟩ = some (.slice A n c) := hbox.cell (j := 0) undef (by simp)
  have b1 : W.cell? ⟨bx, 1, none⟩ = some (.int .i64 (p : Int)) := hbox.cell (j := 1) undef (by simp)
  refine callsIn_of_wp Tryz.func316 rfl trivial ?_ rfl
  simp only [Tryz.ntmps316, List.size_toArray, List.length_cons, List.length_nil, Nat.reduceAdd, Nat.reduceSub, Array.replicate_succ, Array.replicate_zero, List.push_toArray, List.append_toArray, List.nil_append, List.cons_append]
  gi_wp2
  gi_loopw [9] (fun i wr => ∃ k : Nat, k ≤ n ∧ i = .int .i64 (k : Int) ∧ J k wr ∧ BoxR wr bx A n c p ∧ Below w0.heap.size w0 wr) (fun i _ => n - (intOf i).toNat)
  case atStart => exact ⟨0, by omega, rfl, h0, hbox, hbel⟩
  case round =>
    clear b0 b1 hbox hbel h0
    obtain ⟨k, hk, rfl, hJk, hbox, hbel⟩ := hrel
    have b1 : wr.cell? ⟨bx, 1, none⟩ = some (.int .i64 (p : Int)) := hbox.cell (j := 1) undef (by simp)
    by_cases hlt : k < n
    · obtain ⟨b, off, rfl, -, hcell⟩ := (hx.below hbel).get hlt
      have c1 := hcell k hlt
      clear hcell
      have hy0 := HY.out k wr hlt hJk
      unfold allRow rowN at hy0
      have d0 : decide ((k : Int) < (n : Int)) = true := by simp; omega
      by_cases hkp : k < p
      · rw [if_pos hkp] at hy0
        have d1 : decide ((p : Int) ≤ (k : Int)) = false := by simp; omega
        have d2 : decide (p ≤ k) = false := by simp; omega
        obtain ⟨fn, tmps, assign, body, hy, hR⟩ := hy0
        gi_wp2
        refine hR.mono ?_
        rintro e W3 (⟨rfl, hJ3, hk3⟩ | ⟨rfl, hJx3⟩)
        · clear hR hy
          gi_wp2
          go_roundw
          case rel => exact ⟨k + 1, by omega, by go_num, hJ3, hk3.1.trans hbox, hbel.trans hk3.2⟩
          case measure => simp [intOf]; omega
        · clear hR hy
          gi_wp2
          refine bodyPost_ret (results_none rfl _ _ _) rfl ?_
          exact ⟨⟨_, rfl⟩, .inr ⟨k + 1, hlt, hJx3⟩⟩
      · rw [if_neg hkp] at hy0
        have d1 : decide ((p : Int) ≤ (k : Int)) = true := by simp; omega
        have d2 : decide (p ≤ k) = true := by simp; omega
        rw [show ((k + 1 : Nat) : Int) = (k : Int) + 1 by omega] at hy0
        obtain ⟨fn, tmps, assign, body, hy, hR⟩ := hy0
        gi_wp2
        refine hR.mono ?_
        rintro e W3 (⟨rfl, hJ3, hk3⟩ | ⟨rfl, hJx3⟩)
        · clear hR hy
          gi_wp2
          go_roundw
          case rel => exact ⟨k + 1, by omega, by go_num, hJ3, hk3.1.trans hbox, hbel.trans hk3.2⟩
          case measure => simp [intOf]; omega
        · clear hR hy
          gi_wp2
          refine bodyPost_ret (results_none rfl _ _ _) rfl ?_
          exact ⟨⟨_, rfl⟩, .inr ⟨k + 1, hlt, hJx3⟩⟩
    · obtain rfl : k = n := by omega
      gi_wp2
      go_end0
      exact ⟨⟨_, rfl⟩, .inl hJk⟩
end Go.Proofs.YtohadkmaemmfgaaGreatDoor.Bwt
namespace Go.Proofs.YtohadkmaemmfgaaGreatDoor.Bwt
open Go.RowKit Go.Proofs Go.Shelf
set_option linter.unusedVariables false
attribute [local go_sem] Oper.semAt_some
def encB (b : UInt8) : Value := .int .u8 (b.toNat : Int)
theorem encB_one (s : UInt8) : (encB s).oneCell' = true := rfl
theorem infoB : (Tryz.prog.info? 5).map (fun i => (i.zero, i.size, i.bytes)) = some (some (encB 0), 1, 1) := by kernel_rfl
theorem _root_.Go.Proofs.YtohadkmaemmfgaaGreatDoor.Own.bytesBBwt {w : World} {B : Nat} {e : TypeId} {A : Option Addr} {n c : Nat} {bs : List UInt8} (h : Own encB w B e A n c bs) : Bytes w A n c bs := ⟨h.length, h.cap, h.cells 0⟩
section
variable {α : Type} {enc : α → Value} {P : Program} {w : World} {B : Nat} {e t : TypeId} {A : Option Addr} {n c : Nat} {xs : List α} {zero : α} {bytes : Nat}
  {ops : Array Oper} {rest : List Oper} {o : Oper} {a : Act} {K : Act → World → Prop} {Q : Exit → Act → World → Prop} {E : Prop}
theorem wpList_pushv (hgd : o.guard = none) (s x : Operand) (ho : o.op = .call { callee := .builtin .append, args := #[s, x], argTypes := #[t, t] })
    (ht : P.underlying t = some (.slice e)) (hi : (P.info? e).map (fun i => (i.zero, i.size, i.bytes)) = some (some (enc zero), 1, bytes)) (h1 : ∀ x, (enc x).oneCell' = true) (hz : (enc zero).cells.size = 1)
    (hs : a.eval s = .slice A n c) (hown : Own enc w B e A n c xs) (hB : B ≤ w.heap.size) (y : α) (v : Value) (hv : enc y = v)
    (hx : a.eval x = .slice (some ⟨w.heap.size, 0, none⟩) 1 1) (hl : n + 1 ≤ maxLen) (hby : (n + 1) * bytes ≤ 140737488355328)
    (h : ∀ A2 c2 w', Own enc w' B e A2 (n + 1) c2 (xs ++ [y]) → Below B w w' → wpList P ops Q rest (a.put o.dst (.slice A2 (n + 1) c2)) w') : wpList P ops Q (o :: rest) a (w.alloc (.cells #[v] e)) := by
  subst hv
  exact wpList_push hgd s x ho ht hi h1 hz hs hown hB y hx hl hby h
end
def RetBytes (w : World) (bs : List UInt8) (x : Int) (e : Ending) (w' : World) : Prop := ∃ A n c, e = .returned (.tuple #[.slice A n c, .int .i64 x]) ∧ Bytes w' A n c bs ∧ Below w.heap.size w w'
theorem Bytes.nil (w : World) (c : Nat) : Bytes w none 0 c [] := ⟨rfl, Nat.zero_le _, fun h => absurd h (by omega)⟩
theorem RetBytes.mk {w w' : World} {bs : List UInt8} {x x' : Int} {A : Option Addr} {n c : Nat} (hx : x = x') (h : Bytes w' A n c bs) (hb : Below w.heap.size w w') : RetBytes w bs x' (.returned (.tuple #[.slice A n c, .int .i64 x])) w' := by
  subst hx
  exact ⟨A, n, c, rfl, h, hb⟩
theorem RetBytes.err {w w' : World} {x x' : Int} (hx : x = x') (hb : Below w.heap.size w w') : RetBytes w [] x' (.returned (.tuple #[.slice none 0 0, .int .i64 x])) w' := RetBytes.mk hx (Bytes.nil _ _) hb
def Kept (B : Nat) (X Y : World) : Prop := Below B X Y ∧ KeepsFrom B X Y
theorem Kept.refl (B : Nat) (X : World) : Kept B X X := ⟨Below.refl _ _, KeepsFrom.refl _ _⟩
theorem Kept.trans {B : Nat} {X Y Z : World} (h : Kept B X Y) (h' : Kept B Y Z) : Kept B X Z := ⟨h.1.trans h'.1, h.2.trans h'.2⟩
theorem Kept.alloc {B : Nat} {X : World} (o : Obj) (hB : B ≤ X.heap.size) : Kept B X (X.alloc o) :=
  ⟨(Below.refl _ _).alloc hB _, ⟨by simp, fun k o' _ hk _ => (Below.heap_alloc X o k (Array.getElem?_eq_some_iff.1 hk).1).trans hk⟩⟩
theorem Kept.of_own {α : Type} {enc : α → Value} {B : Nat} {X Y : World} {e : TypeId} {A : Option Addr} {n c : Nat} {xs : List α} (hown : Own enc X B e A n c xs) (hB : B ≤ X.heap.size) (hg : X.grownBy Y (Value.slice A n c).ownBlock) : Kept B X Y := by
  refine ⟨(Below.refl B X).grown hg hB (fun k hk => (World.ownsRow.lt hown k hk).1), hg.size, fun k o _ hk ho => (hg.block k (Array.getElem?_eq_some_iff.1 hk).1 (fun e => ?_)).trans hk⟩
  rcases hown.2 with ⟨h1, _⟩ | ⟨g, cap, cur, h1, _, h3, _⟩
  · rw [h1] at e; cases e
  · rw [h1] at e
    injection e with e
    have e' : k = g := e
    subst e'
    rw [h3] at hk
    injection hk with hk
    subst hk
    cases ho
theorem _root_.Go.Proofs.YtohadkmaemmfgaaGreatDoor.Own.keepBwt {α : Type} {enc : α → Value} {X Y : World} {B : Nat} {e : TypeId} {A : Option Addr} {n c : Nat} {xs : List α} (h : Own enc X B e A n c xs) (hb : ∀ g o, B ≤ g → X.heap[g]? = some o → o.isCells = true → Y.heap[g]? = some o) : Own enc Y B e A n c xs := by
  refine ⟨h.1, ?_⟩
  rcases h.2 with h1 | ⟨g, cap, cur, h1, h2, h3, h4⟩
  · exact .inl h1
  · exact .inr ⟨g, cap, cur, h1, h2, hb g _ h2 h3 rfl, h4⟩
theorem Boxed.below' {W W' : World} {B N : Nat} {t : TypeId} {v : Value} (h : Boxed W B t v) (hb : Below N W W') (hlt : B < N) : Boxed W' B t v := (hb.block B hlt).trans h
theorem KeepsFrom.setCell' {B : Nat} {X Y : World} (h : KeepsFrom B X Y) {p : Addr} (hp : p.block < B) (v : Value) : KeepsFrom B X (Y.setCell p v) :=
  ⟨by simpa [World.setCell] using h.size, fun k o hB hk ho => (Below.heap_setCell Y p v k (by omega)).trans (h.same k o hB hk ho)⟩
theorem Kept.drewN (B : Nat) (X : World) (q : Nat) : Kept B X (X.drewN q) := ⟨(Drawn.drewN _ _).below _, ⟨Nat.le_refl _, fun _ _ _ h _ => h⟩⟩
section
variable {α : Type} {enc : α → Value} {P : Program} {w : World} {B : Nat} {e t : TypeId} {A : Option Addr} {n c : Nat} {xs : List α} {zero : α} {bytes : Nat} {F : Fence} {nF : Nat}
  {ops : Array Oper} {rest : List Oper} {o : Oper} {a : Act} {K : Act → World → Prop} {Q : Exit → Act → World → Prop} {E : Prop}
end
end Go.Proofs.YtohadkmaemmfgaaGreatDoor.Bwt
namespace Go.Proofs.YtohadkmaemmfgaaGreatDoor.Bwt
open Go.RowKit Go.Proofs Go.Shelf
set_option linter.unusedVariables false
attribute [local go_sem] Oper.semAt_some
def nxB (bs : List UInt8) (k d : Nat) : Int := stB bs d + cntTo bs k d
def nxRow (bs : List UInt8) (k : Nat) : List Int := (List.range 256).map (nxB bs k)
def lkB (bs : List UInt8) (k : Nat) : Int := nxB bs k (bn bs k)
def rowI (p r : Nat) : Nat := if r < p then r else r - 1
def lkR (p : Nat) (bs : List UInt8) (k r : Nat) : Int := if r = p then 0 else if rowI p r < k then lkB bs (rowI p r) else 0
def lkTo (p : Nat) (bs : List UInt8) (k : Nat) : List Int := (List.range (bs.length + 1)).map (lkR p bs k)
def lkAll (p : Nat) (bs : List UInt8) : List Int := lkTo p bs bs.length
theorem nxRow_length (bs : List UInt8) (k : Nat) : (nxRow bs k).length = 256 := by simp [nxRow]
theorem lkTo_length (p : Nat) (bs : List UInt8) (k : Nat) : (lkTo p bs k).length = bs.length + 1 := by simp [lkTo]
theorem gi_nxRow {bs : List UInt8} {k d : Nat} (hd : d < 256) : gi (nxRow bs k) d = nxB bs k d := by simp [gi, nxRow, List.getD, hd]
theorem gi_lkTo {p : Nat} {bs : List UInt8} {k r : Nat} (hr : r ≤ bs.length) : gi (lkTo p bs k) r = lkR p bs k r := by
  have : r < bs.length + 1 := by omega
  simp [gi, lkTo, List.getD, this]
theorem nxRow_zero (bs : List UInt8) : nxRow bs 0 = stAll bs := by
  unfold nxRow stAll
  apply List.map_congr_left
  intro d _
  unfold nxB cntTo
  simp
theorem nxRow_next {bs : List UInt8} {k : Nat} (hk : k < bs.length) : (nxRow bs k).set (bn bs k) (lkB bs k + 1) = nxRow bs (k + 1) := by
  apply List.ext_getElem
  · simp [nxRow]
  intro i h1 h2
  rw [List.getElem_set]
  simp only [nxRow, List.getElem_map, List.getElem_range, lkB, nxB]
  rw [cntTo_next hk]
  by_cases e : bn bs k = i
  · subst e; simp; omega
  · simp [e]
theorem lkTo_zero (p : Nat) (bs : List UInt8) : lkTo p bs 0 = List.replicate (bs.length + 1) 0 := by
  apply List.ext_getElem
  · simp [lkTo]
  intro i h1 h2
  rw [List.getElem_replicate]
  simp [lkTo, lkR]
theorem rowI_rowN (p k : Nat) : rowI p (rowN p k) = k := by
  unfold rowI rowN
  by_cases h : k < p
  · rw [if_pos h, if_pos h]
  · rw [if_neg h, if_neg (by omega)]; omega
theorem rowN_ne (p k : Nat) : rowN p k ≠ p := by unfold rowN; split <;> omega
theorem rowN_rowI {p r : Nat} (h : r ≠ p) : rowN p (rowI p r) = r := by
  unfold rowI rowN
  by_cases h1 : r < p
  · rw [if_pos h1, if_pos h1]
  · rw [if_neg h1, if_neg (by omega)]; omega
theorem rowN_le {p k n : Nat} (hk : k < n) : rowN p k ≤ n := by unfold rowN; split <;> omega
theorem lkTo_next {p : Nat} {bs : List UInt8} {k : Nat} (hk : k < bs.length) : (lkTo p bs k).set (rowN p k) (lkB bs k) = lkTo p bs (k + 1) := by
  apply List.ext_getElem
  · simp [lkTo]
  intro i h1 h2
  rw [List.getElem_set]
  simp only [lkTo, List.getElem_map, List.getElem_range]
  by_cases e : rowN p k = i
  · subst e
    rw [if_pos rfl]
    unfold lkR
    rw [if_neg (rowN_ne p k), rowI_rowN, if_pos (by omega)]
  · rw [if_neg e]
    unfold lkR
    by_cases hp : i = p
    · rw [if_pos hp, if_pos hp]
    · rw [if_neg hp, if_neg hp]
      by_cases hl : rowI p i < k
      · rw [if_pos hl, if_pos (by omega)]
      · have : rowI p i ≠ k := fun h => e (by rw [← h, rowN_rowI hp])
        rw [if_neg hl, if_neg (by omega)]
theorem lkB_le (bs : List UInt8) (hn : bs.length ≤ 65536) (k : Nat) (hk : k ≤ bs.length) : 1 ≤ lkB bs k ∧ lkB bs k ≤ 20000000 := by
  unfold lkB nxB
  have h1 := stB_le bs hn (bn bs k)
  have h2 := cntTo_le bs k (bn bs k)
  have h3 := bn_lt bs k
  omega
structure LinkI (w : World) (S p : Nat) (bs : List UInt8) (k : Nat) (W : World) : Prop where
  next : Row (Value.int .i64) W S 322 (nxRow bs k)
  out : Row (Value.int .i64) W (S + 1) 3 (lkTo p bs k)
  box : Boxed W (S + 2) 52 (.slice (some ⟨S + 1, 0, none⟩) (bs.length + 1) (bs.length + 1))
  below : Below w.heap.size w W
  size : S + 4 ≤ W.heap.size
theorem LinkI.kept {w W W' : World} {S p : Nat} {bs : List UInt8} {k : Nat} {row : Option Nat} (hS : w.heap.size < S) (h : LinkI w S p bs k W) (hg : W.grownBy W' row) (hrow : ∀ r, row = some r → S + 4 ≤ r) : LinkI w S p bs k W' := by
  have ne : ∀ j, j < S + 4 → some j ≠ row := fun j hj e => by have := hrow j e.symm; omega
  exact ⟨h.next.grown hg (ne _ (by omega)), h.out.grown hg (ne _ (by omega)), h.box.kept hg (ne _ (by omega)), h.below.grown hg h.below.size (fun r e => by have := hrow r e; omega), Nat.le_trans h.size hg.size⟩
theorem LinkI.step {w W : World} {S p : Nat} {bs : List UInt8} {k : Nat} (hS : w.heap.size < S) (hk : k < bs.length) (h : LinkI w S p bs k W) (q : Nat) :
    KeepsFrom (S + 4) W (((W.drewN q).setCell ⟨S + 1, rowN p k, none⟩ (.int .i64 (lkB bs k))).setCell ⟨S, bn bs k, none⟩ (.int .i64 (lkB bs k + 1))) ∧ boxKp w.heap.size (S + 3) W (((W.drewN q).setCell ⟨S + 1, rowN p k, none⟩ (.int .i64 (lkB bs k))).setCell ⟨S, bn bs k, none⟩ (.int .i64 (lkB bs k + 1))) ∧ LinkI w S p bs (k + 1) (((W.drewN q).setCell ⟨S + 1, rowN p k, none⟩ (.int .i64 (lkB bs k))).setCell ⟨S, bn bs k, none⟩ (.int .i64 (lkB bs k + 1))) := by
  have hb : Below w.heap.size W (((W.drewN q).setCell ⟨S + 1, rowN p k, none⟩ (.int .i64 (lkB bs k))).setCell ⟨S, bn bs k, none⟩ (.int .i64 (lkB bs k + 1))) :=
    (((Drawn.drewN W q).below _).setCell (p := ⟨S + 1, rowN p k, none⟩) (by show _ ≤ S + 1; omega) _).setCell (p := ⟨S, bn bs k, none⟩) (by show _ ≤ S; omega) _
  have oth : ∀ j, j ≠ S → j ≠ S + 1 → (((W.drewN q).setCell ⟨S + 1, rowN p k, none⟩ (.int .i64 (lkB bs k))).setCell ⟨S, bn bs k, none⟩ (.int .i64 (lkB bs k + 1))).heap[j]? = W.heap[j]? := fun j h1 h2 =>
    (Below.heap_setCell _ ⟨S, bn bs k, none⟩ _ j h1).trans (Below.heap_setCell _ ⟨S + 1, rowN p k, none⟩ _ j h2)
  have r1 := ((h.next.drewN q).far (p := ⟨S + 1, rowN p k, none⟩) (by show S ≠ S + 1; omega) (.int .i64 (lkB bs k))).set (bn bs k) (lkB bs k + 1)
  have r2 := ((h.out.drewN q).set (rowN p k) (lkB bs k)).far (p := ⟨S, bn bs k, none⟩) (by show S + 1 ≠ S; omega) (.int .i64 (lkB bs k + 1))
  rw [nxRow_next hk] at r1
  rw [lkTo_next hk] at r2
  have hsz : (((W.drewN q).setCell ⟨S + 1, rowN p k, none⟩ (.int .i64 (lkB bs k))).setCell ⟨S, bn bs k, none⟩ (.int .i64 (lkB bs k + 1))).heap.size = W.heap.size := by simp [World.setCell, World.drewN]
  refine ⟨⟨by rw [hsz]; exact Nat.le_refl _, fun j o hj ho _ => (oth j (by omega) (by omega)).trans ho⟩, ⟨oth _ (by omega) (by omega), hb⟩, r1, r2, (oth _ (by omega) (by omega)).trans h.box, h.below.trans hb, by rw [hsz]; exact h.size⟩
theorem links_start {w w2 w3 : World} {A : Option Addr} {n c p S : Nat} {bs : List UInt8} (hs2 : w2.heap.size = S + 1) (hb2 : Below w.heap.size w w2) (r0 : Row (Value.int .i64) w2 S 322 (nxRow bs 0)) (hn : bs.length = n)
    (hw3 : w3 = ((w2.alloc (rowObj (Value.int .i64) 3 (List.replicate (n + 1) 0))).alloc (.cells #[.slice (some ⟨S + 1, 0, none⟩) (n + 1) (n + 1)] 52)).alloc (.cells #[.slice A n c, .int .i64 (p : Int)] 195)) :
    LinkI w S p bs 0 w3 ∧ BoxR w3 (S + 3) A n c p ∧ w3.heap.size = S + 4 := by
  have hbs := hb2.size
  have s3 : (w2.alloc (rowObj (Value.int .i64) 3 (List.replicate (n + 1) 0))).heap.size = S + 2 := by rw [World.size_alloc, hs2]
  have s4 : ((w2.alloc (rowObj (Value.int .i64) 3 (List.replicate (n + 1) 0))).alloc (.cells #[.slice (some ⟨S + 1, 0, none⟩) (n + 1) (n + 1)] 52)).heap.size = S + 3 := by rw [World.size_alloc, s3]
  have t1 := Row.new (enc := Value.int .i64) w2 3 (List.replicate (n + 1) 0)
  rw [hs2] at t1
  have t2 := Boxed.new (w2.alloc (rowObj (Value.int .i64) 3 (List.replicate (n + 1) 0))) 52 (.slice (some ⟨S + 1, 0, none⟩) (n + 1) (n + 1))
  rw [s3] at t2
  have t3 := Row.new (enc := id) ((w2.alloc (rowObj (Value.int .i64) 3 (List.replicate (n + 1) 0))).alloc (.cells #[.slice (some ⟨S + 1, 0, none⟩) (n + 1) (n + 1)] 52)) 195 [.slice A n c, .int .i64 (p : Int)]
  rw [s4] at t3
  subst hw3
  refine ⟨⟨((r0.alloc _).alloc _).alloc _, ?_, ?_, ?_, ?_⟩, t3, by rw [World.size_alloc, s4]⟩
  · rw [lkTo_zero, hn]; exact (t1.alloc _).alloc _
  · rw [hn]; exact t2.alloc _
  · exact ((hb2.alloc hbs _).alloc (by rw [World.size_alloc]; omega) _).alloc (by rw [s4]; omega) _
  · rw [World.size_alloc, s4]; omega
theorem links_mid {w1 w2 : World} {o : Obj} {g : Nat} {v v' : Value} (hw : w2 = w1.alloc o) (hg : g + 1 ≤ w1.heap.size) (h0 : w1.cell? ⟨g, 0, none⟩ = some v) (h1 : w1.cell? ⟨g, 1, none⟩ = some v') :
    w2.cell? ⟨g, 0, none⟩ = some v ∧ w2.cell? ⟨g, 1, none⟩ = some v' ∧ g < w2.heap.size := by
  subst hw
  have hb := (Below.refl w1.heap.size w1).alloc (Nat.le_refl _) o
  exact ⟨(hb.cell (p := ⟨g, 0, none⟩) (by show g < _; omega)).trans h0, (hb.cell (p := ⟨g, 1, none⟩) (by show g < _; omega)).trans h1, by rw [World.size_alloc]; omega⟩
theorem links_any (A : Option Addr) (n c p : Nat) (bs : List UInt8) (w : World) (hx : Bytes w A n c bs) (hn : n ≤ 65536) (hp : p ≤ n) :
    Calls Tryz.prog 271 #[rowsV A n c p] w fun e w' => ∃ g, e = .returned (.slice (some ⟨g, 0, none⟩) (n + 1) (n + 1)) ∧ Row (Value.int .i64) w' g 3 (lkAll p bs) ∧ Below w.heap.size w w' := by
  unfold rowsV
  have Hn := Lib.hid hx.1
  have z1 := zA
  have hmk := run_make_row (P := Tryz.prog) (enc := Value.int .i64) uI infoI rfl ((n : Int) + 1) (by omega) (by omega) (by omega)
  have hcal := starts_any A n c p bs _ (hx.alloc (.cells #[.slice A n c, .int .i64 (p : Int)] 195)) hn
  unfold rowsV at hcal
  have Hcal := Lib.hid hcal; clear hcal
  refine calls_of_marks Tryz.func271 rfl ?_
  simp only [Tryz.ntmps271, List.size_toArray, List.length_cons, List.length_nil, Nat.reduceAdd, Nat.reduceSub, Array.replicate_succ, Array.replicate_zero, List.push_toArray, List.append_toArray, List.nil_append, List.cons_append]
  go_wp2_with fail
  refine Hcal.out.mono ?_
  rintro e w1 ⟨rfl, hb1⟩
  rw [World.size_alloc] at hb1
  have hs1 := hb1.size
  rw [World.size_alloc] at hs1
  have q0 : w1.cell? ⟨w.heap.size, 0, none⟩ = some (.slice A n c) := (hb1.cell (p := ⟨w.heap.size, 0, none⟩) (Nat.lt_succ_self _)).trans (by simp)
  have q1 : w1.cell? ⟨w.heap.size, 1, none⟩ = some (.int .i64 (p : Int)) := (hb1.cell (p := ⟨w.heap.size, 1, none⟩) (Nat.lt_succ_self _)).trans (by simp)
  have r2 := zeroRow (heap_alloc_new w1 (.cells zeroC 322))
  have hsz2 : (Tryz.prog.info? 322).map (·.size) = some ((stAll bs).map (Value.int .i64)).toArray.size := by rw [iA]; simp [stAll]
  have hold : ((List.replicate 256 (0 : Int)).map (Value.int .i64)).toArray.size = ((stAll bs).map (Value.int .i64)).toArray.size := by rw [List.size_toArray, List.size_toArray, List.length_map, List.length_map, List.length_replicate]; simp [stAll]
  have hall : ((stAll bs).map (Value.int .i64)).toArray.all (·.oneCell') = true := by
    rw [Array.all_eq_true_iff_forall_mem]
    intro v hv
    rw [List.mem_toArray] at hv
    obtain ⟨z, _, rfl⟩ := List.mem_map.1 hv
    rfl
  have Hall := Lib.hid (And.intro hsz2 (And.intro hold hall)); clear hsz2 hold hall
  have Hr2 := Lib.hid r2; clear r2
  go_wp2_with (refine wpList_store_row rfl 322 (.tmp 3) (.tmp 8) rfl _ ((stAll bs).map (Value.int .i64)).toArray rfl rfl _ _ Hr2.out Hall.out.1 Hall.out.2.1 Hall.out.2.2 ?_; rw [World.setRow_alloc_new]; obtain ⟨w2, hw2⟩ : ∃ w2, w2 = w1.alloc (.cells ((stAll bs).map (Value.int .i64)).toArray 322) := ⟨_, rfl⟩; have Hw2 := Lib.hid hw2; rw [← hw2]; clear hw2; obtain ⟨v0, v1, v2⟩ := links_mid Hw2.out hs1 q0 q1; clear q0 q1)
  refine (all_any _ _ _ _ _).mono ?_
  rintro e w3 ⟨rfl, hw3⟩
  have Hw3 := Lib.hid hw3; clear hw3
  go_wp2_with fail
  clear hmk z1 v0 v1 Hr2 Hall
  have hs2 : w2.heap.size = w1.heap.size + 1 := by rw [Hw2.out, World.size_alloc]
  have r0 : Row (Value.int .i64) w2 w1.heap.size 322 (nxRow bs 0) := by rw [Hw2.out, nxRow_zero]; exact Row.new w1 _ _
  have hb2 : Below w.heap.size w w2 := by rw [Hw2.out]; exact (((Below.refl _ _).alloc (Nat.le_refl _) _).trans (hb1.mono (by omega))).alloc (by omega) _
  rw [hs2] at Hw3 ⊢
  obtain ⟨S, hS⟩ : ∃ S, S = w1.heap.size := ⟨_, rfl⟩
  rw [← hS] at Hw3 r0 hs2 hs1 ⊢
  clear hb1 Hcal Hw2
  obtain ⟨hI0, hbx3, hs3⟩ := links_start hs2 hb2 r0 Hn.out Hw3.out
  have Hs3 := Lib.hid hs3; clear hs3
  have hw0 : w.heap.size < S := by omega
  clear Hw3 v2 hb2 r0 hs1 hS hs2
  refine wp_rangeFunc_row2 (G := fun u v t => (((t.setIfInBounds 16 u).setIfInBounds 17 v).setIfInBounds 5 u).setIfInBounds 6 v) (u := fun k => .int .i64 (rowN p k : Int)) (v := fun k => .int .u8 (gb bs k)) rfl (enters_of Tryz.func316 (by kernel_rfl) rfl) (all1_gives w A n c p bs hx (by omega) hp (S + 3) (by omega))
    (fun o1 o2 => ⟨(Row.alloc (Row.alloc hbx3 _) _), (hI0.below.alloc hI0.below.size _).alloc (by have := hI0.below.size; simp; omega) _⟩)
    (fun A B hab => by rw [hab]; exact KeepsFrom.refl _ _)
    (fun h1 h2 => ⟨h2.1.trans h1.1, h1.2.trans h2.2⟩)
    (fun W l o o' hl hlo ho => ⟨World.putObj_heap_other (by rw [Hs3.out] at hl; omega), ((Below.refl _ _).grown (grownBy_putObj' W l o') (by have := (Array.getElem?_eq_some_iff.1 hlo).1; rw [Hs3.out] at hl; omega) (fun k e => by cases e; rw [Hs3.out] at hl; omega))⟩)
    (LinkI w S p bs) (fun _ _ _ => False) ?hI (fun _ _ _ _ _ h _ _ => h.elim) (fun k A B h hab => by rw [hab]; exact h) (fun _ _ _ _ h _ => h.elim) hI0 ?assign ?body ?done (fun _ _ _ _ _ _ h _ => h.elim)
  case hI => exact fun s W W' row h hg hr => h.kept hw0 hg (fun r e => by have := (hr r e).1; rw [Hs3.out] at this; omega)
  case assign =>
    intro l k W K hK
    simp only [List.setIfInBounds_toArray, List.set_cons_succ, List.set_cons_zero] at hK ⊢
    gi_wp2
    exact hK
  case done =>
    intro D W hD hI hdef
    obtain ⟨-, hout, hbox, hbelW, hsW⟩ := hI
    have q1 := hbox.cell
    rw [Hn.out] at q1
    go_wp2_with fail
    refine markPost_mark hdef (v := .slice (some ⟨S + 1, 0, none⟩) (n + 1) (n + 1)) (fun W => by simp [results, Tryz.results271, go_sem]) rfl ?_
    rw [Hs3.out] at hD
    refine ⟨_, rfl, ?_, hbelW.grown (grownBy_putObj' W D _) hbelW.size (fun k e => by cases e; omega)⟩
    have := hout.grown (grownBy_putObj' W D (.deferred none)) (fun e => by injection e with e; omega)
    unfold lkAll
    rw [Hn.out]
    exact this
  case body =>
    intro l k W hk hl hI
    have HI := Lib.hid hI
    obtain ⟨hnx, hout, hbox, hbelW, hsW⟩ := hI
    simp only [List.setIfInBounds_toArray, List.set_cons_succ, List.set_cons_zero]
    have hm := bn_lt bs k
    rw [gb_bn]
    obtain ⟨m, hme⟩ : ∃ m, m = bn bs k := ⟨_, rfl⟩
    have c1 : W.cell? ⟨S, m, none⟩ = some (.int .i64 (lkB bs k)) := by
      have := hnx.cell (j := m) 0 (by rw [nxRow_length, hme]; exact hm)
      rw [this]; show some (Value.int .i64 (gi _ _)) = _; rw [hme, gi_nxRow hm]; rfl
    have f1 := hnx.frozen m
    have hrl : rowN p k ≤ n := rowN_le hk
    obtain ⟨r, hr⟩ : ∃ r, r = rowN p k := ⟨_, rfl⟩
    have b1 := hbox.cell
    rw [Hn.out] at b1
    have c2 := hout.cell (j := r) 0 (by rw [lkTo_length, Hn.out, hr]; omega)
    have f2 := hout.frozen r
    have hlk := lkB_le bs (by rw [Hn.out]; exact hn) k (by rw [Hn.out]; omega)
    have hstep : Hid (∀ q, KeepsFrom (S + 4) W (((W.drewN q).setCell ⟨S + 1, r, none⟩ (.int .i64 (lkB bs k))).setCell ⟨S, m, none⟩ (.int .i64 (lkB bs k + 1))) ∧ boxKp w.heap.size (S + 3) W (((W.drewN q).setCell ⟨S + 1, r, none⟩ (.int .i64 (lkB bs k))).setCell ⟨S, m, none⟩ (.int .i64 (lkB bs k + 1))) ∧ LinkI w S p bs (k + 1) (((W.drewN q).setCell ⟨S + 1, r, none⟩ (.int .i64 (lkB bs k))).setCell ⟨S, m, none⟩ (.int .i64 (lkB bs k + 1)))) := fun q => by
      rw [hr, hme]
      exact HI.out.step hw0 (by rw [Hn.out]; exact hk) q
    rw [← hme] at hm ⊢
    rw [← hr] at hrl ⊢
    clear hnx hout hbox hme hr HI
    obtain ⟨x, hx'⟩ : ∃ x, x = lkB bs k := ⟨_, rfl⟩
    rw [← hx'] at c1 hlk hstep
    clear hx'
    gi_wp2
    refine wpIn_round_tail 6 (by kernel_rfl) (by kernel_rfl) (by kernel_rfl) ?_
    simp only [List.take_succ_cons, List.take_zero, List.drop_succ_cons, List.drop_zero]
    repeat (go_big_quiet_step (fail))
    refine wpQuiet_nil ?_
    intro _ hw'
    obtain ⟨nq, hw''⟩ := hw'
    subst hw''
    go_wp2_with fail
    refine ⟨rfl, ?_⟩
    gi_wp2
    rw [Hs3.out]
    exact hstep.out nq
end Go.Proofs.YtohadkmaemmfgaaGreatDoor.Bwt
namespace Go.Proofs.YtohadkmaemmfgaaGreatDoor.Bwt
open Go.RowKit Go.Proofs
set_option linter.unusedVariables false
theorem cntTo_full (bs : List UInt8) (d : Nat) : cntTo bs bs.length d = ((bs.map UInt8.toNat).count d : Nat) := by unfold cntTo; rw [List.take_length]
def lessN (bs : List UInt8) (d : Nat) : Nat := bs.countP (fun b => decide (b.toNat < d))
theorem lessN_succ (bs : List UInt8) (d : Nat) : lessN bs (d + 1) = lessN bs d + (bs.map UInt8.toNat).count d := by
  unfold lessN
  induction bs with
  | nil => rfl
  | cons b bs ih =>
    rw [List.countP_cons, List.countP_cons, List.map_cons, List.count_cons, ih]
    by_cases h : b.toNat < d
    · have h1 : ¬ b.toNat = d := by omega
      have h2 : b.toNat < d + 1 := by omega
      simp [h, h1, h2]; omega
    · by_cases h1 : b.toNat = d
      · simp [h1]; omega
      · have h2 : ¬ b.toNat < d + 1 := by omega
        simp [h, h1, h2]
theorem stB_eq (bs : List UInt8) : ∀ d, stB bs d = 1 + (lessN bs d : Int)
  | 0 => by simp [stB, lessN]
  | d + 1 => by rw [stB, stB_eq bs d, lessN_succ, cntTo_full]; push_cast; omega
theorem lessN_mono (bs : List UInt8) {d e : Nat} (h : d ≤ e) : lessN bs d ≤ lessN bs e := by
  unfold lessN
  exact List.countP_mono_left fun b _ hb => by simp at hb ⊢; omega
theorem lessN_le (bs : List UInt8) (d : Nat) : lessN bs d ≤ bs.length := List.countP_le_length
def sameN (bs : List UInt8) (k d : Nat) : Nat := ((bs.take k).map UInt8.toNat).count d
theorem sameN_eq (bs : List UInt8) (k d : Nat) : cntTo bs k d = (sameN bs k d : Int) := rfl
theorem sameN_next {bs : List UInt8} {k : Nat} (hk : k < bs.length) (d : Nat) : sameN bs (k + 1) d = sameN bs k d + if bn bs k = d then 1 else 0 := by
  have := cntTo_next hk d
  rw [sameN_eq, sameN_eq] at this
  split at this <;> simp_all <;> omega
theorem sameN_mono {bs : List UInt8} {d i : Nat} : ∀ {j : Nat}, i ≤ j → j ≤ bs.length → sameN bs i d ≤ sameN bs j d
  | 0, h, _ => by obtain rfl : i = 0 := by omega
                  exact Nat.le_refl _
  | j + 1, h, hj => by
    rcases Nat.lt_or_ge i (j + 1) with h1 | h1
    · have := sameN_mono (bs := bs) (d := d) (i := i) (j := j) (by omega) (by omega)
      rw [sameN_next (by omega)]; omega
    · obtain rfl : i = j + 1 := by omega
      exact Nat.le_refl _
def lkN (bs : List UInt8) (k : Nat) : Nat := 1 + lessN bs (bn bs k) + sameN bs k (bn bs k)
theorem lkB_eq (bs : List UInt8) (k : Nat) : lkB bs k = (lkN bs k : Int) := by unfold lkB nxB lkN; rw [stB_eq, sameN_eq]; push_cast; omega
theorem same_lt {bs : List UInt8} {i j : Nat} (hij : i < j) (hj : j ≤ bs.length) : sameN bs i (bn bs i) < sameN bs j (bn bs i) := by
  have h1 := sameN_next (bs := bs) (k := i) (by omega) (bn bs i)
  rw [if_pos rfl] at h1
  have h2 := sameN_mono (bs := bs) (d := bn bs i) (i := i + 1) (j := j) (by omega) hj
  omega
theorem lkN_lt_less {bs : List UInt8} {i : Nat} (hi : i < bs.length) : lkN bs i < 1 + lessN bs (bn bs i + 1) := by
  have h1 := same_lt hi (Nat.le_refl bs.length)
  have h2 := lessN_succ bs (bn bs i)
  have h3 : sameN bs bs.length (bn bs i) = (bs.map UInt8.toNat).count (bn bs i) := by unfold sameN; rw [List.take_length]
  unfold lkN
  omega
theorem lkN_less {bs : List UInt8} {i j : Nat} (hi : i < bs.length) (h : bn bs i < bn bs j) : lkN bs i < lkN bs j := by
  have h1 := lkN_lt_less hi
  have h2 := lessN_mono bs (d := bn bs i + 1) (e := bn bs j) (by omega)
  have : 1 + lessN bs (bn bs j) ≤ lkN bs j := by unfold lkN; omega
  omega
theorem lkN_same {bs : List UInt8} {i j : Nat} (hj : j < bs.length) (h : bn bs i = bn bs j) (hij : i < j) : lkN bs i < lkN bs j := by
  have h1 := same_lt hij (Nat.le_of_lt hj)
  unfold lkN
  rw [← h]
  omega
theorem lkN_le {bs : List UInt8} {i : Nat} (hi : i < bs.length) : 1 ≤ lkN bs i ∧ lkN bs i ≤ bs.length := by
  have h1 := lkN_lt_less hi
  have h2 := lessN_le bs (bn bs i + 1)
  unfold lkN at h1 ⊢
  omega
def lk (p : Nat) (bs : List UInt8) (r : Nat) : Nat := if r = p then 0 else lkN bs (rowI p r)
theorem rowI_lt {p r n : Nat} (hp : p ≤ n) (hr : r ≤ n) (h : r ≠ p) : rowI p r < n := by unfold rowI; split <;> omega
theorem gi_lkAll {p : Nat} {bs : List UInt8} {r : Nat} (hp : p ≤ bs.length) (hr : r ≤ bs.length) : gi (lkAll p bs) r = (lk p bs r : Int) := by
  unfold lkAll
  rw [gi_lkTo hr]
  unfold lkR lk
  by_cases h : r = p
  · rw [if_pos h, if_pos h]; rfl
  · rw [if_neg h, if_neg h, if_pos (rowI_lt hp hr h), lkB_eq]
theorem lkAll_eq {p : Nat} {bs : List UInt8} (hp : p ≤ bs.length) : lkAll p bs = (List.range (bs.length + 1)).map fun r => (lk p bs r : Int) := by
  apply List.ext_getElem
  · simp [lkAll, lkTo]
  intro i h1 h2
  have hi : i ≤ bs.length := by simp at h2; omega
  have := gi_lkAll (r := i) hp hi
  rw [gi_get h1] at this
  rw [this]; simp
theorem lk_le {p : Nat} {bs : List UInt8} (hp : p ≤ bs.length) {r : Nat} (hr : r ≤ bs.length) : lk p bs r ≤ bs.length := by
  unfold lk
  split
  · omega
  · rename_i h; exact (lkN_le (rowI_lt hp hr h)).2
theorem lk_pos {p : Nat} {bs : List UInt8} (hp : p ≤ bs.length) {r : Nat} (hr : r ≤ bs.length) (h : r ≠ p) : 1 ≤ lk p bs r := by
  unfold lk
  rw [if_neg h]
  exact (lkN_le (rowI_lt hp hr h)).1
theorem lkN_inj {bs : List UInt8} {i j : Nat} (hi : i < bs.length) (hj : j < bs.length) (h : lkN bs i = lkN bs j) : i = j := by
  rcases Nat.lt_trichotomy i j with h1 | h1 | h1
  · rcases Nat.lt_trichotomy (bn bs i) (bn bs j) with h2 | h2 | h2
    · have := lkN_less hi h2; omega
    · have := lkN_same hj h2 h1; omega
    · have := lkN_less hj h2; omega
  · exact h1
  · rcases Nat.lt_trichotomy (bn bs i) (bn bs j) with h2 | h2 | h2
    · have := lkN_less hi h2; omega
    · have := lkN_same hi h2.symm h1; omega
    · have := lkN_less hj h2; omega
theorem rowI_inj {p r s : Nat} (hr : r ≠ p) (hs : s ≠ p) (h : rowI p r = rowI p s) : r = s := by rw [← rowN_rowI hr, ← rowN_rowI hs, h]
theorem lk_inj {p : Nat} {bs : List UInt8} (hp : p ≤ bs.length) {r s : Nat} (hr : r ≤ bs.length) (hs : s ≤ bs.length) (h : lk p bs r = lk p bs s) : r = s := by
  by_cases h1 : r = p
  · by_cases h2 : s = p
    · rw [h1, h2]
    · have := lk_pos hp hs h2
      rw [← h, h1] at this
      simp [lk] at this
  · by_cases h2 : s = p
    · have := lk_pos hp hr h1
      rw [h, h2] at this
      simp [lk] at this
    · refine rowI_inj h1 h2 (lkN_inj (rowI_lt hp hr h1) (rowI_lt hp hs h2) ?_)
      unfold lk at h
      rwa [if_neg h1, if_neg h2] at h
def itR (p : Nat) (bs : List UInt8) : Nat → Nat
  | 0 => 0
  | k + 1 => lk p bs (itR p bs k)
theorem itR_le {p : Nat} {bs : List UInt8} (hp : p ≤ bs.length) : ∀ k, itR p bs k ≤ bs.length
  | 0 => Nat.zero_le _
  | k + 1 => lk_le hp (itR_le hp k)
theorem itR_back {p : Nat} {bs : List UInt8} (hp : p ≤ bs.length) : ∀ {i j : Nat}, i ≤ j → itR p bs i = itR p bs j → itR p bs (j - i) = 0
  | 0, j, _, h => by rw [Nat.sub_zero, ← h]; rfl
  | i + 1, 0, h, _ => by omega
  | i + 1, j + 1, h, he => by
    have := itR_back hp (i := i) (j := j) (by omega) (lk_inj hp (itR_le hp i) (itR_le hp j) he)
    rwa [show j + 1 - (i + 1) = j - i by omega]
theorem itR_fresh {p : Nat} {bs : List UInt8} (hp : p ≤ bs.length) {m : Nat} (h : ∀ k, k < m → itR p bs k ≠ p) {i j : Nat} (hij : i < j) (hj : j ≤ m) : itR p bs i ≠ itR p bs j := fun he => by
  have h0 := itR_back hp (Nat.le_of_lt hij) he
  obtain ⟨d, hd⟩ : ∃ d, j - i = d + 1 := ⟨j - i - 1, by omega⟩
  rw [hd] at h0
  have := lk_pos hp (itR_le hp d) (h d (by omega))
  have e : itR p bs (d + 1) = lk p bs (itR p bs d) := rfl
  omega
theorem itR_nodup {p : Nat} {bs : List UInt8} (hp : p ≤ bs.length) {m : Nat} (h : ∀ k, k < m → itR p bs k ≠ p) : ((List.range (m + 1)).map (itR p bs)).Nodup := by
  rw [List.Nodup, List.pairwise_iff_getElem]
  intro i j hi hj hij
  simp only [List.getElem_map, List.getElem_range]
  exact itR_fresh hp h hij (by simp at hj; omega)
def firstN (f : Nat → Bool) : Nat → Nat → Nat
  | 0, k => k
  | m + 1, k => if f k = true then firstN f m (k + 1) else k
theorem firstN_spec (f : Nat → Bool) : ∀ m k, (∀ i, k ≤ i → i < firstN f m k → f i = true) ∧ (firstN f m k < k + m → f (firstN f m k) = false)
  | 0, k => ⟨fun i h1 h2 => by unfold firstN at h2; omega, fun h => by unfold firstN at h; omega⟩
  | m + 1, k => by
    unfold firstN
    by_cases hf : f k = true
    · rw [if_pos hf]
      obtain ⟨h1, h2⟩ := firstN_spec f m (k + 1)
      refine ⟨fun i hi hlt => ?_, fun h => h2 (by omega)⟩
      rcases Nat.lt_or_ge k i with h | h
      · exact h1 i h hlt
      · obtain rfl : i = k := by omega
        exact hf
    · rw [if_neg hf]
      exact ⟨fun i hi hlt => by omega, fun _ => by simpa using hf⟩
def wl (p : Nat) (bs : List UInt8) : Nat := firstN (fun k => decide (itR p bs k ≠ p)) (bs.length + 1) 0
theorem wl_ne {p : Nat} {bs : List UInt8} {k : Nat} (hk : k < wl p bs) : itR p bs k ≠ p := by
  have := (firstN_spec (fun k => decide (itR p bs k ≠ p)) (bs.length + 1) 0).1 k (Nat.zero_le _) hk
  simpa using this
theorem wl_le {p : Nat} {bs : List UInt8} (hp : p ≤ bs.length) : wl p bs ≤ bs.length := by
  have h1 := itR_nodup hp (m := wl p bs) (fun k hk => wl_ne hk)
  have h2 := nodup_le (bs.length + 1) _ h1 (fun x hx => by obtain ⟨k, _, rfl⟩ := List.mem_map.1 hx; have := itR_le hp k; omega)
  simp at h2
  exact h2
theorem wl_at {p : Nat} {bs : List UInt8} (hp : p ≤ bs.length) : itR p bs (wl p bs) = p := by
  have := (firstN_spec (fun k => decide (itR p bs k ≠ p)) (bs.length + 1) 0).2 (by have := wl_le hp; unfold wl at this; omega)
  simpa [wl] using this
def by8 (p : Nat) (bs : List UInt8) (r : Nat) : UInt8 := bs.getD (rowI p r) 0
def backTo (p : Nat) (bs : List UInt8) (k : Nat) : List UInt8 := (List.range k).map fun i => by8 p bs (itR p bs i)
def backL (p : Nat) (bs : List UInt8) : List UInt8 := backTo p bs (wl p bs)
def invL (p : Nat) (bs : List UInt8) : List UInt8 := if wl p bs < bs.length then [] else (backL p bs).reverse
def invE (p : Nat) (bs : List UInt8) : Int := if wl p bs < bs.length then 3 else 0
theorem backTo_length (p : Nat) (bs : List UInt8) (k : Nat) : (backTo p bs k).length = k := by simp [backTo]
theorem backTo_next (p : Nat) (bs : List UInt8) (k : Nat) : backTo p bs (k + 1) = backTo p bs k ++ [by8 p bs (itR p bs k)] := by simp [backTo, List.range_succ]
theorem byteR_eq (bs : List UInt8) (p r : Nat) : byteR bs p r = ((by8 p bs r).toNat : Int) := by
  unfold byteR by8 rowI gb
  split <;> rfl
end Go.Proofs.YtohadkmaemmfgaaGreatDoor.Bwt
namespace Go.Proofs.YtohadkmaemmfgaaGreatDoor.Bwt
open Go.RowKit Go.Proofs Go.Shelf
set_option linter.unusedVariables false
attribute [local go_sem] Oper.semAt_some
def walkKp (n0 bx : Nat) (X Y : World) : Prop := Y.heap[bx]? = X.heap[bx]? ∧ Below n0 X Y ∧ ∀ (g : Nat) (cs : Array Value) (fr : Nat × Nat), X.heap[g]? = some (.cells cs 3 fr) → Y.heap[g]? = X.heap[g]?
def growAb (X Y : World) : Prop := Below X.heap.size X Y
def walkRow (p : Nat) (bs : List UInt8) (k : Nat) : Array Value := #[.int .i64 (itR p bs k : Int)]
def itIx (p : Nat) (bs : List UInt8) (r : Nat) : Nat := firstN (fun k => decide (itR p bs k ≠ r)) (bs.length + 1) 0
theorem itIx_at {p : Nat} {bs : List UInt8} (hp : p ≤ bs.length) {k : Nat} (hk : k ≤ wl p bs) : itIx p bs (itR p bs k) = k := by
  have hs := firstN_spec (fun j => decide (itR p bs j ≠ itR p bs k)) (bs.length + 1) 0
  have hw := wl_le hp
  have hle : itIx p bs (itR p bs k) ≤ k := by
    rcases Nat.lt_or_ge k (itIx p bs (itR p bs k)) with h | h
    · have := hs.1 k (Nat.zero_le _) h
      simp at this
    · exact h
  have he := hs.2 (by unfold itIx at hle; omega)
  have he' : itR p bs (itIx p bs (itR p bs k)) = itR p bs k := by have := of_decide_eq_false he; exact Decidable.not_not.1 this
  clear he
  rcases Nat.lt_or_ge (itIx p bs (itR p bs k)) k with h | h
  · exact absurd he' (itR_fresh hp (m := wl p bs) (fun k hk => wl_ne hk) h hk)
  · omega
theorem walk_any (A : Option Addr) (n c p : Nat) (w : World) :
    Calls Tryz.prog 228 #[rowsV A n c p] w fun e w' => e = .returned (.func (.func 270) #[] #[.pointer (some ⟨w.heap.size, 0, none⟩)]) ∧ w' = w.alloc (.cells #[.slice A n c, .int .i64 (p : Int)] 195) := by
  unfold rowsV
  go_enter Tryz.func228, Tryz.ntmps228
  go_wp2_with fail
  go_ret
  exact ⟨rfl, rfl⟩
theorem walk1_gives (w0 : World) (A : Option Addr) (n c p : Nat) (bs : List UInt8) (hx : Bytes w0 A n c bs) (hn : n ≤ 65536) (hp : p ≤ n) (bx : Nat) (hbx : w0.heap.size ≤ bx) :
    Gives Tryz.prog 270 #[.pointer (some ⟨bx, 0, none⟩)] (walkRow p bs) (wl p bs) growAb (walkKp w0.heap.size bx) (fun W => BoxR W bx A n c p ∧ Below w0.heap.size w0 W) := by
  intro l J Jx W ⟨hbox, hbel⟩ hJ hJx hY h0
  have HY := Lib.hid hY; clear hY
  have Hn := Lib.hid hx.1
  have hp' : Hid (p ≤ bs.length) := by show _ ≤ _; rw [Hn.out]; exact hp
  have b0 : W.cell? ⟨bx, 0, none⟩ = some (.slice A n c) := hbox.cell (j := 0) undef (by simp)
  have b1 : W.cell? ⟨bx, 1, none⟩ = some (.int .i64 (p : Int)) := hbox.cell (j := 1) undef (by simp)
  have hcal := links_any A n c p bs W (hx.below hbel) hn hp
  unfold rowsV at hcal
  have Hcal := Lib.hid hcal; clear hcal
  refine callsIn_of_wp Tryz.func270 rfl trivial ?_ rfl
  simp only [Tryz.ntmps270, List.size_toArray, List.length_cons, List.length_nil, Nat.reduceAdd, Nat.reduceSub, Array.replicate_succ, Array.replicate_zero, List.push_toArray, List.append_toArray, List.nil_append, List.cons_append]
  gi_wp2_with (refine ⟨trivial, ?_⟩; gi_at_call 271; refine (callsIn_wide.2 Hcal.out).mono ?_; rintro e w1 ⟨g, rfl, hrow, hb1⟩)
  have hJ1 : J 0 w1 := hJ _ _ _ h0 hb1
  have hbox1 : BoxR w1 bx A n c p := hbox.below hb1 hbox.lt
  have hbel1 : Below w0.heap.size w0 w1 := hbel.trans (hb1.mono hbel.size)
  clear b0 b1 hbox hbel h0 hb1 Hcal
  gi_loopw [4] (fun i wr => ∃ k : Nat, k ≤ wl p bs ∧ i = .int .i64 (itR p bs k : Int) ∧ J k wr ∧ BoxR wr bx A n c p ∧ Row (Value.int .i64) wr g 3 (lkAll p bs) ∧ Below w0.heap.size w0 wr ∧ Hid (k ≤ n)) (fun i _ => wl p bs + 1 - itIx p bs (intOf i).toNat)
  case atStart => exact ⟨0, by omega, rfl, hJ1, hbox1, hrow, hbel1, Nat.zero_le _⟩
  case round =>
    clear hJ1 hbox1 hrow hbel1
    obtain ⟨k, hk, rfl, hJk, hbox, hrow, hbel, hkn⟩ := hrel
    have b1 : wr.cell? ⟨bx, 1, none⟩ = some (.int .i64 (p : Int)) := hbox.cell (j := 1) undef (by simp)
    by_cases hlt : k < wl p bs
    · have hne := wl_ne hlt
      have hr : itR p bs k ≤ n := by rw [← Hn.out]; exact itR_le hp'.out k
      have c1 := hrow.cell (j := itR p bs k) 0 (by unfold lkAll; rw [lkTo_length, Hn.out]; omega)
      have c2 : (lkAll p bs).getD (itR p bs k) 0 = (itR p bs (k + 1) : Int) := by show gi _ _ = _; rw [gi_lkAll hp'.out (by rw [Hn.out]; exact hr)]; rfl
      rw [c2] at c1
      clear c2
      have i1 := itIx_at hp'.out (Nat.le_of_lt hlt)
      have i2 := itIx_at hp'.out hlt
      have HI := Lib.hid (And.intro i1 i2); clear i1 i2
      have hy0 := HY.out k wr hlt hJk
      unfold walkRow at hy0
      obtain ⟨r', hr'⟩ : ∃ r', r' = itR p bs (k + 1) := ⟨_, rfl⟩
      obtain ⟨r, hr0⟩ : ∃ r, r = itR p bs k := ⟨_, rfl⟩
      rw [← hr'] at c1 HI
      rw [← hr0] at c1 hy0 hr hne HI ⊢
      have Hr' := Lib.hid hr'; clear hr'
      clear hr0
      have d1 : ((r : Int) != (p : Int)) = true := by simp; omega
      have d2 : (r != p) = true := by simp; exact hne
      obtain ⟨fn, tmps, assign, body, hy, hR⟩ := hy0
      gi_wp2
      refine hR.mono ?_
      rintro e W3 (⟨rfl, hJ3, hk3⟩ | ⟨rfl, hJx3⟩)
      · have hrow3 : Row (Value.int .i64) W3 g 3 (lkAll p bs) := (hk3.2.2 _ _ _ hrow).trans hrow
        have c3 := hrow3.cell (j := r) 0 (by unfold lkAll; rw [lkTo_length, Hn.out]; omega)
        have c4 : (lkAll p bs).getD r 0 = (r' : Int) := by
          have := hrow.cell (j := r) 0 (by unfold lkAll; rw [lkTo_length, Hn.out]; omega)
          rw [c1] at this
          injection this with this
          injection this with _ this
          exact this.symm
        rw [c4] at c3
        clear hR hy c1 c4
        gi_wp2
        go_roundw
        case rel => exact ⟨k + 1, hlt, by rw [Hr'.out], hJ3, hk3.1.trans hbox, hrow3, hbel.trans hk3.2.1, by have := wl_le hp'.out; have := Hn.out; show _ ≤ _; omega⟩
        case measure => simp only [intOf, Int.toNat_natCast]; rw [HI.out.1, HI.out.2]; omega
      · clear hR hy
        gi_wp2
        go_end0
        exact ⟨⟨_, rfl⟩, .inr ⟨k + 1, hlt, hJx3⟩⟩
    · obtain rfl : k = wl p bs := by omega
      rw [wl_at hp'.out]
      gi_wp2
      refine ⟨fun _ h => (nomatch h), ?_⟩
      gi_wp2
      first | go_end0 | trace_state
      exact ⟨⟨_, rfl⟩, .inl hJk⟩
end Go.Proofs.YtohadkmaemmfgaaGreatDoor.Bwt
