/- Bd Bk Be Bp Bf. -/
import Derived.Test.YtohadkmaemmfgaaGreatDoorRA15
import Derived.Sort.QuietIn
import Derived.Sort.CutIn
import Derived.Test.YtohadkmaemmfgaaGreatDoorProg
import Derived.Test.YtohadkmaemmfgaaGreatDoorRA14
import Derived.Test.YtohadkmaemmfgaaGreatDoorRA09
import Derived.WalkLawsBesides
import Derived.Shelf.Abstract
set_option maxRecDepth 100000
set_option maxHeartbeats 4000000
namespace Go.Proofs.YtohadkmaemmfgaaGreatDoor.Bwt
open Go.RowKit Go.Proofs
set_option linter.unusedVariables false
attribute [local go_sem] Oper.semAt_some
def BoxR (W : World) (bx : Nat) (A : Option Addr) (n c p : Nat) : Prop := Row id W bx 195 [.slice A n c, .int .i64 (p : Int)]
end Go.Proofs.YtohadkmaemmfgaaGreatDoor.Bwt
namespace Go.Proofs.YtohadkmaemmfgaaGreatDoor.Bwt
open Go.RowKit Go.Proofs Go.Shelf
set_option linter.unusedVariables false
attribute [local go_sem] Oper.semAt_some
def encB (b : UInt8) : Value := .int .u8 (b.toNat : Int)
theorem encB_one (s : UInt8) : (encB s).oneCell' = true := rfl
theorem infoB : (Tryz.prog.info? 5).map (fun i => (i.zero, i.size, i.bytes)) = some (some (encB 0), 1, 1) := by kernel_rfl
theorem _root_.Go.Proofs.YtohadkmaemmfgaaGreatDoor.Own.bytesBBwt {w : World} {B : Nat} {e : TypeId} {A : Option Addr} {n c : Nat} {bs : List UInt8} (h : Own encB w B e A n c bs) : Bytes w A n c bs := ⟨h.length, h.cap, h.cells 0⟩
section
variable {α : Type} {enc : α → Value} {P : Program} {w : World} {B : Nat} {e t : TypeId} {A : Option Addr} {n c : Nat} {xs : List α} {zero : α} {bytes : Nat}
  {ops : Array Oper} {rest : List Oper} {o : Oper} {a : Act} {K : Act → World → Prop} {Q : Exit → Act → World → Prop} {E : Prop}
theorem wpList_pushv (hgd : o.guard = none) (s x : Operand) (ho : o.op = .call { callee := .builtin .append, args := #[s, x], argTypes := #[t, t] })
    (ht : P.underlying t = some (.slice e)) (hi : (P.info? e).map (fun i => (i.zero, i.size, i.bytes)) = some (some (enc zero), 1, bytes)) (h1 : ∀ x, (enc x).oneCell' = true) (hz : (enc zero).cells.size = 1)
    (hs : a.eval s = .slice A n c) (hown : Own enc w B e A n c xs) (hB : B ≤ w.heap.size) (y : α) (v : Value) (hv : enc y = v)
    (hx : a.eval x = .slice (some ⟨w.heap.size, 0, none⟩) 1 1) (hl : n + 1 ≤ maxLen) (hby : (n + 1) * bytes ≤ 140737488355328)
    (h : ∀ A2 c2 w', Own enc w' B e A2 (n + 1) c2 (xs ++ [y]) → Below B w w' → wpList P ops Q rest (a.put o.dst (.slice A2 (n + 1) c2)) w') : wpList P ops Q (o :: rest) a (w.alloc (.cells #[v] e)) := by
  subst hv
  exact wpList_push hgd s x ho ht hi h1 hz hs hown hB y hx hl hby h
end
def RetBytes (w : World) (bs : List UInt8) (x : Int) (e : Ending) (w' : World) : Prop := ∃ A n c, e = .returned (.tuple #[.slice A n c, .int .i64 x]) ∧ Bytes w' A n c bs ∧ Below w.heap.size w w'
theorem Bytes.nil (w : World) (c : Nat) : Bytes w none 0 c [] := ⟨rfl, Nat.zero_le _, fun h => absurd h (by omega)⟩
theorem RetBytes.mk {w w' : World} {bs : List UInt8} {x x' : Int} {A : Option Addr} {n c : Nat} (hx : x = x') (h : Bytes w' A n c bs) (hb : Below w.heap.size w w') : RetBytes w bs x' (.returned (.tuple #[.slice A n c, .int .i64 x])) w' := by
  subst hx
  exact ⟨A, n, c, rfl, h, hb⟩
theorem RetBytes.err {w w' : World} {x x' : Int} (hx : x = x') (hb : Below w.heap.size w w') : RetBytes w [] x' (.returned (.tuple #[.slice none 0 0, .int .i64 x])) w' := RetBytes.mk hx (Bytes.nil _ _) hb
def Kept (B : Nat) (X Y : World) : Prop := Below B X Y ∧ KeepsFrom B X Y
theorem Kept.refl (B : Nat) (X : World) : Kept B X X := ⟨Below.refl _ _, KeepsFrom.refl _ _⟩
theorem Kept.trans {B : Nat} {X Y Z : World} (h : Kept B X Y) (h' : Kept B Y Z) : Kept B X Z := ⟨h.1.trans h'.1, h.2.trans h'.2⟩
theorem Kept.alloc {B : Nat} {X : World} (o : Obj) (hB : B ≤ X.heap.size) : Kept B X (X.alloc o) :=
  ⟨(Below.refl _ _).alloc hB _, ⟨by simp, fun k o' _ hk _ => (Below.heap_alloc X o k (Array.getElem?_eq_some_iff.1 hk).1).trans hk⟩⟩
theorem Kept.of_own {α : Type} {enc : α → Value} {B : Nat} {X Y : World} {e : TypeId} {A : Option Addr} {n c : Nat} {xs : List α} (hown : Own enc X B e A n c xs) (hB : B ≤ X.heap.size) (hg : X.grownBy Y (Value.slice A n c).ownBlock) : Kept B X Y := by
  refine ⟨(Below.refl B X).grown hg hB (fun k hk => (World.ownsRow.lt hown k hk).1), hg.size, fun k o _ hk ho => (hg.block k (Array.getElem?_eq_some_iff.1 hk).1 (fun e => ?_)).trans hk⟩
  rcases hown.2 with ⟨h1, _⟩ | ⟨g, cap, cur, h1, _, h3, _⟩
  · rw [h1] at e; cases e
  · rw [h1] at e
    injection e with e
    have e' : k = g := e
    subst e'
    rw [h3] at hk
    injection hk with hk
    subst hk
    cases ho
theorem _root_.Go.Proofs.YtohadkmaemmfgaaGreatDoor.Own.keepBwt {α : Type} {enc : α → Value} {X Y : World} {B : Nat} {e : TypeId} {A : Option Addr} {n c : Nat} {xs : List α} (h : Own enc X B e A n c xs) (hb : ∀ g o, B ≤ g → X.heap[g]? = some o → o.isCells = true → Y.heap[g]? = some o) : Own enc Y B e A n c xs := by
  refine ⟨h.1, ?_⟩
  rcases h.2 with h1 | ⟨g, cap, cur, h1, h2, h3, h4⟩
  · exact .inl h1
  · exact .inr ⟨g, cap, cur, h1, h2, hb g _ h2 h3 rfl, h4⟩
theorem Boxed.below' {W W' : World} {B N : Nat} {t : TypeId} {v : Value} (h : Boxed W B t v) (hb : Below N W W') (hlt : B < N) : Boxed W' B t v := (hb.block B hlt).trans h
theorem KeepsFrom.setCell' {B : Nat} {X Y : World} (h : KeepsFrom B X Y) {p : Addr} (hp : p.block < B) (v : Value) : KeepsFrom B X (Y.setCell p v) :=
  ⟨by simpa [World.setCell] using h.size, fun k o hB hk ho => (Below.heap_setCell Y p v k (by omega)).trans (h.same k o hB hk ho)⟩
theorem KeepsFrom.alloc' (B : Nat) (X : World) (o : Obj) : KeepsFrom B X (X.alloc o) :=
  ⟨by simp, fun k o' _ hk _ => (Below.heap_alloc X o k (Array.getElem?_eq_some_iff.1 hk).1).trans hk⟩
theorem Kept.drewN (B : Nat) (X : World) (q : Nat) : Kept B X (X.drewN q) := ⟨(Drawn.drewN _ _).below _, ⟨Nat.le_refl _, fun _ _ _ h _ => h⟩⟩
section
variable {α : Type} {enc : α → Value} {P : Program} {w : World} {B : Nat} {e t : TypeId} {A : Option Addr} {n c : Nat} {xs : List α} {zero : α} {bytes : Nat} {F : Fence} {nF : Nat}
  {ops : Array Oper} {rest : List Oper} {o : Oper} {a : Act} {K : Act → World → Prop} {Q : Exit → Act → World → Prop} {E : Prop}
theorem wpListIn_app (hgd : o.guard = none) (s x : Operand) (ho : o.op = .call { callee := .builtin .append, args := #[s, x], argTypes := #[t, t] })
    (ht : P.underlying t = some (.slice e)) (hi : (P.info? e).map (fun i => (i.zero, i.size, i.bytes)) = some (some (enc zero), 1, bytes)) (h1 : ∀ x, (enc x).oneCell' = true) (hz : (enc zero).cells.size = 1)
    (hs : a.eval s = .slice A n c) (hown : Own enc w B e A n c xs) (hB : B ≤ w.heap.size) (A' : Option Addr) (m c' : Nat) (ys : List α) (d : α) (hm : ys.length = m) (hsrc : Cells w A' m (fun i => enc (ys.getD i d)))
    (hx : a.eval x = .slice A' m c') (hl : n + m ≤ maxLen) (hby : (n + m) * bytes ≤ 140737488355328)
    (h : ∀ A2 c2 w', Own enc w' B e A2 (n + m) c2 (xs ++ ys) → Kept B w w' → wpListIn F nF P ops Q rest (a.put o.dst (.slice A2 (n + m) c2)) w') : wpListIn F nF P ops Q (o :: rest) a w := by
  refine wpListIn_plain hgd fun K' hK' => ?_
  obtain ⟨A2, c2, w', hrun, h2, h3, h4⟩ := run_append_own_any (P := P) o.type ht hi h1 hz hown hB A' m c' ys d hm hsrc hl hby
  unfold Oper.wpIn
  refine ⟨by simp [Oper.about, ho, resolve, Target.leads, Sem.run_pure], ?_⟩
  rw [Oper.semAt_plain F _ _ (by rw [ho]; intro c hc'; cases hc')]
  simp [execOp, ho, resolve, invoke, builtin, hs, hx, hrun, Result.andThen]
  exact hK' _ _ (h A2 c2 w' h2 (Kept.of_own hown hB h4))
theorem wpListIn_pushv (hgd : o.guard = none) (s x : Operand) (ho : o.op = .call { callee := .builtin .append, args := #[s, x], argTypes := #[t, t] })
    (ht : P.underlying t = some (.slice e)) (hi : (P.info? e).map (fun i => (i.zero, i.size, i.bytes)) = some (some (enc zero), 1, bytes)) (h1 : ∀ x, (enc x).oneCell' = true) (hz : (enc zero).cells.size = 1)
    (hs : a.eval s = .slice A n c) (hown : Own enc w B e A n c xs) (hB : B ≤ w.heap.size) (y : α) (v : Value) (hv : enc y = v)
    (hx : a.eval x = .slice (some ⟨w.heap.size, 0, none⟩) 1 1) (hl : n + 1 ≤ maxLen) (hby : (n + 1) * bytes ≤ 140737488355328)
    (h : ∀ A2 c2 w', Own enc w' B e A2 (n + 1) c2 (xs ++ [y]) → Kept B w w' → wpListIn F nF P ops Q rest (a.put o.dst (.slice A2 (n + 1) c2)) w') : wpListIn F nF P ops Q (o :: rest) a (w.alloc (.cells #[v] e)) := by
  subst hv
  have hb0 : Below w.heap.size w (w.alloc (.cells #[enc y] e)) := (Below.refl _ _).alloc (Nat.le_refl _) _
  refine wpListIn_app hgd s x ho ht hi h1 hz hs (hown.below hb0) (by simp; omega) (some ⟨w.heap.size, 0, none⟩) 1 1 [y] y rfl (fun _ => ⟨w.heap.size, 0, rfl, by simp, fun i hi => by
    obtain rfl : i = 0 := by omega
    simp⟩) hx hl hby (fun A2 c2 w' g1 g2 => h A2 c2 w' g1 ((Kept.alloc _ hB).trans g2))
end
end Go.Proofs.YtohadkmaemmfgaaGreatDoor.Bwt
namespace Go.Proofs.YtohadkmaemmfgaaGreatDoor.Bwt
open Go.RowKit Go.Proofs Go.Shelf
set_option linter.unusedVariables false
attribute [local go_sem] Oper.semAt_some
def nxB (bs : List UInt8) (k d : Nat) : Int := stB bs d + cntTo bs k d
def nxRow (bs : List UInt8) (k : Nat) : List Int := (List.range 256).map (nxB bs k)
def lkB (bs : List UInt8) (k : Nat) : Int := nxB bs k (bn bs k)
def rowI (p r : Nat) : Nat := if r < p then r else r - 1
def lkR (p : Nat) (bs : List UInt8) (k r : Nat) : Int := if r = p then 0 else if rowI p r < k then lkB bs (rowI p r) else 0
def lkTo (p : Nat) (bs : List UInt8) (k : Nat) : List Int := (List.range (bs.length + 1)).map (lkR p bs k)
structure LinkI (w : World) (S p : Nat) (bs : List UInt8) (k : Nat) (W : World) : Prop where
  next : Row (Value.int .i64) W S 322 (nxRow bs k)
  out : Row (Value.int .i64) W (S + 1) 3 (lkTo p bs k)
  box : Boxed W (S + 2) 52 (.slice (some ⟨S + 1, 0, none⟩) (bs.length + 1) (bs.length + 1))
  below : Below w.heap.size w W
  size : S + 4 ≤ W.heap.size
theorem LinkI.kept {w W W' : World} {S p : Nat} {bs : List UInt8} {k : Nat} {row : Option Nat} (hS : w.heap.size < S) (h : LinkI w S p bs k W) (hg : W.grownBy W' row) (hrow : ∀ r, row = some r → S + 4 ≤ r) : LinkI w S p bs k W' := by
  have ne : ∀ j, j < S + 4 → some j ≠ row := fun j hj e => by have := hrow j e.symm; omega
  exact ⟨h.next.grown hg (ne _ (by omega)), h.out.grown hg (ne _ (by omega)), h.box.kept hg (ne _ (by omega)), h.below.grown hg h.below.size (fun r e => by have := hrow r e; omega), Nat.le_trans h.size hg.size⟩
end Go.Proofs.YtohadkmaemmfgaaGreatDoor.Bwt
namespace Go.Proofs.YtohadkmaemmfgaaGreatDoor.Bwt
open Go.RowKit Go.Proofs
set_option linter.unusedVariables false
def lessN (bs : List UInt8) (d : Nat) : Nat := bs.countP (fun b => decide (b.toNat < d))
def sameN (bs : List UInt8) (k d : Nat) : Nat := ((bs.take k).map UInt8.toNat).count d
def lkN (bs : List UInt8) (k : Nat) : Nat := 1 + lessN bs (bn bs k) + sameN bs k (bn bs k)
def lk (p : Nat) (bs : List UInt8) (r : Nat) : Nat := if r = p then 0 else lkN bs (rowI p r)
def itR (p : Nat) (bs : List UInt8) : Nat → Nat
  | 0 => 0
  | k + 1 => lk p bs (itR p bs k)
def by8 (p : Nat) (bs : List UInt8) (r : Nat) : UInt8 := bs.getD (rowI p r) 0
def backTo (p : Nat) (bs : List UInt8) (k : Nat) : List UInt8 := (List.range k).map fun i => by8 p bs (itR p bs i)
end Go.Proofs.YtohadkmaemmfgaaGreatDoor.Bwt
namespace Go.Proofs.YtohadkmaemmfgaaGreatDoor.Bwt
open Go.RowKit Go.Proofs Go.Shelf
set_option linter.unusedVariables false
attribute [local go_sem] Oper.semAt_some
end Go.Proofs.YtohadkmaemmfgaaGreatDoor.Bwt
