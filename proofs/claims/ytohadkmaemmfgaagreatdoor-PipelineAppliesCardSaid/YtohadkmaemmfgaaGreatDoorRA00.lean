/- Kit Za Zd Zb. -/
import Derived.WalkKit
import Derived.Deep.QuietTactic
import Derived.BigQuiet
import Derived.Outline
import Derived.Below
import Derived.Lib.Hide
import Derived.Laws.OwnMore
import Derived.Laws.BytesArg
import Derived.Deep.Draws
import Derived.Maps.AppendAt
import Derived.Deep.AppendLies
set_option maxRecDepth 100000
set_option maxHeartbeats 4000000
namespace Go.Proofs.YtohadkmaemmfgaaGreatDoor
open Go.RowKit Go.Proofs
def gi (zs : List Int) (k : Nat) : Int := zs.getD k 0
def gb (bs : List UInt8) (k : Nat) : Int := ((bs.getD k 0).toNat : Int)
theorem gb_lo (bs : List UInt8) (k : Nat) : 0 ≤ gb bs k := by unfold gb; omega
theorem gb_hi (bs : List UInt8) (k : Nat) : gb bs k ≤ 255 := by unfold gb; have := (bs.getD k 0).toNat_lt; omega
theorem ret_bool {a b : Bool} (h : a = b) : Ending.returned (.bool a) = .returned (.bool b) := by rw [h]
theorem ret_int {k : IntKind} {a b : Int} (h : a = b) : Ending.returned (.int k a) = .returned (.int k b) := by rw [h]
def Drawn (w w' : World) : Prop := ∃ q, w' = w.drewN q
theorem Drawn.refl (w : World) : Drawn w w := ⟨0, rfl⟩
theorem Drawn.drewN (w : World) (n : Nat) : Drawn w (w.drewN n) := ⟨n, rfl⟩
theorem Drawn.below {w w' : World} (h : Drawn w w') (B : Nat) : Below B w w' := by
  obtain ⟨q, rfl⟩ := h
  exact ⟨rfl, rfl, rfl, Nat.le_refl _, fun _ _ => rfl⟩
def Cells (w : World) (A : Option Addr) (n : Nat) (f : Nat → Value) : Prop :=
  0 < n → ∃ b off, A = some ⟨b, off, none⟩ ∧ b < w.heap.size ∧ ∀ i, i < n → w.cell? ⟨b, off + i, none⟩ = some (f i)
def Ints (w : World) (A : Option Addr) (n c : Nat) (zs : List Int) : Prop := zs.length = n ∧ n ≤ c ∧ Cells w A n (fun i => .int .i64 (gi zs i))
def Bytes (w : World) (A : Option Addr) (n c : Nat) (bs : List UInt8) : Prop := bs.length = n ∧ n ≤ c ∧ Cells w A n (fun i => .int .u8 (gb bs i))
section
variable {w w' : World} {A : Option Addr} {n c k : Nat} {f : Nat → Value} {zs : List Int} {bs : List UInt8}
theorem Cells.get (h : Cells w A n f) (hk : k < n) : ∃ b off, A = some ⟨b, off, none⟩ ∧ b < w.heap.size ∧ ∀ i, i < n → w.cell? ⟨b, off + i, none⟩ = some (f i) := h (by omega)
theorem Ints.get (h : Ints w A n c zs) (hk : k < n) : ∃ b off, A = some ⟨b, off, none⟩ ∧ b < w.heap.size ∧ ∀ i, i < n → w.cell? ⟨b, off + i, none⟩ = some (.int .i64 (gi zs i)) := h.2.2 (by omega)
theorem Bytes.get (h : Bytes w A n c bs) (hk : k < n) : ∃ b off, A = some ⟨b, off, none⟩ ∧ b < w.heap.size ∧ ∀ i, i < n → w.cell? ⟨b, off + i, none⟩ = some (.int .u8 (gb bs i)) := h.2.2 (by omega)
theorem Cells.keep (h : Cells w A n f) (hs : w.heap.size ≤ w'.heap.size) (hk : ∀ p : Addr, p.block < w.heap.size → w'.cell? p = w.cell? p) : Cells w' A n f := fun hn => by
  obtain ⟨b, off, rfl, hb, hc⟩ := h hn
  exact ⟨b, off, rfl, by omega, fun i hi => (hk _ hb).trans (hc i hi)⟩
theorem Cells.below (h : Cells w A n f) (hb : Below w.heap.size w w') : Cells w' A n f := h.keep hb.size fun _ hp => hb.cell hp
theorem Ints.below (h : Ints w A n c zs) (hb : Below w.heap.size w w') : Ints w' A n c zs := ⟨h.1, h.2.1, h.2.2.below hb⟩
theorem Bytes.below (h : Bytes w A n c bs) (hb : Below w.heap.size w w') : Bytes w' A n c bs := ⟨h.1, h.2.1, h.2.2.below hb⟩
theorem Ints.drewN (h : Ints w A n c zs) (q : Nat) : Ints (w.drewN q) A n c zs := h
theorem Bytes.drewN (h : Bytes w A n c bs) (q : Nat) : Bytes (w.drewN q) A n c bs := h
end
theorem addr_add (b off k : Nat) : (⟨b, off, none⟩ : Addr).add k = ⟨b, off + k, none⟩ := by unfold Addr.add; split <;> simp_all
section
variable {P : Program} {w : World} {A : Option Addr} {n c : Nat}
theorem Cells.cut {f : Nat → Value} (h : Cells w A n f) (l : Nat) (m : Nat) (hlm : l + m ≤ n) (A' : Option Addr) (hA : 0 < m → A' = A.map (·.add l)) : Cells w A' m (fun i => f (l + i)) := fun hm => by
  obtain ⟨b, off, rfl, hb, hc⟩ := h (by omega)
  refine ⟨b, off + l, by rw [hA hm]; simp [addr_add], hb, fun i hi => ?_⟩
  rw [Nat.add_assoc]
  exact hc _ (by omega)
theorem gi_drop (zs : List Int) (l i : Nat) : gi (zs.drop l) i = gi zs (l + i) := by simp [gi, List.getD, List.getElem?_drop]
theorem gb_drop (bs : List UInt8) (l i : Nat) : gb (bs.drop l) i = gb bs (l + i) := by simp [gb, List.getD, List.getElem?_drop]
theorem gb_take (bs : List UInt8) (m i : Nat) (hi : i < m) : gb (bs.take m) i = gb bs i := by simp [gb, List.getD, hi]
theorem gi_take (zs : List Int) (m i : Nat) (hi : i < m) : gi (zs.take m) i = gi zs i := by simp [gi, List.getD, hi]
theorem add_zero_map (A : Option Addr) : A.map (·.add 0) = A := by cases A <;> simp [Addr.add]
section
variable {t e : TypeId} (ht : P.underlying t = some (.slice (P.elem t))) (he : P.elem t = e) (hs : ∀ W : World, (sizeOf e).run P W = .ok 1 W)
include ht he hs
theorem run_cut_lh (l h : Int) (h0 : 0 ≤ l) (hlh : l ≤ h) (hc : h ≤ c) (W : World) :
    (Instr.slice t (.slice A n c) (some (.int .i64 l)) (some (.int .i64 h)) none).run P W = .ok (.slice (if c = l.toNat then A else A.map (·.add l.toNat)) (h.toNat - l.toNat) (c - l.toNat)) W := by
  subst he
  rw [run_slice_lh W t A n c ht .i64 .i64 l h h0 hlh hc, hs W]
  simp only [Result.andThen, sliced, Nat.mul_one]
theorem run_cut_l (l : Int) (h0 : 0 ≤ l) (hl : l ≤ n) (W : World) :
    (Instr.slice t (.slice A n c) (some (.int .i64 l)) none none).run P W = .ok (.slice (if c = l.toNat then A else A.map (·.add l.toNat)) (n - l.toNat) (c - l.toNat)) W := by
  subst he
  rw [run_slice_l W t A n c ht .i64 l h0 hl, hs W]
  simp only [Result.andThen, sliced, Nat.mul_one]
theorem run_cut_h (h : Int) (h0 : 0 ≤ h) (hc : h ≤ c) (W : World) :
    (Instr.slice t (.slice A n c) none (some (.int .i64 h)) none).run P W = .ok (.slice A h.toNat c) W := by
  subst he
  rw [run_slice_h W t A n c ht .i64 h h0 hc, hs W]
  simp only [Result.andThen, sliced, Nat.zero_mul, add_zero_map, ite_self, Nat.sub_zero]
theorem Bytes.cut_l {bs : List UInt8} (hb : Bytes w A n c bs) (l : Int) (h0 : 0 ≤ l) (hl : l ≤ n) :
    ∃ A', (∀ W : World, (Instr.slice t (.slice A n c) (some (.int .i64 l)) none none).run P W = .ok (.slice A' (n - l.toNat) (c - l.toNat)) W) ∧ Bytes w A' (n - l.toNat) (c - l.toNat) (bs.drop l.toNat) := by
  refine ⟨_, run_cut_l ht he hs l h0 hl, by rw [List.length_drop, hb.1], by have := hb.2.1; omega, ?_⟩
  have := hb.2.2.cut l.toNat (n - l.toNat) (by omega) (if c = l.toNat then A else A.map (·.add l.toNat)) (fun h => if_neg (by have := hb.2.1; omega))
  simpa only [gb_drop] using this
theorem Bytes.cut_lh {bs : List UInt8} (hb : Bytes w A n c bs) (l h : Int) (h0 : 0 ≤ l) (hlh : l ≤ h) (hc : h ≤ n) :
    ∃ A', (∀ W : World, (Instr.slice t (.slice A n c) (some (.int .i64 l)) (some (.int .i64 h)) none).run P W = .ok (.slice A' (h.toNat - l.toNat) (c - l.toNat)) W) ∧ Bytes w A' (h.toNat - l.toNat) (c - l.toNat) ((bs.drop l.toNat).take (h.toNat - l.toNat)) := by
  have hn := hb.2.1
  have hl := hb.1
  refine ⟨_, run_cut_lh ht he hs l h h0 hlh (by omega), by simp; omega, by omega, ?_⟩
  have := hb.2.2.cut l.toNat (h.toNat - l.toNat) (by omega) (if c = l.toNat then A else A.map (·.add l.toNat)) (fun h => if_neg (by omega))
  intro hm
  obtain ⟨b, off, hA, hbk, hcell⟩ := this hm
  exact ⟨b, off, hA, hbk, fun i hi => by rw [hcell i hi]; show some (Value.int .u8 _) = some (Value.int .u8 _); rw [gb_take _ _ _ hi, gb_drop]⟩
theorem Bytes.cut_h {bs : List UInt8} (hb : Bytes w A n c bs) (h : Int) (h0 : 0 ≤ h) (hc : h ≤ n) :
    (∀ W : World, (Instr.slice t (.slice A n c) none (some (.int .i64 h)) none).run P W = .ok (.slice A h.toNat c) W) ∧ Bytes w A h.toNat c (bs.take h.toNat) := by
  have hn := hb.2.1
  have hl := hb.1
  refine ⟨run_cut_h ht he hs h h0 (by omega), by simp; omega, by omega, fun hm => ?_⟩
  obtain ⟨b, off, hA, hbk, hcell⟩ := hb.2.2 (by omega)
  exact ⟨b, off, hA, hbk, fun i hi => by rw [hcell i (by omega)]; show some (Value.int .u8 _) = some (Value.int .u8 _); rw [gb_take _ _ _ hi]⟩
theorem Ints.cut_l {zs : List Int} (hb : Ints w A n c zs) (l : Int) (h0 : 0 ≤ l) (hl : l ≤ n) :
    ∃ A', (∀ W : World, (Instr.slice t (.slice A n c) (some (.int .i64 l)) none none).run P W = .ok (.slice A' (n - l.toNat) (c - l.toNat)) W) ∧ Ints w A' (n - l.toNat) (c - l.toNat) (zs.drop l.toNat) := by
  refine ⟨_, run_cut_l ht he hs l h0 hl, by rw [List.length_drop, hb.1], by have := hb.2.1; omega, ?_⟩
  have := hb.2.2.cut l.toNat (n - l.toNat) (by omega) (if c = l.toNat then A else A.map (·.add l.toNat)) (fun h => if_neg (by have := hb.2.1; omega))
  simpa only [gi_drop] using this
theorem Ints.cut_h {zs : List Int} (hb : Ints w A n c zs) (h : Int) (h0 : 0 ≤ h) (hc : h ≤ n) :
    (∀ W : World, (Instr.slice t (.slice A n c) none (some (.int .i64 h)) none).run P W = .ok (.slice A h.toNat c) W) ∧ Ints w A h.toNat c (zs.take h.toNat) := by
  have hn := hb.2.1
  have hl := hb.1
  refine ⟨run_cut_h ht he hs h h0 (by omega), by simp; omega, by omega, fun hm => ?_⟩
  obtain ⟨b, off, hA, hbk, hcell⟩ := hb.2.2 (by omega)
  exact ⟨b, off, hA, hbk, fun i hi => by rw [hcell i (by omega)]; show some (Value.int .i64 _) = some (Value.int .i64 _); rw [gi_take _ _ _ hi]⟩
end
def strB (bs : List UInt8) : ByteArray := ⟨bs.toArray⟩
theorem toList_loop (a : ByteArray) : ∀ (k i : Nat) (r : List UInt8), a.size - i = k → ByteArray.toList.loop a i r = r.reverse ++ a.data.toList.drop i
  | 0, i, r, h => by
    have hl : a.data.toList.length ≤ i := by have : a.size = a.data.toList.length := rfl
                                             omega
    unfold ByteArray.toList.loop
    rw [if_neg (by omega), List.drop_of_length_le hl, List.append_nil]
  | k + 1, i, r, h => by
    have hl : i < a.data.toList.length := by have : a.size = a.data.toList.length := rfl
                                             omega
    unfold ByteArray.toList.loop
    rw [if_pos (by omega), toList_loop a k (i + 1) _ (by omega), List.drop_eq_getElem_cons hl, List.reverse_cons, List.append_assoc]
    have hi : i < a.data.size := by simpa using hl
    simp [ByteArray.get!]
    rw [getElem!_pos a.data i hi]
theorem strB_toList (bs : List UInt8) : (strB bs).toList = bs := by
  unfold ByteArray.toList
  rw [toList_loop _ _ _ _ rfl]
  simp [strB]
theorem strB_beq (x y : List UInt8) : ((strB x).toList == (strB y).toList) = decide (x = y) := by
  rw [strB_toList, strB_toList]
  by_cases h : x = y
  · subst h; simp
  · rw [decide_eq_false h]; exact beq_eq_false_iff_ne.2 h
theorem strB_less (x y : List UInt8) : Op.bytesLess (strB x).toList (strB y).toList = Op.bytesLess x y := by rw [strB_toList, strB_toList]
theorem strOfNums_bytes (bs : List UInt8) : strOfNums (bs.map fun b => (b.toNat : Int)) = strB bs := by
  unfold strOfNums strB
  simp [List.map_map, Function.comp_def]
theorem Bytes.str {bs : List UInt8} (hb : Bytes w A n c bs) (src e dst : TypeId) (hs : P.underlying src = some (.slice e)) (he : P.underlying e = some (.int .u8)) (hd : P.underlying dst = some .string) :
    (convert src dst (.slice A n c)).run P w = .ok (.string (strB bs)) w := by
  obtain ⟨hl, hnc, hcell⟩ := hb
  subst hl
  cases A with
  | none =>
    have : bs = [] := by
      cases bs with
      | nil => rfl
      | cons x xs => obtain ⟨b, off, h, _⟩ := hcell (by simp); cases h
    subst this
    rw [run_convert_bytes_nil w src e hs he _ _ dst hd]
    rfl
  | some a =>
    by_cases h0 : bs = []
    · subst h0
      rw [run_convert_bytes_string w src dst e _ _ _ hs he hd]
      exact run_bytesToString w a 0 c [] (by simp [loadCells, loadCellsFrom])
    · obtain ⟨b, off, h, _, hc⟩ := hcell (List.length_pos_iff.2 h0)
      injection h with h
      subst h
      rw [run_convert_bytes_arg w src e hs he b off bs.length c (bs.map fun b => (b.toNat : Int)) (by simp) (fun i hi => by rw [hc i hi]; simp [gb, List.getD, hi]) dst hd, strOfNums_bytes]
end
def Row {α : Type} (enc : α → Value) (w : World) (g : Nat) (t : TypeId) (xs : List α) : Prop := w.heap[g]? = some (.cells (xs.map enc).toArray t (0, 0))
def rowObj {α : Type} (enc : α → Value) (t : TypeId) (xs : List α) : Obj := .cells (xs.map enc).toArray t (0, 0)
section
variable {α : Type} {enc : α → Value} {w w' : World} {g : Nat} {t : TypeId} {xs : List α}
theorem Row.lt (h : Row enc w g t xs) : g < w.heap.size := by
  rcases Nat.lt_or_ge g w.heap.size with hlt | hge
  · exact hlt
  · unfold Row at h; rw [Array.getElem?_eq_none hge] at h; cases h
theorem Row.cell (h : Row enc w g t xs) {j : Nat} (d : α) (hj : j < xs.length) : w.cell? ⟨g, j, none⟩ = some (enc (xs.getD j d)) := by
  unfold Row at h
  simp [World.cell?, h, List.getD, hj]
theorem Row.frozen (h : Row enc w g t xs) (j : Nat) : w.frozen? ⟨g, j, none⟩ = false := by
  unfold Row at h
  simp [World.frozen?, h]
theorem Row.new (w : World) (t : TypeId) (xs : List α) : Row enc (w.alloc (rowObj enc t xs)) w.heap.size t xs := by
  unfold Row rowObj World.alloc
  simp
theorem Row.drewN (h : Row enc w g t xs) (n : Nat) : Row enc (w.drewN n) g t xs := h
theorem Row.drew (h : Row enc w g t xs) : Row enc w.drew g t xs := h
theorem Row.alloc (h : Row enc w g t xs) (o : Obj) : Row enc (w.alloc o) g t xs := (Below.heap_alloc w o g h.lt).trans h
theorem Row.set (h : Row enc w g t xs) (j : Nat) (u : α) : Row enc (w.setCell ⟨g, j, none⟩ (enc u)) g t (xs.set j u) := by
  unfold Row at h ⊢
  simp [World.setCell, Array.getElem?_modify, h]
theorem Row.far (h : Row enc w g t xs) {p : Addr} (hp : g ≠ p.block) (u : Value) : Row enc (w.setCell p u) g t xs := (Below.heap_setCell w p u g hp).trans h
theorem Row.below {B : Nat} (h : Row enc w g t xs) (hb : Below B w w') (hg : g < B) : Row enc w' g t xs := (hb.block g hg).trans h
theorem Row.cells (h : Row enc w g t xs) (d : α) : Cells w (some ⟨g, 0, none⟩) xs.length (fun i => enc (xs.getD i d)) := fun _ => ⟨g, 0, rfl, h.lt, fun i hi => by rw [Nat.zero_add]; exact h.cell d hi⟩
theorem Row.ints {zs : List Int} (h : Row (Value.int .i64) w g t zs) {n c : Nat} (hn : zs.length = n) (hc : n ≤ c) : Ints w (some ⟨g, 0, none⟩) n c zs := ⟨hn, hc, hn ▸ h.cells 0⟩
end
theorem madeCells_rep (z : Value) (n : Nat) (h1 : z.cells = #[z]) : madeCells z.cells (n * 1) = ((List.replicate n z)).toArray := by
  rw [h1, Nat.mul_one]
  apply Array.toList_inj.1
  rw [toList_madeCells_one]
theorem run_make_row {α : Type} {enc : α → Value} {P : Program} {t e : TypeId} {zero : α} {bytes : Nat} (ht : P.underlying t = some (.slice e)) (hi : (P.info? e).map (fun i => (i.zero, i.size, i.bytes)) = some (some (enc zero), 1, bytes))
    (h1 : (enc zero).cells = #[enc zero]) (l : Int) (h0 : 0 ≤ l) (hb : (bytes : Int) * l ≤ 281474976710656) (hm : l ≤ 9223372036854775807) (W : World) :
    (Instr.makeSlice t (.int .i64 l) (.int .i64 l)).run P W = .ok (.slice (some ⟨W.heap.size, 0, none⟩) l.toNat l.toNat) (W.alloc (rowObj enc e (List.replicate l.toNat zero))) := by
  obtain ⟨i, hi0, hz, hs, hby⟩ := info_parts hi
  rw [run_make W t e i (enc zero) ht hi0 hz .i64 .i64 l l h0 (Int.le_refl _) (by rw [hby]; exact hb) hm, hs, madeCells_rep _ _ h1]
  simp [rowObj]
def Own {α : Type} (enc : α → Value) (w : World) (B : Nat) (e : TypeId) (A : Option Addr) (n c : Nat) (xs : List α) : Prop := w.ownsRow B e 1 (.slice A n c) n (xs.map enc)
section
variable {α : Type} {enc : α → Value} {w w' : World} {B : Nat} {e : TypeId} {A : Option Addr} {n c : Nat} {xs : List α}
theorem Own.nil (enc : α → Value) (w : World) (B : Nat) (e : TypeId) : Own enc w B e none 0 0 [] := World.ownsRow_nil w B e 1
theorem Own.length (h : Own enc w B e A n c xs) : xs.length = n := by have := h.1; simpa using this
theorem Own.cap (h : Own enc w B e A n c xs) : n ≤ c := by
  rcases h.2 with ⟨h1, h2⟩ | ⟨g, cap, cur, h1, _, _, h2, _⟩
  · omega
  · injection h1; omega
theorem Own.cells (h : Own enc w B e A n c xs) (d : α) : Cells w A n (fun i => enc (xs.getD i d)) := fun hn => by
  obtain ⟨g, cap, hv, _, hlt⟩ := World.ownsRow.form h hn
  injection hv with hv
  subst hv
  refine ⟨g, 0, rfl, hlt, fun i hi => ?_⟩
  have hl := h.length
  have := World.ownsRow.cells h (g := g) rfl i (enc (xs.getD i d)) (by simp [List.getD, hl, hi])
  rwa [addr_add] at this
theorem Own.ints {zs : List Int} (h : Own (Value.int .i64) w B e A n c zs) : Ints w A n c zs := ⟨h.length, h.cap, h.cells 0⟩
theorem Own.bytes {bs : List UInt8} (h : Own (fun b : UInt8 => Value.int .u8 b.toNat) w B e A n c bs) : Bytes w A n c bs := ⟨h.length, h.cap, h.cells 0⟩
theorem Own.below (h : Own enc w B e A n c xs) (hb : Below w.heap.size w w') : Own enc w' B e A n c xs := by
  refine ⟨h.1, ?_⟩
  rcases h.2 with h1 | ⟨g, cap, cur, h1, h2, h3, h4⟩
  · exact .inl h1
  · refine .inr ⟨g, cap, cur, h1, h2, ?_, h4⟩
    rw [hb.block g]
    · exact h3
    · rcases Nat.lt_or_ge g w.heap.size with hlt | hge
      · exact hlt
      · rw [Array.getElem?_eq_none hge] at h3; cases h3
theorem Own.mono {B' : Nat} (h : Own enc w B e A n c xs) (hB : B' ≤ B) : Own enc w B' e A n c xs := by
  refine ⟨h.1, ?_⟩
  rcases h.2 with h1 | ⟨g, cap, cur, h1, h2, h3⟩
  · exact .inl h1
  · exact .inr ⟨g, cap, cur, h1, by omega, h3⟩
theorem run_append_own_any {P : Program} {t e : TypeId} (ty : TypeId) {zero : α} {bytes : Nat} (ht : P.underlying t = some (.slice e)) (hi : (P.info? e).map (fun i => (i.zero, i.size, i.bytes)) = some (some (enc zero), 1, bytes))
    (h1 : ∀ x, (enc x).oneCell' = true) (hz : (enc zero).cells.size = 1)
    (hown : Own enc w B e A n c xs) (hB : B ≤ w.heap.size) (A' : Option Addr) (m c' : Nat) (ys : List α) (d : α) (hm : ys.length = m) (hsrc : Cells w A' m (fun i => enc (ys.getD i d)))
    (hl : n + m ≤ maxLen) (hby : (n + m) * bytes ≤ 140737488355328) :
    ∃ A2 c2 w', (Builtin.append_ #[t, t] ty #[.slice A n c, .slice A' m c']).run P w = .ok (.slice A2 (n + m) c2) w' ∧ Own enc w' B e A2 (n + m) c2 (xs ++ ys) ∧ Below B w w' ∧ w.grownBy w' (Value.slice A n c).ownBlock := by
  obtain ⟨i, hi0, hz0, hs, hb⟩ := info_parts hi
  have key : ∃ v' w', (Builtin.append_ #[t, t] ty #[.slice A n c, .slice A' m c']).run P w = .ok v' w' ∧ w'.ownsRow B e 1 v' (n + m) (xs.map enc ++ ys.map enc) ∧ w.grownBy w' (Value.slice A n c).ownBlock := by
    cases A' with
    | none =>
      have hm0 : m = 0 := by
        rcases Nat.eq_zero_or_pos m with h | h
        · exact h
        · obtain ⟨b, off, h', _⟩ := hsrc h; cases h'
      subst hm0
      have hys : ys = [] := List.eq_nil_of_length_eq_zero hm
      subst hys
      refine ⟨.slice A n c, w, ?_, by rw [List.map_nil, List.append_nil]; exact hown, World.grownBy.refl w _⟩
      rcases hown.2 with ⟨hv, hn⟩ | ⟨g, cap, cur, hv, _, _, hnc, _⟩
      · injection hv with a b c; subst a b c
        simp [Builtin.append_, run_underlying ht, sizeOf, typeInfo, hi0, Builtin.lenOf, Builtin.firstCells]
      · injection hv with a b c; subst a; subst c
        simp [Builtin.append_, run_underlying ht, sizeOf, typeInfo, hi0, Builtin.lenOf, Builtin.firstCells, hnc, storeCells]
    | some ad =>
      obtain ⟨v', w', hrun, h2, h3, _⟩ := run_append_own_at (P := P) w B t ty e i (enc zero) 1 bytes ht hi0 hz0 hs hb hz (by omega) _ n _ hown ad m c' (ys.map enc) (by simp [hm]) (fun j u hu => by
        rw [List.getElem?_map] at hu
        obtain ⟨y, hy, rfl⟩ := Option.map_eq_some_iff.1 hu
        have hj : j < ys.length := (List.getElem?_eq_some_iff.1 hy).1
        obtain ⟨b, off, h', _, hc⟩ := hsrc (by omega)
        injection h' with h'
        subst h'
        rw [addr_add, hc j (by omega)]
        simp [List.getD, hy]) (fun u hu => by obtain ⟨y, _, rfl⟩ := List.mem_map.1 hu; exact h1 y) hl hby hB
      exact ⟨v', w', hrun, h2, h3⟩
  obtain ⟨v', w', hrun, h2, h3⟩ := key
  have hform : ∃ A2 c2, v' = .slice A2 (n + m) c2 := by
    rcases h2.2 with ⟨rfl, h0⟩ | ⟨g, cap, cur, rfl, _⟩
    · exact ⟨none, 0, by rw [h0]⟩
    · exact ⟨_, _, rfl⟩
  obtain ⟨A2, c2, rfl⟩ := hform
  refine ⟨A2, c2, w', hrun, by unfold Own; rw [List.map_append]; exact h2, (Below.refl B w).grown h3 hB (fun k hk => (World.ownsRow.lt hown k hk).1), h3⟩
theorem run_append_own_one {P : Program} {t e : TypeId} (ty : TypeId) {zero : α} {bytes : Nat} (ht : P.underlying t = some (.slice e)) (hi : (P.info? e).map (fun i => (i.zero, i.size, i.bytes)) = some (some (enc zero), 1, bytes))
    (h1 : ∀ x, (enc x).oneCell' = true) (hz : (enc zero).cells.size = 1)
    (hown : Own enc w B e A n c xs) (hB : B ≤ w.heap.size) (y : α) (hl : n + 1 ≤ maxLen) (hby : (n + 1) * bytes ≤ 140737488355328) :
    ∃ A2 c2 w', (Builtin.append_ #[t, t] ty #[.slice A n c, .slice (some ⟨w.heap.size, 0, none⟩) 1 1]).run P (w.alloc (.cells #[enc y] e)) = .ok (.slice A2 (n + 1) c2) w' ∧ Own enc w' B e A2 (n + 1) c2 (xs ++ [y]) ∧ Below B w w' ∧ (w.alloc (.cells #[enc y] e)).grownBy w' (Value.slice A n c).ownBlock := by
  have hsz : (w.alloc (.cells #[enc y] e)).heap.size = w.heap.size + 1 := by simp
  have hb0 : Below w.heap.size w (w.alloc (.cells #[enc y] e)) := (Below.refl _ _).alloc (Nat.le_refl _) _
  obtain ⟨A2, c2, w', h2, h3, h4, h5⟩ := run_append_own_any (P := P) (w := w.alloc (.cells #[enc y] e)) ty ht hi h1 hz (hown.below hb0) (by omega) (some ⟨w.heap.size, 0, none⟩) 1 1 [y] y rfl (fun _ => ⟨w.heap.size, 0, rfl, by omega, fun i hi => by
    obtain rfl : i = 0 := by omega
    simp⟩) hl hby
  exact ⟨A2, c2, w', h2, h3, (hb0.mono hB).trans h4, h5⟩
end
def RetInts (w : World) (zs : List Int) (x : Int) (e : Ending) (w' : World) : Prop := ∃ A n c, e = .returned (.tuple #[.slice A n c, .int .i64 x]) ∧ Ints w' A n c zs ∧ Below w.heap.size w w'
theorem Ints.nil (w : World) (c : Nat) : Ints w none 0 c [] := ⟨rfl, Nat.zero_le _, fun h => absurd h (by omega)⟩
theorem RetInts.mk {w w' : World} {zs : List Int} {x x' : Int} {A : Option Addr} {n c : Nat} (hx : x = x') (h : Ints w' A n c zs) (hb : Below w.heap.size w w') : RetInts w zs x' (.returned (.tuple #[.slice A n c, .int .i64 x])) w' := by
  subst hx
  exact ⟨A, n, c, rfl, h, hb⟩
theorem bdrew {B : Nat} {w w1 : World} (h : Below B w w1) (q : Nat) : Below B w (w1.drewN q) := h.trans ((Drawn.drewN _ _).below _)
section
variable {α : Type} {enc : α → Value} {P : Program} {w : World} {B : Nat} {e t : TypeId} {A : Option Addr} {n c : Nat} {xs : List α} {zero : α} {bytes : Nat}
  {ops : Array Oper} {rest : List Oper} {o : Oper} {a : Act} {K : Act → World → Prop} {Q : Exit → Act → World → Prop} {E : Prop}
theorem wp_app (s x : Operand) (ho : o.op = .call { callee := .builtin .append, args := #[s, x], argTypes := #[t, t] })
    (ht : P.underlying t = some (.slice e)) (hi : (P.info? e).map (fun i => (i.zero, i.size, i.bytes)) = some (some (enc zero), 1, bytes)) (h1 : ∀ x, (enc x).oneCell' = true) (hz : (enc zero).cells.size = 1)
    (hs : a.eval s = .slice A n c) (hown : Own enc w B e A n c xs) (hB : B ≤ w.heap.size) (A' : Option Addr) (m c' : Nat) (ys : List α) (d : α) (hm : ys.length = m) (hsrc : Cells w A' m (fun i => enc (ys.getD i d)))
    (hx : a.eval x = .slice A' m c') (hl : n + m ≤ maxLen) (hby : (n + m) * bytes ≤ 140737488355328)
    (h : ∀ A2 c2 w', Own enc w' B e A2 (n + m) c2 (xs ++ ys) → Below B w w' → w.grownBy w' (Value.slice A n c).ownBlock → K (a.put o.dst (.slice A2 (n + m) c2)) w') : o.wp P a w K Q := by
  obtain ⟨A2, c2, w', hrun, h2, h3, h4⟩ := run_append_own_any (P := P) o.type ht hi h1 hz hown hB A' m c' ys d hm hsrc hl hby
  unfold Oper.wp execOp
  simp only [ho, resolve, invoke, builtin, Sem.run_bind, Sem.run_pure, Result.andThen_ok, List.map_toArray, List.map_cons, List.map_nil, hs, hx, hrun]
  exact h A2 c2 w' h2 h3 h4
theorem wpList_app (hgd : o.guard = none) (s x : Operand) (ho : o.op = .call { callee := .builtin .append, args := #[s, x], argTypes := #[t, t] })
    (ht : P.underlying t = some (.slice e)) (hi : (P.info? e).map (fun i => (i.zero, i.size, i.bytes)) = some (some (enc zero), 1, bytes)) (h1 : ∀ x, (enc x).oneCell' = true) (hz : (enc zero).cells.size = 1)
    (hs : a.eval s = .slice A n c) (hown : Own enc w B e A n c xs) (hB : B ≤ w.heap.size) (A' : Option Addr) (m c' : Nat) (ys : List α) (d : α) (hm : ys.length = m) (hsrc : Cells w A' m (fun i => enc (ys.getD i d)))
    (hx : a.eval x = .slice A' m c') (hl : n + m ≤ maxLen) (hby : (n + m) * bytes ≤ 140737488355328)
    (h : ∀ A2 c2 w', Own enc w' B e A2 (n + m) c2 (xs ++ ys) → Below B w w' → w.grownBy w' (Value.slice A n c).ownBlock → wpList P ops Q rest (a.put o.dst (.slice A2 (n + m) c2)) w') : wpList P ops Q (o :: rest) a w :=
  wpList_plain hgd fun _ hK => wp_app s x ho ht hi h1 hz hs hown hB A' m c' ys d hm hsrc hx hl hby fun A2 c2 w' h2 h3 h4 => hK _ _ (h A2 c2 w' h2 h3 h4)
theorem wp_push (s x : Operand) (ho : o.op = .call { callee := .builtin .append, args := #[s, x], argTypes := #[t, t] })
    (ht : P.underlying t = some (.slice e)) (hi : (P.info? e).map (fun i => (i.zero, i.size, i.bytes)) = some (some (enc zero), 1, bytes)) (h1 : ∀ x, (enc x).oneCell' = true) (hz : (enc zero).cells.size = 1)
    (hs : a.eval s = .slice A n c) (hown : Own enc w B e A n c xs) (hB : B ≤ w.heap.size) (y : α)
    (hx : a.eval x = .slice (some ⟨w.heap.size, 0, none⟩) 1 1) (hl : n + 1 ≤ maxLen) (hby : (n + 1) * bytes ≤ 140737488355328)
    (h : ∀ A2 c2 w', Own enc w' B e A2 (n + 1) c2 (xs ++ [y]) → Below B w w' → K (a.put o.dst (.slice A2 (n + 1) c2)) w') : o.wp P a (w.alloc (.cells #[enc y] e)) K Q := by
  obtain ⟨A2, c2, w', hrun, h2, h3, h4⟩ := run_append_own_one (P := P) o.type ht hi h1 hz hown hB y hl hby
  unfold Oper.wp execOp
  simp only [ho, resolve, invoke, builtin, Sem.run_bind, Sem.run_pure, Result.andThen_ok, List.map_toArray, List.map_cons, List.map_nil, hs, hx, hrun]
  exact h A2 c2 w' h2 h3
theorem wpList_push (hgd : o.guard = none) (s x : Operand) (ho : o.op = .call { callee := .builtin .append, args := #[s, x], argTypes := #[t, t] })
    (ht : P.underlying t = some (.slice e)) (hi : (P.info? e).map (fun i => (i.zero, i.size, i.bytes)) = some (some (enc zero), 1, bytes)) (h1 : ∀ x, (enc x).oneCell' = true) (hz : (enc zero).cells.size = 1)
    (hs : a.eval s = .slice A n c) (hown : Own enc w B e A n c xs) (hB : B ≤ w.heap.size) (y : α)
    (hx : a.eval x = .slice (some ⟨w.heap.size, 0, none⟩) 1 1) (hl : n + 1 ≤ maxLen) (hby : (n + 1) * bytes ≤ 140737488355328)
    (h : ∀ A2 c2 w', Own enc w' B e A2 (n + 1) c2 (xs ++ [y]) → Below B w w' → wpList P ops Q rest (a.put o.dst (.slice A2 (n + 1) c2)) w') : wpList P ops Q (o :: rest) a (w.alloc (.cells #[enc y] e)) :=
  wpList_plain hgd fun _ hK => wp_push s x ho ht hi h1 hz hs hown hB y hx hl hby fun A2 c2 w' h2 h3 => hK _ _ (h A2 c2 w' h2 h3)
theorem step_push (hgd : o.guard = none) (s x : Operand) (ho : o.op = .call { callee := .builtin .append, args := #[s, x], argTypes := #[t, t] })
    (ht : P.underlying t = some (.slice e)) (hi : (P.info? e).map (fun i => (i.zero, i.size, i.bytes)) = some (some (enc zero), 1, bytes)) (h1 : ∀ x, (enc x).oneCell' = true) (hz : (enc zero).cells.size = 1)
    (hs : a.eval s = .slice A n c) (hown : Own enc w B e A n c xs) (hB : B ≤ w.heap.size) (y : α)
    (hx : a.eval x = .slice (some ⟨w.heap.size, 0, none⟩) 1 1) (hl : n + 1 ≤ maxLen) (hby : (n + 1) * bytes ≤ 140737488355328)
    (h : ∀ A2 c2 w', Own enc w' B e A2 (n + 1) c2 (xs ++ [y]) → Below B w w' → K (a.put o.dst (.slice A2 (n + 1) c2)) w') :
    if Region.wanted o (yielded ops a.tmps) = true then Oper.wp P o a (w.alloc (.cells #[enc y] e)) K Q else E := by
  rw [if_pos (by simp [Region.wanted, hgd])]
  exact wp_push s x ho ht hi h1 hz hs hown hB y hx hl hby h
end
theorem Drawn.step {w w' : World} (h : Drawn w w') (q : Nat) : Drawn w (w'.drewN q) := by obtain ⟨r, rfl⟩ := h; exact ⟨r + q, World.drewN_drewN ..⟩
theorem Drawn.trans {w w' w'' : World} (h : Drawn w w') (h' : Drawn w' w'') : Drawn w w'' := by obtain ⟨r, rfl⟩ := h'; exact h.step r
theorem Ints.cell {w : World} {b off n c k : Nat} {zs : List Int} (h : Ints w (some ⟨b, off, none⟩) n c zs) (hk : k < n) : w.cell? ⟨b, off + k, none⟩ = some (.int .i64 (gi zs k)) := by
  obtain ⟨b', off', e, _, hc⟩ := h.get hk
  injection e with e
  injection e with e1 e2
  subst e1 e2
  exact hc k hk
theorem Bytes.cell {w : World} {b off n c k : Nat} {bs : List UInt8} (h : Bytes w (some ⟨b, off, none⟩) n c bs) (hk : k < n) : w.cell? ⟨b, off + k, none⟩ = some (.int .u8 (gb bs k)) := by
  obtain ⟨b', off', e, _, hc⟩ := h.get hk
  injection e with e
  injection e with e1 e2
  subst e1 e2
  exact hc k hk
theorem Row.ne {α β : Type} {enc : α → Value} {enc' : β → Value} {w : World} {g g' : Nat} {t t' : TypeId} {xs : List α} {ys : List β} (h : Row enc w g t xs) (h' : Row enc' w g' t' ys) (ht : t ≠ t') : g ≠ g' := by
  rintro rfl
  unfold Row at h h'
  rw [h] at h'
  injection h' with h'
  injection h' with _ e
  exact ht e
theorem Row.grown {α : Type} {enc : α → Value} {w w' : World} {g : Nat} {t : TypeId} {xs : List α} {row : Option Nat} (h : Row enc w g t xs) (hg : w.grownBy w' row) (hne : some g ≠ row) : Row enc w' g t xs := (hg.block g h.lt hne).trans h
theorem Row.one {w : World} {g : Nat} {t : TypeId} {v : Value} (h : Row id w g t [v]) : w.cell? ⟨g, 0, none⟩ = some v := h.cell v (j := 0) (by simp)
theorem Row.one_new (w : World) (t : TypeId) (v : Value) : Row id (w.alloc (.cells #[v] t)) w.heap.size t [v] := Row.new w t [v]
def encN (p : Nat) : Value := .int .i64 (p : Int)
theorem Row.nats {w : World} {g : Nat} {t : TypeId} {ps : List Nat} (h : Row encN w g t ps) : Row (Value.int .i64) w g t (ps.map (fun p : Nat => (p : Int))) := by
  unfold Row at h ⊢
  rw [h, List.map_map]
  rfl
theorem grownBy.trans' {w w1 w2 : World} {row : Option Nat} (h : w.grownBy w1 row) (h' : w1.grownBy w2 row) : w.grownBy w2 row :=
  ⟨h'.os.trans h.os, h'.tape.trans h.tape, h'.output.trans h.output, Nat.le_trans h.size h'.size, fun k hk hne => (h'.block k (Nat.lt_of_lt_of_le hk h.size) hne).trans (h.block k hk hne)⟩
theorem grownBy.setCell' {w w1 : World} {g j : Nat} (h : w.grownBy w1 (some g)) (v : Value) : w.grownBy (w1.setCell ⟨g, j, none⟩ v) (some g) :=
  ⟨h.os, h.tape, h.output, by simpa [World.setCell] using h.size, fun k hk hne => (Below.heap_setCell w1 ⟨g, j, none⟩ v k (fun e => hne (by rw [e]))).trans (h.block k hk hne)⟩
theorem grownBy.drewN' {w w1 : World} {row : Option Nat} (h : w.grownBy w1 row) (q : Nat) : w.grownBy (w1.drewN q) row := ⟨h.os, h.tape, h.output, h.size, h.block⟩
theorem grownBy.alloc' {w w1 : World} {row : Option Nat} (h : w.grownBy w1 row) (o : Obj) : w.grownBy (w1.alloc o) row := grownBy.trans' h (World.grownBy_alloc w1 o row)
end Go.Proofs.YtohadkmaemmfgaaGreatDoor
namespace Go.Proofs.YtohadkmaemmfgaaGreatDoor
open Go.RowKit Go.Proofs
set_option linter.unusedVariables false
set_option linter.unusedSimpArgs false
def bA (bs : List UInt8) (i : Nat) : UInt8 := bs.getD i 0
def dfF (w : Nat) (bs : List UInt8) (i : Nat) : UInt8 := if i < w then bA bs i else bA bs i - bA bs (i - w)
def dfI (w : Nat) (bs : List UInt8) (i : Nat) : UInt8 := if h : i < w ∨ w = 0 then bA bs i else bA bs i + dfI w bs (i - w)
  termination_by i
  decreasing_by omega
def deltaF (w : Nat) (bs : List UInt8) : List UInt8 := (List.range bs.length).map (dfF w bs)
def deltaI (w : Nat) (bs : List UInt8) : List UInt8 := (List.range bs.length).map (dfI w bs)
theorem dfI_lo {w i : Nat} {bs : List UInt8} (h : i < w) : dfI w bs i = bA bs i := by rw [dfI, dif_pos (.inl h)]
theorem dfI_hi {w i : Nat} {bs : List UInt8} (h : ¬ i < w) (h1 : 1 ≤ w) : dfI w bs i = bA bs i + dfI w bs (i - w) := by rw [dfI, dif_neg (by omega)]
theorem deltaF_length (w : Nat) (bs : List UInt8) : (deltaF w bs).length = bs.length := by simp [deltaF]
theorem list_ext_bA {xs ys : List UInt8} (hl : xs.length = ys.length) (h : ∀ i, i < ys.length → bA xs i = bA ys i) : xs = ys := by
  apply List.ext_getElem hl
  intro i h1 h2
  have := h i h2
  unfold bA at this
  rw [List.getD_eq_getElem?_getD, List.getD_eq_getElem?_getD, List.getElem?_eq_getElem h1, List.getElem?_eq_getElem h2] at this
  exact this
def limD (n : Nat) (width : Int) : Int := if 65536 < n then 5 else if width < 1 ∨ 64 < width then 2 else 0
def upB (n w i : Nat) : List Nat := if h : i < n ∧ 0 < w then i :: upB n w (i + w) else []
  termination_by n - i
  decreasing_by omega
theorem upB_more {n w i : Nat} (h : i < n) (hw : 0 < w) : upB n w i = i :: upB n w (i + w) := by rw [upB, dif_pos ⟨h, hw⟩]
theorem upB_end {n w i : Nat} (h : n ≤ i) : upB n w i = [] := by rw [upB, dif_neg (by omega)]
def colFrom (n w m c : Nat) : List Nat := (List.range' c (m - c)).flatMap (upB n w)
def colL (n w : Nat) : List Nat := colFrom n w w 0
theorem colFrom_more {n w m c : Nat} (h : c < m) : colFrom n w m c = upB n w c ++ colFrom n w m (c + 1) := by
  unfold colFrom
  obtain ⟨k, hk⟩ : ∃ k, m - c = k + 1 := ⟨m - c - 1, by omega⟩
  rw [hk, List.range'_succ, List.flatMap_cons, show m - (c + 1) = k by omega]
theorem colFrom_end {n w m c : Nat} (h : m ≤ c) : colFrom n w m c = [] := by unfold colFrom; rw [show m - c = 0 by omega]; rfl
theorem colFrom_high {n w m : Nat} : ∀ (d c : Nat), m - c = d → n ≤ c → colFrom n w m c = []
  | 0, c, hd, h => colFrom_end (by omega)
  | d + 1, c, hd, h => by rw [colFrom_more (by omega), upB_end h, List.nil_append]; exact colFrom_high d (c + 1) (by omega) (by omega)
theorem colFrom_min {n w : Nat} : ∀ (d c : Nat), w - c = d → colFrom n w w c = colFrom n w (min w n) c
  | 0, c, hd => by rw [colFrom_end (by omega), colFrom_end (by omega)]
  | d + 1, c, hd => by
    by_cases h : c < n
    · rw [colFrom_more (m := w) (by omega), colFrom_more (m := min w n) (by omega), colFrom_min d (c + 1) (by omega)]
    · rw [colFrom_high (d + 1) c hd (by omega), colFrom_end (by omega)]
theorem colL_min (n w : Nat) : colL n w = colFrom n w (min w n) 0 := colFrom_min w 0 rfl
theorem mem_upB {n w : Nat} : ∀ (d i x : Nat), n - i = d → x ∈ upB n w i → i ≤ x ∧ x < n ∧ ∃ q, x = i + q * w := by
  intro d
  induction d using Nat.strongRecOn with
  | _ d ih =>
    intro i x hd hx
    by_cases h : i < n ∧ 0 < w
    · rw [upB_more h.1 h.2, List.mem_cons] at hx
      rcases hx with rfl | hx
      · exact ⟨Nat.le_refl _, h.1, 0, by simp⟩
      · obtain ⟨h1, h2, q, h3⟩ := ih (n - (i + w)) (by omega) (i + w) x rfl hx
        exact ⟨by omega, h2, q + 1, by rw [h3, Nat.succ_mul]; omega⟩
    · rw [upB, dif_neg h] at hx
      cases hx
theorem upB_mem {n w : Nat} (hw : 0 < w) : ∀ (q i : Nat), i + q * w < n → i + q * w ∈ upB n w i
  | 0, i, h => by rw [upB_more (by omega) hw]; simp
  | q + 1, i, h => by
    have e : i + (q + 1) * w = (i + w) + q * w := by rw [Nat.succ_mul]; omega
    have : 0 ≤ q * w := Nat.zero_le _
    rw [upB_more (by omega) hw, e]
    exact List.mem_cons_of_mem _ (upB_mem hw q (i + w) (by omega))
theorem upB_nodup {n w : Nat} : ∀ (d i : Nat), n - i = d → (upB n w i).Nodup := by
  intro d
  induction d using Nat.strongRecOn with
  | _ d ih =>
    intro i hd
    by_cases h : i < n ∧ 0 < w
    · rw [upB_more h.1 h.2, List.nodup_cons]
      refine ⟨fun hm => ?_, ih _ (by omega) (i + w) rfl⟩
      have := (mem_upB _ _ _ rfl hm).1
      omega
    · rw [upB, dif_neg h]; exact List.nodup_nil
theorem mem_colFrom {n w : Nat} {m c x : Nat} (h : x ∈ colFrom n w m c) : ∃ j, c ≤ j ∧ j < m ∧ x ∈ upB n w j := by
  unfold colFrom at h
  obtain ⟨j, hj, hx⟩ := List.mem_flatMap.1 h
  rw [List.mem_range'_1] at hj
  exact ⟨j, hj.1, by omega, hx⟩
theorem mem_colL {n w x : Nat} (hw : 0 < w) : x ∈ colL n w ↔ x < n := by
  constructor
  · intro h
    obtain ⟨j, -, -, hx⟩ := mem_colFrom h
    exact (mem_upB _ _ _ rfl hx).2.1
  · intro h
    unfold colL colFrom
    refine List.mem_flatMap.2 ⟨x % w, ?_, ?_⟩
    · rw [List.mem_range'_1]; have := Nat.mod_lt x hw; omega
    · have e : x % w + x / w * w = x := by rw [Nat.mul_comm]; exact Nat.mod_add_div x w
      have := upB_mem (n := n) hw (x / w) (x % w) (by omega)
      rwa [e] at this
theorem up_mod {n w j x : Nat} (hj : j < w) (h : x ∈ upB n w j) : x % w = j := by
  obtain ⟨-, -, q, rfl⟩ := mem_upB _ _ _ rfl h
  rw [Nat.add_mul_mod_self_right, Nat.mod_eq_of_lt hj]
theorem colFrom_nodup {n w : Nat} : ∀ (d c : Nat), w - c = d → (colFrom n w w c).Nodup
  | 0, c, hd => by rw [colFrom_end (by omega)]; exact List.nodup_nil
  | d + 1, c, hd => by
    rw [colFrom_more (by omega), List.nodup_append]
    refine ⟨upB_nodup _ _ rfl, colFrom_nodup d (c + 1) (by omega), fun x hx y hy he => ?_⟩
    subst he
    obtain ⟨j, hj, hjw, hxj⟩ := mem_colFrom hy
    have h1 := up_mod (by omega) hx
    have h2 := up_mod hjw hxj
    omega
theorem colL_nodup (n w : Nat) : (colL n w).Nodup := colFrom_nodup w 0 rfl
theorem colL_length {n w : Nat} (hw : 0 < w) : (colL n w).length = n := by
  have hp : (colL n w).Perm (List.range n) := (List.perm_ext_iff_of_nodup (colL_nodup n w) List.nodup_range).2 fun x => by rw [mem_colL hw, List.mem_range]
  rw [hp.length_eq, List.length_range]
def oN (l : List Nat) (k : Nat) : Nat := l.getD k 0
theorem oN_lt {n w k : Nat} (hw : 0 < w) (hk : k < n) : oN (colL n w) k < n := by
  have hl := colL_length (n := n) hw
  have : oN (colL n w) k ∈ colL n w := by
    unfold oN
    rw [List.getD_eq_getElem?_getD, List.getElem?_eq_getElem (by omega)]
    exact List.getElem_mem _
  exact (mem_colL hw).1 this
def columnsF (w : Nat) (bs : List UInt8) : List UInt8 := (colL bs.length w).map (bA bs)
theorem columnsF_length {w : Nat} (hw : 0 < w) (bs : List UInt8) : (columnsF w bs).length = bs.length := by unfold columnsF; rw [List.length_map, colL_length hw]
def scat (ord : List Nat) (bs : List UInt8) : Nat → List UInt8
  | 0 => List.replicate bs.length 0
  | k + 1 => (scat ord bs k).set (oN ord k) (bA bs k)
theorem bA_set {xs : List UInt8} {i j : Nat} {v : UInt8} (hi : i < xs.length) : bA (xs.set i v) j = if i = j then v else bA xs j := by
  unfold bA
  rw [List.getD_eq_getElem?_getD, List.getElem?_set, List.getD_eq_getElem?_getD]
  by_cases h : i = j
  · subst h; rw [if_pos rfl, if_pos rfl, if_pos hi]; rfl
  · rw [if_neg h, if_neg h]
structure Tok where
  len : Nat
  dst : Nat
  byt : UInt8
  deriving DecidableEq, Inhabited
def tsz (t : Tok) : Nat := max t.len 1
def rightT (t : Tok) : Bool := if t.len = 0 then decide (t.dst = 0) else decide (t.byt = 0 ∧ 2 ≤ t.len ∧ t.len ≤ 255 ∧ 1 ≤ t.dst ∧ t.dst ≤ 4096)
def nb (n : Nat) : Nat := if h : n = 0 then 0 else nb (n / 2) + 1
  termination_by n
  decreasing_by omega
def gmB (n : Nat) : Int := 2 * ((nb n : Nat) : Int) - 1
def priT (t : Tok) : Int := if rightT t = false then 0 else if t.len = 0 then 9 else 1 + gmB (t.len - 1) + gmB t.dst
theorem nb_pos {n : Nat} (h : 0 < n) : 1 ≤ nb n := by rw [nb, dif_neg (by omega)]; omega
theorem nb_lt : ∀ (k n : Nat), n < 2 ^ k → nb n ≤ k
  | 0, n, h => by obtain rfl : n = 0 := by simpa using h
                  rw [nb, dif_pos rfl]; exact Nat.le_refl _
  | k + 1, n, h => by
    by_cases h0 : n = 0
    · rw [nb, dif_pos h0]; omega
    · rw [nb, dif_neg h0]
      have := nb_lt k (n / 2) (by rw [Nat.pow_succ] at h; omega)
      omega
theorem pri_lo (t : Tok) : 0 ≤ priT t := by
  unfold priT
  split
  · omega
  · rename_i h
    split
    · omega
    · rename_i h2
      simp only [rightT, if_neg h2, decide_eq_false_iff_not, Classical.not_not] at h
      have h1 := nb_pos (n := t.len - 1) (by omega)
      have h2 := nb_pos (n := t.dst) (by omega)
      unfold gmB
      omega
theorem pri_hi (t : Tok) : priT t ≤ 41 := by
  unfold priT
  split
  · omega
  · rename_i h
    split
    · omega
    · rename_i h2
      simp only [rightT, if_neg h2, decide_eq_false_iff_not, Classical.not_not] at h
      have h1 := nb_lt 8 (t.len - 1) (by omega)
      have h2 := nb_lt 13 t.dst (by omega)
      unfold gmB
      omega
def cmF (bs : List UInt8) (at_ d n : Nat) : Nat := if h : n < 255 ∧ at_ + n < bs.length ∧ bA bs (at_ + n) = bA bs (at_ + n - d) then cmF bs at_ d (n + 1) else n
  termination_by 255 - n
  decreasing_by omega
def cmn (bs : List UInt8) (at_ d : Nat) : Nat := cmF bs at_ d 0
theorem cmF_more {bs : List UInt8} {at_ d n : Nat} (h : n < 255 ∧ at_ + n < bs.length ∧ bA bs (at_ + n) = bA bs (at_ + n - d)) : cmF bs at_ d n = cmF bs at_ d (n + 1) := by rw [cmF, dif_pos h]
theorem cmF_end {bs : List UInt8} {at_ d n : Nat} (h : ¬ (n < 255 ∧ at_ + n < bs.length ∧ bA bs (at_ + n) = bA bs (at_ + n - d))) : cmF bs at_ d n = n := by rw [cmF, dif_neg h]
theorem cmF_spec {bs : List UInt8} {at_ d : Nat} : ∀ (m n : Nat), 255 - n = m → n ≤ 255 → at_ + n ≤ bs.length → (∀ j, j < n → bA bs (at_ + j) = bA bs (at_ + j - d)) → cmF bs at_ d n ≤ 255 ∧ at_ + cmF bs at_ d n ≤ bs.length ∧ ∀ j, j < cmF bs at_ d n → bA bs (at_ + j) = bA bs (at_ + j - d) := by
  intro m
  induction m using Nat.strongRecOn with
  | _ m ih =>
    intro n hm hn hl hj
    by_cases h : n < 255 ∧ at_ + n < bs.length ∧ bA bs (at_ + n) = bA bs (at_ + n - d)
    · rw [cmF_more h]
      refine ih _ (by omega) (n + 1) rfl (by omega) (by omega) fun j hj' => ?_
      rcases Nat.lt_or_ge j n with h1 | h1
      · exact hj j h1
      · obtain rfl : j = n := by omega
        exact h.2.2
    · rw [cmF_end h]; exact ⟨hn, hl, hj⟩
theorem cmn_spec {bs : List UInt8} {at_ d : Nat} (h : at_ ≤ bs.length) : cmn bs at_ d ≤ 255 ∧ at_ + cmn bs at_ d ≤ bs.length ∧ ∀ j, j < cmn bs at_ d → bA bs (at_ + j) = bA bs (at_ + j - d) :=
  cmF_spec _ 0 rfl (by omega) h fun j hj => absurd hj (Nat.not_lt_zero _)
def cpL (most d l : Nat) : List Tok := (List.range' l (most + 1 - l)).map fun n => ⟨n, d, 0⟩
def chF (bs : List UInt8) (at_ : Nat) : Nat → Nat → Nat → List Tok
  | 0, _, _ => []
  | k + 1, d, l => cpL (cmn bs at_ d) d l ++ chF bs at_ k (d + 1) (max l (cmn bs at_ d + 1))
def chL (bs : List UInt8) (at_ : Nat) : List Tok := ⟨0, 0, bA bs at_⟩ :: chF bs at_ (min at_ 4096) 1 2
theorem cpL_more {most d l : Nat} (h : l ≤ most) : cpL most d l = ⟨l, d, 0⟩ :: cpL most d (l + 1) := by
  unfold cpL
  obtain ⟨k, hk⟩ : ∃ k, most + 1 - l = k + 1 := ⟨most - l, by omega⟩
  rw [hk, List.range'_succ, List.map_cons, show most + 1 - (l + 1) = k by omega]
theorem cpL_end {most d l : Nat} (h : most < l) : cpL most d l = [] := by unfold cpL; rw [show most + 1 - l = 0 by omega]; rfl
def TokAt (bs : List UInt8) (at_ : Nat) (t : Tok) : Prop := rightT t = true ∧ t.dst ≤ at_ ∧ at_ + tsz t ≤ bs.length ∧ (t.len = 0 → t.byt = bA bs at_) ∧ (∀ j, j < t.len → bA bs (at_ + j) = bA bs (at_ + j - t.dst))
theorem cpL_at {bs : List UInt8} {at_ d l : Nat} (ha : at_ ≤ bs.length) (hl : 2 ≤ l) (hd : 1 ≤ d) (hda : d ≤ at_) (hd4 : d ≤ 4096) : ∀ t ∈ cpL (cmn bs at_ d) d l, TokAt bs at_ t := by
  intro t ht
  obtain ⟨n, hn, rfl⟩ := List.mem_map.1 ht
  rw [List.mem_range'_1] at hn
  obtain ⟨h1, h2, h3⟩ := cmn_spec (bs := bs) (at_ := at_) (d := d) ha
  refine ⟨?_, hda, ?_, fun h => ?_, fun j hj => h3 j ?_⟩
  · have h0 : ¬ n = 0 := by omega
    show rightT ⟨n, d, 0⟩ = true
    simp only [rightT, if_neg h0, decide_eq_true_eq]
    exact ⟨trivial, by omega, by omega, hd, hd4⟩
  · show at_ + max n 1 ≤ _
    omega
  · have : n = 0 := h
    omega
  · have : j < n := hj
    omega
theorem chF_at {bs : List UInt8} {at_ : Nat} (ha : at_ ≤ bs.length) : ∀ (k d l : Nat), 2 ≤ l → 1 ≤ d → d + k ≤ min at_ 4096 + 1 → ∀ t ∈ chF bs at_ k d l, TokAt bs at_ t
  | 0, _, _, _, _, _, t, ht => by cases ht
  | k + 1, d, l, hl, hd, hk, t, ht => by
    rw [chF, List.mem_append] at ht
    rcases ht with ht | ht
    · exact cpL_at ha hl hd (by omega) (by omega) t ht
    · exact chF_at ha k (d + 1) _ (by omega) (by omega) (by omega) t ht
theorem chL_at {bs : List UInt8} {at_ : Nat} (ha : at_ < bs.length) : ∀ t ∈ chL bs at_, TokAt bs at_ t := by
  intro t ht
  unfold chL at ht
  rw [List.mem_cons] at ht
  rcases ht with rfl | ht
  · exact ⟨rfl, Nat.zero_le _, by show at_ + max 0 1 ≤ _; omega, fun _ => rfl, fun j hj => absurd hj (Nat.not_lt_zero _)⟩
  · exact chF_at (by omega) _ _ _ (by omega) (by omega) (by omega) t ht
def stB (f : Tok → Int) : List Tok → Int × Tok → Int × Tok
  | [], s => s
  | t :: r, s => stB f r (if s.1 < 0 ∨ f t ≤ s.1 then (f t, t) else s)
def best0 : Int × Tok := (-1, ⟨0, 0, 0⟩)
def bestP (f : Tok → Int) (l : List Tok) : Int × Tok := stB f l best0
theorem stB_append (f : Tok → Int) : ∀ (l m : List Tok) (s : Int × Tok), stB f (l ++ m) s = stB f m (stB f l s)
  | [], _, _ => rfl
  | t :: r, m, s => by rw [List.cons_append, stB, stB_append f r m]; rfl
theorem stB_mem (f : Tok → Int) (hf : ∀ t, 0 ≤ f t) : ∀ (l : List Tok) (s : Int × Tok), (stB f l s = s) ∨ ((stB f l s).2 ∈ l ∧ (stB f l s).1 = f (stB f l s).2)
  | [], s => .inl rfl
  | t :: r, s => by
    rw [stB]
    rcases stB_mem f hf r (if s.1 < 0 ∨ f t ≤ s.1 then (f t, t) else s) with h | h
    · rw [h]
      by_cases hc : s.1 < 0 ∨ f t ≤ s.1
      · rw [if_pos hc]; exact .inr ⟨List.mem_cons_self .., rfl⟩
      · rw [if_neg hc]; exact .inl rfl
    · exact .inr ⟨List.mem_cons_of_mem _ h.1, h.2⟩
theorem best_mem (f : Tok → Int) (hf : ∀ t, 0 ≤ f t) {l : List Tok} (hl : l ≠ []) : (bestP f l).2 ∈ l ∧ (bestP f l).1 = f (bestP f l).2 := by
  unfold bestP
  cases l with
  | nil => exact absurd rfl hl
  | cons t r =>
    rw [stB, if_pos (.inl (by decide))]
    rcases stB_mem f hf r (f t, t) with h | h
    · rw [h]; exact ⟨List.mem_cons_self .., rfl⟩
    · exact ⟨List.mem_cons_of_mem _ h.1, h.2⟩
def potS (S : List (Int × Tok)) (j : Nat) : Int := match S[j]? with | some x => x.1 | none => 0
def costF (S : List (Int × Tok)) (t : Tok) : Int := priT t + potS S (tsz t - 1)
def solve (bs : List UInt8) : Nat → List (Int × Tok)
  | 0 => []
  | k + 1 => bestP (costF (solve bs k)) (chL bs (bs.length - 1 - k)) :: solve bs k
theorem solve_length (bs : List UInt8) : ∀ k, (solve bs k).length = k
  | 0 => rfl
  | k + 1 => by rw [solve, List.length_cons, solve_length bs k]
def solvP (bs : List UInt8) : List (Int × Tok) := solve bs bs.length
theorem solve_drop (bs : List UInt8) : ∀ (n k : Nat), k ≤ n → (solve bs n).drop (n - k) = solve bs k
  | 0, k, h => by obtain rfl : k = 0 := by omega
                  rfl
  | n + 1, k, h => by
    by_cases e : k = n + 1
    · subst e; rw [Nat.sub_self]; rfl
    · rw [show n + 1 - k = (n - k) + 1 by omega, solve, List.drop_succ_cons, solve_drop bs n k (by omega)]
def potAt (bs : List UInt8) (i : Nat) : Int := potS (solvP bs) i
def stepAt (bs : List UInt8) (i : Nat) : Tok := ((solvP bs).getD i best0).2
theorem solv_at {bs : List UInt8} {i : Nat} (hi : i < bs.length) : (solvP bs)[i]? = some (bestP (costF (solve bs (bs.length - 1 - i))) (chL bs i)) := by
  have h := solve_drop bs bs.length (bs.length - i) (by omega)
  rw [show bs.length - (bs.length - i) = i by omega, show bs.length - i = (bs.length - 1 - i) + 1 by omega, solve, show bs.length - 1 - (bs.length - 1 - i) = i by omega] at h
  have e : ((solvP bs).drop i)[0]? = some (bestP (costF (solve bs (bs.length - 1 - i))) (chL bs i)) := by
    unfold solvP
    rw [h]; rfl
  rwa [List.getElem?_drop, Nat.add_zero] at e
theorem potS_lo (S : List (Int × Tok)) (h : ∀ x ∈ S, 0 ≤ x.1) (j : Nat) : 0 ≤ potS S j := by
  unfold potS
  split
  · rename_i x hx
    exact h x (List.mem_of_getElem? hx)
  · exact Int.le_refl _
theorem solve_lo (bs : List UInt8) : ∀ k, ∀ x ∈ solve bs k, 0 ≤ x.1
  | 0, x, hx => by cases hx
  | k + 1, x, hx => by
    have ih := solve_lo bs k
    rw [solve, List.mem_cons] at hx
    rcases hx with rfl | hx
    · have hf : ∀ t, 0 ≤ costF (solve bs k) t := fun t => by
        have h1 := pri_lo t
        have h2 := potS_lo _ ih (tsz t - 1)
        unfold costF
        omega
      rw [(best_mem _ hf (by unfold chL; simp)).2]
      exact hf _
    · exact ih x hx
theorem cost_lo (bs : List UInt8) (k : Nat) (t : Tok) : 0 ≤ costF (solve bs k) t := by
  have h1 := pri_lo t
  have h2 := potS_lo _ (solve_lo bs k) (tsz t - 1)
  unfold costF
  omega
theorem potS_hi (S : List (Int × Tok)) (B : Int) (hB : 0 ≤ B) (h : ∀ x ∈ S, x.1 ≤ B) (j : Nat) : potS S j ≤ B := by
  unfold potS
  split
  · rename_i x hx
    exact h x (List.mem_of_getElem? hx)
  · exact hB
theorem solve_hi (bs : List UInt8) : ∀ k, ∀ x ∈ solve bs k, x.1 ≤ 41 * (k : Int)
  | 0, x, hx => by cases hx
  | k + 1, x, hx => by
    have ih := solve_hi bs k
    rw [solve, List.mem_cons] at hx
    rcases hx with rfl | hx
    · rw [(best_mem _ (cost_lo bs k) (by unfold chL; simp)).2]
      generalize (bestP (costF (solve bs k)) (chL bs (bs.length - 1 - k))).2 = t
      have h1 := pri_hi t
      have h2 := potS_hi _ (41 * (k : Int)) (by omega) ih (tsz t - 1)
      unfold costF
      omega
    · have := ih x hx; omega
theorem step_at {bs : List UInt8} {i : Nat} (hi : i < bs.length) : TokAt bs i (stepAt bs i) := by
  unfold stepAt
  rw [List.getD_eq_getElem?_getD, solv_at hi]
  exact chL_at hi _ (best_mem _ (cost_lo bs _) (by unfold chL; simp)).1
theorem tsz_pos (t : Tok) : 1 ≤ tsz t := by unfold tsz; omega
def optF (bs : List UInt8) (i : Nat) : List Tok := if h : i < bs.length then stepAt bs i :: optF bs (i + tsz (stepAt bs i)) else []
  termination_by bs.length - i
  decreasing_by have := tsz_pos (stepAt bs i); omega
def optL (bs : List UInt8) : List Tok := optF bs 0
theorem optF_more {bs : List UInt8} {i : Nat} (h : i < bs.length) : optF bs i = stepAt bs i :: optF bs (i + tsz (stepAt bs i)) := by rw [optF, dif_pos h]
theorem optF_end {bs : List UInt8} {i : Nat} (h : bs.length ≤ i) : optF bs i = [] := by rw [optF, dif_neg (by omega)]
def chkT (t : Tok) (before : Nat) : Int := if rightT t = false then 3 else if before < t.dst then 2 else if 65536 < before + tsz t then 5 else 0
def chkF : List Tok → Nat → Int
  | [], _ => 0
  | t :: r, n => if chkT t n = 0 then chkF r (n + tsz t) else chkT t n
def chkL (l : List Tok) : Int := if 65536 < l.length then 6 else chkF l 0
theorem optF_check {bs : List UInt8} (hl : bs.length ≤ 65536) : ∀ (d i : Nat), bs.length - i = d → chkF (optF bs i) i = 0 ∧ (optF bs i).length + i ≤ max bs.length i := by
  intro d
  induction d using Nat.strongRecOn with
  | _ d ih =>
    intro i hd
    by_cases h : i < bs.length
    · obtain ⟨h1, h2, h3, -, -⟩ := step_at h
      have h4 := tsz_pos (stepAt bs i)
      obtain ⟨e1, e2⟩ := ih _ (by omega) (i + tsz (stepAt bs i)) rfl
      have hc : chkT (stepAt bs i) i = 0 := by unfold chkT; rw [h1, if_neg (by simp), if_neg (by omega), if_neg (by omega)]
      rw [optF_more h, chkF, if_pos hc, List.length_cons]
      exact ⟨e1, by omega⟩
    · rw [optF_end (by omega)]; exact ⟨rfl, by simp; omega⟩
def opC (bs : List UInt8) (i : Nat) : Bool := decide ((bA bs i = 232 ∨ bA bs i = 233) ∧ i + 5 ≤ bs.length)
def hiC (bs : List UInt8) (i : Nat) : Bool := decide (bA bs (i + 4) = 0 ∨ bA bs (i + 4) = 255)
def siteC (bs : List UInt8) (i : Nat) : List Nat :=
  if h : i < bs.length then if opC bs i = true then (if hiC bs i = true then i :: siteC bs (i + 5) else siteC bs (i + 5)) else siteC bs (i + 1) else []
  termination_by bs.length - i
  decreasing_by all_goals omega
theorem siteC_end {bs : List UInt8} {i : Nat} (h : bs.length ≤ i) : siteC bs i = [] := by rw [siteC, dif_neg (by omega)]
theorem siteC_no {bs : List UInt8} {i : Nat} (h : i < bs.length) (ho : opC bs i = false) : siteC bs i = siteC bs (i + 1) := by rw [siteC, dif_pos h, ho]; rfl
theorem siteC_skip {bs : List UInt8} {i : Nat} (h : i < bs.length) (ho : opC bs i = true) (hh : hiC bs i = false) : siteC bs i = siteC bs (i + 5) := by rw [siteC, dif_pos h, ho, hh]; rfl
theorem siteC_hit {bs : List UInt8} {i : Nat} (h : i < bs.length) (ho : opC bs i = true) (hh : hiC bs i = true) : siteC bs i = i :: siteC bs (i + 5) := by rw [siteC, dif_pos h, ho, hh]; rfl
theorem siteC_ge {bs : List UInt8} : ∀ (d i x : Nat), bs.length - i = d → x ∈ siteC bs i → i ≤ x ∧ x + 5 ≤ bs.length := by
  intro d
  induction d using Nat.strongRecOn with
  | _ d ih =>
    intro i x hd hx
    by_cases h : i < bs.length
    · cases ho : opC bs i with
      | false => rw [siteC_no h ho] at hx; have := ih _ (by omega) (i + 1) x rfl hx; omega
      | true =>
        cases hh : hiC bs i with
        | false => rw [siteC_skip h ho hh] at hx; have := ih _ (by omega) (i + 5) x rfl hx; omega
        | true =>
          rw [siteC_hit h ho hh, List.mem_cons] at hx
          rcases hx with rfl | hx
          · have := (of_decide_eq_true ho).2
            omega
          · have := ih _ (by omega) (i + 5) x rfl hx; omega
    · rw [siteC_end (by omega)] at hx; cases hx
theorem siteC_apart {bs : List UInt8} : ∀ (d i : Nat), bs.length - i = d → (siteC bs i).Pairwise fun x y => x + 5 ≤ y := by
  intro d
  induction d using Nat.strongRecOn with
  | _ d ih =>
    intro i hd
    by_cases h : i < bs.length
    · cases ho : opC bs i with
      | false => rw [siteC_no h ho]; exact ih _ (by omega) (i + 1) rfl
      | true =>
        cases hh : hiC bs i with
        | false => rw [siteC_skip h ho hh]; exact ih _ (by omega) (i + 5) rfl
        | true =>
          rw [siteC_hit h ho hh, List.pairwise_cons]
          exact ⟨fun y hy => (siteC_ge _ (i + 5) y rfl hy).1, ih _ (by omega) (i + 5) rfl⟩
    · rw [siteC_end (by omega)]; exact List.Pairwise.nil
def sitesC (bs : List UInt8) : List Nat := siteC bs 0
def opnd (bs : List UInt8) (i : Nat) : Nat := (bA bs (i + 1)).toNat + 256 * (bA bs (i + 2)).toNat + 65536 * (bA bs (i + 3)).toNat
def newC (s : Int) (bs : List UInt8) (i : Nat) : Nat := (((opnd bs i : Nat) : Int) + s * ((i + 5 : Nat) : Int)).emod 16777216 |>.toNat
def byC (n t : Nat) : UInt8 := UInt8.ofNat (n / 256 ^ t)
def put3 (xs : List UInt8) (i n : Nat) : List UInt8 := ((xs.set (i + 1) (byC n 0)).set (i + 2) (byC n 1)).set (i + 3) (byC n 2)
theorem put3_length (xs : List UInt8) (i n : Nat) : (put3 xs i n).length = xs.length := by simp [put3]
def chg (s : Int) (bs : List UInt8) : Nat → List UInt8
  | 0 => bs
  | k + 1 => put3 (chg s bs k) (oN (sitesC bs) k) (newC s bs (oN (sitesC bs) k))
theorem chg_length (s : Int) (bs : List UInt8) : ∀ k, (chg s bs k).length = bs.length
  | 0 => rfl
  | k + 1 => by rw [chg, put3_length]; exact chg_length s bs k
def callsP (s : Int) (bs : List UInt8) : List UInt8 := chg s bs (sitesC bs).length
theorem callsP_length (s : Int) (bs : List UInt8) : (callsP s bs).length = bs.length := chg_length _ _ _
theorem oN_mem {l : List Nat} {k : Nat} (h : k < l.length) : oN l k ∈ l := by
  unfold oN
  rw [List.getD_eq_getElem?_getD, List.getElem?_eq_getElem h]
  exact List.getElem_mem _
theorem site_in {bs : List UInt8} {k : Nat} (h : k < (sitesC bs).length) : oN (sitesC bs) k + 5 ≤ bs.length := (siteC_ge _ 0 _ rfl (oN_mem h)).2
theorem site_apart {bs : List UInt8} {j k : Nat} (hj : j < k) (hk : k < (sitesC bs).length) : oN (sitesC bs) j + 5 ≤ oN (sitesC bs) k := by
  have h := List.pairwise_iff_getElem.1 (siteC_apart (bs := bs) _ 0 rfl) j k (by unfold sitesC at hk; omega) hk hj
  unfold oN sitesC
  have hk2 : k < (siteC bs 0).length := hk
  rw [List.getD_eq_getElem?_getD, List.getD_eq_getElem?_getD, List.getElem?_eq_getElem hk2, List.getElem?_eq_getElem (show j < (siteC bs 0).length from Nat.lt_trans hj hk2)]
  exact h
theorem put3_at {xs : List UInt8} {i n p : Nat} (hi : i + 4 ≤ xs.length) : bA (put3 xs i n) p = if p = i + 1 then byC n 0 else if p = i + 2 then byC n 1 else if p = i + 3 then byC n 2 else bA xs p := by
  unfold put3
  rw [bA_set (by simp; omega), bA_set (by simp; omega), bA_set (by omega)]
  by_cases h1 : p = i + 1
  · subst h1; rw [if_neg (by omega), if_neg (by omega), if_pos rfl, if_pos rfl]
  · rw [if_neg (Ne.symm h1)]
    by_cases h2 : p = i + 2
    · subst h2; rw [if_neg (by omega), if_pos rfl, if_neg h1, if_pos rfl]
    · rw [if_neg (Ne.symm h2)]
      by_cases h3 : p = i + 3
      · subst h3; rw [if_pos rfl, if_neg h1, if_neg h2]
      · rw [if_neg (Ne.symm h3), if_neg h1, if_neg h2, if_neg h3]
theorem chg_out {s : Int} {bs : List UInt8} : ∀ (k p : Nat), k ≤ (sitesC bs).length → (∀ j, j < k → ¬ (oN (sitesC bs) j < p ∧ p ≤ oN (sitesC bs) j + 3)) → bA (chg s bs k) p = bA bs p
  | 0, _, _, _ => rfl
  | k + 1, p, hk, h => by
    have h0 := site_in (bs := bs) (k := k) (by omega)
    have h1 := h k (by omega)
    rw [chg, put3_at (by rw [chg_length]; omega), if_neg (by omega), if_neg (by omega), if_neg (by omega)]
    exact chg_out k p (by omega) fun j hj => h j (by omega)
theorem chg_here {s : Int} {bs : List UInt8} {k t : Nat} (hk : k < (sitesC bs).length) : bA (chg s bs k) (oN (sitesC bs) k + t) = bA bs (oN (sitesC bs) k + t) :=
  chg_out k _ (by omega) fun j hj => by have := site_apart hj hk; omega
theorem opnd_lt (bs : List UInt8) (i : Nat) : opnd bs i < 16777216 := by
  unfold opnd
  have h1 := (bA bs (i + 1)).toNat_lt
  have h2 := (bA bs (i + 2)).toNat_lt
  have h3 := (bA bs (i + 3)).toNat_lt
  omega
theorem newC_lt (s : Int) (bs : List UInt8) (i : Nat) : newC s bs i < 16777216 := by
  unfold newC
  have := Int.emod_lt_of_pos (((opnd bs i : Nat) : Int) + s * ((i + 5 : Nat) : Int)) (show (0 : Int) < 16777216 by decide)
  have h2 := Int.emod_nonneg (((opnd bs i : Nat) : Int) + s * ((i + 5 : Nat) : Int)) (show (16777216 : Int) ≠ 0 by decide)
  show ((((opnd bs i : Nat) : Int) + s * ((i + 5 : Nat) : Int)) % 16777216).toNat < 16777216
  omega
end Go.Proofs.YtohadkmaemmfgaaGreatDoor
