/- A strings.Builder as a list of bytes; strings.ReplaceAll that strikes the line ends. -/
import Derived.Test.YtlbhggjkcfcobaaDoorSh2
import Derived.Test.YtlbhggjkcfcobaaDoorJb
import Derived.Test.YtlbhggjkcfcobaaDoorKs
import Derived.Shelf.Strings.BuilderK
namespace Go.Proofs.YtlbhggjkcfcobaaDoor
open Go.RowKit Go.Proofs
set_option linter.unusedVariables false

def Tryd.lays167_ren : Go.Shelf.Ren := ⟨fun | 167 => 25 | 240 => 32 | 276 => 52 | n => n, fun | 0 => 0 | 4 => 4 | 5 => 5 | 9 => 9 | 20 => 20 | 37 => 41 | 70 => 43 | 72 => 45 | 75 => 49 | 80 => 59 | 164 => 114 | n => n, fun | n => n⟩
theorem Tryd.lays167 : Go.Proofs.Lays.n167 Tryd.prog Tryd.lays167_ren := {
  mixed := by kernel_rfl
  f167 := (Tryd.func25).trans (congrArg some (by kernel_rfl))
  f240 := (Tryd.func32).trans (congrArg some (by kernel_rfl))
  f276 := (Tryd.func52).trans (congrArg some (by kernel_rfl))
  t0 := Tryd.underlying0
  a0 := Tryd.isAgg0
  z0 := Tryd.sizeOf0
  v0 := Tryd.zeroValue0
  t4 := Tryd.underlying4
  a4 := Tryd.isAgg4
  z4 := Tryd.sizeOf4
  v4 := Tryd.zeroValue4
  t5 := Tryd.underlying5
  a5 := Tryd.isAgg5
  z5 := Tryd.sizeOf5
  v5 := Tryd.zeroValue5
  t9 := Tryd.underlying9
  a9 := Tryd.isAgg9
  z9 := Tryd.sizeOf9
  v9 := Tryd.zeroValue9
  t20 := Tryd.underlying20
  a20 := Tryd.isAgg20
  z20 := Tryd.sizeOf20
  v20 := Tryd.zeroValue20
  t37 := Tryd.underlying41
  a37 := Tryd.isAgg41
  z37 := Tryd.sizeOf41
  v37 := Tryd.zeroValue41
  t70 := Tryd.underlying43
  a70 := Tryd.isAgg43
  z70 := Tryd.sizeOf43
  v70 := Tryd.zeroValue43
  t72 := Tryd.underlying45
  a72 := Tryd.isAgg45
  z72 := Tryd.sizeOf45
  v72 := Tryd.zeroValue45
  t75 := Tryd.underlying49
  a75 := Tryd.isAgg49
  z75 := Tryd.sizeOf49
  v75 := Tryd.zeroValue49
  t164 := Tryd.underlying114
  a164 := Tryd.isAgg114
  z164 := Tryd.sizeOf114
  v164 := Tryd.zeroValue114 }
theorem Tryd.Builder_Extra_167 : Builder.Extra Tryd.prog Tryd.lays167_ren where
  sizeBuilder := by kernel_rfl
  liesBuilder := by kernel_rfl
  t5 := Tryd.underlying5
  a5 := Tryd.isAgg5
  z5 := Tryd.sizeOf5
  v5 := Tryd.zeroValue5
  infoByte := by kernel_rfl
  cellsByte := by kernel_rfl
  sizeByte := by kernel_rfl
  neB5 := by decide
/-- a builder that holds bytes, in block b, of what lies from B on. -/
def Bld (B b : Nat) (l : List UInt8) (w : World) : Prop := Lib.IsBuilder 45 5 B b (Lib.byteCells l) w
theorem Bld.fresh (w : World) : Bld w.heap.size w.heap.size [] (w.alloc (.cells #[.pointer none, .slice none 0 0] 45)) := Lib.fresh_isBuilder _ _ w
theorem Bld.at_below {T e : TypeId} {B b : Nat} {p : Value} {bs : List Value} {w w' : World} (h : Lib.BuilderAt T e B b p bs w) (hb : Below w.heap.size w w') : Lib.BuilderAt T e B b p bs w' := by
  have hlt := h.lt
  obtain ⟨h1, v, h2, h3, h4⟩ := h
  refine ⟨h1, v, (hb.block b hlt).trans h2, ⟨h3.1, ?_⟩, h4⟩
  rcases h3.2 with h5 | ⟨g, cap, cur, h5, h6, h7, h8⟩
  · exact .inl h5
  · exact .inr ⟨g, cap, cur, h5, h6, (hb.block g (Array.getElem?_eq_some_iff.1 h7).1).trans h7, h8⟩
theorem Bld.below {B b : Nat} {l : List UInt8} {w w' : World} (h : Bld B b l w) (hb : Below w.heap.size w w') : Bld B b l w' := by
  rcases h with h | h
  · exact .inl (at_below h hb)
  · exact .inr (at_below h hb)
theorem bld_byte (B b : Nat) (l : List UInt8) (x : UInt8) (w : World) (h : Bld B b l w) (hl : l.length < 140737488355328) (hB : B ≤ w.heap.size) :
    Calls Tryd.prog 25 #[.pointer (some ⟨b, 0, none⟩), .int .u8 (x.toNat : Int)] w fun e w' => e = .returned .nilIface ∧ Bld B b (l ++ [x]) w' ∧ Below B w w' := by
  refine (Any.Builder_WriteByte Tryd.lays167 Tryd.Builder_Extra_167 B b (Lib.byteCells l) (x.toNat : Int) w h (by rw [Lib.byteCells_length]; omega) hB).mono ?_
  rintro e w' ⟨rfl, h1, h2⟩
  refine ⟨rfl, ?_, h2⟩
  unfold Bld
  rw [Lib.byteCells_append]
  exact .inr h1
theorem bld_str (B b : Nat) (l x : List UInt8) (w : World) (h : Bld B b l w) (hl : l.length + x.length ≤ 140737488355328) (hB : B ≤ w.heap.size) :
    Calls Tryd.prog 18 #[.pointer (some ⟨b, 0, none⟩), .string (strB x)] w fun e w' => e = .returned (.tuple #[.int .i64 (x.length : Int), .nilIface]) ∧ Bld B b (l ++ x) w' ∧ Below B w w' := by
  refine (Any.Builder_WriteString { Tryd.laysM155 with } Tryd.Builder_Extra_M155 B b (Lib.byteCells l) (strB x) w h (by rw [Lib.byteCells_length]; exact hl) hB).mono ?_
  rintro e w' ⟨rfl, h1, h2⟩
  refine ⟨rfl, ?_, h2⟩
  unfold Bld
  rw [Lib.byteCells_append]
  exact .inr h1
theorem bld_len (B b : Nat) (l : List UInt8) (w : World) (h : Bld B b l w) : Calls Tryd.prog 26 #[.pointer (some ⟨b, 0, none⟩)] w fun e w' => e = .returned (.int .i64 (l.length : Int)) ∧ w' = w := by
  refine (Tryd.Builder_Len B b (Lib.byteCells l) w h).mono ?_
  rintro e w' ⟨rfl, rfl⟩
  rw [Lib.byteCells_length]
  exact ⟨rfl, rfl⟩
theorem bld_text (B b : Nat) (l : List UInt8) (w : World) (h : Bld B b l w) (hB : B ≤ w.heap.size) : Calls Tryd.prog 22 #[.pointer (some ⟨b, 0, none⟩)] w fun e w' => e = .returned (.string (strB l)) ∧ Below B w w' :=
  Tryd.Builder_String_any B b l w h hB

theorem bld_text_k (B b : Nat) (l : List UInt8) (w : World) (h : Bld B b l w) (hB : B ≤ w.heap.size) : Calls Tryd.prog 22 #[.pointer (some ⟨b, 0, none⟩)] w fun e w' => e = .returned (.string (strB l)) ∧ Below B w w' ∧ Lib.OthersKept 5 (some b) w w' := by
  refine (Any.Builder_String_any_k Tryd.lays169 Tryd.Builder_Extra_169 B b l w (Lib.IsBuilderF.of h) hB).mono ?_
  rintro e w' ⟨rfl, _, h1, h2⟩
  exact ⟨rfl, h1, h2⟩
theorem Bld.block {B b : Nat} {l : List UInt8} {w : World} (h : Bld B b l w) : ∃ cs, w.heap[b]? = some (.cells cs 45 (0, 0)) := by
  rcases h with h | h
  · obtain ⟨_, v, h2, _⟩ := h; exact ⟨_, h2⟩
  · obtain ⟨_, v, h2, _⟩ := h; exact ⟨_, h2⟩
theorem Bld.kept_row {B b g : Nat} {l : List UInt8} {w w' : World} {t : TypeId} {cs : Array Value} (h : Bld B b l w) (hk : Lib.OthersKept 5 (some b) w w') (hr : rowV w g t cs) (h1 : t ≠ 5) (h2 : t ≠ 45) : rowV w' g t cs := by
  refine hk g _ hr (fun e => ?_) (fun c fz e => h1 (by injection e))
  obtain ⟨cs', hb⟩ := h.block
  injection e with e
  subst e
  have hr' : w.heap[g]? = _ := hr
  rw [hr'] at hb
  injection hb with hb
  injection hb with _ hb
  exact h2 hb
theorem Bld.kept_own {α : Type} {enc : α → List Value} {sz B b B' n c : Nat} {l : List UInt8} {w w' : World} {e : TypeId} {A : Option Addr} {xs : List α} (h : Bld B b l w) (hk : Lib.OthersKept 5 (some b) w w') (ho : OwnS enc sz w B' e A n c xs) (h1 : e ≠ 5) (h2 : e ≠ 45) : OwnS enc sz w' B' e A n c xs := by
  refine ⟨ho.1, ?_⟩
  rcases ho.2 with h3 | ⟨g, cap, cur, h3, h4, h5, h6⟩
  · exact .inl h3
  · exact .inr ⟨g, cap, cur, h3, h4, h.kept_row hk h5 h1 h2, h6⟩
theorem index10 (s : List UInt8) : Lib.index s [10] = if s.contains 10 = true then ((s.takeWhile (· != 10)).length : Int) else -1 := by rw [Lib.index_one, indexByte_run]
theorem strike (n : Nat) : ∀ s : List UInt8, s.length < n → (10 : UInt8) ∉ Lib.replaceK [10] [] (Lib.count s [10]) s ∧ (Lib.replaceK [10] [] (Lib.count s [10]) s).length ≤ s.length := by
  induction n with
  | zero => intro s h; exact absurd h (Nat.not_lt_zero _)
  | succ n ih =>
    intro s h
    by_cases hc : s.contains 10 = true
    · have hi : Lib.index s [10] = ((s.takeWhile (· != 10)).length : Nat) := by rw [index10, if_pos hc]
      have hlt : (s.takeWhile (· != 10)).length < s.length := by
        have := Lib.index_room s [10] (by rw [hi]; omega)
        rw [hi] at this
        simp at this
        omega
      rw [Lib.count_hit (by simp) hi, Nat.add_comm, Lib.replaceK_hit _ _ _ _ _ hi]
      obtain ⟨h1, h2⟩ := ih (s.drop ((s.takeWhile (· != 10)).length + [(10 : UInt8)].length)) (by rw [List.length_drop]; simp; omega)
      have ht : s.take (s.takeWhile (· != 10)).length = s.takeWhile (· != 10) := (takeWhile_take' _ s).symm
      rw [ht]
      refine ⟨?_, ?_⟩
      · rw [List.append_nil, List.mem_append]
        rintro (hm | hm)
        · obtain ⟨x, t, e1, e2, e3, e4, e5⟩ := takeDrop (· != 10) s
          rw [← e2] at hm
          have := e4 _ hm
          simp at this
        · exact h1 hm
      · rw [List.append_nil, List.length_append]
        rw [List.length_drop] at h2
        simp at h2 ⊢
        omega
    · have hi : Lib.index s [10] = -1 := by rw [index10, if_neg hc]
      rw [Lib.count_miss hi]
      refine ⟨fun hm => hc ?_, Nat.le_refl _⟩
      show s.contains 10 = true
      rw [Lib.replaceK] at hm
      simpa using hm
theorem replNl_any (c : List UInt8) (w : World) (hS : w.ShapedOpen Tryd.prog) (hc : c.length ≤ 100) :
    Calls Tryd.prog 24 #[.string (strB c), .string ⟨#[10]⟩, .string ⟨#[]⟩] w fun e w' => ∃ d : List UInt8, e = .returned (.string (strB d)) ∧ (10 : UInt8) ∉ d ∧ d.length ≤ c.length ∧ Below w.heap.size w w' := by
  refine (Tryd.strings_ReplaceAll_shaped (strB c) ⟨#[10]⟩ ⟨#[]⟩ w hS (by rw [strB_size']; omega) (by decide) (by rw [strB_size']; show c.length + _ * 0 ≤ _; omega)).mono ?_
  rintro e w' ⟨rfl, hb⟩
  refine ⟨Lib.replaceK [10] [] (Lib.count c [10]) c, rfl, ?_, ?_, hb⟩
  · exact (strike (c.length + 1) c (Nat.lt_succ_self _)).1
  · exact (strike (c.length + 1) c (Nat.lt_succ_self _)).2
end Go.Proofs.YtlbhggjkcfcobaaDoor
