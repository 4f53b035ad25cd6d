/- The walk of the law SuffixUnique. -/
import Derived.Test.YtkndcbnajkiceaaLa
import Derived.BigRegion
namespace Go.Proofs.Ytkndcbnajkiceaa
open Go.RowKit Go.Proofs
set_option linter.unusedVariables false

theorem Own.set {α : Type} {enc : α → Value} {w : World} {B g : Nat} {e : TypeId} {n c : Nat} {xs : List α} (h : Own enc w B e (some ⟨g, 0, none⟩) n c xs) (j : Nat) (u : α) : Own enc (w.setCell ⟨g, j, none⟩ (enc u)) B e (some ⟨g, 0, none⟩) n c (xs.set j u) := by
  have := (World.ownsRow.stored h j (enc u)).1
  unfold Own
  rw [List.map_set]
  exact this
theorem Own.at_ {α : Type} {enc : α → Value} {w : World} {B g : Nat} {e : TypeId} {n c : Nat} {xs : List α} (h : Own enc w B e (some ⟨g, 0, none⟩) n c xs) (d : α) {j : Nat} (hj : j < n) : w.cell? ⟨g, j, none⟩ = some (enc (xs.getD j d)) := by
  obtain ⟨b, off, e1, _, hc⟩ := h.cells d (by omega)
  injection e1 with e1
  injection e1 with e2 e3
  subst e2 e3
  have := hc j hj
  rwa [Nat.zero_add] at this
theorem Own.free {α : Type} {enc : α → Value} {w : World} {B g : Nat} {e : TypeId} {n c : Nat} {xs : List α} (h : Own enc w B e (some ⟨g, 0, none⟩) n c xs) (j : Nat) : w.frozen? ⟨g, j, none⟩ = false := World.ownsRow.frozenAt h j
theorem Own.some_ {α : Type} {enc : α → Value} {w : World} {B : Nat} {e : TypeId} {A : Option Addr} {n c : Nat} {xs : List α} (h : Own enc w B e A n c xs) (hn : 0 < n) : ∃ g, A = some ⟨g, 0, none⟩ ∧ B ≤ g ∧ g < w.heap.size := by
  obtain ⟨g, cap, hv, hb, hlt⟩ := World.ownsRow.form h hn
  injection hv with hv
  exact ⟨g, hv, hb, hlt⟩

/-- two places exchanged. -/
def swapL (zs : List Int) (x y : Nat) : List Int := (zs.set x (gi zs y)).set y (gi zs x)
theorem swapL_length (zs : List Int) (x y : Nat) : (swapL zs x y).length = zs.length := by simp [swapL]
theorem gi_swapL {zs : List Int} {x y : Nat} (hx : x < zs.length) (hy : y < zs.length) (i : Nat) : gi (swapL zs x y) i = if i = y then gi zs x else if i = x then gi zs y else gi zs i := by
  unfold swapL
  by_cases h1 : i = y
  · subst h1; rw [if_pos rfl, gi_set_same (by simpa using hy)]
  · rw [if_neg h1, gi_set_ne (fun e => h1 e.symm)]
    by_cases h2 : i = x
    · subst h2; rw [if_pos rfl, gi_set_same hx]
    · rw [if_neg h2, gi_set_ne (fun e => h2 e.symm)]
theorem swapL_self {zs : List Int} {x : Nat} (hx : x < zs.length) : swapL zs x x = zs := by
  refine gi_ext (swapL_length _ _ _) (fun i hi => ?_)
  rw [gi_swapL hx hx]
  by_cases h : i = x
  · subst h; simp
  · simp [h]
theorem gi_inj {zs : List Int} (hn : zs.Nodup) {i j : Nat} (hi : i < zs.length) (hj : j < zs.length) (h : gi zs i = gi zs j) : i = j := by
  rw [gi_get hi, gi_get hj] at h
  have hp := List.nodup_iff_pairwise_ne.1 hn
  rcases Nat.lt_trichotomy i j with h1 | h1 | h1
  · exact absurd h (List.pairwise_iff_getElem.1 hp i j hi hj h1)
  · exact h1
  · exact absurd h.symm (List.pairwise_iff_getElem.1 hp j i hj hi h1)
theorem mem_gi {zs : List Int} {z : Int} (h : z ∈ zs) : ∃ i, i < zs.length ∧ gi zs i = z := by
  obtain ⟨i, hi, e⟩ := List.mem_iff_getElem.1 h
  exact ⟨i, hi, by rw [gi_get hi]; exact e⟩
theorem nodup_of_gi {zs : List Int} (h : ∀ i j, i < j → j < zs.length → gi zs i ≠ gi zs j) : zs.Nodup := by
  rw [List.nodup_iff_pairwise_ne, List.pairwise_iff_getElem]
  intro i j hi hj hij
  have := h i j hij hj
  rwa [gi_get hi, gi_get hj] at this
theorem swapL_perm {zs : List Int} {x y : Nat} (hx : x < zs.length) (hy : y < zs.length) (h : permErr zs = 0) : permErr (swapL zs x y) = 0 := by
  obtain ⟨h1, h2⟩ := (permErr_zero_iff zs).1 h
  rw [permErr_zero_iff, swapL_length]
  constructor
  · intro z hz
    obtain ⟨i, hi, rfl⟩ := mem_gi hz
    rw [swapL_length] at hi
    rw [gi_swapL hx hy]
    split
    · exact h1 _ (gi_mem hx)
    · split
      · exact h1 _ (gi_mem hy)
      · exact h1 _ (gi_mem hi)
  · refine nodup_of_gi (fun i j hij hj e => ?_)
    rw [swapL_length] at hj
    rw [gi_swapL hx hy, gi_swapL hx hy] at e
    have inj := fun {a b : Nat} (ha : a < zs.length) (hb : b < zs.length) (e : gi zs a = gi zs b) => gi_inj h2 ha hb e
    repeat' split at e
    all_goals first
      | omega
      | (have := inj (by omega) (by omega) e; omega)
theorem swapL_ne {zs : List Int} {x y : Nat} (hx : x < zs.length) (hy : y < zs.length) (h : zs.Nodup) (hne : x ≠ y) : swapL zs x y ≠ zs := fun e => by
  have h1 := gi_swapL hx hy x
  rw [e, if_neg hne, if_pos rfl] at h1
  exact hne (gi_inj h hx hy h1)
theorem ranksL_length (zs : List Int) : (ranksL zs).length = zs.length := by simp [ranksL]
theorem gi_ranksL' {zs : List Int} {p : Nat} (h : p < zs.length) : gi (ranksL zs) p = ((zs.idxOf (p : Int) : Nat) : Int) := by simp [gi, ranksL, List.getD, h]
theorem idx_lt {zs : List Int} (h : permErr zs = 0) {p : Nat} (hp : p < zs.length) : zs.idxOf (p : Int) < zs.length := List.idxOf_lt_length_of_mem (perm_all_mem h hp)
theorem gi_idx {zs : List Int} (h : permErr zs = 0) {p : Nat} (hp : p < zs.length) : gi zs (zs.idxOf (p : Int)) = p := by
  rw [gi_get (idx_lt h hp)]; exact List.getElem_idxOf _
theorem idx_gi {zs : List Int} (h : permErr zs = 0) {i p : Nat} (hi : i < zs.length) (e : gi zs i = (p : Int)) : zs.idxOf (p : Int) = i := by
  obtain ⟨h1, h2⟩ := (permErr_zero_iff zs).1 h
  have hp : p < zs.length := by have := h1 _ (gi_mem hi); omega
  exact gi_inj h2 (idx_lt h hp) hi ((gi_idx h hp).trans e.symm)
theorem ranksL_perm {zs : List Int} (h : permErr zs = 0) : permErr (ranksL zs) = 0 := by
  rw [permErr_zero_iff, ranksL_length]
  constructor
  · intro z hz
    obtain ⟨i, hi, rfl⟩ := mem_gi hz
    rw [ranksL_length] at hi
    rw [gi_ranksL' hi]
    have := idx_lt h hi
    omega
  · refine nodup_of_gi (fun i j hij hj e => ?_)
    rw [ranksL_length] at hj
    rw [gi_ranksL' (by omega), gi_ranksL' hj] at e
    have h1 := gi_idx h (p := i) (by omega)
    have h2 := gi_idx h hj
    rw [show zs.idxOf (i : Int) = zs.idxOf (j : Int) by omega, h2] at h1
    omega
theorem ranks_ranks {zs : List Int} (h : permErr zs = 0) : ranksL (ranksL zs) = zs := by
  refine gi_ext (by rw [ranksL_length, ranksL_length]) (fun p hp => ?_)
  rw [ranksL_length, ranksL_length] at hp
  rw [gi_ranksL' (by rw [ranksL_length]; exact hp)]
  obtain ⟨h1, h2⟩ := (permErr_zero_iff zs).1 h
  have hz := h1 _ (gi_mem hp)
  obtain ⟨q, hq⟩ := Int.eq_ofNat_of_zero_le hz.1
  have hq' : q < zs.length := by omega
  have e : gi (ranksL zs) q = (p : Int) := by rw [gi_ranksL' hq', idx_gi h hp hq]
  rw [idx_gi (ranksL_perm h) (by rw [ranksL_length]; exact hq') e, hq]
theorem ranks_ok {zs : List Int} (h : permErr zs = 0) (h1 : 0 < zs.length) (h2 : zs.length ≤ 65537) : ranksErr zs = 0 ∧ ranksOut zs = ranksL zs := by
  have he : ranksErr zs = 0 := by unfold ranksErr; rw [if_neg (by omega), h]
  exact ⟨he, by unfold ranksOut; rw [if_pos he]⟩

set_option maxRecDepth 100000 in
set_option maxHeartbeats 2000000 in
theorem suffixUnique_any (A : Option Addr) (c n : Nat) (bs : List UInt8) (i k : Int) (w : World) (hx : Bytes w A n c bs) (hi0 : 0 ≤ i) (hi1 : i ≤ 65535) (hk0 : 0 ≤ k) (hk1 : k ≤ 65535) :
    Calls Try.prog 6 #[.slice A n c, .int .u16 i, .int .u16 k] w fun e w' => e = .returned (.bool true) ∧ Below w.heap.size w w' := by
  by_cases hn : 300 < n
  · have d0 : decide ((300 : Int) < (n : Int)) = true := by simp; omega
    go_enter Try.func6, Try.ntmps6
    go_wp2_with fail
    refine (awake_any _).mono ?_
    rintro e w1 ⟨rfl, hb1⟩
    go_wp2_with fail
    go_ret
    exact ⟨rfl, hb1⟩
  · have d0 : decide ((300 : Int) < (n : Int)) = false := by simp; omega
    have Hx := Lib.hid hx.1
    have h1 := sort_any A c n bs w hx (by omega)
    have H1 := Lib.hid h1; clear h1
    obtain ⟨x, hxx⟩ : ∃ x : Nat, i % ((n : Int) + 1) = (x : Int) := Int.eq_ofNat_of_zero_le (Int.emod_nonneg _ (by omega))
    obtain ⟨y, hyy⟩ : ∃ y : Nat, k % ((n : Int) + 1) = (y : Int) := Int.eq_ofNat_of_zero_le (Int.emod_nonneg _ (by omega))
    have hx1 : x ≤ n := by have := Int.emod_lt_of_pos i (show (0 : Int) < (n : Int) + 1 by omega); omega
    have hy1 : y ≤ n := by have := Int.emod_lt_of_pos k (show (0 : Int) < (n : Int) + 1 by omega); omega
    have d1 : ((((n : Int) + 1)) != ((n : Int) + 1)) = false := by simp
    go_enter Try.func6, Try.ntmps6
    go_wp2_with fail
    refine H1.out.mono ?_
    rintro e w1 ⟨A1, n1, c1, rfl, hs1, hb1⟩
    have hl1 := hs1.1
    rw [sortL_length, Hx.out] at hl1
    subst hl1
    have hxw := hx.below hb1
    -- other := append([]int{}, l...)
    have hown0 : Own (Value.int .i64) (w1.alloc (.cells #[] 3)) w1.heap.size 3 (some ⟨w1.heap.size, 0, none⟩) 0 0 [] := World.ownsRow_lit _ _ 0 (Nat.le_refl _) (by simp [maxLen]) rfl
    have hb2 : Below w1.heap.size w1 (w1.alloc (.cells #[] 3)) := balloc (Below.refl _ _) _
    have hs2 := hs1.below hb2
    have hl2 : Hid ((sortL bs).length = n + 1) := by show _ = _; rw [sortL_length, Hx.out]
    have m1 : Hid (0 + (n + 1) ≤ maxLen ∧ (0 + (n + 1)) * 8 ≤ 140737488355328) := by simp [Hid, maxLen]; omega
    have HX := Lib.hid hxx; clear hxx
    have HY := Lib.hid hyy; clear hyy
    go_upto_region 7 with (first
      | (at_builtin; refine wpList_app rfl (.tmp 35) (.tmp 36) rfl uI infoI one_i64 rfl rfl hown0 hb2.size _ (n + 1) _ (sortL bs) 0 hl2.out hs2.2.2 rfl m1.out.1 m1.out.2 ?_; intro A3 c3 w3 ho3 hb3 hg3))
    simp only [Nat.zero_add, List.nil_append] at ho3
    obtain ⟨g, rfl, hg, hgl⟩ := ho3.some_ (by omega)
    have hb3' : Below w1.heap.size w1 w3 := hb2.trans hb3
    have hs3 := hs1.below hb3'
    have hx3 := hxw.below hb3'
    clear hb2 hb3 hg3 hs2 hown0 m1
    go_quiet (fail)
    rw [HX.out, HY.out]
    have bx : (x : Int) < (n : Int) + 1 := by omega
    have bY : (y : Int) < (n : Int) + 1 := by omega
    obtain ⟨W, hW⟩ : ∃ W : World, W = w3.drewN nq := ⟨_, rfl⟩
    have hd4 : Drawn w3 W := ⟨nq, hW⟩
    have ho4 := ho3.below (hd4.below _)
    have hb4 : Below w1.heap.size w1 W := hb3'.trans (hd4.below _)
    have c1 : W.cell? ⟨g, x, none⟩ = some (.int .i64 (gi (sortL bs) x)) := ho4.at_ 0 (by omega)
    have c2 : W.cell? ⟨g, y, none⟩ = some (.int .i64 (gi (sortL bs) y)) := ho4.at_ 0 (by omega)
    have f1 := ho4.free x
    have f2 := ho4.free y
    have c3' := (ho4.set x (gi (sortL bs) y)).at_ 0 (j := y) (by omega)
    have f3' := (ho4.set x (gi (sortL bs) y)).free y
    have ho5 := (ho4.set x (gi (sortL bs) y)).set y (gi (sortL bs) x)
    have hb5 : Below w1.heap.size w1 ((W.setCell ⟨g, x, none⟩ (.int .i64 (gi (sortL bs) y))).setCell ⟨g, y, none⟩ (.int .i64 (gi (sortL bs) x))) := (hb4.setCell (p := ⟨g, x, none⟩) hg _).setCell (p := ⟨g, y, none⟩) hg _
    go_upto_region 8 with fail
    rw [← hW]
    clear hW hd4 ho4 ho3 hb3' hs3 hx3
    go_region
    obtain ⟨W5, hW5⟩ : ∃ W5, W5 = (W.setCell ⟨g, x, none⟩ (.int .i64 (gi (sortL bs) y))).setCell ⟨g, y, none⟩ (.int .i64 (gi (sortL bs) x)) := ⟨_, rfl⟩
    rw [← hW5] at ho5 hb5
    have ho6 : Ints W5.drew (some ⟨g, 0, none⟩) (n + 1) c3 (swapL (sortL bs) x y) := ho5.ints
    have hb6 : Below w1.heap.size w1 W5.drew := hb5.drew
    rw [← hW5]
    obtain ⟨W6, hW6⟩ : ∃ W6, W6 = W5.drew := ⟨_, rfl⟩
    rw [← hW6] at ho6 hb6
    rw [← hW6]
    clear hW6 hW5 ho5 hb5 c1 c2 c3' f1 f2 f3' hb4
    have hls : (sortL bs).length = n + 1 := hl2.out
    have hper := swapL_perm (zs := sortL bs) (x := x) (y := y) (by omega) (by omega) (sortL_perm bs)
    have hlen := swapL_length (sortL bs) x y
    obtain ⟨r1, r2⟩ := ranks_ok hper (by omega) (by omega)
    obtain ⟨r3, r4⟩ := ranks_ok (ranksL_perm hper) (by rw [ranksL_length]; omega) (by rw [ranksL_length]; omega)
    rw [ranks_ranks hper] at r4
    have h7 := ranks_any _ _ _ _ _ ho6 (by omega)
    rw [r1, r2] at h7
    have H7 := Lib.hid h7
    have hlen2 : Hid ((ranksL (swapL (sortL bs) x y)).length = n + 1 ∧ (swapL (sortL bs) x y).length = n + 1) := by show _ ∧ _; rw [ranksL_length]; omega
    have hchk : Hid ((x = y → checkErr bs (swapL (sortL bs) x y) = 0) ∧ (x ≠ y → checkErr bs (swapL (sortL bs) x y) ≠ 0)) := by
      refine ⟨fun e => ?_, fun e he => ?_⟩
      · subst e; rw [swapL_self (by omega)]; exact checkErr_sortL bs (by have := Hx.out; omega)
      · exact swapL_ne (by omega) (by omega) ((permErr_zero_iff _).1 (sortL_perm bs)).2 e ((checkErr_iff (by have := Hx.out; omega)).1 he)
    have R3 := Lib.hid r3
    have R4 := Lib.hid r4
    clear h7 hls hper hlen r1 r2 r3 r4
    have hbw := hb1.trans (hb6.mono hb1.size)
    go_wp2_with fail
    refine H7.out.mono ?_
    rintro e w7 ⟨A7, n7, c7, rfl, hs7, hb7⟩
    obtain rfl : n7 = n + 1 := by have := hs7.1; have := hlen2.out.1; omega
    have h8 := ranks_any _ _ _ _ _ hs7 (by omega)
    rw [R3.out, R4.out] at h8
    have H8 := Lib.hid h8; clear h8
    go_wp2_with fail
    refine H8.out.mono ?_
    rintro e w8 ⟨A8, n8, c8, rfl, hs8, hb8⟩
    obtain rfl : n8 = n + 1 := by have := hs8.1; have := hlen2.out.2; omega
    go_wp2_with fail
    refine (awake_any _).mono ?_
    rintro e w9 ⟨rfl, hb9⟩
    have ho9 := ((ho6.below hb7).below hb8).below hb9
    have hs9 := hs8.below hb9
    have hbw9 := ((hbw.trans (hb7.mono hbw.size)).trans (hb8.mono (hbw.trans (hb7.mono hbw.size)).size)).trans (hb9.mono ((hbw.trans (hb7.mono hbw.size)).trans (hb8.mono (hbw.trans (hb7.mono hbw.size)).size)).size)
    have h10 := check_any A _ c n _ _ bs _ w9 (hx.below hbw9) ho9 (by omega) (by omega)
    have H10 := Lib.hid h10; clear h10
    go_wp2_with fail
    refine H10.out.mono ?_
    rintro e w10 ⟨rfl, hb10⟩
    have hbw10 := hbw9.trans (hb10.mono hbw9.size)
    have h11 := same_any _ _ _ _ _ _ _ _ _ (hs9.below hb10) (ho9.below hb10) (by omega) (by omega)
    rw [decide_eq_true rfl] at h11
    have H11 := Lib.hid h11; clear h11
    by_cases hxy : x = y
    · have d2 : (checkErr bs (swapL (sortL bs) x y) == 0) = true := by simp [hchk.out.1 hxy]
      have d3 : ((x : Int) == (y : Int)) = true := by simp [hxy]
      have Hxy := Lib.hid hxy; clear hxy
      go_wp2_with fail
      refine H11.out.mono ?_
      rintro e w11 ⟨rfl, hd11⟩
      go_wp2_with fail
      go_ret
      exact ⟨rfl, hbw10.trans (hd11.below _)⟩
    · have d2 : (checkErr bs (swapL (sortL bs) x y) == 0) = false := by simp [hchk.out.2 hxy]
      have d3 : ((x : Int) == (y : Int)) = false := by simp; omega
      have Hxy := Lib.hid hxy; clear hxy
      go_wp2_with fail
      refine H11.out.mono ?_
      rintro e w11 ⟨rfl, hd11⟩
      go_wp2_with fail
      go_ret
      exact ⟨rfl, hbw10.trans (hd11.below _)⟩
end Go.Proofs.Ytkndcbnajkiceaa
