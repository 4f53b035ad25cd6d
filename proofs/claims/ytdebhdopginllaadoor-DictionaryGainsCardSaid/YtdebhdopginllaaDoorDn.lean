/- Learn of the program. -/
import Derived.Test.YtdebhdopginllaaDoorDm
import Derived.Sort.OwnSorted
namespace Go.Proofs.YtdebhdopginllaaDoor
open Go.RowKit Go.Proofs Go.Sort Go.Shelf
set_option linter.unusedVariables false
attribute [local go_sem] Oper.semAt_some

theorem keys_any (M : Nat) (W : World) : Calls Tryd.prog 17 #[.map (some M)] W fun e w' => e = .returned (.func (.func 35) #[] #[.pointer (some ⟨W.heap.size, 0, none⟩)]) ∧ w' = W.alloc (.cells #[.map (some M)] 40) :=
  (callsIn_wide (n := 5)).1 (AnyZ.keys_in Tryd.keysZ Fence.wide 5 trivial rfl (some M) W)

theorem strKeys_mem {D : DataW Unit} {P : Program} {k : TypeId} {R : Value → Option (DataW Unit × List MemPlace)} {w : World} {b n : Nat} (hown : w.ownsMap P k R b n D) (hk : P.underlying k = some .string) : (strKeys D).Nodup ∧ ∀ s, s ∈ strKeys D ↔ Maps.has D (.string s) = true := by
  obtain ⟨es, rfl, hpw, _⟩ := hown.entries (Maps.string_keyed hk)
  obtain ⟨es', he', hko⟩ := hown.keysOf
  cases he'
  have hstr : ∀ p ∈ es, ∃ x, p.1 = .string x := fun p hp => by
    obtain ⟨v, hv⟩ := hko p hp
    obtain ⟨x, _, hx, _⟩ := Maps.keyOf_str hk hv
    exact ⟨x, hx⟩
  constructor
  · show (es.map fun p => strOf p.1).Nodup
    rw [List.Nodup, List.pairwise_map]
    refine hpw.imp_of_mem ?_
    intro p q hp hq hne e
    obtain ⟨x, hx⟩ := hstr p hp
    obtain ⟨y, hy⟩ := hstr q hq
    rw [hx, hy] at e hne
    exact hne (by have : x = y := e; rw [this])
  · intro s
    show s ∈ (es.map fun p => strOf p.1) ↔ es.any (fun p => p.1.sameKey (.string s)) = true
    rw [List.mem_map, List.any_eq_true]
    constructor
    · rintro ⟨p, hp, rfl⟩
      obtain ⟨x, hx⟩ := hstr p hp
      exact ⟨p, hp, by rw [hx]; simp [Lit.sameKey, strOf]⟩
    · rintro ⟨p, hp, h⟩
      obtain ⟨x, hx⟩ := hstr p hp
      rw [hx] at h
      refine ⟨p, hp, ?_⟩
      rw [hx]
      simpa [Lit.sameKey, strOf] using h

def Collectd (W1 : World) (f : List UInt8 → Option Int) (n : Nat) (e : Ending) (w' : World) : Prop :=
  ∃ A m c ss, e = .returned (.slice A m c) ∧ Own encS w' W1.heap.size 9 A m c ss ∧ ss.Nodup ∧ (∀ s, s ∈ ss ↔ (f s).isSome = true) ∧ m ≤ n ∧ Below W1.heap.size W1 w'
theorem collect_any (M n : Nat) (f : List UInt8 → Option Int) (W W1 : World) (hW1 : W1 = W.alloc (.cells #[.map (some M)] 40)) (hm : MapIs Tryd.prog 9 3 .i64 W M n f) (hn : n ≤ 1000000) :
    Calls Tryd.prog 16 #[.func (.func 35) #[] #[.pointer (some ⟨W.heap.size, 0, none⟩)]] W1 (Collectd W1 f n) := by
  subst hW1
  have hml := hm.lt
  obtain ⟨D, hown, hD⟩ := hm
  have hsl := hown.size_le
  have hown1 : (W.alloc (.cells #[.map (some M)] 40)).ownsMap Tryd.prog 9 (plainElem Tryd.prog 3) M n D := by
    obtain ⟨es, clock, hb, Ft, hs, hD⟩ := hown
    exact ⟨es, clock, (Below.heap_alloc _ _ M hml).trans hb, Ft, hs, hD⟩
  have hseq : SeqGives Fence.wide 3 Tryd.prog 35 #[.pointer (some ⟨W.heap.size, 0, none⟩)] encStr (fun ss => ss.Perm (strKeys D)) (Maps.size D) (W.alloc (.cells #[.map (some M)] 40)) :=
    AnyZ.keys_gives (ρ := Tryd.keysZ_ren) { Tryd.keysZ with } Fence.wide _ trivial rfl (by omega) W.heap.size M n D _ (by simp) (by simp) hown1
  have hc := AnyZ.collect_in Tryd.collectZ Fence.wide 5 trivial trivial rfl (by omega) 35 #[.pointer (some ⟨W.heap.size, 0, none⟩)] trivial (enters_of Tryd.func35 (by kernel_rfl) rfl) _ _ (by simp [maxLen]; omega) (by omega) _ hseq
  refine ((callsIn_wide (n := 5)).1 hc).mono ?_
  rintro e w' ⟨v, ss, rfl, hp, hr, hnil, hb⟩
  have hform : ∃ A c, v = .slice A ss.length c := by
    rcases hr.2 with ⟨rfl, h0⟩ | ⟨g, cap, cur, rfl, _⟩
    · exact ⟨none, 0, by rw [h0]⟩
    · exact ⟨_, _, rfl⟩
  obtain ⟨A, c, rfl⟩ := hform
  obtain ⟨hnd, hmem⟩ := strKeys_mem hown uS
  have hlen : ss.length ≤ n := by
    have : (strKeys D).length = Maps.size D := by
      obtain ⟨es, clock, _, _, _, rfl⟩ := hown
      simp [strKeys, Maps.size]
    rw [hp.length_eq, this]; exact hsl
  exact ⟨A, ss.length, c, ss, rfl, hr, hp.nodup_iff.2 hnd, fun s => by rw [hp.mem_iff, hmem s, (hD s).1], hlen, hb⟩

/-- the counts after some words. -/
def cntF (ws : List (List UInt8)) : List UInt8 → Option Int := fun s => if s ∈ ws then some (ws.count s : Int) else none
theorem cntF_get (ws : List (List UInt8)) (s : List UInt8) : (cntF ws s).getD 0 = (ws.count s : Int) := by
  unfold cntF
  by_cases h : s ∈ ws
  · rw [if_pos h]; rfl
  · rw [if_neg h, List.count_eq_zero_of_not_mem h]; rfl
theorem cntF_next (ws : List (List UInt8)) (s : List UInt8) : ∀ t, cntF (ws ++ [s]) t = fput (cntF ws) s ((ws.count s : Int) + 1) t := fun t => by
  unfold cntF fput
  by_cases h : t = s
  · subst h
    rw [if_pos rfl, if_pos (by simp)]
    simp
  · rw [if_neg h]
    have : (ws ++ [s]).count t = ws.count t := by simp [List.count_cons]; exact fun e => absurd e.symm h
    simp [h, this]
/-- between two rounds of Learn's loop. -/
structure LearnI (w : World) (bs : List UInt8) (k : Nat) (W : World) : Prop where
  map : MapIs Tryd.prog 9 3 .i64 W w.heap.size k (cntF (wordsTo bs k))
  mbox : Boxed W (w.heap.size + 1) 40 (.map (some w.heap.size))
  below : Below w.heap.size w W
theorem LearnI.kept {w W W' : World} {bs : List UInt8} {k : Nat} {row : Option Nat} (h : LearnI w bs k W) (hg : W.grownBy W' row) (hrow : ∀ r, row = some r → w.heap.size + 2 ≤ r) : LearnI w bs k W' := by
  obtain ⟨h1, h2, h5⟩ := h
  have ne : ∀ j, j < w.heap.size + 2 → some j ≠ row := fun j hj e => by have := hrow j e.symm; omega
  exact ⟨h1.same (hg.block _ h1.lt (ne _ (by omega))), h2.kept hg (ne _ (by omega)), h5.grown hg h5.size (fun r e => by have := hrow r e; omega)⟩
theorem LearnI.step {w W W' : World} {bs : List UInt8} {k : Nat} (h : LearnI w bs k W) (hm : MapIs Tryd.prog 9 3 .i64 W' w.heap.size (k + 1) (cntF (wordsTo bs (k + 1)))) (hg : W.grownBy W' (some w.heap.size)) (hs : w.heap.size + 3 ≤ W.heap.size) :
    KeepsFrom (w.heap.size + 3) W W' ∧ pcKp w.heap.size (w.heap.size + 1 + 1) W W' ∧ LearnI w bs (k + 1) W' :=
  ⟨KeepsFrom.of_grownBy hg (fun j e => by cases e; omega), ⟨hg.block _ (by omega) (fun e => by injection e with e; omega), (Below.refl _ _).grown hg (by omega) (fun k e => by cases e; omega)⟩, hm, h.mbox.kept hg (by simp), h.below.grown hg h.below.size (fun k e => by cases e; omega)⟩
theorem wordsTo_mem {bs : List UInt8} : ∀ {k : Nat}, k ≤ (piecesL bs).length → ∀ s ∈ wordsTo bs k, s.length ≤ bs.length
  | 0, _, s, hs => by simp [wordsTo] at hs
  | k + 1, hk, s, hs => by
    rw [wordsTo, List.mem_append] at hs
    rcases hs with hs | hs
    · exact wordsTo_mem (by omega) s hs
    · split at hs
      · rw [List.mem_singleton] at hs
        subst hs
        rw [pcP_length (by omega)]
        have := plen_le (pieces_ne (bs := bs) (k := k) (by omega))
        rw [List.length_drop] at this
        omega
      · cases hs
theorem pieces_len (bs : List UInt8) : (piecesL bs).length ≤ bs.length := by
  have := pieces_count bs _ (Nat.le_refl _)
  rwa [pieces_end] at this

/-- a result: strings and a number. -/
def RetStrs (w : World) (ss : List (List UInt8)) (x : Int) (e : Ending) (w' : World) : Prop := ∃ A n c, e = .returned (.tuple #[.slice A n c, .int .i64 x]) ∧ Strs w' A n c ss ∧ Below w.heap.size w w'
theorem Strs.nil (w : World) (c : Nat) : Strs w none 0 c [] := ⟨rfl, Nat.zero_le _, fun h => absurd h (by omega)⟩
theorem RetStrs.mk {w w' : World} {ss : List (List UInt8)} {x x' : Int} {A : Option Addr} {n c : Nat} (hx : x = x') (h : Strs w' A n c ss) (hb : Below w.heap.size w w') : RetStrs w ss x' (.returned (.tuple #[.slice A n c, .int .i64 x])) w' := by
  subst hx
  exact ⟨A, n, c, rfl, h, hb⟩
theorem RetStrs.err {w w' : World} {x x' : Int} (hx : x = x') (hb : Below w.heap.size w w') : RetStrs w [] x' (.returned (.tuple #[.slice none 0 0, .int .i64 x])) w' := RetStrs.mk hx (Strs.nil _ _) hb
theorem RowA.putObj {w : World} {B : Nat} {A : Option Addr} {m c : Nat} {xs : List SW} (h : RowA w B A m c xs) {D : Nat} (hD : D < B) (o : Obj) : RowA (w.putObj D o) B A m c xs := by
  obtain ⟨h1, h2, h3⟩ := h
  refine ⟨h1, h2, ?_⟩
  rcases h3 with h3 | ⟨g, rfl, hg, hlt, hH⟩
  · exact .inl h3
  · have e : (w.putObj D o).heap[g]? = w.heap[g]? := World.putObj_heap_other (by omega)
    refine .inr ⟨g, rfl, hg, Nat.lt_of_lt_of_le hlt (grownBy_putObj' w D o).size, fun j hj => ?_⟩
    have := hH j hj
    unfold World.cell? World.frozen? at *
    simp only at *
    rw [e]
    exact this

def learnR (bs : List UInt8) (most : Int) : List (List UInt8) × Nat := if most < 0 ∨ 64 < most then ([], 2) else (learnL bs most.toNat, 0)
theorem ranked_of {ws ss : List (List UInt8)} {ys : List SW} (hss : ss.Nodup) (hmem : ∀ s, s ∈ ss ↔ s ∈ ws) {xs : List SW} (hxs : xs.map (·.1) = ss) (hp : ys.Perm (xs.filter fun x => !delB (fun s => ws.count s) x.1)) (hs : ys.Pairwise (fun a b => ¬ cmpW (fun s => ws.count s) b.1 a.1 < 0)) : Ranked ws (ys.map (·.1)) := by
  have hnd : (ys.map (·.1)).Nodup := by
    have : (ys.map (·.1)).Perm ((xs.filter fun x => !delB (fun s => ws.count s) x.1).map (·.1)) := hp.map _
    rw [this.nodup_iff]
    have h2 : ((xs.filter fun x => !delB (fun s => ws.count s) x.1).map (·.1)).Sublist (xs.map (·.1)) := List.filter_sublist.map _
    rw [hxs] at h2
    exact h2.nodup hss
  constructor
  · rw [List.pairwise_map]
    rw [List.Nodup, List.pairwise_map] at hnd
    refine (hs.and hnd).imp ?_
    rintro a b ⟨h1, h2⟩
    rw [cmpW_neg] at h1
    rcases ahead_total (ws := ws) h2 with h | h
    · exact h
    · exact absurd h h1
  · intro s
    rw [List.mem_map]
    constructor
    · rintro ⟨y, hy, rfl⟩
      have h1 := (hp.mem_iff).1 hy
      rw [List.mem_filter] at h1
      refine ⟨(hmem _).1 (by rw [← hxs]; exact List.mem_map.2 ⟨y, h1.1, rfl⟩), ?_⟩
      have h2 := h1.2
      simp [delB, gainI] at h2
      exact ⟨h2.1, by have := of_decide_eq_false h2.2; unfold gainS; omega⟩
    · rintro ⟨h1, h2, h3⟩
      have h4 := (hmem s).2 h1
      rw [← hxs, List.mem_map] at h4
      obtain ⟨x, hx, rfl⟩ := h4
      refine ⟨x, (hp.mem_iff).2 (List.mem_filter.2 ⟨hx, ?_⟩), rfl⟩
      simp [delB, gainI, h2]
      exact decide_eq_false (by unfold gainS at h3; omega)

set_option maxRecDepth 100000 in
set_option maxHeartbeats 4000000 in
theorem learnP_any (A : Option Addr) (c m : Nat) (bs : List UInt8) (most : Int) (w : World) (hy : Bytes w A m c bs) (hm : m ≤ 2000) (hmo : -9223372036854775808 ≤ most ∧ most ≤ 9223372036854775807) :
    Calls Tryd.prog 6 #[.slice A m c, .int .i64 most] w (RetStrs w (learnR bs most).1 ((learnR bs most).2 : Nat)) := by
  have Hl := Lib.hid hy.1
  have hmm := @run_makeMap Tryd.prog
  have d65 : decide ((65536 : Int) < (m : Int)) = false := by simp; omega
  by_cases hneg : most < 0
  · have hR : Hid ((learnR bs most).1 = [] ∧ (learnR bs most).2 = 2) := by show _ ∧ _; unfold learnR; rw [if_pos (.inl hneg)]; exact ⟨rfl, rfl⟩
    have d1 : decide (most < 0) = true := by simpa using hneg
    refine calls_of_marks Tryd.func6 rfl ?_
    simp only [Tryd.ntmps6, List.size_toArray, List.length_cons, List.length_nil, Nat.reduceAdd, Nat.reduceSub, Array.replicate_succ, Array.replicate_zero, List.push_toArray, List.append_toArray, List.nil_append, List.cons_append]
    go_wp2_with fail
    refine markPost_ret (v := .tuple #[.slice none 0 0, .int .i64 2]) (fun W => by simp [results, Tryd.results6, go_sem]) rfl ?_
    rw [hR.out.1, hR.out.2]
    exact RetStrs.err rfl (Below.refl _ _)
  · have d1 : decide (most < 0) = false := by simpa using hneg
    by_cases hbig : 64 < most
    · have hR : Hid ((learnR bs most).1 = [] ∧ (learnR bs most).2 = 2) := by show _ ∧ _; unfold learnR; rw [if_pos (.inr hbig)]; exact ⟨rfl, rfl⟩
      have d2 : decide (64 < most) = true := by simpa using hbig
      refine calls_of_marks Tryd.func6 rfl ?_
      simp only [Tryd.ntmps6, List.size_toArray, List.length_cons, List.length_nil, Nat.reduceAdd, Nat.reduceSub, Array.replicate_succ, Array.replicate_zero, List.push_toArray, List.append_toArray, List.nil_append, List.cons_append]
      go_wp2_with fail
      refine markPost_ret (v := .tuple #[.slice none 0 0, .int .i64 2]) (fun W => by simp [results, Tryd.results6, go_sem]) rfl ?_
      rw [hR.out.1, hR.out.2]
      exact RetStrs.err rfl (Below.refl _ _)
    · have d2 : decide (64 < most) = false := by simpa using hbig
      have hR : Hid ((learnR bs most).1 = learnL bs most.toNat ∧ (learnR bs most).2 = 0) := by show _ ∧ _; unfold learnR; rw [if_neg (by omega)]; exact ⟨rfl, rfl⟩
      refine calls_of_marks Tryd.func6 rfl ?_
      simp only [Tryd.ntmps6, List.size_toArray, List.length_cons, List.length_nil, Nat.reduceAdd, Nat.reduceSub, Array.replicate_succ, Array.replicate_zero, List.push_toArray, List.append_toArray, List.nil_append, List.cons_append]
      go_wp2_with fail
      refine (pieces_any _ _ _ _).mono ?_
      rintro e w3 ⟨rfl, hw3⟩
      have Hw3 := Lib.hid hw3; clear hw3
      clear hmm
      go_wp2_with fail
      have hs3 : Hid (w3.heap.size = w.heap.size + 3) := by show _ = _; rw [Hw3.out]; simp
      have hbox0 : Boxed w3 (w.heap.size + 1) 40 (.map (some w.heap.size)) := by
        have := (Boxed.new (w.alloc (.map #[] 0)) 40 (.map (some w.heap.size))).alloc (.cells #[.slice A m c] 22)
        rw [World.size_alloc] at this
        rw [Hw3.out]; exact this
      have hbx3 : Boxed w3 (w.heap.size + 1 + 1) 22 (.slice A m c) := by
        have := Boxed.new ((w.alloc (.map #[] 0)).alloc (.cells #[.map (some w.heap.size)] 40)) 22 (.slice A m c)
        rw [World.size_alloc, World.size_alloc] at this
        rw [Hw3.out]; exact this
      have hI0 : LearnI w bs 0 w3 := by
        refine ⟨?_, hbox0, ?_⟩
        · rw [Hw3.out]
          exact ((MapIs.made w).below ((Below.refl _ _).alloc (Nat.le_refl _) _)).below ((Below.refl _ _).alloc (Nat.le_refl _) _) |>.cong (fun s => rfl)
        · rw [Hw3.out]
          exact (((Below.refl _ _).alloc (Nat.le_refl _) _).alloc (by simp) _).alloc (by simp; omega) _
      clear hbox0 Hw3
      obtain ⟨b, off, hA⟩ : ∃ b off, 0 < m → A = some ⟨b, off, none⟩ := by
        rcases Nat.eq_zero_or_pos m with h | h
        · exact ⟨0, 0, fun h' => absurd h' (by omega)⟩
        · obtain ⟨b, off, e, _⟩ := hy.get h
          exact ⟨b, off, fun _ => e⟩
      have HA := Lib.hid hA; clear hA
      refine wp_rangeFunc_row2 (G := fun u v t => (((t.setIfInBounds 22 u).setIfInBounds 23 v).setIfInBounds 7 u).setIfInBounds 8 v) (u := fun k => .slice (some ⟨b, off + stP bs k, none⟩) (plen (bs.drop (stP bs k))) (c - stP bs k)) (v := fun k => .bool (wdP bs k)) rfl (enters_of Tryd.func32 (by kernel_rfl) rfl) (pieces1_gives w A m c bs hy (by omega) (w.heap.size + 1 + 1) b off (by omega) HA.out)
        (fun o1 o2 => ⟨(hbx3.alloc _).alloc _, (hI0.below.alloc hI0.below.size _).alloc (by have := hI0.below.size; simp; omega) _⟩)
        (fun A B hab => KeepsFrom.of_grownBy hab (fun j e => by cases e; rw [hs3.out]; omega))
        (fun h1 h2 => ⟨h2.1.trans h1.1, h1.2.trans h2.2⟩)
        (fun W l o o' hl hlo ho => ⟨World.putObj_heap_other (by rw [hs3.out] at hl; omega), ((Below.refl _ _).grown (grownBy_putObj' W l o') (by have := (Array.getElem?_eq_some_iff.1 hlo).1; rw [hs3.out] at hl; omega) (fun k e => by cases e; rw [hs3.out] at hl; omega))⟩)
        (fun k W => LearnI w bs k W ∧ w.heap.size + 3 ≤ W.heap.size) (fun _ _ _ => False) ?hI (fun _ _ _ _ _ h _ _ => h.elim) ?hIA (fun _ _ _ _ h _ => h.elim) ⟨hI0, by rw [hs3.out]; omega⟩ ?assign ?body ?done (fun _ _ _ _ _ _ h _ => h.elim)
      case hI => exact fun s W W' row h hg hr => ⟨h.1.kept hg (fun r e => by have := (hr r e).1; rw [hs3.out] at this; omega), Nat.le_trans h.2 hg.size⟩
      case hIA => exact fun k A B h hab => ⟨h.1.kept hab (fun r e => by cases e; omega), Nat.le_trans h.2 hab.size⟩
      case assign =>
        intro l k W K hK
        simp only [List.setIfInBounds_toArray, List.set_cons_succ, List.set_cons_zero] at hK ⊢
        gi_wp2
        exact hK
      case body =>
        intro l k W hk hl hIs
        obtain ⟨hI, hsW⟩ := hIs
        have HI := Lib.hid hI
        obtain ⟨hmap, hmb, hbelW⟩ := hI
        simp only [List.setIfInBounds_toArray, List.set_cons_succ, List.set_cons_zero]
        have hm0 : 0 < m := by
          have := pieces_ne hk
          rcases Nat.eq_zero_or_pos m with h | h
          · have e : bs = [] := List.length_eq_zero_iff.1 (by rw [Hl.out]; exact h)
            rw [e] at this; simp at this
          · exact h
        have hpl := pieces_len bs
        rw [Hl.out] at hpl
        have hnext : wordsTo bs (k + 1) = wordsTo bs k ++ if wdP bs k then [pcP bs k] else [] := rfl
        by_cases hwd : wdP bs k = true
        · rw [hwd, if_pos rfl] at hnext
          have hpb := (pcP_bytes hy hk (HA.out hm0)).below hbelW
          have hle : (pcP bs k).length ≤ 2000 := by
            rw [pcP_length hk]; have := plen_le (pieces_ne hk); rw [List.length_drop, Hl.out] at this; omega
          have hlm : Hid ((pcP bs k).length ≤ maxLen) := by show _ ≤ _; simp [maxLen]; omega
          have s4 := hpb.str 22 5 9 uB Go.Proofs.YtdebhdopginllaaDoor.u8 uS
          have q7 := hmb.cell
          have hget := cntF_get (wordsTo bs k) (pcP bs k)
          have hcl : (wordsTo bs k).count (pcP bs k) ≤ 2000 := by
            have := List.count_le_length (a := pcP bs k) (l := wordsTo bs k)
            have := wordsTo_le bs k
            omega
          have hnx := cntF_next (wordsTo bs k) (pcP bs k)
          rw [← hnext] at hnx
          rw [hwd]
          clear hnext hwd hmb
          have Hnx := Lib.hid hnx; clear hnx
          have Hget := Lib.hid hget; clear hget
          obtain ⟨ct, hct⟩ : ∃ ct, ct = (wordsTo bs k).count (pcP bs k) := ⟨_, rfl⟩
          rw [← hct] at Hnx Hget hcl
          clear hct
          have hkm : Hid (k < maxLen) := by show _ < _; simp [maxLen]; omega
          have hwf : Hid ((Lit.int .i64 ((ct : Int) + 1)).wf = true) := WalkArith.wf_i64 (by omega)
          gi_wp2_with (first
            | (gi_at_lookup; refine wpListIn_mapget rfl (.tmp 25) (.tmp 27) 40 rfl uS uMI uInt (zI _) rfl hmap (pcP bs k) hlm.out rfl ?_; rw [Hget.out])
            | (gi_at_mapUpdate; refine wpListIn_mapset rfl (.tmp 25) (.tmp 27) (.tmp 29) 40 rfl uS uMI uInt rfl hmap hkm.out (pcP bs k) hlm.out ((ct : Int) + 1) rfl rfl hwf.out ?_; intro W2 hm2 hg2))
          rw [hs3.out]
          obtain ⟨k1, k2, k3⟩ := HI.out.step (hm2.cong Hnx.out) hg2 hsW
          exact ⟨k1, k2, k3, Nat.le_trans hsW hg2.size⟩
        · have hwd' : wdP bs k = false := by simpa using hwd
          rw [hwd', if_neg (by simp)] at hnext
          rw [List.append_nil] at hnext
          have Hn := Lib.hid hnext
          rw [hwd']
          clear hnext hwd hwd'
          gi_wp2
          refine ⟨KeepsFrom.refl _ _, ⟨rfl, Below.refl _ _⟩, ⟨(HI.out.map.mono (Nat.le_succ k)).cong (fun s => by rw [Hn.out]), HI.out.mbox, HI.out.below⟩, hsW⟩
      case done =>
        intro D W hD hIs hdef
        obtain ⟨⟨hmap, hmb, hbelW⟩, hsW⟩ := hIs
        have q7 := hmb.cell
        rw [hs3.out] at hD
        have hDlt : D < W.heap.size := (Array.getElem?_eq_some_iff.1 hdef).1
        have hpl := pieces_len bs
        rw [Hl.out] at hpl
        go_wp2_with fail
        refine (keys_any _ _).mono ?_
        rintro e w4 ⟨rfl, hw4⟩
        have hs4 : Hid (w4.heap.size = W.heap.size + 1) := by show _ = _; rw [hw4]; simp
        have hb4 : Below W.heap.size W w4 := by rw [hw4]; exact (Below.refl _ _).alloc (Nat.le_refl _) _
        have hcol := collect_any _ _ _ W w4 hw4 hmap (by omega)
        have Hcol := Lib.hid hcol; clear hcol hw4
        go_wp2_with fail
        refine Hcol.out.mono ?_
        rintro e w5 ⟨A5, m5, c5, ss, rfl, ho5, hnd, hmem, hm5, hb5⟩
        have hsub : ∀ s ∈ ss, s.length ≤ 1000000 := fun s hs => by
          have h1 := (hmem s).1 hs
          unfold cntF at h1
          split at h1
          · rename_i h2; have := wordsTo_mem (Nat.le_refl _) s h2; rw [Hl.out] at this; omega
          · cases h1
        obtain ⟨xs, hxs⟩ : ∃ xs : List SW, xs.map (·.1) = ss := ⟨ss.attach.map (fun x => ⟨x.1, hsub x.1 x.2⟩), by simp⟩
        have hxl : xs.length = m5 := by have := congrArg List.length hxs; rw [List.length_map] at this; rw [this]; exact ho5.length
        have hrow5 : RowA w5 w4.heap.size A5 m5 c5 xs := by
          refine ⟨hxl, ho5.cap, ?_⟩
          rcases ho5.2 with ⟨h1, h2⟩ | ⟨g, cap, cur, h1, h2, h3, h4, h5, h6, h7⟩
          · injection h1 with h1 _ _
            exact .inl ⟨h1, h2⟩
          · injection h1 with h1 _ _
            refine .inr ⟨g, h1, h2, (Array.getElem?_eq_some_iff.1 h3).1, ?_⟩
            have hh := holds_of_block (ss := ss) h3 (by rw [ho5.length]; rw [Nat.mul_one] at h7; exact h7)
            intro j hj
            have hj' : j < xs.length := by simpa using hj
            have hj2 : j < ss.length := by rw [← hxs]; simpa using hj'
            have := hh j (by simpa using hj2)
            refine ⟨?_, this.2⟩
            rw [this.1, getElem!_pos _ j (by simpa using hj2), getElem!_pos _ j hj]
            simp only [List.getElem_toArray]
            subst hxs
            simp [encA, encS, encStr, strB]
        have hcnt5 : CountsB w5 w4.heap.size (w.heap.size + 1) w.heap.size (piecesL bs).length (fun s => (wordsL bs).count s) := by
          have h45 : Below W.heap.size W w5 := hb4.trans (hb5.mono (by rw [hs4.out]; omega))
          refine ⟨by rw [hs4.out]; omega, by rw [hs4.out]; omega, (h45.block _ (by omega)).trans hmb, _, hmap.same (h45.block _ (by omega)), fun s => cntF_get _ s, fun s => ?_⟩
          have h1 := List.count_le_length (a := s) (l := wordsL bs)
          have h2 : (wordsL bs).length ≤ _ := wordsTo_le bs (piecesL bs).length
          show (wordsL bs).count s ≤ 1000000
          omega
        have hB5 : w4.heap.size ≤ w5.heap.size := hb5.size
        have hdel := delete_any w5 w4.heap.size (w.heap.size + 1) w.heap.size _ _ A5 m5 c5 xs hB5 hrow5 hcnt5 (by omega)
        have Hdel := Lib.hid hdel; clear hdel
        have Hmem := Lib.hid hmem; clear hmem
        have Hxs := Lib.hid hxs; clear hxs
        have Hxl := Lib.hid hxl; clear hxl
        have Hsub := Lib.hid hsub; clear hsub
        go_wp2_with fail
        refine Hdel.out.mono ?_
        rintro e w6 ⟨A6, m6, c6, rfl, hrow6, hb6⟩
        have hcnt6 := hcnt5.same (W := w6) (fun k hk _ => hb6.block k hk)
        have hm6 : m6 ≤ m5 := by rw [← hrow6.1, ← Hxl.out]; exact List.length_filter_le _ _
        have hsort := sort_any w6 w4.heap.size (w.heap.size + 1) w.heap.size _ _ A6 m6 c6 _ (Nat.le_trans hB5 hb6.size) hrow6 hcnt6 (by omega)
        have Hsort := Lib.hid hsort; clear hsort
        go_wp2_with fail
        refine Hsort.out.mono ?_
        rintro e w7 ⟨rfl, ys, hp, hso, hrow7, hb7⟩
        obtain ⟨mo, hmo'⟩ : ∃ mo : Nat, most = (mo : Int) := ⟨most.toNat, by omega⟩
        have hrk := ranked_of hnd (fun s => by rw [Hmem.out s]; show ((if s ∈ wordsL bs then _ else none).isSome = true) ↔ s ∈ wordsL bs; by_cases h : s ∈ wordsL bs <;> simp [h]) Hxs.out hp hso
        have hfin : Hid ((ys.map (·.1)).take (min m6 mo) = learnL bs most.toNat) := by
          show _ = _
          rw [← hrk.learn, hmo', Int.toNat_natCast]
          have : (ys.map (·.1)).length = m6 := by rw [List.length_map]; exact hrow7.1
          rw [← this]
          rcases Nat.le_total (ys.map (·.1)).length mo with h | h
          · rw [Nat.min_eq_left h, List.take_length, List.take_of_length_le h]
          · rw [Nat.min_eq_right h]
        have Hmo := Lib.hid hmo'
        subst hmo'
        have hmn : min (m6 : Int) (mo : Int) = ((min m6 mo : Nat) : Int) := by omega
        have hst := hrow7.strs
        obtain ⟨r8, v8⟩ := hst.cut_h ((min m6 mo : Nat) : Int) (by omega) (by omega)
        rw [Int.toNat_natCast] at r8 v8
        obtain ⟨mq, hmq⟩ : ∃ mq, mq = min m6 mo := ⟨_, rfl⟩
        rw [← hmq] at hmn r8 v8 hfin
        clear hmq
        have hDef7 : w7.heap[D]? = some (.deferred (some [])) := by
          rw [hb7.block D (by rw [hs4.out]; omega), hb6.block D (by rw [hs4.out]; omega), hb5.block D (by rw [hs4.out]; omega), hb4.block D hDlt]
          exact hdef
        have hbW7 : Below w.heap.size w w7 := hbelW.trans ((hb4.mono (by omega)).trans ((hb5.mono (by rw [hs4.out]; omega)).trans ((hb6.mono (by rw [hs4.out]; omega)).trans (hb7.mono (by rw [hs4.out]; omega)))))
        have HDef := Lib.hid hDef7; clear hDef7
        clear hst
        go_wp2_with fail
        refine markPost_mark HDef.out (v := .tuple #[.slice A6 mq c6, .int .i64 0]) (fun W => by simp [results, Tryd.results6, go_sem]) rfl ?_
        rw [hR.out.1, hR.out.2, ← hfin.out]
        refine RetStrs.mk rfl ?_ (hbW7.grown (grownBy_putObj' w7 D _) hbW7.size (fun k e => by cases e; omega))
        have h8 := (hrow7.putObj (D := D) (by rw [hs4.out]; omega) (.deferred none)).strs
        have h9 := h8.cut_h (mq : Int) (by omega) (by have := v8.2.1; have := v8.1; simp at this; omega)
        rw [Int.toNat_natCast] at h9
        exact h9.2
end Go.Proofs.YtdebhdopginllaaDoor
