/- pieces, and Code of the program. -/
import Derived.Test.YtdebhdopginllaaDoorDj
import Derived.Test.YtdebhdopginllaaDoorDi
import Derived.Test.YtdebhdopginllaaDoorDb
import Derived.Test.YtdebhdopginllaaDoorRg
import Derived.Shelf.Abstract
namespace Go.Proofs.YtdebhdopginllaaDoor
open Go.RowKit Go.Proofs Go.Shelf
set_option linter.unusedVariables false
attribute [local go_sem] Oper.semAt_some

theorem pieces_any (A : Option Addr) (n c : Nat) (w : World) :
    Calls Tryd.prog 15 #[.slice A n c] w fun e w' => e = .returned (.func (.func 32) #[] #[.pointer (some ⟨w.heap.size, 0, none⟩)]) ∧ w' = w.alloc (.cells #[.slice A n c] 22) := by
  go_enter Tryd.func15, Tryd.ntmps15
  go_wp2
  go_ret
  exact ⟨rfl, rfl⟩

theorem uMB : Tryd.prog.underlying 56 = some (.map 9 5) := by kernel_rfl
theorem zB (w : World) : (zeroValue 5).run Tryd.prog w = .ok (.int .u8 0) w := by kernel_rfl
/-- the places of the first k words. -/
def placeF (ss : List (List UInt8)) (k : Nat) : List UInt8 → Option Int := fun s => if s ∈ ss.take k then some (128 + (ss.idxOf s : Int)) else none
theorem placeF_next {ss : List (List UInt8)} (hnd : ss.Nodup) {k : Nat} (hk : k < ss.length) : ∀ s, placeF ss (k + 1) s = fput (placeF ss k) (gs ss k) (128 + (k : Int)) s := fun s => by
  unfold placeF fput
  rw [List.take_succ_eq_append_getElem hk, ← gs_get hk]
  by_cases h : s = gs ss k
  · subst h
    rw [if_pos (by simp), if_pos rfl, gs_get hk, List.Nodup.idxOf_getElem hnd]
  · rw [if_neg h]
    simp [h]

/-- between two rounds of Code's loop: the map, its box, the box O of the output. -/
structure CodeI (w : World) (O : Nat) (ss : List (List UInt8)) (bs : List UInt8) (k : Nat) (W : World) : Prop where
  map : MapIs Tryd.prog 9 5 .u8 W w.heap.size ss.length (placeF ss ss.length)
  mbox : Boxed W (w.heap.size + 1) 56 (.map (some w.heap.size))
  out : ∃ A2 n2 c2, Boxed W O 22 (.slice A2 n2 c2) ∧ Own encB W (O + 2) 5 A2 n2 c2 (codeTo ss bs k)
  below : Below w.heap.size w W
  size : O + 2 ≤ W.heap.size
theorem CodeI.kept {w W W' : World} {O : Nat} {ss : List (List UInt8)} {bs : List UInt8} {k : Nat} {row : Option Nat} (hO : w.heap.size + 2 ≤ O) (h : CodeI w O ss bs k W) (hg : W.grownBy W' row) (hrow : ∀ r, row = some r → O + 1 ≤ r) (hc : ∀ r o, row = some r → W.heap[r]? = some o → o.isCells = true → r < O + 2) : CodeI w O ss bs k W' := by
  obtain ⟨h1, h2, ⟨A2, n2, c2, h3, h4⟩, h5, h6⟩ := h
  have ne : ∀ j, j < O + 1 → some j ≠ row := fun j hj e => by have := hrow j e.symm; omega
  refine ⟨h1.same (hg.block _ h1.lt (ne _ (by omega))), h2.kept hg (ne _ (by omega)), ⟨A2, n2, c2, h3.kept hg (ne _ (by omega)), h4.keep fun g o hB ho hcell => ?_⟩, h5.grown hg h5.size (fun r e => by have := hrow r e; omega), Nat.le_trans h6 hg.size⟩
  refine (hg.block g (Array.getElem?_eq_some_iff.1 ho).1 (fun e => ?_)).trans ho
  have := hc g o e.symm ho hcell
  omega
theorem CodeI.step {w W W6 : World} {O : Nat} {ss : List (List UInt8)} {bs : List UInt8} {k : Nat} {A6 : Option Addr} {n6 c6 : Nat} (hO : w.heap.size + 2 ≤ O) (h : CodeI w O ss bs k W) (ho : Own encB W6 (O + 2) 5 A6 n6 c6 (codeTo ss bs (k + 1))) (hk : Kept (O + 2) W W6) :
    KeepsFrom (O + 2) W (W6.setCell ⟨O, 0, none⟩ (.slice A6 n6 c6)) ∧ pcKp w.heap.size (O + 1) W (W6.setCell ⟨O, 0, none⟩ (.slice A6 n6 c6)) ∧ CodeI w O ss bs (k + 1) (W6.setCell ⟨O, 0, none⟩ (.slice A6 n6 c6)) := by
  obtain ⟨h1, h2, ⟨A2, n2, c2, h3, h4⟩, h5, h6⟩ := h
  have oth : ∀ j, j ≠ O → (W6.setCell ⟨O, 0, none⟩ (.slice A6 n6 c6)).heap[j]? = W6.heap[j]? := fun j hj => Below.heap_setCell W6 ⟨O, 0, none⟩ _ j hj
  have hb : Below w.heap.size W (W6.setCell ⟨O, 0, none⟩ (.slice A6 n6 c6)) := (hk.1.mono (by omega)).setCell (p := ⟨O, 0, none⟩) (by show _ ≤ O; omega) _
  refine ⟨KeepsFrom.setCell' hk.2 (by show O < _; omega) _, ⟨(oth _ (by omega)).trans (hk.1.block _ (by omega)), hb⟩, ?_⟩
  refine ⟨h1.same ((oth _ (by omega)).trans (hk.1.block _ (by omega))), (oth _ (by omega)).trans ((hk.1.block _ (by omega)).trans h2), ⟨A6, n6, c6, (Boxed.below' h3 hk.1 (by omega)).set _, ho.keep fun g o hB hgo _ => (oth g (by omega)).trans hgo⟩, h5.trans hb, ?_⟩
  have := hk.1.size
  simp [World.setCell]
  omega
theorem two_bytes (w : World) (e : TypeId) (x y : UInt8) (v1 v2 : Value) (h1 : encB x = v1) (h2 : encB y = v2) : Cells (w.alloc (.cells #[v1, v2] e)) (some ⟨w.heap.size, 0, none⟩) 2 (fun i => encB ([x, y].getD i 0)) := by
  subst h1 h2
  exact fun _ => ⟨w.heap.size, 0, rfl, by simp, fun i hi => by
    match i, hi with
    | 0, _ => simp
    | 1, _ => simp⟩
theorem pcP_bytes {w : World} {A : Option Addr} {n c b off : Nat} {bs : List UInt8} (hx : Bytes w A n c bs) {k : Nat} (hk : k < (piecesL bs).length) (hA : A = some ⟨b, off, none⟩) :
    Bytes w (some ⟨b, off + stP bs k, none⟩) (plen (bs.drop (stP bs k))) (c - stP bs k) (pcP bs k) := by
  subst hA
  have hst := (pieces_at (Nat.le_of_lt hk)).1
  have hp := plen_le (pieces_ne hk)
  rw [List.length_drop] at hp
  have hl := hx.1
  have hc := hx.2.1
  refine ⟨pcP_length hk, by omega, fun hn => ?_⟩
  obtain ⟨b', off', e, hb, hcell⟩ := hx.2.2 (by omega)
  injection e with e
  injection e with e1 e2
  subst e1 e2
  refine ⟨b, off + stP bs k, rfl, hb, fun i hi => ?_⟩
  rw [Nat.add_assoc, hcell _ (by omega)]
  show some (Value.int .u8 _) = some (Value.int .u8 _)
  rw [pcP_gb hi]

set_option maxRecDepth 100000 in
set_option maxHeartbeats 4000000 in
theorem codeP_any (A A' : Option Addr) (c c' n m : Nat) (ss : List (List UInt8)) (bs : List UInt8) (w : World) (hx : Strs w A n c ss) (hy : Bytes w A' m c' bs) (hn : n ≤ 1000000000) (hl : ∀ s ∈ ss, s.length ≤ 1000000000) (hm : m ≤ 2000) :
    Calls Tryd.prog 11 #[.slice A n c, .slice A' m c'] w (RetBytes w (codeR ss bs).1 ((codeR ss bs).2 : Nat)) := by
  have Hl := Lib.hid hy.1
  have Hn := Lib.hid hx.1
  have hcal := checkP_any A c n ss w hx hn hl
  have hmm := @run_makeMap Tryd.prog
  by_cases hc : checkL ss = 0
  · rw [hc] at hcal
    have Hcal := Lib.hid hcal; clear hcal
    obtain ⟨hs64, hsw, hnd⟩ := checkL_zero.1 hc
    have hR : Hid ((codeR ss bs).1 = codeL ss bs ∧ (codeR ss bs).2 = 0) := by show _ ∧ _; unfold codeR; rw [if_pos hc]; exact ⟨rfl, rfl⟩
    have HS := Lib.hid hsw; clear hsw hc
    have HN := Lib.hid hnd; clear hnd
    have HL := Lib.hid hl; clear hl
    rw [Hn.out] at hs64
    have d65 : decide ((65536 : Int) < (m : Int)) = false := by simp; omega
    refine calls_of_marks Tryd.func11 rfl ?_
    simp only [Tryd.ntmps11, List.size_toArray, List.length_cons, List.length_nil, Nat.reduceAdd, Nat.reduceSub, Array.replicate_succ, Array.replicate_zero, List.push_toArray, List.append_toArray, List.nil_append, List.cons_append]
    go_wp2_with fail
    refine Hcal.out.mono ?_
    rintro e w1 ⟨rfl, hw1⟩
    obtain rfl : w = w1 := hw1.symm
    clear Hcal
    go_wp2_with fail
    go_loopw [8, 9, 25] (fun _ _ i wr => ∃ (k : Nat), k ≤ n ∧ i = .int .i64 (k : Int) ∧ MapIs Tryd.prog 9 5 .u8 wr w.heap.size k (placeF ss k) ∧ Boxed wr (w.heap.size + 1) 56 (.map (some w.heap.size)) ∧ w.heap.size + 2 ≤ wr.heap.size ∧ Below w.heap.size w wr) (fun _ _ i _ => n - (intOf i).toNat)
    case atStart =>
      refine ⟨0, Nat.zero_le _, rfl, ?_, ?_, ?_, ?_⟩
      · exact (MapIs.made w).below (((Below.refl _ _).alloc (Nat.le_refl _) _))
      · have := Boxed.new (w.alloc (.map #[] 0)) 56 (.map (some w.heap.size))
        rw [World.size_alloc] at this
        exact this
      · simp
      · exact ((Below.refl _ _).alloc (Nat.le_refl _) _).alloc (by simp) _
    case round =>
      obtain ⟨k, hk, rfl, hmap, hbox, hsz, hbel⟩ := hrel
      by_cases hlt : k < n
      · obtain ⟨b, off, rfl, hb, hc⟩ := (hx.below hbel).get hlt
        have c1 := hc k hlt
        clear hc hmm
        have hlk : Hid ((gs ss k).length ≤ maxLen) := by
          show _ ≤ _
          have : (gs ss k).length ≤ 1000000000 := by rw [gs_get (by rw [Hn.out]; exact hlt)]; exact HL.out _ (List.getElem_mem _)
          simp [maxLen]; omega
        have q1 := hbox.cell
        have hnext : Hid (∀ s, placeF ss (k + 1) s = fput (placeF ss k) (gs ss k) (128 + (k : Int)) s) := placeF_next HN.out (by rw [Hn.out]; exact hlt)
        have hkm : Hid (k < maxLen) := by show _ < _; simp [maxLen]; omega
        have hwf : Hid ((Lit.int .u8 (128 + (k : Int))).wf = true) := WalkArith.wf_u8 (by omega)
        go_wp2_with (at_mapUpdate; refine wpList_mapset rfl (.tmp 30) (.tmp 31) (.tmp 34) 56 rfl uS uMB Go.Proofs.YtdebhdopginllaaDoor.u8 rfl hmap hkm.out (gs ss k) hlk.out (128 + (k : Int)) rfl rfl hwf.out ?_; intro w2 hmap2 hg2)
        go_roundw
        case rel => exact ⟨k + 1, by omega, by go_num, hmap2.cong hnext.out, hbox.kept hg2 (by simp), Nat.le_trans hsz hg2.size, hbel.grown hg2 hbel.size (fun r e => by cases e; omega)⟩
        case measure => simp [intOf]; omega
      · obtain ⟨O, hO⟩ : ∃ O, O = wr.heap.size := ⟨_, rfl⟩
        have HO := Lib.hid hO
        rw [← hO] at hsz
        clear hO
        go_wp2_with fail
        refine (pieces_any _ _ _ _).mono ?_
        rintro e w3 ⟨rfl, hw3⟩
        have Hw3 := Lib.hid hw3; clear hw3
        clear hmm
        go_wp2_with fail
        rw [← HO.out]
        have hs3 : Hid (w3.heap.size = O + 2) := by show _ = _; rw [Hw3.out, HO.out]; simp
        have hb0 : Below O wr w3 := by
          rw [Hw3.out, HO.out]
          exact ((Below.refl _ _).alloc (Nat.le_refl _) _).alloc (by simp) _
        have hob0 : Boxed w3 O 22 (.slice none 0 0) := by
          rw [Hw3.out, HO.out]
          exact (Boxed.new wr 22 (.slice none 0 0)).alloc _
        have hbx3 : Boxed w3 (O + 1) 22 (.slice A' m c') := by
          have := Boxed.new (wr.alloc (.cells #[.slice none 0 0] 22)) 22 (.slice A' m c')
          rw [World.size_alloc] at this
          rw [Hw3.out, HO.out]; exact this
        obtain rfl : n = k := by omega
        have hI0 : CodeI w O ss bs 0 w3 := ⟨by rw [Hn.out]; exact hmap.same (hb0.block _ (by omega)), Boxed.below' hbox hb0 (by omega), ⟨none, 0, 0, hob0, Own.nil _ _ _ _⟩, hbel.trans (hb0.mono (by omega)), by rw [hs3.out]; omega⟩
        clear hob0 hmap hbox hb0 Hw3 HO
        obtain ⟨b, off, hA⟩ : ∃ b off, 0 < m → A' = some ⟨b, off, none⟩ := by
          rcases Nat.eq_zero_or_pos m with h | h
          · exact ⟨0, 0, fun h' => absurd h' (by omega)⟩
          · obtain ⟨b, off, e, _⟩ := hy.get h
            exact ⟨b, off, fun _ => e⟩
        have HA := Lib.hid hA; clear hA
        refine wp_rangeFunc_row2 (G := fun u v t => ((t.setIfInBounds 38 u).setIfInBounds 39 v).setIfInBounds 11 u) (u := fun k => .slice (some ⟨b, off + stP bs k, none⟩) (plen (bs.drop (stP bs k))) (c' - stP bs k)) (v := fun k => .bool (wdP bs k)) rfl (enters_of Tryd.func32 (by kernel_rfl) rfl) (pieces1_gives w A' m c' bs hy (by omega) (O + 1) b off (by omega) HA.out)
          (fun o1 o2 => ⟨(hbx3.alloc _).alloc _, (hI0.below.alloc hI0.below.size _).alloc (by have := hI0.below.size; simp; omega) _⟩)
          (fun A B hab => KeepsFrom.of_grownBy hab (fun j e => by cases e; rw [hs3.out]; omega))
          (fun h1 h2 => ⟨h2.1.trans h1.1, h1.2.trans h2.2⟩)
          (fun W l o o' hl hlo ho => ⟨World.putObj_heap_other (by rw [hs3.out] at hl; omega), ((Below.refl _ _).grown (grownBy_putObj' W l o') (by have := (Array.getElem?_eq_some_iff.1 hlo).1; rw [hs3.out] at hl; omega) (fun k e => by cases e; rw [hs3.out] at hl; omega))⟩)
          (CodeI w O ss bs) (fun _ _ _ => False) ?hI (fun _ _ _ _ _ h _ _ => h.elim) ?hIA (fun _ _ _ _ h _ => h.elim) hI0 ?assign ?body ?done (fun _ _ _ _ _ _ h _ => h.elim)
        case hI => exact fun s W W' row h hg hr => h.kept hsz hg (fun r e => by have := (hr r e).1; rw [hs3.out] at this; omega) (fun r o e ho hc => by obtain ⟨o', h1, h2⟩ := (hr r e).2; rw [ho] at h1; injection h1 with h1; subst h1; rw [h2] at hc; cases hc)
        case hIA => exact fun k A B h hab => h.kept hsz hab (fun r e => by cases e; omega) (fun r o e _ _ => by cases e; omega)
        case assign =>
          intro l k W K hK
          simp only [List.setIfInBounds_toArray, List.set_cons_succ, List.set_cons_zero] at hK ⊢
          gi_wp2
          exact hK
        case done =>
          intro D W hD hI hdef
          obtain ⟨-, -, ⟨A2, n2, c2, hob, hown⟩, hbelW, hsW⟩ := hI
          have q1 := hob.cell
          have hcl := codeL_len ss bs
          have hn2 := hown.length
          rw [Hl.out] at hcl
          unfold codeL at hcl
          rw [hn2] at hcl
          have Hn2 := Lib.hid hn2; clear hn2
          have d1 : decide ((65536 : Int) < (n2 : Int)) = false := by simp; omega
          have d1' : decide (65536 < n2) = false := by simp; omega
          go_wp2_with fail
          refine markPost_mark hdef (v := .tuple #[.slice A2 n2 c2, .int .i64 0]) (fun W => by simp [results, Tryd.results11, go_sem]) rfl ?_
          rw [hR.out.1, hR.out.2]
          rw [hs3.out] at hD
          refine RetBytes.mk rfl (Own.bytesB (B := O + 2) (e := 5) ?_) (hbelW.grown (grownBy_putObj' W D _) hbelW.size (fun k e => by cases e; omega))
          exact hown.keep fun g o hB ho hc => (World.putObj_heap_other (fun e => by subst e; rw [hdef] at ho; injection ho with ho; subst ho; cases hc)).trans ho
        case body =>
          intro l k W hk hl hI
          have HI := Lib.hid hI
          obtain ⟨hmap, hmb, ⟨A2, n2, c2, hob, hown⟩, hbelW, hsW⟩ := hI
          simp only [List.setIfInBounds_toArray, List.set_cons_succ, List.set_cons_zero]
          have hm0 : 0 < m := by
            have := pieces_ne hk
            rcases Nat.eq_zero_or_pos m with h | h
            · have e : bs = [] := List.length_eq_zero_iff.1 (by rw [Hl.out]; exact h)
              rw [e] at this; simp at this
            · exact h
          have hpb := (pcP_bytes hy hk (HA.out hm0)).below hbelW
          have hpl := pcP_length hk
          have hle : (pcP bs k).length ≤ 2000 := by
            rw [hpl]; have := plen_le (pieces_ne hk); rw [List.length_drop, Hl.out] at this; omega
          have hkind := pcP_kind hk
          have hpne := pcP_ne hk
          have hp1 := plen_pos (bs.drop (stP bs k))
          have hnext : codeTo ss bs (k + 1) = codeTo ss bs k ++ codeP ss (pcP bs k) := rfl
          have hcl := codeTo_len (ws := ss) (Nat.le_of_lt hk)
          have hst := (pieces_at (Nat.le_of_lt hk)).1
          rw [Hl.out] at hst
          have hn2 := hown.length
          rw [hn2] at hcl
          have Hn2 := Lib.hid hn2; clear hn2
          obtain ⟨st, hst'⟩ : ∃ st, st = stP bs k := ⟨_, rfl⟩
          obtain ⟨pl, hpl'⟩ : ∃ pl, pl = plen (bs.drop (stP bs k)) := ⟨_, rfl⟩
          rw [← hpl', ← hst'] at hpb ⊢
          rw [← hpl'] at hpl hp1
          rw [← hst'] at hst hcl
          clear hst' hpl'
          obtain ⟨p, hp⟩ : ∃ p, p = pcP bs k := ⟨_, rfl⟩
          rw [← hp] at hpb hkind hpne hnext hle hpl
          have Hnext := Lib.hid hnext; clear hnext
          have s4 := hpb.str 22 5 9 uB Go.Proofs.YtdebhdopginllaaDoor.u8 uS
          have q7 := hmb.cell
          have q10 := hob.cell
          have z10 := hob.frozen
          have c0 := hpb.cell (k := 0) (by omega)
          rw [Nat.add_zero] at c0
          have Hpl := Lib.hid hpl; clear hpl
          have b0 : (0 : Int) < (pl : Int) := by omega
          have hB : Hid (O + 2 ≤ W.heap.size) := hsW
          have hlm : Hid (p.length ≤ maxLen) := by show _ ≤ _; simp [maxLen]; omega
          have m1 : Hid (n2 + 1 ≤ maxLen ∧ (n2 + 1) * 1 ≤ 140737488355328) := ⟨by simp [maxLen]; omega, by omega⟩
          have m2 : Hid (n2 + 2 ≤ maxLen ∧ (n2 + 2) * 1 ≤ 140737488355328) := ⟨by simp [maxLen]; omega, by omega⟩
          have hple : pl ≤ 2000 := by have := Hpl.out; omega
          have m3 : Hid (n2 + pl ≤ maxLen ∧ (n2 + pl) * 1 ≤ 140737488355328) := ⟨by simp [maxLen]; omega, by omega⟩
          rw [Hn.out] at hmap
          clear hmb
          by_cases hmem : p ∈ ss
          · have hix : ss.idxOf p < ss.length := List.idxOf_lt_length_iff.2 hmem
            have hf : Hid (placeF ss n p = some (128 + (ss.idxOf p : Int))) := by
              show _ = _
              unfold placeF
              rw [← Hn.out, List.take_length, if_pos hmem]
            have hcode : Hid (codeTo ss bs (k + 1) = codeTo ss bs k ++ [UInt8.ofNat (128 + ss.idxOf p)]) := by
              show _ = _
              rw [Hnext.out]; unfold codeP; rw [if_pos hmem]
            rw [Hn.out] at hix
            clear hmem hkind hp
            have hi64 : ss.idxOf p < 64 := by omega
            obtain ⟨ix, hix'⟩ : ∃ ix, ix = ss.idxOf p := ⟨_, rfl⟩
            rw [← hix'] at hf hcode hi64
            clear hix hix'
            have Hbv : Hid (encB (UInt8.ofNat (128 + ix)) = .int .u8 (128 + (ix : Int))) := by
              show _ = _
              unfold encB
              rw [UInt8.toNat_ofNat', Nat.mod_eq_of_lt (by omega)]
              simp
            gi_wp2_with (first
              | (gi_at_lookup; (refine wpListIn_mapget_some rfl (.tmp 41) (.tmp 43) 56 rfl uS uMB Go.Proofs.YtdebhdopginllaaDoor.u8 (zB _) rfl hmap p hlm.out rfl (128 + (ix : Int)) hf.out ?_))
              | (gi_at_builtin; refine wpListIn_pushv (enc := encB) rfl (.tmp 52) (.tmp 54) rfl uB infoB encB_one rfl rfl hown hB.out (UInt8.ofNat (128 + ix)) _ Hbv.out rfl m1.out.1 m1.out.2 ?_; intro A6 c6 W6 ho6 hk6; have hob6 := Boxed.below' hob hk6.1 (by omega); have q6 := hob6.cell; have z6 := hob6.frozen))
            rw [hs3.out]
            exact HI.out.step hsz (by rw [hcode.out]; exact ho6) hk6
          · have hf : Hid (placeF ss n p = none) := by
              show _ = _
              unfold placeF
              rw [← Hn.out, List.take_length, if_neg hmem]
            by_cases h128 : 128 ≤ gb p 0
            · have hbyte : ∃ y, p = [y] := by
                rcases hkind with ⟨-, h⟩ | ⟨-, y, hy, -⟩
                · exfalso
                  have hl : 0 < p.length := List.length_pos_iff.2 hpne
                  have := letterI_lt (runL_letter (bs := p) (k := 0) (by omega))
                  omega
                · exact ⟨y, hy⟩
              obtain ⟨y, hyp⟩ := hbyte
              have hcode : Hid (codeTo ss bs (k + 1) = codeTo ss bs k ++ [255, y]) := by
                show _ = _
                rw [Hnext.out]; unfold codeP; rw [if_neg hmem, if_pos h128, hyp]; rfl
              have Hgb : Hid (encB y = .int .u8 (gb p 0)) := by show _ = _; rw [hyp]; rfl
              have d1 : decide ((128 : Int) ≤ gb p 0) = true := by simpa using h128
              clear hmem hkind hyp hp hpne
              gi_wp2_with (first
                | (gi_at_lookup; refine wpListIn_mapget_none rfl (.tmp 41) (.tmp 43) 56 rfl uS uMB Go.Proofs.YtdebhdopginllaaDoor.u8 (zB _) rfl hmap p hlm.out rfl hf.out ?_))
              refine wpIn_region_orders [[0, 1, 2, 3, 4, 5, 6], [1, 0, 2, 3, 4, 5, 6], [1, 2, 0, 3, 4, 5, 6], [1, 2, 3, 0, 4, 5, 6], [1, 2, 3, 4, 0, 5, 6]] (by kernel_rfl) (by kernel_rfl) ?_
              intro W0 hW0
              have hk0 : Kept (O + 2) W W0 := by rw [hW0]; exact Kept.drewN (O + 2) W 1
              have hown0 : Own encB W0 (O + 2) 5 A2 n2 c2 (codeTo ss bs k) := by rw [hW0]; exact hown
              have hob0 : Boxed W0 O 22 (.slice A2 n2 c2) := by rw [hW0]; exact hob
              have c0' : W0.cell? ⟨b, off + st, none⟩ = some (.int .u8 (gb p 0)) := by rw [hW0]; exact c0
              have hB0 : O + 2 ≤ W0.heap.size := by rw [hW0]; exact hB.out
              have q0 := hob0.cell
              have hOlt := hob0.lt
              clear hW0 q10 z10 c0
              have hownq : Hid (Own encB (W0.alloc (.cells #[.int .u8 255, .int .u8 (gb p 0)] 5)) (O + 2) 5 A2 n2 c2 (codeTo ss bs k)) := hown0.below ((Below.refl _ _).alloc (Nat.le_refl _) _)
              have hBq : Hid (O + 2 ≤ (W0.alloc (.cells #[.int .u8 255, .int .u8 (gb p 0)] 5)).heap.size) := by show _ ≤ _; rw [World.size_alloc]; exact Nat.le_succ_of_le hB0
              have hkq : Hid (Kept (O + 2) W (W0.alloc (.cells #[.int .u8 255, .int .u8 (gb p 0)] 5))) := Kept.trans hk0 (Kept.alloc (X := W0) _ hB0)
              have htwo : Hid (Cells (W0.alloc (.cells #[.int .u8 255, .int .u8 (gb p 0)] 5)) (some ⟨W0.heap.size, 0, none⟩) 2 (fun i => encB ([255, y].getD i 0))) := two_bytes W0 _ 255 y _ _ rfl Hgb.out
              refine List.forall_mem_cons.2 ⟨?_, List.forall_mem_cons.2 ⟨?_, List.forall_mem_cons.2 ⟨?_, List.forall_mem_cons.2 ⟨?_, List.forall_mem_cons.2 ⟨?_, fun _ h => nomatch h⟩⟩⟩⟩⟩
              all_goals
                simp only [List.filterMap_cons, List.filterMap_nil, List.getElem?_toArray, List.getElem?_cons_zero, List.getElem?_cons_succ]
                change wpListIn _ _ _ _ _ [_, _, _, _, _, _, _] _ _
                gi_wp2_with (first | (gi_at_builtin; refine wpListIn_app (enc := encB) rfl (.tmp 61) (.tmp 65) rfl uB infoB encB_one rfl rfl hownq.out hBq.out (some ⟨W0.heap.size, 0, none⟩) 2 2 [255, y] 0 rfl htwo.out rfl m2.out.1 m2.out.2 ?_; intro A6 c6 W6 ho6 hk6'; have hk6 := Kept.trans hkq.out hk6'; have hob6 := Boxed.below' hob hk6.1 (by omega); have q6 := hob6.cell; have z6 := hob6.frozen))
                rw [hs3.out]
                exact HI.out.step hsz (by rw [hcode.out]; exact ho6) hk6
            · have hcode : Hid (codeTo ss bs (k + 1) = codeTo ss bs k ++ p) := by
                show _ = _
                rw [Hnext.out]; unfold codeP; rw [if_neg hmem, if_neg h128]
              have d1 : decide ((128 : Int) ≤ gb p 0) = false := by simpa using h128
              clear hmem hkind hp hpne
              gi_wp2_with (first
                | (gi_at_lookup; refine wpListIn_mapget_none rfl (.tmp 41) (.tmp 43) 56 rfl uS uMB Go.Proofs.YtdebhdopginllaaDoor.u8 (zB _) rfl hmap p hlm.out rfl hf.out ?_)
                | (gi_at_builtin; refine wpListIn_app (enc := encB) rfl (.tmp 47) (.tmp 48) rfl uB infoB encB_one rfl rfl hown hB.out _ pl _ p 0 Hpl.out hpb.2.2 rfl m3.out.1 m3.out.2 ?_; intro A6 c6 W6 ho6 hk6; have hob6 := Boxed.below' hob hk6.1 (by omega); have q6 := hob6.cell; have z6 := hob6.frozen))
              rw [hs3.out]
              exact HI.out.step hsz (by rw [hcode.out]; exact ho6) hk6
  · rw [show ((checkL ss : Nat) : Int) = _ from rfl] at hcal
    have Hcal := Lib.hid hcal; clear hcal
    have hR : Hid ((codeR ss bs).1 = [] ∧ (codeR ss bs).2 = checkL ss) := by show _ ∧ _; unfold codeR; rw [if_neg hc]; exact ⟨rfl, rfl⟩
    have d0 : (((checkL ss : Nat) : Int) != 0) = true := by simp; exact hc
    clear hc
    refine calls_of_marks Tryd.func11 rfl ?_
    simp only [Tryd.ntmps11, List.size_toArray, List.length_cons, List.length_nil, Nat.reduceAdd, Nat.reduceSub, Array.replicate_succ, Array.replicate_zero, List.push_toArray, List.append_toArray, List.nil_append, List.cons_append]
    go_wp2_with fail
    refine Hcal.out.mono ?_
    rintro e w1 ⟨rfl, hw1⟩
    obtain rfl : w = w1 := hw1.symm
    go_wp2_with fail
    refine markPost_ret (v := .tuple #[.slice none 0 0, .int .i64 ((checkL ss : Nat) : Int)]) (fun W => by simp [results, Tryd.results11, go_sem]) rfl ?_
    rw [hR.out.1, hR.out.2]
    exact RetBytes.err rfl (Below.refl _ _)
end Go.Proofs.YtdebhdopginllaaDoor
