/- Dk Dl. -/
import Derived.Test.YtohadkmaemmfgaaGreatDoorRA30
import Derived.Test.YtohadkmaemmfgaaGreatDoorRA29
import Derived.Test.YtohadkmaemmfgaaGreatDoorRA31
import Derived.Test.YtohadkmaemmfgaaGreatDoorRA09
import Derived.Shelf.Abstract
import Derived.Sort.Walk0
set_option maxRecDepth 100000
set_option maxHeartbeats 4000000
namespace Go.Proofs.YtohadkmaemmfgaaGreatDoor.Dic
open Go.RowKit Go.Proofs Go.Shelf
set_option linter.unusedVariables false
attribute [local go_sem] Oper.semAt_some
theorem pieces_any (A : Option Addr) (n c : Nat) (w : World) :
    Calls Tryz.prog 133 #[.slice A n c] w fun e w' => e = .returned (.func (.func 203) #[] #[.pointer (some ⟨w.heap.size, 0, none⟩)]) ∧ w' = w.alloc (.cells #[.slice A n c] 23) := by
  go_enter Tryz.func133, Tryz.ntmps133
  go_wp2
  go_ret
  exact ⟨rfl, rfl⟩
theorem uMB : Tryz.prog.underlying 168 = some (.map 9 5) := by kernel_rfl
theorem zB (w : World) : (zeroValue 5).run Tryz.prog w = .ok (.int .u8 0) w := by kernel_rfl
def placeF (ss : List (List UInt8)) (k : Nat) : List UInt8 → Option Int := fun s => if s ∈ ss.take k then some (128 + (ss.idxOf s : Int)) else none
theorem placeF_next {ss : List (List UInt8)} (hnd : ss.Nodup) {k : Nat} (hk : k < ss.length) : ∀ s, placeF ss (k + 1) s = fput (placeF ss k) (gs ss k) (128 + (k : Int)) s := fun s => by
  unfold placeF fput
  rw [List.take_succ_eq_append_getElem hk, ← gs_get hk]
  by_cases h : s = gs ss k
  · subst h
    rw [if_pos (by simp), if_pos rfl, gs_get hk, List.Nodup.idxOf_getElem hnd]
  · rw [if_neg h]
    simp [h]
structure CodeI (w : World) (O : Nat) (ss : List (List UInt8)) (bs : List UInt8) (k : Nat) (W : World) : Prop where
  map : MapIs Tryz.prog 9 5 .u8 W w.heap.size ss.length (placeF ss ss.length)
  mbox : Boxed W (w.heap.size + 1) 168 (.map (some w.heap.size))
  out : ∃ A2 n2 c2, Boxed W O 23 (.slice A2 n2 c2) ∧ Own encB W (O + 2) 5 A2 n2 c2 (codeTo ss bs k)
  below : Below w.heap.size w W
  size : O + 2 ≤ W.heap.size
theorem CodeI.kept {w W W' : World} {O : Nat} {ss : List (List UInt8)} {bs : List UInt8} {k : Nat} {row : Option Nat} (hO : w.heap.size + 2 ≤ O) (h : CodeI w O ss bs k W) (hg : W.grownBy W' row) (hrow : ∀ r, row = some r → O + 1 ≤ r) (hc : ∀ r o, row = some r → W.heap[r]? = some o → o.isCells = true → r < O + 2) : CodeI w O ss bs k W' := by
  obtain ⟨h1, h2, ⟨A2, n2, c2, h3, h4⟩, h5, h6⟩ := h
  have ne : ∀ j, j < O + 1 → some j ≠ row := fun j hj e => by have := hrow j e.symm; omega
  refine ⟨h1.same (hg.block _ h1.lt (ne _ (by omega))), h2.kept hg (ne _ (by omega)), ⟨A2, n2, c2, h3.kept hg (ne _ (by omega)), h4.keepDic fun g o hB ho hcell => ?_⟩, h5.grown hg h5.size (fun r e => by have := hrow r e; omega), Nat.le_trans h6 hg.size⟩
  refine (hg.block g (Array.getElem?_eq_some_iff.1 ho).1 (fun e => ?_)).trans ho
  have := hc g o e.symm ho hcell
  omega
theorem CodeI.step {w W W6 : World} {O : Nat} {ss : List (List UInt8)} {bs : List UInt8} {k : Nat} {A6 : Option Addr} {n6 c6 : Nat} (hO : w.heap.size + 2 ≤ O) (h : CodeI w O ss bs k W) (ho : Own encB W6 (O + 2) 5 A6 n6 c6 (codeTo ss bs (k + 1))) (hk : Kept (O + 2) W W6) :
    KeepsFrom (O + 2) W (W6.setCell ⟨O, 0, none⟩ (.slice A6 n6 c6)) ∧ pcKp w.heap.size (O + 1) W (W6.setCell ⟨O, 0, none⟩ (.slice A6 n6 c6)) ∧ CodeI w O ss bs (k + 1) (W6.setCell ⟨O, 0, none⟩ (.slice A6 n6 c6)) := by
  obtain ⟨h1, h2, ⟨A2, n2, c2, h3, h4⟩, h5, h6⟩ := h
  have oth : ∀ j, j ≠ O → (W6.setCell ⟨O, 0, none⟩ (.slice A6 n6 c6)).heap[j]? = W6.heap[j]? := fun j hj => Below.heap_setCell W6 ⟨O, 0, none⟩ _ j hj
  have hb : Below w.heap.size W (W6.setCell ⟨O, 0, none⟩ (.slice A6 n6 c6)) := (hk.1.mono (by omega)).setCell (p := ⟨O, 0, none⟩) (by show _ ≤ O; omega) _
  refine ⟨KeepsFrom.setCell' hk.2 (by show O < _; omega) _, ⟨(oth _ (by omega)).trans (hk.1.block _ (by omega)), hb⟩, ?_⟩
  refine ⟨h1.same ((oth _ (by omega)).trans (hk.1.block _ (by omega))), (oth _ (by omega)).trans ((hk.1.block _ (by omega)).trans h2), ⟨A6, n6, c6, (Boxed.below' h3 hk.1 (by omega)).set _, ho.keepDic fun g o hB hgo _ => (oth g (by omega)).trans hgo⟩, h5.trans hb, ?_⟩
  have := hk.1.size
  simp [World.setCell]
  omega
theorem two_bytes (w : World) (e : TypeId) (x y : UInt8) (v1 v2 : Value) (h1 : encB x = v1) (h2 : encB y = v2) : Cells (w.alloc (.cells #[v1, v2] e)) (some ⟨w.heap.size, 0, none⟩) 2 (fun i => encB ([x, y].getD i 0)) := by
  subst h1 h2
  exact fun _ => ⟨w.heap.size, 0, rfl, by simp, fun i hi => by
    match i, hi with
    | 0, _ => simp
    | 1, _ => simp⟩
theorem pcP_bytes {w : World} {A : Option Addr} {n c b off : Nat} {bs : List UInt8} (hx : Bytes w A n c bs) {k : Nat} (hk : k < (piecesL bs).length) (hA : A = some ⟨b, off, none⟩) :
    Bytes w (some ⟨b, off + stP bs k, none⟩) (plen (bs.drop (stP bs k))) (c - stP bs k) (pcP bs k) := by
  subst hA
  have hst := (pieces_at (Nat.le_of_lt hk)).1
  have hp := plen_le (pieces_ne hk)
  rw [List.length_drop] at hp
  have hl := hx.1
  have hc := hx.2.1
  refine ⟨pcP_length hk, by omega, fun hn => ?_⟩
  obtain ⟨b', off', e, hb, hcell⟩ := hx.2.2 (by omega)
  injection e with e
  injection e with e1 e2
  subst e1 e2
  refine ⟨b, off + stP bs k, rfl, hb, fun i hi => ?_⟩
  rw [Nat.add_assoc, hcell _ (by omega)]
  show some (Value.int .u8 _) = some (Value.int .u8 _)
  rw [pcP_gb hi]
def codeQ (ss : List (List UInt8)) (bs : List UInt8) : List UInt8 × Nat := if (codeR ss bs).2 = 0 ∧ 65536 < (codeR ss bs).1.length then ([], 5) else codeR ss bs
theorem codeP_gen (A A' : Option Addr) (c c' n m : Nat) (ss : List (List UInt8)) (bs : List UInt8) (w : World) (hx : Strs w A n c ss) (hy : Bytes w A' m c' bs) (hn : n ≤ 1000000000) (hl : ∀ s ∈ ss, s.length ≤ 1000000000) (hm : m ≤ 65536) :
    Calls Tryz.prog 79 #[.slice A n c, .slice A' m c'] w (RetBytes w (codeQ ss bs).1 ((codeQ ss bs).2 : Nat)) := by
  have Hl := Lib.hid hy.1
  have Hn := Lib.hid hx.1
  have hcal := checkP_any A c n ss w hx hn hl
  have hmm := @run_makeMap Tryz.prog
  by_cases hc : checkL ss = 0
  · rw [hc] at hcal
    have Hcal := Lib.hid hcal; clear hcal
    obtain ⟨hs64, hsw, hnd⟩ := checkL_zero.1 hc
    have hR : Hid (codeQ ss bs = if 65536 < (codeL ss bs).length then ([], 5) else (codeL ss bs, 0)) := by show _ = _; unfold codeQ codeR; rw [if_pos hc]; simp only [true_and]
    have HS := Lib.hid hsw; clear hsw hc
    have HN := Lib.hid hnd; clear hnd
    have HL := Lib.hid hl; clear hl
    rw [Hn.out] at hs64
    have d65 : decide ((65536 : Int) < (m : Int)) = false := by simp; omega
    refine calls_of_marks Tryz.func79 rfl ?_
    simp only [Tryz.ntmps79, List.size_toArray, List.length_cons, List.length_nil, Nat.reduceAdd, Nat.reduceSub, Array.replicate_succ, Array.replicate_zero, List.push_toArray, List.append_toArray, List.nil_append, List.cons_append]
    go_wp2_with fail
    refine Hcal.out.mono ?_
    rintro e w1 ⟨rfl, hw1⟩
    obtain rfl : w = w1 := hw1.symm
    clear Hcal
    go_wp2_with fail
    go_loopw [8, 9, 25] (fun _ _ i wr => ∃ (k : Nat), k ≤ n ∧ i = .int .i64 (k : Int) ∧ MapIs Tryz.prog 9 5 .u8 wr w.heap.size k (placeF ss k) ∧ Boxed wr (w.heap.size + 1) 168 (.map (some w.heap.size)) ∧ w.heap.size + 2 ≤ wr.heap.size ∧ Below w.heap.size w wr) (fun _ _ i _ => n - (intOf i).toNat)
    case atStart =>
      refine ⟨0, Nat.zero_le _, rfl, ?_, ?_, ?_, ?_⟩
      · exact (MapIs.made w).below (((Below.refl _ _).alloc (Nat.le_refl _) _))
      · have := Boxed.new (w.alloc (.map #[] 0)) 168 (.map (some w.heap.size))
        rw [World.size_alloc] at this
        exact this
      · simp
      · exact ((Below.refl _ _).alloc (Nat.le_refl _) _).alloc (by simp) _
    case round =>
      obtain ⟨k, hk, rfl, hmap, hbox, hsz, hbel⟩ := hrel
      by_cases hlt : k < n
      · obtain ⟨b, off, rfl, hb, hc⟩ := (hx.below hbel).get hlt
        have c1 := hc k hlt
        clear hc hmm
        have hlk : Hid ((gs ss k).length ≤ maxLen) := by
          show _ ≤ _
          have : (gs ss k).length ≤ 1000000000 := by rw [gs_get (by rw [Hn.out]; exact hlt)]; exact HL.out _ (List.getElem_mem _)
          simp [maxLen]; omega
        have q1 := hbox.cell
        have hnext : Hid (∀ s, placeF ss (k + 1) s = fput (placeF ss k) (gs ss k) (128 + (k : Int)) s) := placeF_next HN.out (by rw [Hn.out]; exact hlt)
        have hkm : Hid (k < maxLen) := by show _ < _; simp [maxLen]; omega
        have hwf : Hid ((Lit.int .u8 (128 + (k : Int))).wf = true) := WalkArith.wf_u8 (by omega)
        go_wp2_with (at_mapUpdate; refine wpList_mapset rfl (.tmp 30) (.tmp 31) (.tmp 34) 168 rfl uS uMB Go.Proofs.YtohadkmaemmfgaaGreatDoor.Dic.u8 rfl hmap hkm.out (gs ss k) hlk.out (128 + (k : Int)) rfl rfl hwf.out ?_; intro w2 hmap2 hg2)
        go_roundw
        case rel => exact ⟨k + 1, by omega, by go_num, hmap2.cong hnext.out, hbox.kept hg2 (by simp), Nat.le_trans hsz hg2.size, hbel.grown hg2 hbel.size (fun r e => by cases e; omega)⟩
        case measure => simp [intOf]; omega
      · obtain ⟨O, hO⟩ : ∃ O, O = wr.heap.size := ⟨_, rfl⟩
        have HO := Lib.hid hO
        rw [← hO] at hsz
        clear hO
        go_wp2_with fail
        refine (pieces_any _ _ _ _).mono ?_
        rintro e w3 ⟨rfl, hw3⟩
        have Hw3 := Lib.hid hw3; clear hw3
        clear hmm
        go_wp2_with fail
        rw [← HO.out]
        have hs3 : Hid (w3.heap.size = O + 2) := by show _ = _; rw [Hw3.out, HO.out]; simp
        have hb0 : Below O wr w3 := by
          rw [Hw3.out, HO.out]
          exact ((Below.refl _ _).alloc (Nat.le_refl _) _).alloc (by simp) _
        have hob0 : Boxed w3 O 23 (.slice none 0 0) := by
          rw [Hw3.out, HO.out]
          exact (Boxed.new wr 23 (.slice none 0 0)).alloc _
        have hbx3 : Boxed w3 (O + 1) 23 (.slice A' m c') := by
          have := Boxed.new (wr.alloc (.cells #[.slice none 0 0] 23)) 23 (.slice A' m c')
          rw [World.size_alloc] at this
          rw [Hw3.out, HO.out]; exact this
        obtain rfl : n = k := by omega
        have hI0 : CodeI w O ss bs 0 w3 := ⟨by rw [Hn.out]; exact hmap.same (hb0.block _ (by omega)), Boxed.below' hbox hb0 (by omega), ⟨none, 0, 0, hob0, Own.nil _ _ _ _⟩, hbel.trans (hb0.mono (by omega)), by rw [hs3.out]; omega⟩
        clear hob0 hmap hbox hb0 Hw3 HO
        obtain ⟨b, off, hA⟩ : ∃ b off, 0 < m → A' = some ⟨b, off, none⟩ := by
          rcases Nat.eq_zero_or_pos m with h | h
          · exact ⟨0, 0, fun h' => absurd h' (by omega)⟩
          · obtain ⟨b, off, e, _⟩ := hy.get h
            exact ⟨b, off, fun _ => e⟩
        have HA := Lib.hid hA; clear hA
        refine wp_rangeFunc_row2 (G := fun u v t => ((t.setIfInBounds 38 u).setIfInBounds 39 v).setIfInBounds 11 u) (u := fun k => .slice (some ⟨b, off + stP bs k, none⟩) (plen (bs.drop (stP bs k))) (c' - stP bs k)) (v := fun k => .bool (wdP bs k)) rfl (enters_of Tryz.func203 (by kernel_rfl) rfl) (pieces1_gives w A' m c' bs hy (by omega) (O + 1) b off (by omega) HA.out)
          (fun o1 o2 => ⟨(hbx3.alloc _).alloc _, (hI0.below.alloc hI0.below.size _).alloc (by have := hI0.below.size; simp; omega) _⟩)
          (fun A B hab => KeepsFrom.of_grownBy hab (fun j e => by cases e; rw [hs3.out]; omega))
          (fun h1 h2 => ⟨h2.1.trans h1.1, h1.2.trans h2.2⟩)
          (fun W l o o' hl hlo ho => ⟨World.putObj_heap_other (by rw [hs3.out] at hl; omega), ((Below.refl _ _).grown (grownBy_putObj' W l o') (by have := (Array.getElem?_eq_some_iff.1 hlo).1; rw [hs3.out] at hl; omega) (fun k e => by cases e; rw [hs3.out] at hl; omega))⟩)
          (CodeI w O ss bs) (fun _ _ _ => False) ?hI (fun _ _ _ _ _ h _ _ => h.elim) ?hIA (fun _ _ _ _ h _ => h.elim) hI0 ?assign ?body ?done (fun _ _ _ _ _ _ h _ => h.elim)
        case hI => exact fun s W W' row h hg hr => h.kept hsz hg (fun r e => by have := (hr r e).1; rw [hs3.out] at this; omega) (fun r o e ho hc => by obtain ⟨o', h1, h2⟩ := (hr r e).2; rw [ho] at h1; injection h1 with h1; subst h1; rw [h2] at hc; cases hc)
        case hIA => exact fun k A B h hab => h.kept hsz hab (fun r e => by cases e; omega) (fun r o e _ _ => by cases e; omega)
        case assign =>
          intro l k W K hK
          simp only [List.setIfInBounds_toArray, List.set_cons_succ, List.set_cons_zero] at hK ⊢
          gi_wp2
          exact hK
        case done =>
          intro D W hD hI hdef
          obtain ⟨-, -, ⟨A2, n2, c2, hob, hown⟩, hbelW, hsW⟩ := hI
          have q1 := hob.cell
          have hcl := codeL_len ss bs
          have hn2 := hown.length
          rw [Hl.out] at hcl
          unfold codeL at hcl
          rw [hn2] at hcl
          have Hn2 := Lib.hid hn2; clear hn2
          have hll : (codeL ss bs).length = n2 := Hn2.out
          rw [hs3.out] at hD
          by_cases hb6 : 65536 < n2
          · have d1 : decide ((65536 : Int) < (n2 : Int)) = true := by simp; omega
            have d1' : decide (65536 < n2) = true := by simp; omega
            have HB6 : Hid (codeQ ss bs = ([], 5)) := by show _ = _; rw [hR.out, hll, if_pos hb6]
            clear hll hb6
            go_wp2_with fail
            refine markPost_mark hdef (v := .tuple #[.slice none 0 0, .int .i64 5]) (fun W => by simp [results, Tryz.results79, go_sem]) rfl ?_
            rw [HB6.out]
            exact RetBytes.err rfl (hbelW.grown (grownBy_putObj' W D _) hbelW.size (fun k e => by cases e; omega))
          have d1 : decide ((65536 : Int) < (n2 : Int)) = false := by simp; omega
          have d1' : decide (65536 < n2) = false := by simp; omega
          have HB6 : Hid (codeQ ss bs = (codeL ss bs, 0)) := by show _ = _; rw [hR.out, hll, if_neg hb6]
          clear hll hb6
          go_wp2_with fail
          refine markPost_mark hdef (v := .tuple #[.slice A2 n2 c2, .int .i64 0]) (fun W => by simp [results, Tryz.results79, go_sem]) rfl ?_
          rw [HB6.out]
          refine RetBytes.mk rfl (Own.bytesBDic (B := O + 2) (e := 5) ?_) (hbelW.grown (grownBy_putObj' W D _) hbelW.size (fun k e => by cases e; omega))
          exact hown.keepDic fun g o hB ho hc => (World.putObj_heap_other (fun e => by subst e; rw [hdef] at ho; injection ho with ho; subst ho; cases hc)).trans ho
        case body =>
          intro l k W hk hl hI
          have HI := Lib.hid hI
          obtain ⟨hmap, hmb, ⟨A2, n2, c2, hob, hown⟩, hbelW, hsW⟩ := hI
          simp only [List.setIfInBounds_toArray, List.set_cons_succ, List.set_cons_zero]
          have hm0 : 0 < m := by
            have := pieces_ne hk
            rcases Nat.eq_zero_or_pos m with h | h
            · have e : bs = [] := List.length_eq_zero_iff.1 (by rw [Hl.out]; exact h)
              rw [e] at this; simp at this
            · exact h
          have hpb := (pcP_bytes hy hk (HA.out hm0)).below hbelW
          have hpl := pcP_length hk
          have hle : (pcP bs k).length ≤ 65536 := by
            rw [hpl]; have := plen_le (pieces_ne hk); rw [List.length_drop, Hl.out] at this; omega
          have hkind := pcP_kind hk
          have hpne := pcP_ne hk
          have hp1 := plen_pos (bs.drop (stP bs k))
          have hnext : codeTo ss bs (k + 1) = codeTo ss bs k ++ codeP ss (pcP bs k) := rfl
          have hcl := codeTo_len (ws := ss) (Nat.le_of_lt hk)
          have hst := (pieces_at (Nat.le_of_lt hk)).1
          rw [Hl.out] at hst
          have hn2 := hown.length
          rw [hn2] at hcl
          have Hn2 := Lib.hid hn2; clear hn2
          obtain ⟨st, hst'⟩ : ∃ st, st = stP bs k := ⟨_, rfl⟩
          obtain ⟨pl, hpl'⟩ : ∃ pl, pl = plen (bs.drop (stP bs k)) := ⟨_, rfl⟩
          rw [← hpl', ← hst'] at hpb ⊢
          rw [← hpl'] at hpl hp1
          rw [← hst'] at hst hcl
          clear hst' hpl'
          obtain ⟨p, hp⟩ : ∃ p, p = pcP bs k := ⟨_, rfl⟩
          rw [← hp] at hpb hkind hpne hnext hle hpl
          have Hnext := Lib.hid hnext; clear hnext
          have s4 := hpb.str 23 5 9 uB Go.Proofs.YtohadkmaemmfgaaGreatDoor.Dic.u8 uS
          have q7 := hmb.cell
          have q10 := hob.cell
          have z10 := hob.frozen
          have c0 := hpb.cell (k := 0) (by omega)
          rw [Nat.add_zero] at c0
          have Hpl := Lib.hid hpl; clear hpl
          have b0 : (0 : Int) < (pl : Int) := by omega
          have hB : Hid (O + 2 ≤ W.heap.size) := hsW
          have hlm : Hid (p.length ≤ maxLen) := by show _ ≤ _; simp [maxLen]; omega
          have m1 : Hid (n2 + 1 ≤ maxLen ∧ (n2 + 1) * 1 ≤ 140737488355328) := ⟨by simp [maxLen]; omega, by omega⟩
          have m2 : Hid (n2 + 2 ≤ maxLen ∧ (n2 + 2) * 1 ≤ 140737488355328) := ⟨by simp [maxLen]; omega, by omega⟩
          have hple : pl ≤ 65536 := by have := Hpl.out; omega
          have m3 : Hid (n2 + pl ≤ maxLen ∧ (n2 + pl) * 1 ≤ 140737488355328) := ⟨by simp [maxLen]; omega, by omega⟩
          rw [Hn.out] at hmap
          clear hmb
          by_cases hmem : p ∈ ss
          · have hix : ss.idxOf p < ss.length := List.idxOf_lt_length_iff.2 hmem
            have hf : Hid (placeF ss n p = some (128 + (ss.idxOf p : Int))) := by
              show _ = _
              unfold placeF
              rw [← Hn.out, List.take_length, if_pos hmem]
            have hcode : Hid (codeTo ss bs (k + 1) = codeTo ss bs k ++ [UInt8.ofNat (128 + ss.idxOf p)]) := by
              show _ = _
              rw [Hnext.out]; unfold codeP; rw [if_pos hmem]
            rw [Hn.out] at hix
            clear hmem hkind hp
            have hi64 : ss.idxOf p < 64 := by omega
            obtain ⟨ix, hix'⟩ : ∃ ix, ix = ss.idxOf p := ⟨_, rfl⟩
            rw [← hix'] at hf hcode hi64
            clear hix hix'
            have Hbv : Hid (encB (UInt8.ofNat (128 + ix)) = .int .u8 (128 + (ix : Int))) := by
              show _ = _
              unfold encB
              rw [UInt8.toNat_ofNat', Nat.mod_eq_of_lt (by omega)]
              simp
            gi_wp2_with (first
              | (gi_at_lookup; (refine wpListIn_mapget_some rfl (.tmp 41) (.tmp 43) 168 rfl uS uMB Go.Proofs.YtohadkmaemmfgaaGreatDoor.Dic.u8 (zB _) rfl hmap p hlm.out rfl (128 + (ix : Int)) hf.out ?_))
              | (gi_at_builtin; refine wpListIn_pushv (enc := encB) rfl (.tmp 52) (.tmp 54) rfl uB infoB encB_one rfl rfl hown hB.out (UInt8.ofNat (128 + ix)) _ Hbv.out rfl m1.out.1 m1.out.2 ?_; intro A6 c6 W6 ho6 hk6; have hob6 := Boxed.below' hob hk6.1 (by omega); have q6 := hob6.cell; have z6 := hob6.frozen))
            rw [hs3.out]
            exact HI.out.step hsz (by rw [hcode.out]; exact ho6) hk6
          · have hf : Hid (placeF ss n p = none) := by
              show _ = _
              unfold placeF
              rw [← Hn.out, List.take_length, if_neg hmem]
            by_cases h128 : 128 ≤ gb p 0
            · have hbyte : ∃ y, p = [y] := by
                rcases hkind with ⟨-, h⟩ | ⟨-, y, hy, -⟩
                · exfalso
                  have hl : 0 < p.length := List.length_pos_iff.2 hpne
                  have := letterI_lt (runL_letter (bs := p) (k := 0) (by omega))
                  omega
                · exact ⟨y, hy⟩
              obtain ⟨y, hyp⟩ := hbyte
              have hcode : Hid (codeTo ss bs (k + 1) = codeTo ss bs k ++ [255, y]) := by
                show _ = _
                rw [Hnext.out]; unfold codeP; rw [if_neg hmem, if_pos h128, hyp]; rfl
              have Hgb : Hid (encB y = .int .u8 (gb p 0)) := by show _ = _; rw [hyp]; rfl
              have d1 : decide ((128 : Int) ≤ gb p 0) = true := by simpa using h128
              clear hmem hkind hyp hp hpne
              gi_wp2_with (first
                | (gi_at_lookup; refine wpListIn_mapget_none rfl (.tmp 41) (.tmp 43) 168 rfl uS uMB Go.Proofs.YtohadkmaemmfgaaGreatDoor.Dic.u8 (zB _) rfl hmap p hlm.out rfl hf.out ?_))
              refine wpIn_region_orders [[0, 1, 2, 3, 4, 5, 6], [1, 0, 2, 3, 4, 5, 6], [1, 2, 0, 3, 4, 5, 6], [1, 2, 3, 0, 4, 5, 6], [1, 2, 3, 4, 0, 5, 6]] (by kernel_rfl) (by kernel_rfl) ?_
              intro W0 hW0
              have hk0 : Kept (O + 2) W W0 := by rw [hW0]; exact Kept.drewN (O + 2) W 1
              have hown0 : Own encB W0 (O + 2) 5 A2 n2 c2 (codeTo ss bs k) := by rw [hW0]; exact hown
              have hob0 : Boxed W0 O 23 (.slice A2 n2 c2) := by rw [hW0]; exact hob
              have c0' : W0.cell? ⟨b, off + st, none⟩ = some (.int .u8 (gb p 0)) := by rw [hW0]; exact c0
              have hB0 : O + 2 ≤ W0.heap.size := by rw [hW0]; exact hB.out
              have q0 := hob0.cell
              have hOlt := hob0.lt
              clear hW0 q10 z10 c0
              have hownq : Hid (Own encB (W0.alloc (.cells #[.int .u8 255, .int .u8 (gb p 0)] 5)) (O + 2) 5 A2 n2 c2 (codeTo ss bs k)) := hown0.below ((Below.refl _ _).alloc (Nat.le_refl _) _)
              have hBq : Hid (O + 2 ≤ (W0.alloc (.cells #[.int .u8 255, .int .u8 (gb p 0)] 5)).heap.size) := by show _ ≤ _; rw [World.size_alloc]; exact Nat.le_succ_of_le hB0
              have hkq : Hid (Kept (O + 2) W (W0.alloc (.cells #[.int .u8 255, .int .u8 (gb p 0)] 5))) := Kept.trans hk0 (Kept.alloc (X := W0) _ hB0)
              have htwo : Hid (Cells (W0.alloc (.cells #[.int .u8 255, .int .u8 (gb p 0)] 5)) (some ⟨W0.heap.size, 0, none⟩) 2 (fun i => encB ([255, y].getD i 0))) := two_bytes W0 _ 255 y _ _ rfl Hgb.out
              refine List.forall_mem_cons.2 ⟨?_, List.forall_mem_cons.2 ⟨?_, List.forall_mem_cons.2 ⟨?_, List.forall_mem_cons.2 ⟨?_, List.forall_mem_cons.2 ⟨?_, fun _ h => nomatch h⟩⟩⟩⟩⟩
              all_goals
                simp only [List.filterMap_cons, List.filterMap_nil, List.getElem?_toArray, List.getElem?_cons_zero, List.getElem?_cons_succ]
                change wpListIn _ _ _ _ _ [_, _, _, _, _, _, _] _ _
                gi_wp2_with (first | (gi_at_builtin; refine wpListIn_app (enc := encB) rfl (.tmp 61) (.tmp 65) rfl uB infoB encB_one rfl rfl hownq.out hBq.out (some ⟨W0.heap.size, 0, none⟩) 2 2 [255, y] 0 rfl htwo.out rfl m2.out.1 m2.out.2 ?_; intro A6 c6 W6 ho6 hk6'; have hk6 := Kept.trans hkq.out hk6'; have hob6 := Boxed.below' hob hk6.1 (by omega); have q6 := hob6.cell; have z6 := hob6.frozen))
                rw [hs3.out]
                exact HI.out.step hsz (by rw [hcode.out]; exact ho6) hk6
            · have hcode : Hid (codeTo ss bs (k + 1) = codeTo ss bs k ++ p) := by
                show _ = _
                rw [Hnext.out]; unfold codeP; rw [if_neg hmem, if_neg h128]
              have d1 : decide ((128 : Int) ≤ gb p 0) = false := by simpa using h128
              clear hmem hkind hp hpne
              gi_wp2_with (first
                | (gi_at_lookup; refine wpListIn_mapget_none rfl (.tmp 41) (.tmp 43) 168 rfl uS uMB Go.Proofs.YtohadkmaemmfgaaGreatDoor.Dic.u8 (zB _) rfl hmap p hlm.out rfl hf.out ?_)
                | (gi_at_builtin; refine wpListIn_app (enc := encB) rfl (.tmp 47) (.tmp 48) rfl uB infoB encB_one rfl rfl hown hB.out _ pl _ p 0 Hpl.out hpb.2.2 rfl m3.out.1 m3.out.2 ?_; intro A6 c6 W6 ho6 hk6; have hob6 := Boxed.below' hob hk6.1 (by omega); have q6 := hob6.cell; have z6 := hob6.frozen))
              rw [hs3.out]
              exact HI.out.step hsz (by rw [hcode.out]; exact ho6) hk6
  · rw [show ((checkL ss : Nat) : Int) = _ from rfl] at hcal
    have Hcal := Lib.hid hcal; clear hcal
    have hR : Hid ((codeQ ss bs).1 = [] ∧ (codeQ ss bs).2 = checkL ss) := by show _ ∧ _; unfold codeQ codeR; rw [if_neg hc]; rw [if_neg (fun h => hc h.1)]; exact ⟨rfl, rfl⟩
    have d0 : (((checkL ss : Nat) : Int) != 0) = true := by simp; exact hc
    clear hc
    refine calls_of_marks Tryz.func79 rfl ?_
    simp only [Tryz.ntmps79, List.size_toArray, List.length_cons, List.length_nil, Nat.reduceAdd, Nat.reduceSub, Array.replicate_succ, Array.replicate_zero, List.push_toArray, List.append_toArray, List.nil_append, List.cons_append]
    go_wp2_with fail
    refine Hcal.out.mono ?_
    rintro e w1 ⟨rfl, hw1⟩
    obtain rfl : w = w1 := hw1.symm
    go_wp2_with fail
    refine markPost_ret (v := .tuple #[.slice none 0 0, .int .i64 ((checkL ss : Nat) : Int)]) (fun W => by simp [results, Tryz.results79, go_sem]) rfl ?_
    rw [hR.out.1, hR.out.2]
    exact RetBytes.err rfl (Below.refl _ _)
end Go.Proofs.YtohadkmaemmfgaaGreatDoor.Dic
namespace Go.Proofs.YtohadkmaemmfgaaGreatDoor.Dic
open Go.RowKit Go.Proofs
set_option linter.unusedVariables false
def cmpI (x y : Int) : Int := if x < y then -1 else if y < x then 1 else 0
def orI : List Int → Int
  | [] => 0
  | z :: zs => if z = 0 then orI zs else z
theorem compareI_any (x y : Int) (w : World) : Calls Tryz.prog 143 #[.int .i64 x, .int .i64 y] w fun e w' => e = .returned (.int .i64 (cmpI x y)) ∧ w' = w := by
  have n1 : (x != x) = false := by simp
  have n2 : (y != y) = false := by simp
  by_cases h1 : x < y
  · have hf : Hid (cmpI x y = -1) := by show _ = _; unfold cmpI; rw [if_pos h1]
    have d1 : decide (x < y) = true := by simpa using h1
    go_enter Tryz.func143, Tryz.ntmps143
    go_wp2
    go_ret
    exact ⟨ret_int hf.out.symm, rfl⟩
  · have d1 : decide (x < y) = false := by simpa using h1
    by_cases h2 : y < x
    · have hf : Hid (cmpI x y = 1) := by show _ = _; unfold cmpI; rw [if_neg h1, if_pos h2]
      have d2 : decide (y < x) = true := by simpa using h2
      go_enter Tryz.func143, Tryz.ntmps143
      go_wp2
      go_ret
      exact ⟨ret_int hf.out.symm, rfl⟩
    · have hf : Hid (cmpI x y = 0) := by show _ = _; unfold cmpI; rw [if_neg h1, if_neg h2]
      have d2 : decide (y < x) = false := by simpa using h2
      go_enter Tryz.func143, Tryz.ntmps143
      go_wp2
      go_ret
      exact ⟨ret_int hf.out.symm, rfl⟩
theorem orI_zero {zs : List Int} (h : ∀ i, i < zs.length → gi zs i = 0) : orI zs = 0 := by
  induction zs with
  | nil => rfl
  | cons z zs ih =>
    have h0 : z = 0 := by have := h 0 (by simp); simpa [gi] using this
    rw [orI, if_pos h0]
    exact ih fun i hi => by have := h (i + 1) (by simpa using hi); simpa [gi] using this
theorem orI_at {zs : List Int} {k : Nat} (hk : k < zs.length) (h : ∀ i, i < k → gi zs i = 0) (hne : gi zs k ≠ 0) : orI zs = gi zs k := by
  induction zs generalizing k with
  | nil => simp at hk
  | cons z zs ih =>
    cases k with
    | zero => have : z ≠ 0 := by simpa [gi] using hne
              rw [orI, if_neg this]; simp [gi]
    | succ k =>
      have h0 : z = 0 := by have := h 0 (by omega); simpa [gi] using this
      rw [orI, if_pos h0, ih (k := k) (by simpa using hk) (fun i hi => by have := h (i + 1) (by omega); simpa [gi] using this) (by simpa [gi] using hne)]
      simp [gi]
theorem or_any (A : Option Addr) (n c : Nat) (zs : List Int) (w : World) (hx : Ints w A n c zs) (hn : n ≤ 1000000) :
    Calls Tryz.prog 142 #[.slice A n c] w fun e w' => e = .returned (.int .i64 (orI zs)) ∧ w' = w := by
  have Hl := Lib.hid hx.1
  go_enter Tryz.func142, Tryz.ntmps142
  go_wp2
  go_loop [8] (fun i => ∃ k : Nat, k ≤ n ∧ i = .int .i64 k ∧ Hid (∀ i, i < k → gi zs i = 0)) (fun i => n - (intOf i).toNat)
  case atStart => exact ⟨0, by omega, rfl, fun i hi => absurd hi (by omega)⟩
  case round =>
    obtain ⟨k, hk, rfl, HK⟩ := hrel
    by_cases hlt : k < n
    · obtain ⟨b, off, rfl, hb, hcell⟩ := hx.get hlt
      have c1 := hcell k hlt
      clear hcell hx
      by_cases h0 : gi zs k = 0
      · have d0 : (gi zs k != 0) = false := by simp [h0]
        have H0 := Lib.hid h0; clear h0
        go_wp2
        go_round
        case rel => exact ⟨k + 1, by omega, by go_num, fun i hi => by
          rcases Nat.lt_or_ge i k with h | h
          · exact HK.out i h
          · obtain rfl : i = k := by omega
            exact H0.out⟩
        case measure => simp [intOf]; omega
      · have d0 : (gi zs k != 0) = true := by simp [h0]
        have hf := Lib.hid (orI_at (by have := Hl.out; omega) HK.out h0)
        clear h0
        go_wp2
        go_ret
        exact ⟨ret_int hf.out.symm, rfl⟩
    · have hf := Lib.hid (orI_zero (zs := zs) (fun i hi => HK.out i (by have := Hl.out; omega)))
      go_wp2
      go_ret
      exact ⟨ret_int hf.out.symm, rfl⟩
theorem two_ints (w : World) (e : TypeId) (a b : Int) : Ints (w.alloc (.cells #[.int .i64 a, .int .i64 b] e)) (some ⟨w.heap.size, 0, none⟩) 2 2 [a, b] :=
  ⟨rfl, Nat.le_refl _, fun _ => ⟨w.heap.size, 0, rfl, by simp, fun i hi => by
    match i, hi with
    | 0, _ => simp [gi]
    | 1, _ => simp [gi]⟩⟩
def cmpS (x y : List UInt8) : Int := if x < y then -1 else if y < x then 1 else 0
theorem compareS_any (x y : List UInt8) (w : World) : Calls Tryz.prog 144 #[.string (strB x), .string (strB y)] w fun e w' => e = .returned (.int .i64 (cmpS x y)) ∧ w' = w := by
  have n1 : ((strB x).toList == (strB x).toList) = true := by rw [strB_beq]; simp
  have n2 : ((strB y).toList == (strB y).toList) = true := by rw [strB_beq]; simp
  have e1 : Op.bytesLess (strB x).toList (strB y).toList = decide (x < y) := by rw [strB_less, bytesLess_eq]
  have e2 : ((strB x).toList == (strB y).toList) = decide (x = y) := strB_beq x y
  by_cases h1 : x < y
  · have hf : Hid (cmpS x y = -1) := by show _ = _; unfold cmpS; rw [if_pos h1]
    rw [decide_eq_true h1] at e1
    clear e2 h1
    go_enter Tryz.func144, Tryz.ntmps144
    go_wp2
    go_ret
    exact ⟨ret_int hf.out.symm, rfl⟩
  · rw [decide_eq_false h1] at e1
    by_cases h2 : x = y
    · have hf : Hid (cmpS x y = 0) := by show _ = _; unfold cmpS; rw [if_neg h1, if_neg (by rw [h2]; exact List.lt_irrefl _)]
      rw [decide_eq_true h2] at e2
      clear h1 h2
      go_enter Tryz.func144, Tryz.ntmps144
      go_wp2
      go_ret
      exact ⟨ret_int hf.out.symm, rfl⟩
    · have hf : Hid (cmpS x y = 1) := by
        show _ = _
        unfold cmpS
        rw [if_neg h1, if_pos]
        rcases List.le_iff_lt_or_eq.1 (List.not_lt.1 h1) with h | h
        · exact h
        · exact absurd h.symm h2
      rw [decide_eq_false h2] at e2
      clear h1 h2
      go_enter Tryz.func144, Tryz.ntmps144
      go_wp2
      go_ret
      exact ⟨ret_int hf.out.symm, rfl⟩
theorem MapIs.run_get {P : Program} {k e : TypeId} {q : IntKind} {w : World} {b n : Nat} {f : List UInt8 → Option Int} (h : MapIs P k e q w b n f) (t : TypeId) (hk : P.underlying k = some .string) (ht : P.underlying t = some (.map k e)) (he : P.underlying e = some (.int q)) (hz : ∀ w : World, (zeroValue e).run P w = .ok (.int q 0) w) (s : List UInt8) (hs : s.length ≤ maxLen) :
    (Instr.lookup t (.map (some b)) (.string (strB s)) false).run P w = .ok (.int q ((f s).getD 0)) w := by
  obtain ⟨D, h1, h2⟩ := h
  obtain ⟨c, hrun, hat, _⟩ := h1.lookup_int (t := t) (Maps.string_keyed hk) ht he (hz w) (strB_key hk s hs)
  rw [(h2 s).2] at hat
  injection hat with hat
  injection hat with _ hat
  rw [hrun, hat]
theorem uMI : Tryz.prog.underlying 154 = some (.map 9 3) := by kernel_rfl
theorem uInt : Tryz.prog.underlying 3 = some (.int .i64) := by kernel_rfl
theorem zI (w : World) : (zeroValue 3).run Tryz.prog w = .ok (.int .i64 0) w := by kernel_rfl
def gainI (c : List UInt8 → Nat) (s : List UInt8) : Int := gainL (c s) s.length
def delB (c : List UInt8 → Nat) (s : List UInt8) : Bool := !(isWordB s) || decide (gainI c s ≤ 0)
def cmpW (c : List UInt8 → Nat) (x y : List UInt8) : Int := orI [cmpI (gainI c y) (gainI c x), cmpS x y]
def Counts (w : World) (Bm M n : Nat) (c : List UInt8 → Nat) : Prop := ∃ f, w.cell? ⟨Bm, 0, none⟩ = some (.map (some M)) ∧ MapIs Tryz.prog 9 3 .i64 w M n f ∧ (∀ s, (f s).getD 0 = (c s : Int)) ∧ ∀ s, c s ≤ 1000000
theorem learn1_any (s : List UInt8) (hs : s.length ≤ 1000000) (Bm M n : Nat) (c : List UInt8 → Nat) (w : World) (hc : Counts w Bm M n c) :
    Calls Tryz.prog 137 #[.string (strB s), .pointer (some ⟨Bm, 0, none⟩)] w fun e w' => e = .returned (.bool (delB c s)) ∧ w' = w := by
  obtain ⟨f, hb, hm, hf, hle⟩ := hc
  have hlk := hm.run_get 154 uS uMI uInt zI s (by simp [maxLen]; omega)
  rw [hf s] at hlk
  have hcal := allowed_any s w (by omega)
  have hcal2 := gainP_any s (c s) w (by have := hle s; omega) (by omega)
  clear hm hf
  by_cases hw : isWordB s = true
  · have hfin : Hid (decide (gainL (c s) s.length ≤ 0) = delB c s) := by show _ = _; unfold delB gainI; rw [hw]; rfl
    rw [hw] at hcal
    have Hcal := Lib.hid hcal; clear hcal hw
    have Hcal2 := Lib.hid hcal2; clear hcal2
    go_enter Tryz.func137, Tryz.ntmps137
    go_wp2_with (first
      | (go_at_call 138; refine Hcal.out.mono ?_; rintro e w1 ⟨rfl, hw1⟩; obtain rfl : w = w1 := hw1.symm)
      | (go_at_call 139; refine Hcal2.out.mono ?_; rintro e w1 ⟨rfl, hw1⟩; obtain rfl : w = w1 := hw1.symm))
    go_ret
    exact ⟨ret_bool hfin.out, rfl⟩
  · have hw' : isWordB s = false := by simpa using hw
    have hfin : Hid (delB c s = true) := by show _ = _; simp [delB, hw']
    rw [hw'] at hcal
    have Hcal := Lib.hid hcal; clear hcal hw hw' hcal2
    go_enter Tryz.func137, Tryz.ntmps137
    go_wp2_with (first
      | (go_at_call 138; refine Hcal.out.mono ?_; rintro e w1 ⟨rfl, hw1⟩; obtain rfl : w = w1 := hw1.symm))
    go_ret
    exact ⟨ret_bool hfin.out.symm, rfl⟩
theorem learn2_any (x y : List UInt8) (hx : x.length ≤ 1000000) (hy : y.length ≤ 1000000) (Bm M n : Nat) (c : List UInt8 → Nat) (w : World) (hc : Counts w Bm M n c) :
    Calls Tryz.prog 141 #[.string (strB x), .string (strB y), .pointer (some ⟨Bm, 0, none⟩)] w fun e w' => e = .returned (.int .i64 (cmpW c x y)) ∧ ∃ q o, w' = (w.drewN q).alloc o := by
  obtain ⟨f, hb, hm, hf, hle⟩ := hc
  have hlx : ∀ q, (Instr.lookup 154 (.map (some M)) (.string (strB x)) false).run Tryz.prog (w.drewN q) = .ok (.int .i64 (c x : Int)) (w.drewN q) := fun q => by
    have := MapIs.run_get (w := w.drewN q) (hm.same rfl) 154 uS uMI uInt zI x (by simp [maxLen]; omega)
    rwa [hf x] at this
  have hly : ∀ q, (Instr.lookup 154 (.map (some M)) (.string (strB y)) false).run Tryz.prog (w.drewN q) = .ok (.int .i64 (c y : Int)) (w.drewN q) := fun q => by
    have := MapIs.run_get (w := w.drewN q) (hm.same rfl) 154 uS uMI uInt zI y (by simp [maxLen]; omega)
    rwa [hf y] at this
  have Hcx : Hid (∀ q, Calls Tryz.prog 139 #[.string (strB x), .int .i64 (c x : Int)] (w.drewN q) fun e w' => e = .returned (.int .i64 (gainI c x)) ∧ w' = w.drewN q) := fun q => gainP_any x (c x) _ (by have := hle x; omega) (by omega)
  have Hcy : Hid (∀ q, Calls Tryz.prog 139 #[.string (strB y), .int .i64 (c y : Int)] (w.drewN q) fun e w' => e = .returned (.int .i64 (gainI c y)) ∧ w' = w.drewN q) := fun q => gainP_any y (c y) _ (by have := hle y; omega) (by omega)
  clear hm hf
  go_enter Tryz.func141, Tryz.ntmps141
  go_wp2_with fail
  refine wp_region_quiet_tail 14 (by kernel_rfl) (by kernel_rfl) ?_
  simp only [List.take_succ_cons, List.take_zero, List.drop_succ_cons, List.drop_zero]
  repeat (go_big_quiet_step (first
    | (go_at_call 143; exact Calls.quiet_of_same (compareI_any _ _ _))
    | (go_at_call 144; exact Calls.quiet_of_same (compareS_any _ _ _))
    | (go_at_call_of 139 (Value.string (strB x)); exact Calls.quiet_of_same (Hcx.out _))
    | (go_at_call_of 139 (Value.string (strB y)); exact Calls.quiet_of_same (Hcy.out _))))
  refine wpQuiet_nil ?_
  intro _ hw'
  obtain ⟨nq, hw''⟩ := hw'
  subst hw''
  go_wp2_with fail
  refine (or_any _ 2 2 _ _ (two_ints (w.drewN nq) _ _ _) (by omega)).mono ?_
  rintro e w' ⟨rfl, rfl⟩
  go_wp2
  go_ret
  exact ⟨rfl, nq, _, rfl⟩
end Go.Proofs.YtohadkmaemmfgaaGreatDoor.Dic
