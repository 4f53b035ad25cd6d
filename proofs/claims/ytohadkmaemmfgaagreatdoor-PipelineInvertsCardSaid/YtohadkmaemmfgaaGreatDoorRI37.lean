/- Oc Od. -/
import Derived.Test.YtohadkmaemmfgaaGreatDoorRI22
import Derived.Lib.AppendZeros
import Derived.Lib.AppendZerosOnto
import Derived.Lib.AppendStr
set_option maxRecDepth 100000
set_option maxHeartbeats 4000000
namespace Go.Proofs.YtohadkmaemmfgaaGreatDoor
open Go.RowKit Go.Proofs
set_option linter.unusedVariables false
set_option linter.unusedSimpArgs false
theorem zeros_toList (k : Nat) : (Builtin.zeroCells (Value.int .u8 0).cells k).toList = List.replicate k (.int .u8 0) := by
  have e : (Value.int .u8 0).cells = #[.int .u8 0] := rfl
  rw [e]
  apply List.ext_getElem
  · simp [Builtin.zeroCells]
  · intro i h1 h2
    simp [Builtin.zeroCells, Nat.mod_one]
theorem map_zeros (k : Nat) : (List.replicate k (0 : UInt8)).map encB = List.replicate k (.int .u8 0) := by rw [List.map_replicate]; rfl
theorem run_append_zerosB {P : Program} {w : World} {B : Nat} {t tn e : TypeId} (ty : TypeId) {A : Option Addr} {n c : Nat} {xs : List UInt8} (ht : P.underlying t = some (.slice e)) (htn : P.underlying tn = some (.int .i64))
    (hi : (P.info? e).map (fun i => (i.zero, i.size, i.bytes)) = some (some (.int .u8 0), 1, 1)) (hown : Own encB w B e A n c xs) (hB : B ≤ w.heap.size) (k : Nat) (h63 : n + k ≤ 1000000000) :
    ∃ A2 c2 w', (Builtin.append_ #[t, tn] ty #[.slice A n c, .int .i64 (k : Int)]).run P w = .ok (.slice A2 (n + k) c2) w' ∧ Own encB w' B e A2 (n + k) c2 (xs ++ List.replicate k 0) ∧ Below B w w' ∧ w.grownBy w' (Value.slice A n c).ownBlock := by
  obtain ⟨i, hi0, hz0, hs, hb⟩ := info_parts hi
  have hmax : n + k ≤ maxLen := by unfold maxLen; omega
  have hwr : IntKind.i64.wrap (k : Int) = k := by rw [IntKind.wrap_i64]; omega
  have hw0 : IntKind.i64.wrap 0 = 0 := by decide
  have hneg : ¬ ((k : Int) < 0) := by omega
  have h48i : ¬ (281474976710656 < (k : Int)) := by omega
  have key : ∃ v' w', (Builtin.append_ #[t, tn] ty #[.slice A n c, .int .i64 (k : Int)]).run P w = .ok v' w' ∧ w'.ownsRow B e 1 v' (n + k) (xs.map encB ++ (List.replicate k (0 : UInt8)).map encB) ∧ w.grownBy w' (Value.slice A n c).ownBlock := by
    rw [map_zeros]
    have hxl : (xs.map encB).length = n := by have := hown.1; simpa using this
    have hlen : (xs.map encB ++ List.replicate k (Value.int .u8 0)).length = (n + k) * 1 := by rw [List.length_append, hxl, List.length_replicate, Nat.mul_one]
    have grown : ∀ (old : Nat), old < n + k → ∀ (row : Option Nat),
        (w.drew.alloc (.cells ((xs.map encB).toArray ++ Builtin.zeroCells (Value.int .u8 0).cells k ++ Builtin.zeroCells (Value.int .u8 0).cells (grownCap w (n + k) old e - (n + k))) e)).ownsRow B e 1
          (.slice (some ⟨w.heap.size, 0, none⟩) (n + k) (grownCap w (n + k) old e)) (n + k) (xs.map encB ++ List.replicate k (.int .u8 0)) ∧
        w.grownBy (w.drew.alloc (.cells ((xs.map encB).toArray ++ Builtin.zeroCells (Value.int .u8 0).cells k ++ Builtin.zeroCells (Value.int .u8 0).cells (grownCap w (n + k) old e - (n + k))) e)) row := by
      intro old ho row
      have hge := grownCap_ge w (n + k) old e
      have hcm : grownCap w (n + k) old e ≤ maxLen := grownCap_le_maxLen w (n + k) old e hmax
      refine ⟨⟨hlen, .inr ⟨w.heap.size, _, _, rfl, hB, heap_alloc_new w.drew _, hge, hcm, ?_, ?_⟩⟩, ⟨rfl, rfl, rfl, by simp, fun j hj _ => Below.heap_alloc w.drew _ j hj⟩⟩
      · have hz1 : (Value.int IntKind.u8 0).cells.size = 1 := rfl
        simp only [Array.size_append, List.size_toArray, size_zeroCells, hz1, hxl]
        omega
      · simp only [Array.toList_append, List.append_assoc, zeros_toList]
        rw [← List.append_assoc, ← hlen]
        exact List.take_left
    rcases hown.2 with ⟨hv, hn0⟩ | ⟨g, cap, cur, hv, hbg, hg, hnc, hcm, hcs, htake⟩
    · injection hv with h1 h2 h3
      subst h1; subst h2; subst h3
      have hx : xs.map encB = [] := List.eq_nil_of_length_eq_zero hxl
      rw [hx]
      by_cases hk : k = 0
      · subst hk
        refine ⟨.slice none 0 0, w, ?_, World.ownsRow_nil w B e 1, ⟨rfl, rfl, rfl, Nat.le_refl _, fun _ _ _ => rfl⟩⟩
        simp [Builtin.append_, run_underlying ht, run_underlying htn, sizeOf, typeInfo, hi0, asInt, asIntOf, hs, hw0]
      · have hr := Lib.run_append_nil_zeros (P := P) w t tn ty e i (.int .u8 0) .i64 .i64 ht htn hi0 hz0 k (by omega) (by omega) (by omega) (by rw [hb]; omega)
        have hgr := grown 0 (by omega) (Value.ownBlock (.slice none 0 0))
        rw [hx] at hgr
        simp only [Nat.zero_add, List.nil_append, Array.empty_append] at hgr ⊢
        exact ⟨_, _, hr, hgr.1, hgr.2⟩
    · injection hv with h1 h2 h3
      subst h1; subst h3
      by_cases hroom : n + k ≤ c
      · have hcs' : cur.size = c := by simpa using hcs
        have hst := run_storeCells_at P g n e (List.replicate k (.int .u8 0)) 0 cur w hg (by rw [List.length_replicate]; omega) (fun u hu => by rw [List.eq_of_mem_replicate hu]; rfl)
        simp only [Nat.add_zero, List.length_replicate] at hst
        have hr : (Builtin.append_ #[t, tn] ty #[.slice (some ⟨g, 0, none⟩) n c, .int .i64 (k : Int)]).run P w = .ok (.slice (some ⟨g, 0, none⟩) (n + k) c) (w.setRow g (cur.toList.take n ++ List.replicate k (Value.int .u8 0) ++ cur.toList.drop (n + k)).toArray) := by
          by_cases hk : k = 0
          · subst hk
            simp only [List.replicate_zero] at hst
            simp [Builtin.append_, run_underlying ht, run_underlying htn, sizeOf, typeInfo, hi0, asInt, asIntOf, hs, hw0, hnc, Addr.add_lit, hst]
          · have hns : ¬ (k * 1 = 0) := by omega
            simp [Builtin.append_, run_underlying ht, run_underlying htn, sizeOf, typeInfo, zeroValue, hi0, hz0, asInt, asIntOf, hwr, hneg, hs, hb, h48i, hk, hroom, Addr.add_lit, hst, zeros_toList]
        refine ⟨_, _, hr, ⟨hlen, .inr ⟨g, c, _, rfl, hbg, setRow_heap w g cur _ e _ hg, hroom, hcm, ?_, ?_⟩⟩, ⟨rfl, rfl, rfl, by simp, fun j _ hj => setRow_other w g j _ (fun e => hj (by simp [Value.ownBlock, e]))⟩⟩
        · simp only [List.size_toArray, List.length_append, List.length_take, List.length_drop, Array.length_toList, List.length_replicate]
          omega
        · have ht' : cur.toList.take n = xs.map encB := by simpa using htake
          rw [ht', ← hlen]
          exact List.take_left
      · have holds : ∀ j u, (xs.map encB)[j]? = some u → w.cell? ((⟨g, 0, none⟩ : Addr).add j) = some u := World.ownsRow.cells (g := g) hown rfl
        have hk0 : 0 < k := by omega
        have hf := run_firstCells_some (P := P) (w := w.drew) i.size n ⟨g, 0, none⟩ n c (xs.map encB) (by rw [hs]; omega) holds
        have hr := Lib.run_append_grow_zeros (P := P) w t tn ty e i (.int .u8 0) .i64 .i64 ht htn hi0 hz0 (some ⟨g, 0, none⟩) n c (xs.map encB) hf k hk0 (by omega) (by omega) (by omega) (by rw [hb]; omega) (by rw [hb]; exact growslice_fits (by omega) (by omega))
        have hgr := grown c (by omega) (Value.ownBlock (.slice (some ⟨g, 0, none⟩) n c))
        exact ⟨_, _, hr, hgr.1, hgr.2⟩
  obtain ⟨v', w', hrun, h2, h3⟩ := key
  have hform : ∃ A2 c2, v' = .slice A2 (n + k) c2 := by
    rcases h2.2 with ⟨rfl, h0⟩ | ⟨g, cap, cur, rfl, _⟩
    · exact ⟨none, 0, by rw [h0]⟩
    · exact ⟨_, _, rfl⟩
  obtain ⟨A2, c2, rfl⟩ := hform
  refine ⟨A2, c2, w', hrun, ?_, (Below.refl B w).grown h3 hB (fun k hk => (World.ownsRow.lt hown k hk).1), h3⟩
  unfold Own
  rw [List.map_append]
  exact h2
def ExD (bs : List UInt8) (k : Nat) (xs : List UInt8) : Prop := expR bs 0 0 = (expR bs k xs.length).map fun r => xs ++ r
theorem ExD.start (bs : List UInt8) : ExD bs 0 [] := by
  unfold ExD
  rw [List.length_nil]
  cases expR bs 0 0 <;> rfl
theorem map_map' {α β : Type} {x : Except Int α} {f : α → β} {g : β → β} : (x.map f).map g = x.map fun r => g (f r) := by cases x <;> rfl
theorem ExD.next {bs : List UInt8} {k : Nat} {xs : List UInt8} (h : ExD bs k xs) {k' : Nat} {ys : List UInt8} (he : expR bs k xs.length = (expR bs k' (xs ++ ys).length).map fun r => ys ++ r) : ExD bs k' (xs ++ ys) := by
  unfold ExD at h ⊢
  rw [h, he, map_map']
  congr 1
  funext r
  rw [List.append_assoc]
theorem ExD.err {bs : List UInt8} {k : Nat} {xs : List UInt8} (h : ExD bs k xs) {e : Int} (he : expR bs k xs.length = .error e) (hl : ¬ 65536 < bs.length) : expandP bs = ([], e) := by
  unfold ExD at h
  unfold expandP
  rw [if_neg hl, h, he]
  rfl
theorem ExD.done {bs : List UInt8} {k : Nat} {xs : List UInt8} (h : ExD bs k xs) (he : bs.length ≤ k) (hl : ¬ 65536 < bs.length) : expandP bs = (xs, 0) := by
  unfold ExD at h
  unfold expandP
  rw [if_neg hl, h, expR_end he]
  show (xs ++ [], 0) = _
  rw [List.append_nil]
theorem u8_one {b : UInt8} (h : ¬ b.toNat < 2) : (b - 1).toNat = b.toNat - 1 := by
  have := b.toNat_lt
  rw [UInt8.toNat_sub]
  show (2 ^ 8 - 1 + b.toNat) % 2 ^ 8 = _
  omega
theorem u8_esc {b : UInt8} (h : ¬ 1 < b.toNat) : (254 + b).toNat = 254 + b.toNat := by
  rw [UInt8.toNat_add]
  show (254 + b.toNat) % 2 ^ 8 = _
  omega
theorem uInt' : Tryz.prog.underlying 3 = some (.int .i64) := Tryz.underlying3
theorem expand_any (A : Option Addr) (n c : Nat) (bs : List UInt8) (w : World) (hx : Bytes w A n c bs) (hn : n ≤ 1000000) :
    Calls Tryz.prog 44 #[.slice A n c] w (RetBytes w (expandP bs).1 (expandP bs).2) := by
  have Hn := Lib.hid hx.1
  have HX := Lib.hid hx
  have hsh := Lib.hid (fun A n c W => shortR_any A n c W)
  clear hx
  by_cases h6 : 65536 < n
  · have hs1 := hsh.out A n c w
    rw [if_pos h6] at hs1
    have HE : Hid (expandP bs = ([], 5)) := by unfold Hid expandP; rw [Hn.out, if_pos h6]
    clear h6
    go_enter Tryz.func44, Tryz.ntmps44
    go_wp2_with fail
    refine hs1.mono ?_
    rintro e w1 ⟨rfl, hw⟩
    obtain rfl : w = w1 := hw.symm
    go_wp2_with fail
    go_ret2
    rw [HE.out]
    exact RetBytes.err rfl (Below.refl _ _)
  · have hs1 := hsh.out A n c w
    rw [if_neg h6] at hs1
    have HE : Hid (¬ 65536 < bs.length) := by unfold Hid; rw [Hn.out]; exact h6
    have hn6 : n ≤ 65536 := by omega
    clear h6
    go_enter Tryz.func44, Tryz.ntmps44
    go_wp2_with fail
    refine hs1.mono ?_
    rintro e w1 ⟨rfl, hw⟩
    obtain rfl : w = w1 := hw.symm
    clear hs1
    go_wp2_with fail
    go_loopw [5, 6, 7, 8, 9] (fun vo vi _ _ _ wr => ∃ (k m c2 : Nat) (A2 : Option Addr) (xs : List UInt8), k ≤ n ∧ m ≤ 65536 ∧ vi = .int .i64 (k : Int) ∧ vo = .slice A2 m c2 ∧ Hid (Own encB wr w.heap.size 5 A2 m c2 xs ∧ ExD bs k xs ∧ Below w.heap.size w wr)) (fun _ vi _ _ _ _ => n - (intOf vi).toNat)
    case atStart => exact ⟨0, 0, 0, none, [], Nat.zero_le _, Nat.zero_le _, rfl, rfl, Lib.hid ⟨Own.nil _ _ _ _, ExD.start bs, Below.refl _ _⟩⟩
    case round =>
      obtain ⟨k, m, c2, A2, xs, hk, hm, rfl, rfl, HI⟩ := hrel
      have hml := Lib.hid HI.out.1.length
      by_cases hlt : k < n
      · have d0 : decide ((k : Int) < (n : Int)) = true := decide_eq_true (by omega)
        have d0' : decide (k < n) = true := decide_eq_true hlt
        have hx1 := HX.out.below HI.out.2.2
        obtain ⟨b1, o1, hA, hb1, hc⟩ := hx1.2.2 (by omega)
        have hcap := HX.out.2.1
        have HX1 := Lib.hid hx1
        obtain ⟨yb, hyb⟩ : ∃ y, y = bA bs k := ⟨_, rfl⟩
        have c1 : wr.cell? ⟨b1, o1 + k, none⟩ = some (.int .u8 (yb.toNat : Int)) := by rw [hyb]; exact hc k hlt
        have hkl : k < bs.length := by rw [Hn.out]; exact hlt
        have HKL := Lib.hid hkl
        have hylt := yb.toNat_lt
        clear hkl hx1
        by_cases hd : yb.toNat < 2
        · have d1 : decide ((yb.toNat : Int) ≤ 1) = true := decide_eq_true (by omega)
          have d1' : decide (yb.toNat ≤ 1) = true := decide_eq_true (by omega)
          obtain ⟨A3, hcut, hb3⟩ := HX1.out.cut_l tB eB sB (k : Int) (by omega) (by omega)
          rw [Int.toNat_natCast] at hcut hb3
          have HNUM := Lib.hid (numberB_any A3 (n - k) (c - k) (bs.drop k) wr hb3 (by omega))
          have he := expR_dig (bs := bs) (i := k) (m := xs.length) HKL.out (by rw [← hyb]; exact hd)
          have hdg1 : 1 ≤ dgs (bs.drop k) := by
            have : bs.drop k = bA bs k :: bs.drop (k + 1) := by
              rw [List.drop_eq_getElem_cons HKL.out]; congr 1; unfold bA; rw [List.getD_eq_getElem?_getD, List.getElem?_eq_getElem HKL.out]; rfl
            rw [this, dgs, ← hyb, if_pos hd]; omega
          have hdg2 : dgs (bs.drop k) ≤ n - k := by have := dgs_le (bs.drop k); rwa [List.length_drop, Hn.out] at this
          have hv : nmB (bs.drop k) (dgs (bs.drop k)) = min (valR ((bs.drop k).take (dgs (bs.drop k)))) 65537 := rfl
          obtain ⟨dg, hdg⟩ : ∃ d, d = dgs (bs.drop k) := ⟨_, rfl⟩
          rw [← hdg] at HNUM he hdg1 hdg2 hv
          obtain ⟨vr, hvr⟩ : ∃ d, d = valR ((bs.drop k).take dg) := ⟨_, rfl⟩
          rw [← hvr] at he hv
          obtain ⟨nv, hnv⟩ : ∃ d, d = nmB (bs.drop k) dg := ⟨_, rfl⟩
          rw [← hnv] at HNUM hv
          rw [hml.out] at he
          clear hdg hvr hnv hb3 hyb hd hc hb1
          subst hA
          by_cases hbig : 65536 < m + vr
          · rw [if_pos hbig] at he
            have HF := Lib.hid (HI.out.2.1.err (by rw [hml.out]; exact he) HE.out)
            have d2 : decide ((65536 : Int) < (m : Int) + (nv : Int)) = true := decide_eq_true (by omega)
            have d2' : decide (65536 < m + nv) = true := decide_eq_true (by omega)
            have hnv7 : nv ≤ 65537 := by omega
            clear he hbig hv
            go_wp2_with fail
            refine HNUM.out.mono ?_
            rintro e w2 ⟨rfl, hw⟩
            obtain rfl : wr = w2 := hw.symm
            go_wp2_with fail
            go_ret2
            rw [HF.out]
            exact RetBytes.err rfl HI.out.2.2
          · rw [if_neg hbig] at he
            obtain rfl : nv = vr := by omega
            have d2 : decide ((65536 : Int) < (m : Int) + (nv : Int)) = false := decide_eq_false (by omega)
            have d2' : decide (65536 < m + nv) = false := decide_eq_false (by omega)
            rw [show max 1 dg = dg by omega] at he
            have HF := Lib.hid (HI.out.2.1.next (k' := k + dg) (ys := List.replicate nv 0) (by rw [List.length_append, List.length_replicate, hml.out]; exact he))
            have hnv6 : m + nv ≤ 65536 := by omega
            have HM6 := Lib.hid hnv6
            clear he hbig hv
            go_wp2_with fail
            refine HNUM.out.mono ?_
            rintro e w2 ⟨rfl, hw⟩
            obtain rfl : wr = w2 := hw.symm
            obtain ⟨A4, c4, w4, hrun, ho4, hb4, hg4⟩ := run_append_zerosB (P := Tryz.prog) (t := 23) (tn := 3) 23 uB uInt' infoB HI.out.1 HI.out.2.2.size nv (by omega)
            have HO4 := Lib.hid (And.intro ho4 (HI.out.2.2.trans hb4))
            have HRUN := Lib.hid hrun
            clear hrun ho4 hb4 hg4
            go_wp2_with (at_builtin; refine Lib.wpList_append_run _ rfl (.tmp 48) (.tmp 49) 23 3 rfl _ _ rfl rfl _ _ HRUN.out ?_)
            go_roundw
            case rel => exact ⟨k + dg, m + nv, c4, A4, _, by omega, HM6.out, by go_num, rfl, Lib.hid ⟨HO4.out.1, HF.out, HO4.out.2⟩⟩
            case measure => (simp [intOf]) <;> omega
        · have d1 : decide ((yb.toNat : Int) ≤ 1) = false := decide_eq_false (by omega)
          have d1' : decide (yb.toNat ≤ 1) = false := decide_eq_false (by omega)
          clear hc hb1
          subst hA
          have m1 : Hid (m + 1 ≤ maxLen ∧ (m + 1) * 1 ≤ 140737488355328) := ⟨by simp [maxLen]; omega, by omega⟩
          by_cases h255 : yb.toNat < 255
          · have d2 : decide ((yb.toNat : Int) < 255) = true := decide_eq_true (by omega)
            have d2' : decide (yb.toNat < 255) = true := decide_eq_true (by omega)
            have he := expR_byte (bs := bs) (i := k) (m := xs.length) HKL.out (by rw [← hyb]; exact hd) (by rw [← hyb]; exact h255)
            rw [← hyb, hml.out] at he
            have hv : Hid (encB (yb - 1) = .int .u8 ((yb.toNat : Int) - 1)) := by
              show Value.int .u8 (((yb - 1).toNat : Nat) : Int) = _
              rw [u8_one hd, Int.ofNat_sub (by omega)]; rfl
            obtain ⟨y1, hy1⟩ : ∃ y, y = yb - 1 := ⟨_, rfl⟩
            rw [← hy1] at he hv
            have hy2 : 2 ≤ yb.toNat := by omega
            clear hyb hy1 hd h255
            by_cases hbig : 65536 < m + 1
            · rw [if_pos hbig] at he
              have HF := Lib.hid (HI.out.2.1.err (by rw [hml.out]; exact he) HE.out)
              have hs2 := Lib.hid (fun A c W => hsh.out A (m + 1) c W)
              rw [if_pos hbig] at hs2
              clear he hbig
              go_wp2_with (at_builtin; refine wpList_pushv (enc := encB) rfl (.tmp 60) (.tmp 66) rfl uB infoB encB_one rfl rfl HI.out.1 HI.out.2.2.size y1 _ hv.out rfl m1.out.1 m1.out.2 ?_; intro A7 c7 w7 ho7 hb7; have HB7 := Lib.hid (HI.out.2.2.trans hb7); clear ho7 hb7)
              refine (hs2.out A7 c7 w7).mono ?_
              rintro e w8 ⟨rfl, hw⟩
              obtain rfl : w7 = w8 := hw.symm
              go_wp2_with fail
              go_ret2
              rw [HF.out]
              exact RetBytes.err rfl HB7.out
            · rw [if_neg hbig] at he
              have HF := Lib.hid (HI.out.2.1.next (k' := k + 1) (ys := [y1]) (by rw [List.length_append, hml.out]; exact he))
              have hs2 := Lib.hid (fun A c W => hsh.out A (m + 1) c W)
              rw [if_neg hbig] at hs2
              have hmm : m + 1 ≤ 65536 := by omega
              have HMM := Lib.hid hmm
              clear he hbig
              go_wp2_with (at_builtin; refine wpList_pushv (enc := encB) rfl (.tmp 60) (.tmp 66) rfl uB infoB encB_one rfl rfl HI.out.1 HI.out.2.2.size y1 _ hv.out rfl m1.out.1 m1.out.2 ?_; intro A7 c7 w7 ho7 hb7; have HO7 := Lib.hid (And.intro ho7 (HI.out.2.2.trans hb7)); clear ho7 hb7)
              refine (hs2.out A7 c7 w7).mono ?_
              rintro e w8 ⟨rfl, hw⟩
              obtain rfl : w7 = w8 := hw.symm
              go_wp2_with fail
              go_roundw
              case rel => exact ⟨k + 1, m + 1, c7, A7, _, by omega, HMM.out, by go_num, rfl, Lib.hid ⟨HO7.out.1, HF.out, HO7.out.2⟩⟩
              case measure => (simp [intOf]) <;> omega
          · have d2 : decide ((yb.toNat : Int) < 255) = false := decide_eq_false (by omega)
            have d2' : decide (yb.toNat < 255) = false := decide_eq_false (by omega)
            rw [hyb] at h255
            have hy5 : yb.toNat = 255 := by rw [← hyb] at h255; omega
            by_cases hend : k + 1 = n
            · have he := expR_torn (bs := bs) (i := k) (m := xs.length) (by rw [Hn.out]; exact hend) h255
              have HF := Lib.hid (HI.out.2.1.err he HE.out)
              have d3 : ((k : Int) + 1 == (n : Int)) = true := by rw [beq_iff_eq]; omega
              clear he h255 hd hyb hend
              go_wp2_with fail
              go_ret2
              rw [HF.out]
              exact RetBytes.err rfl HI.out.2.2
            · have d3 : ((k : Int) + 1 == (n : Int)) = false := by rw [beq_eq_false_iff_ne]; omega
              have hk1 : k + 1 < n := by omega
              obtain ⟨b2, o2, hA2, -, hc2⟩ := HX1.out.2.2 (by omega)
              have c2' : wr.cell? ⟨b1, o1 + (k + 1), none⟩ = some (.int .u8 ((bA bs (k + 1)).toNat : Int)) := by
                injection hA2 with e
                injection e with e1 e2
                subst e1; subst e2
                exact hc2 (k + 1) hk1
              clear hA2 hc2
              obtain ⟨zb, hzb⟩ : ∃ y, y = bA bs (k + 1) := ⟨_, rfl⟩
              rw [← hzb] at c2'
              have hzlt := zb.toNat_lt
              by_cases hz : 1 < zb.toNat
              · have he := expR_form (bs := bs) (i := k) (m := xs.length) (by rw [Hn.out]; omega) h255 (by rw [← hzb]; exact hz)
                have HF := Lib.hid (HI.out.2.1.err he HE.out)
                have d4 : decide ((1 : Int) < (zb.toNat : Int)) = true := decide_eq_true (by omega)
                have d4' : decide (1 < zb.toNat) = true := decide_eq_true hz
                clear he h255 hd hyb hend hzb hz
                go_wp2_with fail
                go_ret2
                rw [HF.out]
                exact RetBytes.err rfl HI.out.2.2
              · have d4 : decide ((1 : Int) < (zb.toNat : Int)) = false := decide_eq_false (by omega)
                have d4' : decide (1 < zb.toNat) = false := decide_eq_false hz
                have he := expR_esc (bs := bs) (i := k) (m := xs.length) (by rw [Hn.out]; omega) h255 (by rw [← hzb]; exact hz)
                rw [← hzb, hml.out] at he
                have hv : Hid (encB (254 + zb) = .int .u8 (254 + (zb.toNat : Int))) := by
                  show Value.int .u8 (((254 + zb).toNat : Nat) : Int) = _
                  rw [u8_esc hz]; rfl
                obtain ⟨y1, hy1⟩ : ∃ y, y = 254 + zb := ⟨_, rfl⟩
                rw [← hy1] at he hv
                have hz2 : zb.toNat ≤ 1 := by omega
                clear hyb hy1 hd h255 hzb hz hend
                by_cases hbig : 65536 < m + 1
                · rw [if_pos hbig] at he
                  have HF := Lib.hid (HI.out.2.1.err (by rw [hml.out]; exact he) HE.out)
                  have hs2 := Lib.hid (fun A c W => hsh.out A (m + 1) c W)
                  rw [if_pos hbig] at hs2
                  clear he hbig
                  go_wp2_with (at_builtin; refine wpList_pushv (enc := encB) rfl (.tmp 19) (.tmp 26) rfl uB infoB encB_one rfl rfl HI.out.1 HI.out.2.2.size y1 _ hv.out rfl m1.out.1 m1.out.2 ?_; intro A7 c7 w7 ho7 hb7; have HB7 := Lib.hid (HI.out.2.2.trans hb7); clear ho7 hb7)
                  refine (hs2.out A7 c7 w7).mono ?_
                  rintro e w8 ⟨rfl, hw⟩
                  obtain rfl : w7 = w8 := hw.symm
                  go_wp2_with fail
                  go_ret2
                  rw [HF.out]
                  exact RetBytes.err rfl HB7.out
                · rw [if_neg hbig] at he
                  have HF := Lib.hid (HI.out.2.1.next (k' := k + 2) (ys := [y1]) (by rw [List.length_append, hml.out]; exact he))
                  have hs2 := Lib.hid (fun A c W => hsh.out A (m + 1) c W)
                  rw [if_neg hbig] at hs2
                  have hmm : m + 1 ≤ 65536 := by omega
                  have HMM := Lib.hid hmm
                  clear he hbig
                  go_wp2_with (at_builtin; refine wpList_pushv (enc := encB) rfl (.tmp 19) (.tmp 26) rfl uB infoB encB_one rfl rfl HI.out.1 HI.out.2.2.size y1 _ hv.out rfl m1.out.1 m1.out.2 ?_; intro A7 c7 w7 ho7 hb7; have HO7 := Lib.hid (And.intro ho7 (HI.out.2.2.trans hb7)); clear ho7 hb7)
                  refine (hs2.out A7 c7 w7).mono ?_
                  rintro e w8 ⟨rfl, hw⟩
                  obtain rfl : w7 = w8 := hw.symm
                  go_wp2_with fail
                  go_roundw
                  case rel => exact ⟨k + 2, m + 1, c7, A7, _, by omega, HMM.out, by go_num, rfl, Lib.hid ⟨HO7.out.1, HF.out, HO7.out.2⟩⟩
                  case measure => (simp [intOf]) <;> omega
      · obtain rfl : k = n := by omega
        have d0 : decide ((k : Int) < (k : Int)) = false := decide_eq_false (by omega)
        have d0' : decide (k < k) = false := decide_eq_false (by omega)
        have HF := Lib.hid (HI.out.2.1.done (Nat.le_of_eq Hn.out) HE.out)
        go_wp2_with fail
        go_ret2
        rw [HF.out]
        exact RetBytes.mk rfl (Own.bytesB (B := w.heap.size) (e := 5) HI.out.1) HI.out.2.2
end Go.Proofs.YtohadkmaemmfgaaGreatDoor
