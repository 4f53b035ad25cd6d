/- Wg Wh Ws. -/
import Derived.Test.YtohadkmaemmfgaaGreatDoorRA32
import Derived.Test.YtohadkmaemmfgaaGreatDoorRA14
import Derived.Test.YtohadkmaemmfgaaGreatDoorRA01
import Derived.Test.YtohadkmaemmfgaaGreatDoorRA12
import Derived.Test.YtohadkmaemmfgaaGreatDoorRA00
import Derived.Test.YtohadkmaemmfgaaGreatDoorRA06
import Derived.Deep.DeepCutAuto
import Derived.Laws.EntriesVeiled
import Derived.ChangeAlike
set_option maxRecDepth 100000
set_option maxHeartbeats 4000000
namespace Go.Proofs.YtohadkmaemmfgaaGreatDoor.Bwt
open Go.RowKit Go.Proofs
set_option linter.unusedVariables false
theorem compareI_any (x y : Int) (w : World) : Calls Tryz.prog 143 #[.int .i64 x, .int .i64 y] w fun e w' => e = .returned (.int .i64 (cmpI x y)) ∧ w' = w := by
  apply Dic.compareI_any <;> assumption
theorem orI_zero {zs : List Int} (h : ∀ i, i < zs.length → gi zs i = 0) : orI zs = 0 := by
  induction zs with
  | nil => rfl
  | cons z zs ih =>
    have h0 : z = 0 := by have := h 0 (by simp); simpa [gi] using this
    rw [orI, if_pos h0]
    exact ih fun i hi => by have := h (i + 1) (by simpa using hi); simpa [gi] using this
theorem orI_at {zs : List Int} {k : Nat} (hk : k < zs.length) (h : ∀ i, i < k → gi zs i = 0) (hne : gi zs k ≠ 0) : orI zs = gi zs k := by
  induction zs generalizing k with
  | nil => simp at hk
  | cons z zs ih =>
    cases k with
    | zero => have : z ≠ 0 := by simpa [gi] using hne
              rw [orI, if_neg this]; simp [gi]
    | succ k =>
      have h0 : z = 0 := by have := h 0 (by omega); simpa [gi] using this
      rw [orI, if_pos h0, ih (k := k) (by simpa using hk) (fun i hi => by have := h (i + 1) (by omega); simpa [gi] using this) (by simpa [gi] using hne)]
      simp [gi]
theorem or_any (A : Option Addr) (n c : Nat) (zs : List Int) (w : World) (hx : Ints w A n c zs) (hn : n ≤ 1000000) :
    Calls Tryz.prog 142 #[.slice A n c] w fun e w' => e = .returned (.int .i64 (orI zs)) ∧ w' = w := by
  have Hl := Lib.hid hx.1
  go_enter Tryz.func142, Tryz.ntmps142
  go_wp2
  go_loop [8] (fun i => ∃ k : Nat, k ≤ n ∧ i = .int .i64 k ∧ Hid (∀ i, i < k → gi zs i = 0)) (fun i => n - (intOf i).toNat)
  case atStart => exact ⟨0, by omega, rfl, fun i hi => absurd hi (by omega)⟩
  case round =>
    obtain ⟨k, hk, rfl, HK⟩ := hrel
    by_cases hlt : k < n
    · obtain ⟨b, off, rfl, hb, hcell⟩ := hx.get hlt
      have c1 := hcell k hlt
      clear hcell hx
      by_cases h0 : gi zs k = 0
      · have d0 : (gi zs k != 0) = false := by simp [h0]
        have H0 := Lib.hid h0; clear h0
        go_wp2
        go_round
        case rel => exact ⟨k + 1, by omega, by go_num, fun i hi => by
          rcases Nat.lt_or_ge i k with h | h
          · exact HK.out i h
          · obtain rfl : i = k := by omega
            exact H0.out⟩
        case measure => simp [intOf]; omega
      · have d0 : (gi zs k != 0) = true := by simp [h0]
        have hf := Lib.hid (orI_at (by have := Hl.out; omega) HK.out h0)
        clear h0
        go_wp2
        go_ret
        exact ⟨ret_int hf.out.symm, rfl⟩
    · have hf := Lib.hid (orI_zero (zs := zs) (fun i hi => HK.out i (by have := Hl.out; omega)))
      go_wp2
      go_ret
      exact ⟨ret_int hf.out.symm, rfl⟩
theorem rest_any (L N R : Nat) (A : Option Addr) (c n len : Nat) (rk : List Int) (x : Int) (w : World) (hL : w.cell? ⟨L, 0, none⟩ = some (.int .i64 (len : Int))) (hN : w.cell? ⟨N, 0, none⟩ = some (.int .i64 (n : Int)))
    (hR : w.cell? ⟨R, 0, none⟩ = some (.slice A (n + 1) c)) (hr : Ints w A (n + 1) c rk) (hn : n ≤ 65536) (hlen : len ≤ 1000000) (h0 : 0 ≤ x) (h1 : x ≤ n) :
    Calls Tryz.prog 225 #[.int .i64 x, .pointer (some ⟨L, 0, none⟩), .pointer (some ⟨N, 0, none⟩), .pointer (some ⟨R, 0, none⟩)] w fun e w' => e = .returned (.int .i64 (restI rk n len x.toNat)) ∧ w' = w := by
  obtain ⟨i, rfl⟩ := Int.eq_ofNat_of_zero_le h0
  rw [Int.toNat_natCast]
  by_cases h : i + len ≤ n
  · have d1 : decide ((i : Int) + (len : Int) ≤ (n : Int)) = true := by simp; omega
    have hf : Hid (restI rk n len i = gi rk (i + len)) := by show _ = _; unfold restI; rw [if_pos h]
    obtain ⟨b, off, rfl, hb, hcell⟩ := hr.get (k := i + len) (by omega)
    have c1 := hcell (i + len) (by omega)
    clear hcell hr
    go_enter Tryz.func225, Tryz.ntmps225
    go_wp2
    go_ret
    exact ⟨ret_int hf.out.symm, rfl⟩
  · have d1 : decide ((i : Int) + (len : Int) ≤ (n : Int)) = false := by simp; omega
    have hf : Hid (restI rk n len i = 0) := by show _ = _; unfold restI; rw [if_neg h]
    clear hr
    go_enter Tryz.func225, Tryz.ntmps225
    go_wp2
    go_ret
    exact ⟨ret_int hf.out.symm, rfl⟩
theorem two_ints (w : World) (e : TypeId) (a b : Int) : Ints (w.alloc (.cells #[.int .i64 a, .int .i64 b] e)) (some ⟨w.heap.size, 0, none⟩) 2 2 [a, b] :=
  ⟨rfl, Nat.le_refl _, fun _ => ⟨w.heap.size, 0, rfl, by simp, fun i hi => by
    match i, hi with
    | 0, _ => simp [gi]
    | 1, _ => simp [gi]⟩⟩
theorem compare_any (L N R F : Nat) (A : Option Addr) (c n len : Nat) (rk : List Int) (x y : Int) (w : World) (hL : w.cell? ⟨L, 0, none⟩ = some (.int .i64 (len : Int))) (hN : w.cell? ⟨N, 0, none⟩ = some (.int .i64 (n : Int)))
    (hR : w.cell? ⟨R, 0, none⟩ = some (.slice A (n + 1) c)) (hF : w.cell? ⟨F, 0, none⟩ = some (.func (.func 225) #[] #[.pointer (some ⟨L, 0, none⟩), .pointer (some ⟨N, 0, none⟩), .pointer (some ⟨R, 0, none⟩)]))
    (hr : Ints w A (n + 1) c rk) (hn : n ≤ 65536) (hlen : len ≤ 1000000) (hx0 : 0 ≤ x) (hx1 : x ≤ n) (hy0 : 0 ≤ y) (hy1 : y ≤ n) :
    Calls Tryz.prog 226 #[.int .i64 x, .int .i64 y, .pointer (some ⟨R, 0, none⟩), .pointer (some ⟨F, 0, none⟩)] w fun e w' => e = .returned (.int .i64 (cmpR rk n len x.toNat y.toNat)) ∧ ∃ q o, w' = (w.drewN q).alloc o := by
  have H1 : Hid (∀ q, Calls Tryz.prog 225 #[.int .i64 x, .pointer (some ⟨L, 0, none⟩), .pointer (some ⟨N, 0, none⟩), .pointer (some ⟨R, 0, none⟩)] (w.drewN q) fun e w' => e = .returned (.int .i64 (restI rk n len x.toNat)) ∧ w' = w.drewN q) :=
    fun q => rest_any L N R A c n len rk x (w.drewN q) hL hN hR (hr.drewN q) hn hlen hx0 hx1
  have H2 : Hid (∀ q, Calls Tryz.prog 225 #[.int .i64 y, .pointer (some ⟨L, 0, none⟩), .pointer (some ⟨N, 0, none⟩), .pointer (some ⟨R, 0, none⟩)] (w.drewN q) fun e w' => e = .returned (.int .i64 (restI rk n len y.toNat)) ∧ w' = w.drewN q) :=
    fun q => rest_any L N R A c n len rk y (w.drewN q) hL hN hR (hr.drewN q) hn hlen hy0 hy1
  obtain ⟨i, rfl⟩ := Int.eq_ofNat_of_zero_le hx0
  obtain ⟨j, rfl⟩ := Int.eq_ofNat_of_zero_le hy0
  rw [Int.toNat_natCast] at *
  rw [Int.toNat_natCast] at *
  obtain ⟨b, off, rfl, hb, hcell⟩ := hr.get (k := i) (by omega)
  have c1 := hcell i (by omega)
  have c2 := hcell j (by omega)
  have b1 : (i : Int) < (n : Int) + 1 := by omega
  have b2 : (j : Int) < (n : Int) + 1 := by omega
  clear hcell hr
  go_enter Tryz.func226, Tryz.ntmps226
  go_wp2_with fail
  refine wp_region_quiet_tail 16 (by kernel_rfl) (by kernel_rfl) ?_
  simp only [List.take_succ_cons, List.take_zero, List.drop_succ_cons, List.drop_zero]
  repeat (go_big_quiet_step (first
    | (go_at_call 143; exact Calls.quiet_of_same (compareI_any _ _ _))
    | (go_at_call_of 225 (Value.int .i64 (i : Int)); exact Calls.quiet_of_same (H1.out _))
    | (go_at_call_of 225 (Value.int .i64 (j : Int)); exact Calls.quiet_of_same (H2.out _))))
  refine wpQuiet_nil ?_
  intro _ hw'
  obtain ⟨nq, hw''⟩ := hw'
  subst hw''
  go_wp2_with fail
  refine (or_any _ 2 2 _ _ (two_ints (w.drewN nq) _ _ _) (by omega)).mono ?_
  rintro e w' ⟨rfl, rfl⟩
  go_wp2
  go_ret
  exact ⟨rfl, nq, _, rfl⟩
end Go.Proofs.YtohadkmaemmfgaaGreatDoor.Bwt
namespace Go.Proofs.YtohadkmaemmfgaaGreatDoor.Bwt
open Go.RowKit Go.Proofs Go.Sort Go.Shelf
set_option linter.unusedVariables false
section
variable {α : Type} [Inhabited α] {enc : α → Value}
theorem sortWorld_grown (w : World) (blk m : Nat) (d : Array α) (os : Array Obj) : w.grownBy (sortWorld enc w blk 0 m d os) (some blk) := by
  refine ⟨rfl, rfl, rfl, ?_, fun k hk hne => ?_⟩
  · simp [sortWorld, grow, putRow, mapBlock, Sort.ahead]
  · have hne' : ¬ blk = k := fun e => hne (by rw [e])
    simp only [sortWorld, grow, putRow, mapBlock, Sort.ahead]
    rw [Array.getElem?_append_left (by simpa using hk), Array.getElem?_modify, if_neg hne']
theorem sortWorld_row (w : World) (blk m : Nat) (t : TypeId) (xs : List α) (d : Array α) (os : Array Obj) (h : Row enc w blk t xs) (hd : d.size = xs.length) : Row enc (sortWorld enc w blk 0 m d os) blk t d.toList := by
  have hlt := h.lt
  unfold Row at h ⊢
  simp only [sortWorld, grow, putRow, mapBlock, Sort.ahead]
  rw [Array.getElem?_append_left (by simpa using hlt), Array.getElem?_modify, if_pos rfl, h]
  simp only [Option.map_some, onCells]
  congr 2
  apply Array.ext_getElem?
  intro k
  simp only [putCells, Array.getElem?_mapIdx, List.getElem?_toArray, List.getElem?_map, Array.getElem?_toList]
  by_cases hk : k < xs.length
  · rw [List.getElem?_eq_getElem hk, Array.getElem?_eq_getElem (by omega : k < d.size)]
    simp only [Option.map_some]
    rw [if_pos (by omega), Nat.sub_zero, getElem!_pos d k (by omega)]
  · rw [List.getElem?_eq_none (by omega), Array.getElem?_eq_none (by omega)]
    rfl
theorem sortFunc_row (h1 : ∀ x, (enc x).oneCell' = true) (cf : α → α → Int) (hO : SWO (ltOf cf)) (fn : Nat) (cb : Array Value) (blk c : Nat) (t : TypeId) (xs : List α) (w : World)
    (eg : ∀ args w, (callFunc fn args).run Tryz.prog w = .ok (.enter fn args) w) (hrow : Row enc w blk t xs) (hl : xs.length < 4611686018427387904)
    (hcmp : ∀ W : World, w.grownBy W (some blk) → ∀ x y, Calls Tryz.prog fn (#[enc x, enc y] ++ cb) W fun e w' => e = .returned (.int .i64 (cf x y)) ∧ ∃ q os', w' = grow (W.drewN q) os') :
    Calls Tryz.prog 227 #[.slice (some ⟨blk, 0, none⟩) xs.length c, .func (.func fn) #[] cb] w fun e w' =>
      e = .returned (.tuple #[]) ∧ ∃ ys : List α, ys.Perm xs ∧ ys.Pairwise (fun a b => ltOf cf b a = false) ∧ Row enc w' blk t ys ∧ w.grownBy w' (some blk) := by
  have hs : xs.toArray.size = xs.length := by simp
  have hH : Holds enc w blk 0 xs.toArray := fun j hj => by
    rw [hs] at hj
    refine ⟨?_, hrow.frozen _⟩
    rw [Nat.zero_add, hrow.cell xs.toArray[j]! hj]
    simp [List.getD, hj]
  have h := Tryz.slices_SortFunc_f227 enc h1 cf hO fn cb blk 0 c xs.toArray w eg (fun m os dk hdk x y => hcmp _ (sortWorld_grown w blk m dk os) x y) hH hrow.lt (by rw [hs]; exact hl)
  rw [hs] at h
  refine h.mono ?_
  rintro e w' ⟨he, d', n, os, hp, hso, rfl⟩
  have hsz : d'.size = xs.length := by rw [hp.1, hs]
  refine ⟨he, d'.toList, ?_, ?_, sortWorld_row w blk n t xs d' os hrow hsz, sortWorld_grown w blk n d' os⟩
  · have := hp.2.2
    rw [show d'.extract 0 xs.length = d' by rw [← hsz]; simp, show xs.toArray.extract 0 xs.length = xs.toArray by simp] at this
    simpa using this
  · rw [List.pairwise_iff_getElem]
    intro i j hi hj hij
    have hi' : i < d'.size := by simpa using hi
    have hj' : j < d'.size := by simpa using hj
    have := hso i j (Nat.zero_le _) hij (by omega)
    rw [getElem!_pos d' i hi', getElem!_pos d' j hj'] at this
    simpa using this
end
end Go.Proofs.YtohadkmaemmfgaaGreatDoor.Bwt
namespace Go.Proofs.YtohadkmaemmfgaaGreatDoor.Bwt
open Go.RowKit Go.Proofs
set_option linter.unusedVariables false
def SortA (w wx : World) (n : Nat) (s5 s6 : Value) : Prop := ∃ gp gk gr, s5 = .slice (some ⟨gp, 0, none⟩) (n + 1) (n + 1) ∧ s6 = .pointer (some ⟨gr, 0, none⟩) ∧
  Row (Value.int .i64) wx gp 3 (List.replicate (n + 1) 0) ∧ Row (Value.int .i64) wx gk 3 (List.replicate (n + 1) 0) ∧ Row id wx gr 52 [.slice (some ⟨gk, 0, none⟩) (n + 1) (n + 1)] ∧
  Row id wx w.heap.size 3 [.int .i64 (n : Int)] ∧ w.heap.size < gp ∧ w.heap.size < gk ∧ w.heap.size < gr ∧ gp ≠ gk ∧ Below w.heap.size w wx
theorem alloc_at (w : World) (o : Obj) : (w.alloc o).heap[w.heap.size]? = some o := heap_alloc_new w o
theorem four (w : World) (o1 o2 o3 o4 : Obj) : ((((w.alloc o1).alloc o2).alloc o3).alloc o4).heap[w.heap.size]? = some o1 ∧ ((((w.alloc o1).alloc o2).alloc o3).alloc o4).heap[w.heap.size + 1]? = some o2 ∧
    ((((w.alloc o1).alloc o2).alloc o3).alloc o4).heap[w.heap.size + 1 + 1]? = some o3 ∧ ((((w.alloc o1).alloc o2).alloc o3).alloc o4).heap[w.heap.size + 1 + 1 + 1]? = some o4 ∧
    Below w.heap.size w ((((w.alloc o1).alloc o2).alloc o3).alloc o4).drew := by
  have s1 : (w.alloc o1).heap.size = w.heap.size + 1 := by simp
  have s2 : ((w.alloc o1).alloc o2).heap.size = w.heap.size + 1 + 1 := by simp
  have s3 : (((w.alloc o1).alloc o2).alloc o3).heap.size = w.heap.size + 1 + 1 + 1 := by simp
  have s4 := alloc_at (((w.alloc o1).alloc o2).alloc o3) o4
  have t3 := alloc_at ((w.alloc o1).alloc o2) o3
  have t2 := alloc_at (w.alloc o1) o2
  have t1 := alloc_at w o1
  rw [s3] at s4
  rw [s2] at t3
  rw [s1] at t2
  refine ⟨?_, ?_, ?_, s4, ?_⟩
  · rw [Below.heap_alloc _ _ _ (by omega), Below.heap_alloc _ _ _ (by omega), Below.heap_alloc _ _ _ (by omega)]; exact t1
  · rw [Below.heap_alloc _ _ _ (by omega), Below.heap_alloc _ _ _ (by omega)]; exact t2
  · rw [Below.heap_alloc _ _ _ (by omega)]; exact t3
  · exact (((((Below.refl _ _).alloc (Nat.le_refl _) _).alloc (by omega) _).alloc (by omega) _).alloc (by omega) _).drew
theorem SortA.mk {w wx : World} {n gp gk gr : Nat} (h1 : wx.heap[gp]? = some (rowObj (Value.int .i64) 3 (List.replicate (n + 1) 0))) (h2 : wx.heap[gk]? = some (rowObj (Value.int .i64) 3 (List.replicate (n + 1) 0)))
    (h3 : wx.heap[gr]? = some (.cells #[.slice (some ⟨gk, 0, none⟩) (n + 1) (n + 1)] 52)) (h0 : wx.heap[w.heap.size]? = some (.cells #[.int .i64 (n : Int)] 3)) (l1 : w.heap.size < gp) (l2 : w.heap.size < gk) (l3 : w.heap.size < gr) (l4 : gp ≠ gk) (hb : Below w.heap.size w wx) :
    SortA w wx n (.slice (some ⟨gp, 0, none⟩) (n + 1) (n + 1)) (.pointer (some ⟨gr, 0, none⟩)) := ⟨gp, gk, gr, rfl, rfl, h1, h2, h3, h0, l1, l2, l3, l4, hb⟩
def placesTo (n k : Nat) : List Int := (List.range (n + 1)).map fun j : Nat => if j < k then (j : Int) else 0
theorem placesTo_zero (n : Nat) : placesTo n 0 = List.replicate (n + 1) 0 := by apply List.ext_getElem <;> simp [placesTo]
theorem placesTo_length (n k : Nat) : (placesTo n k).length = n + 1 := by simp [placesTo]
theorem placesTo_next (n k : Nat) (hk : k ≤ n) : (placesTo n k).set k (k : Int) = placesTo n (k + 1) := by
  apply List.ext_getElem
  · simp [placesTo]
  intro i h1 h2
  rw [List.getElem_set]
  simp only [placesTo, List.getElem_map, List.getElem_range]
  by_cases e : k = i
  · subst e; rw [if_pos rfl, if_pos (by omega)]
  · rw [if_neg e]
    by_cases h : i < k
    · rw [if_pos h, if_pos (by omega)]
    · rw [if_neg h, if_neg (by omega)]
theorem placesTo_all (n : Nat) : placesTo n (n + 1) = (List.range (n + 1)).map (fun p : Nat => (p : Int)) := by
  apply List.ext_getElem
  · simp [placesTo]
  intro i h1 h2
  have : i < n + 1 := by simpa [placesTo] using h1
  simp [placesTo]
  omega
theorem _root_.Go.Proofs.YtohadkmaemmfgaaGreatDoor.Row.toNats {w : World} {g : Nat} {t : TypeId} {ps : List Nat} (h : Row (Value.int .i64) w g t (ps.map (fun p : Nat => (p : Int)))) : Row encN w g t ps := by
  unfold Row at h ⊢
  rw [h, List.map_map]
  rfl
structure SortSt (w wr : World) (bs : List UInt8) (n gp gr gl gk : Nat) (ps : List Nat) (rk : List Int) (len : Nat) : Prop where
  rp : Row encN wr gp 3 ps
  rr : Row id wr gr 52 [.slice (some ⟨gk, 0, none⟩) (n + 1) (n + 1)]
  rn : Row id wr w.heap.size 3 [.int .i64 (n : Int)]
  rl : Row id wr gl 3 [.int .i64 (len : Int)]
  rrk : Row (Value.int .i64) wr gk 3 rk
  lp : w.heap.size < gp
  lr : w.heap.size < gr
  ll : w.heap.size < gl
  lk : w.heap.size < gk
  npl : gp ≠ gl
  npk : gp ≠ gk
  bel : Below w.heap.size w wr
  stage : Stage bs len rk
  size : ps.length = bs.length + 1
  nodup : ps.Nodup
  range : ∀ p ∈ ps, p < ps.length
  len1 : 1 ≤ len
  lenb : len ≤ 65536
def lenAt (p : Value) (w : World) : Nat := match p with
  | .pointer (some a) => match w.cell? a with
    | some (.int _ z) => z.toNat
    | _ => 0
  | _ => 0
theorem lenAt_eq {w : World} {g : Nat} {t : TypeId} {len : Nat} (h : Row id w g t [.int .i64 (len : Int)]) : lenAt (.pointer (some ⟨g, 0, none⟩)) w = len := by
  unfold lenAt
  simp only [h.one]
  simp
theorem fin_list {m : Nat} : ∀ (ps : List Nat), (∀ p ∈ ps, p < m) → ∃ xs : List (Fin m), xs.map Fin.val = ps
  | [], _ => ⟨[], rfl⟩
  | p :: ps, h => by
    obtain ⟨xs, hxs⟩ := fin_list ps (fun q hq => h q (by simp [hq]))
    exact ⟨⟨p, h p (by simp)⟩ :: xs, by simp [hxs]⟩
def encF {m : Nat} (x : Fin m) : Value := .int .i64 ((x.val : Nat) : Int)
theorem _root_.Go.Proofs.YtohadkmaemmfgaaGreatDoor.Row.fins {w : World} {g : Nat} {t : TypeId} {m : Nat} {xs : List (Fin m)} : Row encF w g t xs ↔ Row encN w g t (xs.map Fin.val) := by
  unfold Row
  rw [List.map_map]
  exact Iff.rfl
theorem alloc_grow (w : World) (o : Obj) : w.alloc o = Sort.grow w #[o] := by
  unfold Sort.grow
  rw [← World.alloc_eq]
  simp
theorem sort_call (w wo : World) (bs : List UInt8) (n gp gr gl gk : Nat) (ps : List Nat) (rk : List Int) (len : Nat) (st : SortSt w wo bs n gp gr gl gk ps rk len) (hn : bs.length = n) (hn' : n ≤ 65536) (c : Nat) :
    Calls Tryz.prog 227 #[.slice (some ⟨gp, 0, none⟩) (n + 1) c, .func (.func 226) #[] #[.pointer (some ⟨gr, 0, none⟩), .pointer (some ⟨wo.heap.size, 0, none⟩)]]
      (wo.alloc (.cells #[.func (.func 225) #[] #[.pointer (some ⟨gl, 0, none⟩), .pointer (some ⟨w.heap.size, 0, none⟩), .pointer (some ⟨gr, 0, none⟩)]] 127)) fun e w' =>
      e = .returned (.tuple #[]) ∧ ∃ ps', Sorted bs len ps' ∧ Row encN w' gp 3 ps' ∧
        (wo.alloc (.cells #[.func (.func 225) #[] #[.pointer (some ⟨gl, 0, none⟩), .pointer (some ⟨w.heap.size, 0, none⟩), .pointer (some ⟨gr, 0, none⟩)]] 127)).grownBy w' (some gp) := by
  subst hn
  generalize hO : (Obj.cells #[.func (.func 225) #[] #[.pointer (some ⟨gl, 0, none⟩), .pointer (some ⟨w.heap.size, 0, none⟩), .pointer (some ⟨gr, 0, none⟩)]] 127) = O
  obtain ⟨xs, hxs⟩ := fin_list (m := bs.length + 1) ps (fun p hp => by have := st.range p hp; have := st.size; omega)
  have hlen : xs.length = bs.length + 1 := by have h1 := congrArg List.length hxs; have h2 := st.size; rw [List.length_map] at h1; omega
  have hrow : Row encF (wo.alloc O) gp 3 xs := Row.fins.2 (by rw [hxs]; exact st.rp.alloc O)
  have hF : Row id (wo.alloc O) wo.heap.size 127 [.func (.func 225) #[] #[.pointer (some ⟨gl, 0, none⟩), .pointer (some ⟨w.heap.size, 0, none⟩), .pointer (some ⟨gr, 0, none⟩)]] := by subst hO; exact Row.one_new wo _ _
  have hcmp : ∀ W : World, (wo.alloc O).grownBy W (some gp) → ∀ x y : Fin (bs.length + 1), Calls Tryz.prog 226 (#[encF x, encF y] ++ #[.pointer (some ⟨gr, 0, none⟩), .pointer (some ⟨wo.heap.size, 0, none⟩)]) W fun e w' =>
      e = .returned (.int .i64 (cmpR rk bs.length len x.val y.val)) ∧ ∃ q os', w' = Sort.grow (W.drewN q) os' := by
    intro W hW x y
    have hgp := st.rp.lt
    have r1 := (st.rl.alloc O).grown hW (fun e => st.npl (by injection e with e; exact e.symm))
    have r2 := (st.rn.alloc O).grown hW (fun e => by injection e with e; have := st.lp; omega)
    have r3 := (st.rr.alloc O).grown hW (fun e => by injection e with e; exact st.rp.ne st.rr (by decide) e.symm)
    have r4 := hF.grown hW (fun e => by injection e with e; omega)
    have r5 := (st.rrk.alloc O).grown hW (fun e => by injection e with e; exact st.npk e.symm)
    have hc := compare_any gl w.heap.size gr wo.heap.size _ _ bs.length len rk ((x.val : Nat) : Int) ((y.val : Nat) : Int) W r1.one r2.one r3.one r4.one (r5.ints (c := bs.length + 1) st.stage.size (Nat.le_refl _)) hn' (by have := st.lenb; omega) (by omega) (by omega) (by omega) (by omega)
    rw [Int.toNat_natCast, Int.toNat_natCast] at hc
    refine hc.mono ?_
    rintro e w' ⟨he, q, o, hw⟩
    exact ⟨he, q, #[o], by rw [hw, alloc_grow]⟩
  have hO' : Sort.SWO (ltOf (fun x y : Fin (bs.length + 1) => cmpR rk bs.length len x.val y.val)) := by
    have hlt : ∀ x y : Fin (bs.length + 1), ltOf (fun x y : Fin (bs.length + 1) => cmpR rk bs.length len x.val y.val) x y = true ↔ gi rk x.val < gi rk y.val ∨ gi rk x.val = gi rk y.val ∧ restI rk bs.length len x.val < restI rk bs.length len y.val := fun x y => by
      unfold ltOf
      rw [decide_eq_true_iff, cmpR_neg]
    have hlf : ∀ x y : Fin (bs.length + 1), ltOf (fun x y : Fin (bs.length + 1) => cmpR rk bs.length len x.val y.val) x y = false ↔ ¬ (gi rk x.val < gi rk y.val ∨ gi rk x.val = gi rk y.val ∧ restI rk bs.length len x.val < restI rk bs.length len y.val) := fun x y => by
      rw [← hlt]; simp
    refine ⟨fun x => ?_, fun x y z h1 h2 => ?_, fun x y z h1 h2 => ?_⟩
    · rw [hlf]; omega
    · rw [hlt] at *; omega
    · rw [hlf] at *; omega
  have h := sortFunc_row (enc := encF) (fun _ => rfl) (fun x y : Fin (bs.length + 1) => cmpR rk bs.length len x.val y.val) hO' 226 #[.pointer (some ⟨gr, 0, none⟩), .pointer (some ⟨wo.heap.size, 0, none⟩)] gp c 3 xs (wo.alloc O)
    (enters_of Tryz.func226 (by kernel_rfl) rfl) hrow (by omega) hcmp
  rw [hlen] at h
  refine h.mono ?_
  rintro e w' ⟨he, ys, hp, hs, hr, hg⟩
  refine ⟨he, ys.map Fin.val, ?_, Row.fins.1 hr, hg⟩
  have hl2 : ys.length = bs.length + 1 := by rw [hp.length_eq, hlen]
  have hnd : (ys.map Fin.val).Nodup := by
    have h1 : (ys.map Fin.val).Perm ps := by rw [← hxs]; exact hp.map _
    exact h1.nodup_iff.2 st.nodup
  refine ⟨by simp [hl2], hnd, fun p hp => ?_, fun s t hst ht => ?_⟩
  · obtain ⟨x, _, rfl⟩ := List.mem_map.1 hp
    simp [hl2]
  · have ht' : t < ys.length := by simpa using ht
    have hs' : s < ys.length := by omega
    have := List.pairwise_iff_getElem.1 hs s t hs' ht' hst
    unfold ltOf at this
    rw [decide_eq_false_iff_not, st.stage.cmp (by omega) (by omega)] at this
    rw [pn_get ht, pn_get (by simpa using hs')]
    simpa using this
theorem sort_any (A : Option Addr) (c n : Nat) (bs : List UInt8) (w : World) (hx : Bytes w A n c bs) (hn : n ≤ 65536) :
    Calls Tryz.prog 161 #[.slice A n c] w (RetInts w (sortL bs) 0) := by
  have d0 : decide ((65536 : Int) < (n : Int)) = false := by simp; omega
  have Hn := Lib.hid hx.1
  have hmk := run_make_row (P := Tryz.prog) (enc := Value.int .i64) uI infoI rfl ((n : Int) + 1) (by omega) (by omega) (by omega)
  go_enter Tryz.func161, Tryz.ntmps161
  go_upto_region 4 with fail
  go_cut [5, 6] (fun s5 s6 wx => SortA w wx n s5 s6)
  case first =>
    have e1 : IntKind.i64.wrap ((n : Int) + 1) = (n : Int) + 1 := IntWalk.i64_in _ (by omega)
    have e3 : ((n : Int) + 1).toNat = n + 1 := by omega
    go_region
    all_goals
      go_wp2_with fail
      go_meet
      clear hmk
      obtain ⟨h1, h2, h3, h4, h5⟩ := four w _ _ _ _
      first
        | exact SortA.mk h2 h3 h4 h1 (by omega) (by omega) (by omega) (by omega) h5
        | exact SortA.mk h2 h4 h3 h1 (by omega) (by omega) (by omega) (by omega) h5
        | exact SortA.mk h3 h2 h4 h1 (by omega) (by omega) (by omega) (by omega) h5
        | exact SortA.mk h3 h4 h2 h1 (by omega) (by omega) (by omega) (by omega) h5
        | exact SortA.mk h4 h2 h3 h1 (by omega) (by omega) (by omega) (by omega) h5
        | exact SortA.mk h4 h3 h2 h1 (by omega) (by omega) (by omega) (by omega) h5
  case rest =>
    obtain ⟨gp, gk, gr, rfl, rfl, rp, rk, rr, rn, lp, lk, lr, npk, hb⟩ := hcut
    have hx1 := hx.below hb
    have b4 := rn.one
    have b5 := rr.one
    go_wp2_with fail
    go_loopw [26] (fun i wr => ∃ k : Nat, k ≤ n + 1 ∧ i = .int .i64 (k : Int) ∧ Row (Value.int .i64) wr gp 3 (placesTo n k) ∧ Row (Value.int .i64) wr gk 3 (rank0 bs (min k n)) ∧ Row id wr gr 52 [.slice (some ⟨gk, 0, none⟩) (n + 1) (n + 1)] ∧
      Row id wr w.heap.size 3 [.int .i64 (n : Int)] ∧ Below w.heap.size w wr) (fun i _ => n + 1 - (intOf i).toNat)
    case atStart => exact ⟨0, by omega, rfl, by rw [placesTo_zero]; exact rp, by rw [Nat.zero_min, rank0_zero, Hn.out]; exact rk, rr, rn, hb⟩
    case round =>
      clear hx1 b4 b5
      obtain ⟨k, hk, rfl, rp1, rk1, rr1, rn1, hb1⟩ := hrel
      have b4 := rn1.one
      have b5 := rr1.one
      by_cases hlt : k < n + 1
      · have p1 := rp1.cell (j := k) 0 (by rw [placesTo_length]; exact hlt)
        have p2 := rp1.frozen k
        have npr := rp1.ne rr1 (by decide)
        have nkr := rk1.ne rr1 (by decide)
        have rp2 := rp1.set k (k : Int)
        rw [placesTo_next n k (by omega)] at rp2
        have rk2 := rk1.far (p := ⟨gp, k, none⟩) npk.symm (.int .i64 (k : Int))
        have rr2 := rr1.far (p := ⟨gp, k, none⟩) npr.symm (.int .i64 (k : Int))
        have rn2 := rn1.far (p := ⟨gp, k, none⟩) (by show w.heap.size ≠ gp; omega) (.int .i64 (k : Int))
        have hb2 := hb1.setCell (p := ⟨gp, k, none⟩) (by show w.heap.size ≤ gp; omega) (.int .i64 (k : Int))
        have b6 := rn2.one
        by_cases hkn : k < n
        · have d1 : decide ((k : Int) < (n : Int)) = true := by simp; omega
          obtain ⟨bb, off, rfl, hbb, hcell⟩ := (hx.below hb2).get hkn
          have c1 := hcell k hkn
          clear hcell
          have g0 := gb_lo bs k
          have g1 := gb_hi bs k
          have b7 := rr2.one
          have hlr : k < (rank0 bs (min k n)).length := by rw [rank0_length, Hn.out]; omega
          have q1 := rk2.cell (j := k) 0 hlr
          have q2 := rk2.frozen k
          have rk3 := rk2.set k (gb bs k + 1)
          rw [show min k n = k by omega, rank0_next bs k (by rw [Hn.out]; exact hkn)] at rk3
          have rp3 := rp2.far (p := ⟨gk, k, none⟩) npk (.int .i64 (gb bs k + 1))
          have rr3 := rr2.far (p := ⟨gk, k, none⟩) nkr.symm (.int .i64 (gb bs k + 1))
          have rn3 := rn2.far (p := ⟨gk, k, none⟩) (by show w.heap.size ≠ gk; omega) (.int .i64 (gb bs k + 1))
          have hb3 := hb2.setCell (p := ⟨gk, k, none⟩) (by show w.heap.size ≤ gk; omega) (.int .i64 (gb bs k + 1))
          clear hlr
          go_wp2_with fail
          refine wp_region_quiet_tail 9 (by kernel_rfl) (by kernel_rfl) ?_
          simp only [List.take_succ_cons, List.take_zero, List.drop_succ_cons, List.drop_zero]
          repeat (go_big_quiet_step (fail))
          refine wpQuiet_nil ?_
          intro _ hw'
          obtain ⟨nq, hw''⟩ := hw'
          subst hw''
          go_wp2_with fail
          go_roundw
          case rel => exact ⟨k + 1, by omega, by go_num, rp3, by rw [show min (k + 1) n = k + 1 by omega]; exact rk3, rr3, rn3, bdrew hb3 _⟩
          case measure => simp [intOf]; omega
        · have d1 : decide ((k : Int) < (n : Int)) = false := by simp; omega
          go_wp2_with fail
          go_roundw
          case rel => exact ⟨k + 1, by omega, by go_num, rp2, by rw [show min (k + 1) n = min k n by omega]; exact rk2, rr2, rn2, hb2⟩
          case measure => simp [intOf]; omega
      · have rk2 := rk1
        rw [show min k n = n by omega] at rk2
        rw [show k = n + 1 by omega, placesTo_all] at rp1
        have rp2 := Row.toNats rp1
        go_wp2_with fail
        go_loopw [8] (fun p wr => ∃ gl gk ps rk len, p = .pointer (some ⟨gl, 0, none⟩) ∧ SortSt w wr bs n gp gr gl gk ps rk len ∧ len ≤ max 1 n) (fun p wr => n + 1 - lenAt p wr)
        case atStart =>
          refine ⟨_, gk, List.range (n + 1), rank0 bs n, 1, rfl, ⟨rp2.alloc _, rr1.alloc _, rn1.alloc _, Row.one_new _ _ _, rk2.alloc _, lp, lr, ?_, lk, ?_, npk, hb1.alloc ?_ _, ?_, ?_, List.nodup_range, ?_, by omega, by omega⟩, by omega⟩
          · have := rp2.lt; omega
          · have := rp2.lt; omega
          · have := hb1.size; omega
          · have := stage1 bs; rwa [Hn.out] at this
          · rw [Hn.out]; simp
          · simp
        case round =>
          clear rp2 rk2 rp1 rk1 rr1 rn1 b4 b5 hb1 hlt hk
          obtain ⟨gl, gk', ps, rk', len, rfl, st, hlen⟩ := hrel
          obtain ⟨wo, rfl⟩ : ∃ wo : World, wo = wr := ⟨_, rfl⟩
          have hcal := sort_call w wo bs n gp gr gl gk' ps rk' len st Hn.out hn (n + 1)
          have Hcal := Lib.hid hcal; clear hcal
          go_wp2_with fail
          refine Hcal.out.mono ?_
          rintro e w1 ⟨rfl, ps', S, rp1, hg1⟩
          have St := Lib.hid st
          have rl1 := (st.rl.alloc _).grown hg1 (fun e => st.npl (by injection e with e; exact e.symm))
          have rn1 := (st.rn.alloc _).grown hg1 (fun e => by injection e with e; have := st.lp; omega)
          have rr1 := (st.rr.alloc _).grown hg1 (fun e => by injection e with e; exact st.rp.ne st.rr (by decide) e.symm)
          have rF1 := (Row.one_new wo 127 (.func (.func 225) #[] #[.pointer (some ⟨gl, 0, none⟩), .pointer (some ⟨w.heap.size, 0, none⟩), .pointer (some ⟨gr, 0, none⟩)])).grown hg1 (fun e => by injection e with e; have := st.rp.lt; omega)
          have rk1 := (st.rrk.alloc _).grown hg1 (fun e => by injection e with e; exact st.npk e.symm)
          have hb1 : Below w.heap.size w w1 := (st.bel.alloc st.bel.size _).grown hg1 (by have := st.bel.size; simp; omega) (fun k e => by injection e with e; have := st.lp; omega)
          have hlo : wo.heap.size < w1.heap.size := by have := hg1.size; simp at this; omega
          clear hg1 st Hcal
          have b1 := rn1.one
          go_wp2_with fail
          obtain ⟨W2, hW2⟩ : ∃ W, W = w1.alloc (rowObj (Value.int .i64) 3 (List.replicate (n + 1) 0)) := ⟨_, rfl⟩
          have rp2 := rp1.alloc (rowObj (Value.int .i64) 3 (List.replicate (n + 1) 0))
          have rl2 := rl1.alloc (rowObj (Value.int .i64) 3 (List.replicate (n + 1) 0))
          have rn2 := rn1.alloc (rowObj (Value.int .i64) 3 (List.replicate (n + 1) 0))
          have rr2 := rr1.alloc (rowObj (Value.int .i64) 3 (List.replicate (n + 1) 0))
          have rF2 := rF1.alloc (rowObj (Value.int .i64) 3 (List.replicate (n + 1) 0))
          have rk2 := rk1.alloc (rowObj (Value.int .i64) 3 (List.replicate (n + 1) 0))
          have rx2 := Row.new (enc := Value.int .i64) w1 3 (List.replicate (n + 1) 0)
          have hb2 := hb1.alloc hb1.size (rowObj (Value.int .i64) 3 (List.replicate (n + 1) 0))
          rw [← hW2] at rp2 rl2 rn2 rr2 rF2 rk2 rx2 hb2
          rw [← hW2]
          have xlo : w.heap.size < w1.heap.size := by have := (St.out).bel.size; omega
          have nxp : gp ≠ w1.heap.size := by have := rp1.lt; omega
          have nxl : gl ≠ w1.heap.size := by have := rl1.lt; omega
          have nxr : gr ≠ w1.heap.size := by have := rr1.lt; omega
          have nxF : wo.heap.size ≠ w1.heap.size := by omega
          have nxk : gk' ≠ w1.heap.size := by have := rk1.lt; omega
          have nxn : w.heap.size ≠ w1.heap.size := by omega
          clear hW2 rp1 rl1 rn1 rr1 rF1 rk1 b1 hb1
          go_loopw [12] (fun i wr => ∃ k : Nat, k ≤ n ∧ i = .int .i64 ((k : Int) + 1) ∧ Row (Value.int .i64) wr w1.heap.size 3 (nextTo (neR rk' n len) ps' (n + 1) k) ∧ W2.grownBy wr (some w1.heap.size)) (fun i _ => n + 1 - (intOf i).toNat)
          case atStart => exact ⟨0, by omega, by go_num, rx2, World.grownBy.refl _ _⟩
          case round =>
            obtain ⟨k, hk, rfl, rx3, hg3⟩ := hrel
            have rp3 := rp2.grown hg3 (fun e => nxp (by injection e))
            have rl3 := rl2.grown hg3 (fun e => nxl (by injection e))
            have rn3 := rn2.grown hg3 (fun e => nxn (by injection e))
            have rr3 := rr2.grown hg3 (fun e => nxr (by injection e))
            have rF3 := rF2.grown hg3 (fun e => nxF (by injection e))
            have rk3 := rk2.grown hg3 (fun e => nxk (by injection e))
            have b1 := rn3.one
            by_cases hlt : k < n
            · have d1 : decide ((k : Int) + 1 ≤ (n : Int)) = true := by simp; omega
              have hps := S.size
              have hpn := Hn.out
              have hp0 : pn ps' k ≤ n := by have := pn_le S (t := k) (by omega); omega
              have hp1 : pn ps' (k + 1) ≤ n := by have := pn_le S (t := k + 1) (by omega); omega
              have c1 : wr.cell? ⟨gp, k, none⟩ = some (.int .i64 ((pn ps' k : Nat) : Int)) := rp3.cell 0 (by omega)
              have c2 : wr.cell? ⟨gp, k + 1, none⟩ = some (.int .i64 ((pn ps' (k + 1) : Nat) : Int)) := rp3.cell 0 (by omega)
              have hnx := nextTo_length (neR rk' n len) ps' (n + 1) k
              have x1 : wr.cell? ⟨w1.heap.size, pn ps' k, none⟩ = some (.int .i64 (gi (nextTo (neR rk' n len) ps' (n + 1) k) (pn ps' k))) := rx3.cell 0 (by omega)
              have x2 : wr.cell? ⟨w1.heap.size, pn ps' (k + 1), none⟩ = some (.int .i64 (gi (nextTo (neR rk' n len) ps' (n + 1) k) (pn ps' (k + 1)))) := rx3.cell 0 (by omega)
              have x3 := rx3.frozen (pn ps' (k + 1))
              have Hps := Lib.hid hps; clear hps hpn hnx
              go_wp2_with fail
              refine wp_region_quiet_tail 14 (by kernel_rfl) (by kernel_rfl) ?_
              simp only [List.take_succ_cons, List.take_zero, List.drop_succ_cons, List.drop_zero]
              repeat (go_big_quiet_step (fail))
              refine wpQuiet_nil ?_
              intro _ hw'
              obtain ⟨nq, hw''⟩ := hw'
              subst hw''
              go_wp2_with fail
              obtain ⟨W4, hW4⟩ : ∃ W, W = (wr.drewN nq).setCell ⟨w1.heap.size, pn ps' (k + 1), none⟩ (.int .i64 (gi (nextTo (neR rk' n len) ps' (n + 1) k) (pn ps' k))) := ⟨_, rfl⟩
              have rp4 := (rp3.drewN nq).far (p := ⟨w1.heap.size, pn ps' (k + 1), none⟩) nxp (.int .i64 (gi (nextTo (neR rk' n len) ps' (n + 1) k) (pn ps' k)))
              have rl4 := (rl3.drewN nq).far (p := ⟨w1.heap.size, pn ps' (k + 1), none⟩) nxl (.int .i64 (gi (nextTo (neR rk' n len) ps' (n + 1) k) (pn ps' k)))
              have rn4 := (rn3.drewN nq).far (p := ⟨w1.heap.size, pn ps' (k + 1), none⟩) nxn (.int .i64 (gi (nextTo (neR rk' n len) ps' (n + 1) k) (pn ps' k)))
              have rr4 := (rr3.drewN nq).far (p := ⟨w1.heap.size, pn ps' (k + 1), none⟩) nxr (.int .i64 (gi (nextTo (neR rk' n len) ps' (n + 1) k) (pn ps' k)))
              have rF4 := (rF3.drewN nq).far (p := ⟨w1.heap.size, pn ps' (k + 1), none⟩) nxF (.int .i64 (gi (nextTo (neR rk' n len) ps' (n + 1) k) (pn ps' k)))
              have rk4 := (rk3.drewN nq).far (p := ⟨w1.heap.size, pn ps' (k + 1), none⟩) nxk (.int .i64 (gi (nextTo (neR rk' n len) ps' (n + 1) k) (pn ps' k)))
              have rx4 := (rx3.drewN nq).set (pn ps' (k + 1)) (gi (nextTo (neR rk' n len) ps' (n + 1) k) (pn ps' k))
              have hg4 := grownBy.setCell' (grownBy.drewN' hg3 nq) (j := pn ps' (k + 1)) (.int .i64 (gi (nextTo (neR rk' n len) ps' (n + 1) k) (pn ps' k)))
              rw [← hW4] at rp4 rl4 rn4 rr4 rF4 rk4 rx4 hg4
              rw [← hW4]
              clear hW4 rp3 rl3 rn3 rr3 rF3 rk3 rx3 hg3 b1 c1 c2 x1 x2 x3
              have c1 : W4.cell? ⟨gp, k, none⟩ = some (.int .i64 ((pn ps' k : Nat) : Int)) := rp4.cell 0 (by have := Hps.out; have := Hn.out; omega)
              have c2 : W4.cell? ⟨gp, k + 1, none⟩ = some (.int .i64 ((pn ps' (k + 1) : Nat) : Int)) := rp4.cell 0 (by have := Hps.out; have := Hn.out; omega)
              refine wp_region_quiet_tail 10 (by kernel_rfl) (by kernel_rfl) ?_
              simp only [List.take_succ_cons, List.take_zero, List.drop_succ_cons, List.drop_zero]
              repeat (go_big_quiet_step (fail))
              refine wpQuiet_nil ?_
              intro _ hw'
              obtain ⟨nr, hw''⟩ := hw'
              subst hw''
              have hcc := compare_any gl w.heap.size gr wo.heap.size _ _ n len rk' ((pn ps' k : Nat) : Int) ((pn ps' (k + 1) : Nat) : Int) (W4.drewN nr) rl4.one rn4.one rr4.one rF4.one ((rk4.drewN nr).ints (c := n + 1) (by have := St.out.stage.size; have := Hn.out; omega) (Nat.le_refl _)) hn (by have := St.out.lenb; omega) (by omega) (by omega) (by omega) (by omega)
              rw [Int.toNat_natCast, Int.toNat_natCast] at hcc
              have Hcc := Lib.hid hcc; clear hcc
              go_wp2_with fail
              refine Hcc.out.mono ?_
              rintro e w5 ⟨rfl, q5, o5, hw5⟩
              have rp5 := (rp4.drewN (nr + q5)).alloc o5
              have rx5 := (rx4.drewN (nr + q5)).alloc o5
              have hg5 := grownBy.alloc' (grownBy.drewN' hg4 (nr + q5)) o5
              rw [← World.drewN_drewN, ← hw5] at rp5 rx5 hg5
              clear hw5 Hcc rp4 rl4 rn4 rr4 rF4 rk4 rx4 hg4 c1 c2
              have hfin : Hid (∀ b : Bool, neR rk' n len (pn ps' k) (pn ps' (k + 1)) = b → nextTo (neR rk' n len) ps' (n + 1) (k + 1) = (nextTo (neR rk' n len) ps' (n + 1) k).set (pn ps' (k + 1)) (gi (nextTo (neR rk' n len) ps' (n + 1) k) (pn ps' k) + if b then 1 else 0)) := fun b hb => by
                rw [nextTo, hb]
              by_cases hc : cmpR rk' n len (pn ps' k) (pn ps' (k + 1)) = 0
              · have d2 : (cmpR rk' n len (pn ps' k) (pn ps' (k + 1)) != 0) = false := by simp [hc]
                have hnx : Hid (nextTo (neR rk' n len) ps' (n + 1) (k + 1) = (nextTo (neR rk' n len) ps' (n + 1) k).set (pn ps' (k + 1)) (gi (nextTo (neR rk' n len) ps' (n + 1) k) (pn ps' k))) := by
                  have := hfin.out false (by unfold neR; simp [hc])
                  show _ = _
                  simpa using this
                clear hc hfin
                go_wp2_with fail
                go_roundw
                case rel => exact ⟨k + 1, by omega, by go_num, by rw [hnx.out]; exact rx5, hg5⟩
                case measure => simp [intOf]; omega
              · have d2 : (cmpR rk' n len (pn ps' k) (pn ps' (k + 1)) != 0) = true := by simp [hc]
                have hnx : Hid (nextTo (neR rk' n len) ps' (n + 1) (k + 1) = ((nextTo (neR rk' n len) ps' (n + 1) k).set (pn ps' (k + 1)) (gi (nextTo (neR rk' n len) ps' (n + 1) k) (pn ps' k))).set (pn ps' (k + 1)) (gi (nextTo (neR rk' n len) ps' (n + 1) k) (pn ps' k) + 1)) := by
                  have := hfin.out true (by unfold neR; simp [hc])
                  show _ = _
                  rw [List.set_set]
                  simpa using this
                clear hc hfin
                have hcn : 0 ≤ gi (nextTo (neR rk' n len) ps' (n + 1) k) (pn ps' k) ∧ gi (nextTo (neR rk' n len) ps' (n + 1) k) (pn ps' k) ≤ k := by
                  have h1 := gi_nextTo (ne := neR rk' n len) S.nodup S.range k (by have := Hps.out; have := Hn.out; omega) k (Nat.le_refl _)
                  have h2 := cnt_le (neR rk' n len) ps' k
                  rw [Hps.out, Hn.out] at h1
                  rw [h1]
                  exact h2
                obtain ⟨v0, v1⟩ := hcn
                have hnl := nextTo_length (neR rk' n len) ps' (n + 1) k
                have c2 : w5.cell? ⟨gp, k + 1, none⟩ = some (.int .i64 ((pn ps' (k + 1) : Nat) : Int)) := rp5.cell 0 (by have := Hps.out; have := Hn.out; omega)
                have x2 : w5.cell? ⟨w1.heap.size, pn ps' (k + 1), none⟩ = some (.int .i64 (gi (nextTo (neR rk' n len) ps' (n + 1) k) (pn ps' k))) := by
                  have h1 := rx5.cell (j := pn ps' (k + 1)) 0 (by simp; omega)
                  have h2 := gi_set_same (zs := nextTo (neR rk' n len) ps' (n + 1) k) (k := pn ps' (k + 1)) (v := gi (nextTo (neR rk' n len) ps' (n + 1) k) (pn ps' k)) (by omega)
                  exact h1.trans (by show some (Value.int .i64 (gi _ _)) = _; rw [h2])
                have x3 := rx5.frozen (pn ps' (k + 1))
                have rx6 := rx5.set (pn ps' (k + 1)) (gi (nextTo (neR rk' n len) ps' (n + 1) k) (pn ps' k) + 1)
                have hg6 := grownBy.setCell' hg5 (j := pn ps' (k + 1)) (.int .i64 (gi (nextTo (neR rk' n len) ps' (n + 1) k) (pn ps' k) + 1))
                clear hnl
                go_wp2_with fail
                go_roundw
                case rel => exact ⟨k + 1, by omega, by go_num, by rw [hnx.out]; exact rx6, hg6⟩
                case measure => simp [intOf]; omega
            · obtain rfl : k = n := by omega
              have d1 : decide ((k : Int) + 1 ≤ (k : Int)) = false := by simp; omega
              have npr := rp3.ne rr3 (by decide)
              have nkr := rk3.ne rr3 (by decide)
              have nlr := rl3.ne rr3 (by decide)
              have nxr' := rx3.ne rr3 (by decide)
              have f1 := rr3.frozen 0
              have r1 := rr3.one
              have rr4 := rr3.set 0 (.slice (some ⟨w1.heap.size, 0, none⟩) (k + 1) (k + 1))
              have rp4 := rp3.far (p := ⟨gr, 0, none⟩) npr (.slice (some ⟨w1.heap.size, 0, none⟩) (k + 1) (k + 1))
              have rl4 := rl3.far (p := ⟨gr, 0, none⟩) nlr (.slice (some ⟨w1.heap.size, 0, none⟩) (k + 1) (k + 1))
              have rn4 := rn3.far (p := ⟨gr, 0, none⟩) (by show w.heap.size ≠ gr; omega) (.slice (some ⟨w1.heap.size, 0, none⟩) (k + 1) (k + 1))
              have rx4 := rx3.far (p := ⟨gr, 0, none⟩) nxr' (.slice (some ⟨w1.heap.size, 0, none⟩) (k + 1) (k + 1))
              have hb4 := ((hb2.grown hg3 hb2.size (fun j e => by injection e with e; omega)).setCell (p := ⟨gr, 0, none⟩) (by show w.heap.size ≤ gr; omega) (.slice (some ⟨w1.heap.size, 0, none⟩) (k + 1) (k + 1)))
              simp only [List.set_cons_zero, id_eq] at rr4
              obtain ⟨W5, hW5⟩ : ∃ W, W = wr.setCell ⟨gr, 0, none⟩ (.slice (some ⟨w1.heap.size, 0, none⟩) (k + 1) (k + 1)) := ⟨_, rfl⟩
              go_wp2_with fail
              rw [← hW5] at rr4 rp4 rl4 rn4 rx4 hb4
              rw [← hW5]
              clear hW5 rp3 rl3 rn3 rr3 rF3 rk3 rx3 hg3 b1 r1 f1 rp2 rl2 rn2 rr2 rF2 rk2 rx2 hb2
              have Hps := Lib.hid S.size
              have hp0 : pn ps' k ≤ k := by have := pn_le S (t := k) (by have := Hps.out; have := Hn.out; omega); have := Hn.out; omega
              have hnl := nextTo_length (neR rk' k len) ps' (k + 1) k
              have b1 := rn4.one
              have r1 := rr4.one
              have c1 : W5.cell? ⟨gp, k, none⟩ = some (.int .i64 ((pn ps' k : Nat) : Int)) := rp4.cell 0 (by have := Hps.out; have := Hn.out; omega)
              have x1 : W5.cell? ⟨w1.heap.size, pn ps' k, none⟩ = some (.int .i64 (gi (nextTo (neR rk' k len) ps' (k + 1) k) (pn ps' k))) := rx4.cell 0 (by omega)
              have hlast := gi_last St.out.stage S
              rw [Hn.out] at hlast
              have Hlast := Lib.hid hlast; clear hlast hnl
              by_cases hf : gi (nextTo (neR rk' k len) ps' (k + 1) k) (pn ps' k) = (k : Int)
              · have d2 : (gi (nextTo (neR rk' k len) ps' (k + 1) k) (pn ps' k) == (k : Int)) = true := by simp [hf]
                have hdone := places_done St.out.stage S (by rw [Hn.out, ← Hlast.out]; exact hf)
                have Hdone := Lib.hid hdone; clear hdone hf
                go_quiet (fail)
                go_wp2_with fail
                go_ret2
                refine RetInts.mk rfl ?_ (bdrew hb4 _)
                rw [← Hdone.out]
                exact (rp4.nats.drewN _).ints (by rw [List.length_map, Hps.out, Hn.out]) (Nat.le_refl _)
              · have d2 : (gi (nextTo (neR rk' k len) ps' (k + 1) k) (pn ps' k) == (k : Int)) = false := by simp [hf]
                have hl2 : len + len ≤ k := by
                  rcases Nat.lt_or_ge k (len + len) with h | h
                  · have := full_of_long St.out.stage S (by rw [Hn.out]; exact h)
                    rw [Hn.out, ← Hlast.out] at this
                    exact absurd this hf
                  · exact h
                have hst := stage_next St.out.stage S (by have := St.out.len1; omega)
                rw [Hn.out] at hst
                have Hst := Lib.hid hst; clear hst hf
                have hl1 := St.out.len1
                go_quiet (fail)
                obtain ⟨W6, hW6⟩ : ∃ W, W = W5.drewN nq := ⟨_, rfl⟩
                have rp6 := rp4.drewN nq
                have rr6 := rr4.drewN nq
                have rn6 := rn4.drewN nq
                have rl6 := rl4.drewN nq
                have rx6 := rx4.drewN nq
                have hb6 := bdrew hb4 nq
                rw [← hW6] at rp6 rr6 rn6 rl6 rx6 hb6
                rw [← hW6]
                clear hW6 rp4 rr4 rn4 rl4 rx4 hb4 b1 r1 c1 x1
                have l1 := rl6.one
                go_wp2_with fail
                go_roundw
                case rel =>
                  have es : ((len : Int) * 2) = ((len + len : Nat) : Int) := by omega
                  rw [es]
                  refine ⟨_, w1.heap.size, ps', _, len + len, rfl, ⟨rp6.alloc _, rr6.alloc _, rn6.alloc _, Row.one_new _ _ _, rx6.alloc _, lp, lr, ?_, xlo, ?_, nxp, hb6.alloc hb6.size _, Hst.out, S.size, S.nodup, S.range, by omega, by omega⟩, by omega⟩
                  · have := rp6.lt; omega
                  · have := rp6.lt; omega
                case measure =>
                  have es : ((len : Int) * 2) = ((len + len : Nat) : Int) := by omega
                  have m1 := lenAt_eq (Row.one_new W6 3 (.int .i64 ((len + len : Nat) : Int)))
                  have m2 := lenAt_eq St.out.rl
                  rw [← es] at m1
                  show k + 1 - lenAt _ _ < k + 1 - lenAt _ _
                  rw [m1]
                  show _ < k + 1 - lenAt (.pointer (some ⟨gl, 0, none⟩)) wo
                  rw [m2]
                  omega
end Go.Proofs.YtohadkmaemmfgaaGreatDoor.Bwt
