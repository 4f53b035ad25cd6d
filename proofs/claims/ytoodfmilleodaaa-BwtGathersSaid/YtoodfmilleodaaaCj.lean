/- bytes.Repeat, bytes.IndexByte; the walk of the law BwtGathers. -/
import Derived.Test.YtoodfmilleodaaaCh
import Derived.Test.YtoodfmilleodaaaCi
import Derived.BigRegion
import Derived.Lib.MakeNoZero
import Derived.Lib.BytesEntry
namespace Go.Proofs.Ytoodfmilleodaaa
open Go.RowKit Go.Proofs Go.Sort
set_option linter.unusedVariables false

/-- a buffer of n bytes, the first k of which are x's. -/
def Buf (w : World) (g n k : Nat) (x : List UInt8) : Prop :=
  g < w.heap.size ∧ (∀ j, j < n → (w.cell? ⟨g, j, none⟩).isSome = true) ∧ (∀ j, w.frozen? ⟨g, j, none⟩ = false) ∧ ∀ j, j < k → w.cell? ⟨g, j, none⟩ = some (.int .u8 (gb x j))
def chunkV (x : List UInt8) (d : Nat) : List Value := (List.range d).map fun j => .int .u8 (gb x j)
theorem chunkV_length (x : List UInt8) (d : Nat) : (chunkV x d).length = d := by simp [chunkV]
theorem chunkV_get {x : List UInt8} {d j : Nat} (h : j < (chunkV x d).length) : (chunkV x d)[j] = .int .u8 (gb x j) := by simp [chunkV]
theorem isSome_cells (b : Nat) : ∀ (vs : List Value) (o : Nat) (w : World) (q : Addr), (w.cell? q).isSome = true → ((w.setCells b o vs).cell? q).isSome = true
  | [], _, _, _, h => h
  | v :: r, o, w, q, h => isSome_cells b r (o + 1) _ q (by
    obtain ⟨u, hu⟩ := Option.isSome_iff_exists.1 h
    obtain ⟨v', hv'⟩ := cell?_setCell_some (w := w) (p := ⟨b, o, none⟩) (x := v) (q := q) (v := u) hu
    rw [hv']; rfl)
theorem size_cells (b : Nat) : ∀ (vs : List Value) (o : Nat) (w : World), (w.setCells b o vs).heap.size = w.heap.size
  | [], _, _ => rfl
  | v :: r, o, w => by rw [World.setCells, size_cells b r]; simp
theorem Buf.copy {w : World} {g n k d : Nat} {x : List UInt8} (h : Buf w g n k x) (hd : k + d ≤ n) (per : ∀ j, j < d → gb x (k + j) = gb x j) : Buf (w.setCells g k (chunkV x d)) g n (k + d) x := by
  obtain ⟨h1, h2, h3, h4⟩ := h
  refine ⟨by rw [size_cells]; exact h1, fun j hj => isSome_cells g _ _ _ _ (h2 j hj), fun j => by rw [World.frozen?_setCells]; exact h3 j, fun j hj => ?_⟩
  rcases Nat.lt_or_ge j k with hjk | hjk
  · rw [World.cell?_setCells_out g _ _ _ _ (fun _ _ => Or.inl hjk)]
    exact h4 j hjk
  · have := World.cell?_setCells_in g (chunkV x d) k w (fun i hi => h2 _ (by rw [chunkV_length] at hi; omega)) (j - k) (by rw [chunkV_length]; omega)
    rw [show k + (j - k) = j by omega] at this
    rw [this, chunkV_get, ← per (j - k) (by omega), show k + (j - k) = j by omega]
theorem Buf.run {w : World} {g n k : Nat} {x : List UInt8} (h : Buf w g n k x) {P : Program} {t e ty : TypeId} (ht : P.underlying t = some (.slice e)) (hs : (P.info? e).map (·.size) = some 1) (c c' : Nat) :
    (Builtin.copy_ #[t, t] ty #[.slice (some ⟨g, k, none⟩) (n - k) c, .slice (some ⟨g, 0, none⟩) k c']).run P w = .ok (.int .i64 ((min k (n - k) : Nat) : Int)) (w.setCells g k (chunkV x (min k (n - k)))) := by
  have hl := chunkV_length x (min k (n - k))
  have := run_copy_cells (P := P) w t t ty e g k (n - k) c ⟨g, 0, none⟩ k c' (chunkV x (min k (n - k))) ht hs (by rw [hl]) (fun j v hv => ?_) (fun j hj => h.2.1 _ (by omega)) (fun j hj => h.2.2.1 _) (fun v hv => ?_)
  · rw [hl] at this; exact this
  · obtain ⟨hj, rfl⟩ := List.getElem?_eq_some_iff.1 hv
    rw [chunkV_get, addr_add, Nat.zero_add]
    exact h.2.2.2 j (by omega)
  · obtain ⟨j, _, rfl⟩ := List.mem_map.1 hv
    rfl
section
variable {P : Program} {o : Oper} {a : Act} {Q : Exit → Act → World → Prop} {w : World}
theorem wp_copyr {K : Act → World → Prop} (d s : Operand) (t t' : TypeId)
    (ho : o.op = .call { callee := .builtin .copy, args := #[d, s], argTypes := #[t, t'] }) (v u : Value) (hd : a.eval d = v) (hs : a.eval s = u) {v' : Value} {w' : World}
    (hr : (Builtin.copy_ #[t, t'] o.type #[v, u]).run P w = .ok v' w') (h : K (a.put o.dst v') w') : o.wp P a w K Q := by
  unfold Oper.wp execOp
  simp only [ho, resolve, invoke, builtin, Sem.run_bind, Sem.run_pure, Result.andThen_ok, List.map_toArray, List.map_cons, List.map_nil, hd, hs, hr]
  exact h
theorem wpList_copyr {ops : Array Oper} {rest : List Oper} (hgd : o.guard = none) (d s : Operand) (t t' : TypeId)
    (ho : o.op = .call { callee := .builtin .copy, args := #[d, s], argTypes := #[t, t'] }) (v u : Value) (hd : a.eval d = v) (hs : a.eval s = u) {v' : Value} {w' : World}
    (hr : (Builtin.copy_ #[t, t'] o.type #[v, u]).run P w = .ok v' w') (h : wpList P ops Q rest (a.put o.dst v') w') : wpList P ops Q (o :: rest) a w :=
  wpList_plain hgd fun _ hK => wp_copyr d s t t' ho v u hd hs hr (hK _ _ h)
theorem step_copyr {ops : Array Oper} {K : Act → World → Prop} {E : Prop} (hgd : o.guard = none) (d s : Operand) (t t' : TypeId)
    (ho : o.op = .call { callee := .builtin .copy, args := #[d, s], argTypes := #[t, t'] }) (v u : Value) (hd : a.eval d = v) (hs : a.eval s = u) {v' : Value} {w' : World}
    (hr : (Builtin.copy_ #[t, t'] o.type #[v, u]).run P w = .ok v' w') (h : K (a.put o.dst v') w') : if Region.wanted o (yielded ops a.tmps) = true then Oper.wp P o a w K Q else E := by
  rw [if_pos (by simp [Region.wanted, hgd])]
  exact wp_copyr d s t t' ho v u hd hs hr h
end
theorem sizeB : (Try.prog.info? 5).map (·.size) = some 1 := by kernel_rfl
theorem rep_per {u : List UInt8} {m k j : Nat} (hk : u.length ∣ k) (h : k + j < m * u.length) : gb (repL u m) (k + j) = gb (repL u m) j := by
  unfold gb
  rw [repL_get m (k + j) h, repL_get m j (by omega), Nat.add_mod, Nat.mod_eq_zero_of_dvd hk, Nat.zero_add, Nat.mod_mod]

theorem Buf.start (w : World) (cs : Array Value) (e : TypeId) (n q : Nat) (x : List UInt8) (h : n ≤ cs.size) : Buf ((w.alloc (.cells cs e)).drewN q) w.heap.size n 0 x := by
  have e0 : ((w.alloc (.cells cs e)).drewN q).heap[w.heap.size]? = some (.cells cs e (0, 0)) := World.alloc_heap_new w _
  refine ⟨by show _ < (w.alloc _).heap.size; simp, fun j hj => ?_, fun j => ?_, fun j hj => absurd hj (by omega)⟩
  · unfold World.cell?
    simp only [e0]
    simp
    omega
  · unfold World.frozen?
    simp only [e0]
    simp
theorem Buf.first {w : World} {g n c : Nat} {x u : List UInt8} (h : Buf w g n 0 x) {A : Option Addr} {l c' : Nat} (hx : Bytes w A l c' u) (h0 : 0 < l) (hl : l ≤ n) {P : Program} {t e ty : TypeId} (ht : P.underlying t = some (.slice e)) (hs : (P.info? e).map (·.size) = some 1) :
    (Builtin.copy_ #[t, t] ty #[.slice (some ⟨g, 0, none⟩) n c, .slice A l c']).run P w = .ok (.int .i64 (l : Int)) (w.setCells g 0 (chunkV u l)) := by
  have hlen := chunkV_length u l
  obtain ⟨b, off, rfl, hb, hc⟩ := hx.get h0
  have := run_copy_cells (P := P) w t t ty e g 0 n c ⟨b, off, none⟩ l c' (chunkV u l) ht hs (by rw [hlen]; exact (Nat.min_eq_left hl).symm) (fun j v hv => ?_) (fun j hj => by rw [Nat.zero_add]; exact h.2.1 _ (by omega)) (fun j hj => by rw [Nat.zero_add]; exact h.2.2.1 _) (fun v hv => ?_)
  · rw [hlen] at this; exact this
  · obtain ⟨hj, rfl⟩ := List.getElem?_eq_some_iff.1 hv
    rw [chunkV_get, addr_add]
    exact hc j (by omega)
  · obtain ⟨j, _, rfl⟩ := List.mem_map.1 hv
    rfl
theorem Buf.begin {w : World} {g n l : Nat} {x u : List UInt8} (h : Buf w g n 0 x) (hl : l ≤ n) (hu : ∀ j, j < l → gb x j = gb u j) : Buf (w.setCells g 0 (chunkV u l)) g n l x := by
  have e : chunkV u l = chunkV x l := by
    unfold chunkV
    refine List.map_congr_left fun j hj => ?_
    rw [hu j (by simpa using hj)]
  rw [e]
  have := h.copy (d := l) (by omega) (fun j _ => by rw [Nat.zero_add])
  rwa [Nat.zero_add] at this
theorem Buf.drewN {w : World} {g n k : Nat} {x : List UInt8} (h : Buf w g n k x) (q : Nat) : Buf (w.drewN q) g n k x := h
theorem Buf.bytes {w : World} {g n c : Nat} {x : List UInt8} (h : Buf w g n n x) (hx : x.length = n) (hc : n ≤ c) : Bytes w (some ⟨g, 0, none⟩) n c x := ⟨hx, hc, fun _ => ⟨g, 0, rfl, h.1, fun i hi => by rw [Nat.zero_add]; exact h.2.2.2 i hi⟩⟩
theorem setCells_drew (b : Nat) : ∀ (vs : List Value) (o q : Nat) (w : World), (w.drewN q).setCells b o vs = (w.setCells b o vs).drewN q
  | [], _, _, _ => rfl
  | v :: r, o, q, w => setCells_drew b r (o + 1) q (w.setCell ⟨b, o, none⟩ v)

set_option maxRecDepth 100000 in
set_option maxHeartbeats 2000000 in
theorem repeat_any (A : Option Addr) (l c m : Nat) (u : List UInt8) (w : World) (hx : Bytes w A l c u) (hl : 0 < l) (hl2 : l ≤ 100) (hm : 0 < m) (hm2 : m ≤ 50) :
    Calls Try.prog 33 #[.slice A l c, .int .i64 (m : Int)] w fun e w' => ∃ A' c', e = .returned (.slice A' (l * m) c') ∧ Bytes w' A' (l * m) c' (repL u m) ∧ Below w.heap.size w w' := by
  have Hl := Lib.hid hx.1
  have hlm : l * m ≤ 5000 := Nat.le_trans (Nat.mul_le_mul hl2 hm2) (by omega)
  have hlm0 : l ≤ l * m := Nat.le_mul_of_pos_right l hm
  have hmul := Try.bits_Mul l m (by omega) (by omega) w
  rw [Nat.div_eq_of_lt (by omega), Nat.mod_eq_of_lt (by omega)] at hmul
  obtain ⟨n, hn⟩ : ∃ n, n = l * m := ⟨_, rfl⟩
  have Hn := Lib.hid hn
  rw [← hn] at hlm hlm0 hmul ⊢
  clear hn
  have Hmul := Lib.hid hmul; clear hmul
  obtain ⟨cs, hrunM, hle, _⟩ := Lib.run_makeNoZero (P := Try.prog) w #[3] 22 5 uB n (by omega)
  have hcall : (callFunc 55 #[.int .i64 (n : Int)]).run Try.prog w = .ok (.value (.slice (some ⟨w.heap.size, 0, none⟩) n cs.size)) ((w.alloc (.cells cs 5)).drewN 2) := by
    rw [run_callFunc_extern Try.func55 (by kernel_rfl) (by kernel_rfl) (by kernel_rfl) (e := Extern.BytealgMakeNoZero.makeNoZero #[3] #[22]) (by kernel_rfl), hrunM]
    rfl
  clear hrunM
  have d1 : ((m : Int) == 0) = false := by simp; omega
  have d2 : decide ((m : Int) < 0) = false := by simp
  have d3 : ((l : Int) == 0) = false := by simp; omega
  have d4 : decide ((8192 : Int) < (n : Int)) = false := by simp; omega
  have d4' : decide (8192 < n) = false := by simp; omega
  have d5 : decide ((9223372036854775807 : Int) < (n : Int)) = false := by simp; omega
  have i0 : (0 : Int) ≤ (n : Int) := by omega
  have i1 : (n : Int) ≤ (cs.size : Int) := by omega
  go_enter Try.func33, Try.ntmps33
  go_wp2_with fail
  refine Hmul.out.mono ?_
  rintro e w1 ⟨rfl, hw1⟩
  obtain rfl : w = w1 := hw1.symm
  clear Hmul
  have hbs : ∀ j, j < l → gb (repL u m) j = gb u j := fun j hj => by
    unfold gb
    have : j < m * u.length := by rw [Hl.out, Nat.mul_comm, ← Hn.out]; omega
    rw [repL_get m j this, Nat.mod_eq_of_lt (by rw [Hl.out]; exact hj)]
  have B0 := Buf.start w cs 5 n 2 (repL u m) hle
  have g0 : Below w.heap.size w ((w.alloc (.cells cs 5)).drewN 2) := bdrew (balloc (Below.refl _ _) _) 2
  have hr0 := B0.first (c := n) (hx.below g0) hl hlm0 (P := Try.prog) (ty := 3) uB sizeB
  have B1 := B0.begin hlm0 hbs
  have g1 := below_cells (Nat.le_refl w.heap.size) (chunkV u l) 0 _ g0
  have HB1 := Lib.hid B1
  have Hg1 := Lib.hid g1
  have Hb := Lib.hid hbs
  clear B0 g0 B1 g1 hbs
  go_wp2_with (at_builtin; refine wpList_copyr rfl _ _ _ _ rfl _ _ rfl rfl hr0 ?_)
  clear hr0 hcall
  go_loopw [10] (fun i wr => ∃ k : Nat, l ≤ k ∧ k ≤ n ∧ i = .int .i64 (k : Int) ∧ Hid (u.length ∣ k ∨ k = n) ∧ Hid (Buf wr w.heap.size n k (repL u m)) ∧ Hid (Below w.heap.size w wr)) (fun i _ => n - (intOf i).toNat)
  case atStart => exact ⟨l, Nat.le_refl _, hlm0, rfl, .inl (by rw [Hl.out]; exact Nat.dvd_refl _), HB1.out, Hg1.out⟩
  case round =>
    clear HB1 Hg1
    obtain ⟨k, hlk, hk, rfl, HD, HB, HG⟩ := hrel
    by_cases hlt : k < n
    · have e1 : decide ((k : Int) < (n : Int)) = true := by simp; omega
      have hmin : min (k : Int) (n : Int) = (k : Int) := by omega
      have s1 := run_cut_l (P := Try.prog) (A := some ⟨w.heap.size, 0, none⟩) (n := n) (c := n) tB eB sB (k : Int) (by omega) (by omega)
      have s2 := run_cut_h (P := Try.prog) (A := some ⟨w.heap.size, 0, none⟩) (n := n) (c := n) tB eB sB (k : Int) (by omega) (by omega)
      rw [Int.toNat_natCast, if_neg (by omega), show (Option.map (fun x => x.add k) (some (⟨w.heap.size, 0, none⟩ : Addr))) = some ⟨w.heap.size, k, none⟩ by simp [addr_add]] at s1
      rw [Int.toNat_natCast] at s2
      obtain ⟨d, hd⟩ : ∃ d, d = min k (n - k) := ⟨_, rfl⟩
      have hcp : ∀ q, (Builtin.copy_ #[22, 22] 3 #[.slice (some ⟨w.heap.size, k, none⟩) (n - k) (n - k), .slice (some ⟨w.heap.size, 0, none⟩) k n]).run Try.prog (wr.drewN q) = .ok (.int .i64 (d : Int)) ((wr.setCells w.heap.size k (chunkV (repL u m) d)).drewN q) := fun q => by
        rw [hd, ← setCells_drew]; exact (HB.out.drewN q).run uB sizeB (n - k) n
      have B2 := Lib.hid (HB.out.copy (d := d) (by omega) (fun j hj => by
        rcases HD.out with h | h
        · exact rep_per h (by rw [Hl.out, Nat.mul_comm, ← Hn.out]; omega)
        · omega))
      have G2 := Lib.hid (below_cells (Nat.le_refl w.heap.size) (chunkV (repL u m) d) k _ HG.out)
      have D2 : Hid (u.length ∣ k + d ∨ k + d = n) := by
        rcases Nat.le_total k (n - k) with h | h
        · left
          rw [hd, Nat.min_eq_left h]
          rcases HD.out with h2 | h2
          · exact Nat.dvd_add h2 h2
          · omega
        · right
          omega
      have hd0 : 0 < d := by omega
      have hdn : k + d ≤ n := by omega
      obtain ⟨W2, hW2⟩ : ∃ W2, W2 = wr.setCells w.heap.size k (chunkV (repL u m) d) := ⟨_, rfl⟩
      rw [← hW2] at hcp B2 G2
      have hcp1 : (Builtin.copy_ #[22, 22] 3 #[.slice (some ⟨w.heap.size, k, none⟩) (n - k) (n - k), .slice (some ⟨w.heap.size, 0, none⟩) k n]).run Try.prog wr.drew = .ok (.int .i64 (d : Int)) W2.drew := hcp 1
      clear hcp
      clear hW2 hd HB HG HD
      go_wp2_with fail
      go_region
      all_goals
        go_wp2_with fail
        go_roundw
        case rel => exact ⟨k + d, by omega, hdn, by go_num, D2, B2.out.drewN 1, bdrew G2.out 1⟩
        case measure => simp [intOf]; omega
    · have e1 : decide ((k : Int) < (n : Int)) = false := by simp; omega
      obtain rfl : k = n := by omega
      go_wp2_with fail
      go_ret
      exact ⟨_, _, rfl, HB.out.bytes (by rw [repL_length, Hl.out, Nat.mul_comm, ← Hn.out]) (Nat.le_refl _), HG.out⟩
end Go.Proofs.Ytoodfmilleodaaa
