/- The walk of the law BwtSearches; an array parameter of bytes opened. -/
import Derived.Test.YtoodfmilleodaaaCg
import Derived.WideKeyArr2
namespace Go.Proofs.Ytoodfmilleodaaa
open Go.RowKit Go.Proofs Go.Sort
set_option linter.unusedVariables false

set_option maxHeartbeats 400000 in
theorem hasPrefix_any (A B : Option Addr) (c d n m : Nat) (xs ys : List UInt8) (w : World) (hx : Bytes w A n c xs) (hy : Bytes w B m d ys) (hn : n ≤ 1000000000) (hm : m ≤ 1000000000) :
    Calls Try.prog 19 #[.slice A n c, .slice B m d] w fun e w' => e = .returned (.bool (begins ys xs)) ∧ w' = w := by
  have hl := hy.1
  by_cases h : m ≤ n
  · have h' : decide ((m : Int) ≤ (n : Int)) = true := by simp; omega
    obtain ⟨r1, hx1⟩ := hx.cut_h tB eB sB (m : Int) (by omega) (by omega)
    have hfin : Hid (decide (xs.take m = ys) = begins ys xs) := by show _ = _; unfold begins; rw [hl]
    have hcal := equalB_any _ _ _ _ _ _ _ _ w hx1 hy
    rw [Int.toNat_natCast] at hcal
    have Hcal := Lib.hid hcal; clear hcal hl
    go_enter Try.func19, Try.ntmps19
    go_wp2_with fail
    refine Hcal.out.mono ?_
    rintro e w1 ⟨rfl, hw1⟩
    obtain rfl : w = w1 := hw1.symm
    go_wp2_with fail
    go_ret
    exact ⟨ret_bool hfin.out, rfl⟩
  · have h' : decide ((m : Int) ≤ (n : Int)) = false := by simp; omega
    have hfin : Hid (begins ys xs = false) := by
      apply decide_eq_false
      intro h
      have h1 := congrArg List.length h
      have h2 := hx.1
      simp at h1
      omega
    clear hl
    go_enter Try.func19, Try.ntmps19
    go_wp2_with fail
    go_ret
    exact ⟨ret_bool hfin.out.symm, rfl⟩
theorem occTo_next' (s pat : List UInt8) (k : Nat) : (occTo s pat (k + 1) : Int) = occTo s pat k + (if begins pat (s.drop k) = true then 1 else 0 : Int) := by
  rw [occTo]
  unfold begins
  by_cases h : (s.drop k).take pat.length = pat
  · rw [if_pos h, if_pos (decide_eq_true h)]; push_cast; rfl
  · rw [if_neg h, if_neg (by rw [decide_eq_false h]; simp)]; push_cast; rfl
theorem occTo_longer (s pat : List UInt8) (c : UInt8) : ∀ k, occTo s (pat ++ [c]) k ≤ occTo s pat k
  | 0 => Nat.le_refl _
  | k + 1 => by
    rw [occTo, occTo]
    have := occTo_longer s pat c k
    by_cases h : (s.drop k).take (pat ++ [c]).length = pat ++ [c]
    · have h2 : (s.drop k).take pat.length = pat := by
        have := congrArg (List.take pat.length) h
        rw [List.take_take, List.take_left', List.length_append] at this
        · rwa [Nat.min_eq_left (by omega)] at this
        · rfl
      rw [if_pos h, if_pos h2]; omega
    · rw [if_neg h]
      omega
theorem occN_longer (s pat : List UInt8) (c : UInt8) : occN s (pat ++ [c]) ≤ occN s pat := by
  rw [← occTo_all s (pat ++ [c]) (s.length + 1) (by omega) (by omega), ← occTo_all s pat (s.length + 1) (by omega) (by omega)]
  exact occTo_longer s pat c _
theorem cnt_fwd {bs : List UInt8} (hl : bs.length ≤ 65536) {pat : List UInt8} (hp : pat.length ≤ 65536) : cntRes (fwdL bs) (primN bs : Int) pat = (occN bs pat : Int) ∧ cntErr (fwdL bs) (primN bs : Int) pat = 0 := by
  have h1 := fwdL_length bs
  have h2 := primN_le bs
  have hw : wl (primN bs) (fwdL bs) = (fwdL bs).length := by rw [wl_fwd, h1]
  have he : cntErr (fwdL bs) (primN bs : Int) pat = 0 := by
    unfold cntErr
    rw [(inv_ok (by omega) (by omega) hw).2, if_neg (by simp), if_neg (by omega)]
  refine ⟨?_, he⟩
  unfold cntRes
  rw [if_pos he, Int.toNat_natCast, cnt_occ (by omega) hw, strW_fwd]
theorem fwdRes_short {bs : List UInt8} (hl : bs.length ≤ 65536) : fwdRes bs = (fwdL bs, primN bs, 0) := by
  unfold fwdRes
  rw [if_neg (by omega)]
theorem pairB (w : World) (t : TypeId) (x y : Value) : (w.alloc (.cells #[x, y] t)).cell? ⟨w.heap.size, 0, none⟩ = some x ∧ (w.alloc (.cells #[x, y] t)).cell? ⟨w.heap.size, 1, none⟩ = some y := by
  constructor <;> simp
theorem encB_val (v : UInt8) : encB v = .int .u8 (v.toNat : Int) := rfl

set_option maxRecDepth 100000 in
set_option maxHeartbeats 2000000 in
theorem bwtSearches_any (A : Option Addr) (n c X Y : Nat) (M : UInt8) (bs : List UInt8) (w : World) (hx : Bytes w A n c bs) (hX : X ≤ 255) (hY : Y ≤ 255) :
    Calls Try.prog 4 #[.slice A n c, .agg #[.int .u8 (X : Int), .int .u8 (Y : Int)], .int .u8 (M.toNat : Int)] w fun e w' => e = .returned (.bool true) ∧ Below w.heap.size w w' := by
  have Hn := Lib.hid hx.1
  have g0 : Below w.heap.size w (w.alloc (.cells #[.int .u8 (X : Int), .int .u8 (Y : Int)] 35)) := balloc (Below.refl _ _) _
  by_cases h1 : 200 < n
  · have d1 : decide ((200 : Int) < (n : Int)) = true := by simp; omega
    have d1' : decide (200 < n) = true := by simp; omega
    go_enter Try.func4, Try.ntmps4
    go_wp2_with fail
    refine (awake_any _).mono ?_
    rintro e w1 ⟨rfl, hb1⟩
    go_wp2_with fail
    go_ret
    exact ⟨rfl, g0.trans (hb1.mono g0.size)⟩
  · have d1 : decide ((200 : Int) < (n : Int)) = false := by simp; omega
    have d1' : decide (200 < n) = false := by simp; omega
    obtain ⟨cX, cY⟩ := pairB w 35 (.int .u8 (X : Int)) (.int .u8 (Y : Int))
    have hS0 : w.heap.size < (w.alloc (.cells #[.int .u8 (X : Int), .int .u8 (Y : Int)] 35)).heap.size := by simp
    go_enter Try.func4, Try.ntmps4
    go_wp2_with fail
    obtain ⟨w0, hw0⟩ : ∃ w0, w0 = w.alloc (.cells #[.int .u8 (X : Int), .int .u8 (Y : Int)] 35) := ⟨_, rfl⟩
    rw [← hw0] at g0 cX cY hS0 ⊢
    clear hw0
    have hx0 := hx.below g0
    have h1 := forward_any A n c bs w0 hx0 (by omega)
    rw [fwdRes_short (by rw [Hn.out]; omega)] at h1
    have H1 := Lib.hid h1; clear h1
    refine H1.out.mono ?_
    rintro e w1 ⟨A1, n1, c1, rfl, k1, hb1⟩
    clear H1
    have hl1 := fwdL_length bs
    rw [Hn.out, k1.1] at hl1
    subst hl1
    have b1 := g0.trans (hb1.mono g0.size)
    have hx1 := hx0.below hb1
    have cX1 := (hb1.cell (p := ⟨w.heap.size, 0, none⟩) hS0).trans cX
    have cY1 := (hb1.cell (p := ⟨w.heap.size, 1, none⟩) hS0).trans cY
    have hrX := rem_nat X n1
    have hrY : (Y : Int).tmod 9 = ((Y % 9 : Nat) : Int) := rem_nat Y 8
    have hi : X % (n1 + 1) ≤ n1 := by have := Nat.mod_lt X (by omega : 0 < n1 + 1); omega
    have hj : Y % 9 ≤ 8 := by have := Nat.mod_lt Y (by omega : 0 < 9); omega
    obtain ⟨i, hie⟩ : ∃ i, i = X % (n1 + 1) := ⟨_, rfl⟩
    obtain ⟨j, hje⟩ : ∃ j, j = Y % 9 := ⟨_, rfl⟩
    rw [← hie] at hrX hi
    rw [← hje] at hrY hj
    clear hie hje
    obtain ⟨m, hm⟩ : ∃ m, m = min n1 (i + j) := ⟨_, rfl⟩
    have hmin : min (n1 : Int) ((i : Int) + (j : Int)) = (m : Int) := by omega
    obtain ⟨A2, r2, k2⟩ := hx1.cut_lh tB eB sB (i : Int) (m : Int) (by omega) (by omega) (by omega)
    have hml : m - i ≤ n1 := by omega
    clear hm
    rw [Int.toNat_natCast, Int.toNat_natCast] at k2
    simp only [Int.toNat_natCast] at r2
    obtain ⟨pt, hpt⟩ : ∃ pt, pt = (bs.drop i).take (m - i) := ⟨_, rfl⟩
    rw [← hpt] at k2
    clear hpt
    obtain ⟨l, hl⟩ : ∃ l, l = m - i := ⟨_, rfl⟩
    rw [← hl] at k2 r2 hml
    clear hl
    have H2 := Lib.hid (clone_any A2 l (c - i) pt w1 k2 (by omega))
    go_wp2_with fail
    refine H2.out.mono ?_
    rintro e w2 ⟨A3, n3, c3, rfl, ho3, hb2⟩
    have k3 := ho3.bytesB
    have hn3 : n3 = l := by rw [← k3.1, k2.1]
    subst hn3
    have Hp := Lib.hid k3.1
    have b2 := b1.trans (hb2.mono b1.size)
    have hx2 := hx1.below hb2
    have k12 := k1.below hb2
    have h3 := count_any A1 A3 n1 c1 n3 c3 (primN bs : Int) (fwdL bs) pt w2 k12 k3 (by omega) (by omega)
    rw [(cnt_fwd (by rw [Hn.out]; omega) (by rw [Hp.out]; omega)).1, (cnt_fwd (by rw [Hn.out]; omega) (by rw [Hp.out]; omega)).2] at h3
    have H3 := Lib.hid h3
    clear h3 H2 r2 k2 cX1 cY1 cX cY hrX hrY hmin ho3
    go_wp2_with fail
    refine H3.out.mono ?_
    rintro e w3 ⟨rfl, hb3⟩
    have b3 := b2.trans (hb3.mono b2.size)
    have hx3 := hx2.below hb3
    have k13 := k12.below hb3
    have k33 := k3.below hb3
    have H4 := Lib.hid (clone_any A3 n3 c3 pt w3 k33 (by omega))
    clear H3
    go_wp2_with fail
    refine H4.out.mono ?_
    rintro e w4 ⟨A5, n5, c5, rfl, ho5, hb4⟩
    have hn5 : n5 = n3 := by rw [← ho5.bytesB.1, k3.1]
    subst hn5
    have b4 := b3.trans (hb4.mono b3.size)
    have hx4 := hx3.below hb4
    have k14 := k13.below hb4
    have k34 := k33.below hb4
    have hv : Hid (encB M = .int .u8 (M.toNat : Int)) := rfl
    have m1 : Hid (n5 + 1 ≤ maxLen ∧ (n5 + 1) * 1 ≤ 140737488355328) := ⟨by simp [maxLen]; omega, by omega⟩
    have hB4 := hb4.size
    clear H4
    go_wp2_with (at_builtin; refine wpList_pushv (enc := encB) rfl (.tmp 59) (.tmp 61) rfl uB infoB encB_one rfl rfl ho5 hB4 M _ hv.out rfl m1.out.1 m1.out.2 ?_; intro A7 c7 W7 ho7 hb7)
    have hb37 := hb4.trans hb7
    have b7 := b3.trans (hb37.mono b3.size)
    have hx7 := hx3.below hb37
    have k17 := k13.below hb37
    have k37 := k33.below hb37
    have k7 := ho7.bytesB
    have h8 := count_any A1 A7 n1 c1 (n5 + 1) c7 (primN bs : Int) (fwdL bs) (pt ++ [M]) W7 k17 k7 (by omega) (by omega)
    rw [(cnt_fwd (by rw [Hn.out]; omega) (by rw [k7.1]; omega)).1, (cnt_fwd (by rw [Hn.out]; omega) (by rw [k7.1]; omega)).2] at h8
    have H8 := Lib.hid h8
    clear h8 hx4 k14 k34 ho5 hb4 hb7 b4 m1 hv ho7 k7 hB4
    refine H8.out.mono ?_
    rintro e w8 ⟨rfl, hb8⟩
    have b8 := b7.trans (hb8.mono b7.size)
    have hx8 := hx7.below hb8
    have k38 := k37.below hb8
    have hle := Lib.hid (occN_longer bs pt M)
    clear H8 hx7 k17 k37 b7 hb8 hb37 hx3 k13 k33 b3 hb3 b2 hx2 k12 hb2 b1 hx1 hb1 k1 hx0 g0 k3 hS0
    have hoe : Hid (occTo bs pt (n1 + 1 - n5) = occN bs pt) := by show _ = _; unfold occN; rw [Hn.out, Hp.out]
    obtain ⟨P, hP⟩ : ∃ P, P = occN bs pt := ⟨_, rfl⟩
    obtain ⟨Q, hQ⟩ : ∃ Q, Q = occN bs (pt ++ [M]) := ⟨_, rfl⟩
    rw [← hP] at hle hoe ⊢
    rw [← hQ] at hle ⊢
    clear hP hQ
    have q1 : decide ((Q : Int) ≤ (P : Int)) = true := by have := hle.out; simp; omega
    have q2 : decide ((0 : Int) ≤ (Q : Int)) = true := by simp
    have q3 := eqi (P : Int)
    go_wp2_with fail
    go_loop [16, 72] (fun s r => ∃ k : Nat, k ≤ n1 + 1 - n5 ∧ s = .int .i64 (occTo bs pt k : Int) ∧ r = .int .i64 (k : Int)) (fun _ r => n1 + 1 - (intOf r).toNat)
    case atStart => exact ⟨0, Nat.zero_le _, rfl, rfl⟩
    case round =>
      obtain ⟨k, hk, rfl, rfl⟩ := hrel
      by_cases hlt : k < n1 + 1 - n5
      · have e1 : decide ((k : Int) < (n1 : Int) - (n5 : Int) + 1) = true := by simp; omega
        obtain ⟨A9, r9, k9⟩ := hx8.cut_l tB eB sB (k : Int) (by omega) (by omega)
        rw [Int.toNat_natCast] at k9
        simp only [Int.toNat_natCast] at r9
        have hnx := occTo_next' bs pt k
        have hbd := occTo_le bs pt k
        have H9 := Lib.hid (hasPrefix_any _ _ _ _ _ _ _ _ w8 k9 k38 (by omega) (by omega))
        go_wp2_with fail
        refine H9.out.mono ?_
        rintro e w9 ⟨rfl, hw9⟩
        obtain rfl : w8 = w9 := hw9.symm
        clear H9
        cases hbg : begins pt (bs.drop k) with
        | true =>
          rw [hbg, if_pos rfl] at hnx
          have Hnx := Lib.hid hnx
          clear hnx hbg
          go_wp2_with fail
          go_round
          case rel => exact ⟨k + 1, by omega, by rw [Hnx.out], by go_num⟩
          case measure => simp [intOf]; omega
        | false =>
          rw [hbg, if_neg (by simp)] at hnx
          have Hnx := Lib.hid hnx
          clear hnx hbg
          go_wp2_with fail
          go_round
          case rel => exact ⟨k + 1, by omega, by rw [Hnx.out, Int.add_zero], by go_num⟩
          case measure => simp [intOf]; omega
      · have e1 : decide ((k : Int) < (n1 : Int) - (n5 : Int) + 1) = false := by simp; omega
        obtain rfl : k = n1 + 1 - n5 := by omega
        rw [hoe.out]
        go_wp2_with fail
        refine (awake_any _).mono ?_
        rintro e wz ⟨rfl, hbz⟩
        go_wp2_with fail
        go_ret
        exact ⟨rfl, b8.trans (hbz.mono b8.size)⟩

section
open Go.ChangeShapes Go.WideShapes
variable {H : Type} {enc : TypeId × Value → H} {P : Program} {k e : TypeId} {n : Nat} {q : IntKind} {W : World} {base : Nat} {sp : Nat → Bool} {held : Bool}
theorem mapM_each {α β : Type} {f : α → Option β} : ∀ (L : List α) (ys : List β), L.mapM f = some ys → ∀ i ∈ L, ∃ y, f i = some y
  | [], _, _, i, hi => by simp at hi
  | a :: L, ys, h, i, hi => by
    rw [List.mapM_cons] at h
    simp only [bind, Option.bind_eq_some_iff, pure, Option.some.injEq] at h
    obtain ⟨y, hy, zs, hzs, rfl⟩ := h
    rcases List.mem_cons.1 hi with rfl | hi
    · exact ⟨y, hy⟩
    · exact mapM_each L zs hzs i hi
theorem ints_each : ∀ (l : List Value), (∀ v ∈ l, ∃ z, v = .int q z ∧ (Lit.int q z).wf = true) → ∃ zs : List Int, l = zs.map (Value.int q) ∧ ∀ z ∈ zs, (Lit.int q z).wf = true
  | [], _ => ⟨[], rfl, fun z hz => by simp at hz⟩
  | v :: l, h => by
    obtain ⟨z, rfl, hz⟩ := h v (by simp)
    obtain ⟨zs, rfl, hzs⟩ := ints_each l (fun v hv => h v (by simp [hv]))
    refine ⟨z :: zs, rfl, fun y hy => ?_⟩
    rcases List.mem_cons.1 hy with rfl | hy
    · exact hz
    · exact hzs y hy
/-- an array of numbers that came in. -/
theorem open_arr_ints {r : Reach} {b0 : Nat} {v : Value} {d : DataW H} {ps : List MemPlace} (hu : P.underlying k = some (.array n e)) (he : P.underlying e = some (.int q)) (hone : P.cellsOf e = 1) (hsize : P.cellsOf k = n)
    (hv : Value.okWide P W r b0 k v) (hd : DataW.Trod enc P W base sp held k v d ps) : ∃ zs : List Int, v = .agg (zs.map (Value.int q)).toArray ∧ zs.length = n ∧ ∀ z ∈ zs, (Lit.int q z).wf = true := by
  simp only [Value.okWide, hu] at hv
  obtain ⟨xs, rfl, h2, _⟩ := hv
  rw [hsize] at h2
  obtain ⟨fuel, hf⟩ := hd
  cases fuel with
  | zero => simp [DataW.trod] at hf
  | succ m =>
    rw [DataW.trod_step] at hf
    unfold DataW.trodStep at hf
    simp only [hu, Value.cells] at hf
    rw [if_pos (by rw [hsize]; simpa using h2)] at hf
    simp only [Option.map_eq_some_iff] at hf
    obtain ⟨ys, hy, e1⟩ := hf
    have hall := mapM_each _ ys hy
    obtain ⟨zs, hz, hwf⟩ := ints_each (q := q) xs.toList (fun v hv => by
      obtain ⟨i, hi, rfl⟩ := List.getElem_of_mem hv
      obtain ⟨y, hy⟩ := hall i (by simp at hi ⊢; omega)
      obtain ⟨z, hz, _, hw⟩ := DataW.trod_int he hy
      refine ⟨z, ?_, hw⟩
      rw [hone, Nat.mul_one, List.drop_eq_getElem_cons (by simpa using hi), List.take_succ_cons, List.take_zero] at hz
      injection hz)
    have hx : xs = (zs.map (Value.int q)).toArray := by rw [← hz]
    refine ⟨zs, by rw [hx], ?_, hwf⟩
    rw [hx] at h2
    simpa using h2
end
end Go.Proofs.Ytoodfmilleodaaa
