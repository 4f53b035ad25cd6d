/- Ue Uq Ur. -/
import Derived.Test.YtohadkmaemmfgaaGreatDoorRA38
import Derived.Test.YtohadkmaemmfgaaGreatDoorRA20
set_option maxRecDepth 100000
set_option maxHeartbeats 4000000
namespace Go.Proofs.YtohadkmaemmfgaaGreatDoor
open Go.RowKit Go.Proofs
set_option linter.unusedVariables false
set_option linter.unusedSimpArgs false
theorem ref40F_any (A : Option Addr) (n c : Nat) (bs : List UInt8) (w : World) (hx : Bytes w A n c bs) (hn : n ≤ 1000000) :
    Calls Tryz.prog 52 #[.slice A n c] w (RetBytes w (if 65536 < n then [] else callsP 1 bs) (if 65536 < n then 5 else 0)) := by
  have h := change40_any 1 (.inl rfl) A n c bs w hx hn
  generalize (if 65536 < n then [] else callsP 1 bs) = R at h ⊢
  generalize (if 65536 < n then (5 : Int) else 0) = x at h ⊢
  replace h := Lib.hid h
  clear hx hn
  go_enter Tryz.func52, Tryz.ntmps52
  go_wp2_with fail
  refine h.out.mono ?_
  rintro e w1 ⟨A1, n1, c1, rfl, hb, hw⟩
  have HB := Lib.hid (And.intro hb hw)
  clear hb hw
  go_wp2_with fail
  go_ret2
  exact ⟨_, _, _, rfl, HB.out.1, HB.out.2⟩
theorem grownT {w w1 w2 : World} {row : Option Nat} (h : w.grownBy w1 row) (h' : w1.grownBy w2 row) : w.grownBy w2 row :=
  ⟨h'.os.trans h.os, h'.tape.trans h.tape, h'.output.trans h.output, Nat.le_trans h.size h'.size, fun k hk hne => (h'.block k (Nat.lt_of_lt_of_le hk h.size) hne).trans (h.block k hk hne)⟩
theorem own_one (w : World) (e : TypeId) (b : UInt8) : Own encB (w.alloc (.cells #[.int .u8 (b.toNat : Int)] e)) w.heap.size e (some ⟨w.heap.size, 0, none⟩) 1 1 [b] :=
  ⟨rfl, .inr ⟨w.heap.size, 1, #[encB b], rfl, Nat.le_refl _, World.alloc_heap_new w _, Nat.le_refl _, by simp [maxLen], rfl, rfl⟩⟩
theorem own_block_in {α : Type} {enc : α → Value} {w : World} {B : Nat} {e : TypeId} {A : Option Addr} {n c : Nat} {xs : List α} (h : Own enc w B e A n c xs) : ∀ g, (Value.slice A n c).ownBlock = some g → g < w.heap.size := fun g hg => by
  rcases h.2 with ⟨h1, _⟩ | ⟨g', cap, cur, h1, _, h3, _⟩
  · rw [h1] at hg; cases hg
  · rw [h1] at hg
    injection hg with hg
    have hg' : g' = g := hg
    subst hg'
    exact (Array.getElem?_eq_some_iff.1 h3).1
theorem own_past {α : Type} {enc : α → Value} {X Y : World} {B : Nat} {e : TypeId} {A : Option Addr} {n c : Nat} {xs : List α} {row : Option Nat} (h : Own enc X B e A n c xs) (hg : X.grownBy Y row) (hrow : ∀ g, row = some g → g < B) : Own enc Y B e A n c xs := by
  refine ⟨h.1, ?_⟩
  rcases h.2 with h1 | ⟨g, cap, cur, h1, h2, h3, h4⟩
  · exact .inl h1
  · exact .inr ⟨g, cap, cur, h1, h2, (hg.block g (Array.getElem?_eq_some_iff.1 h3).1 (fun e => by have := hrow g e.symm; omega)).trans h3, h4⟩
section
variable {P : Program} {ops : Array Oper} {rest : List Oper} {o : Oper} {a : Act} {w : World} {Q : Exit → Act → World → Prop} {t : TypeId} {A : Option Addr} {n c B : Nat} {e : TypeId} {bs : List UInt8}
theorem wpList_pushg (hgd : o.guard = none) (s x : Operand) (ho : o.op = .call { callee := .builtin .append, args := #[s, x], argTypes := #[t, t] })
    (ht : P.underlying t = some (.slice e)) (hi : (P.info? e).map (fun i => (i.zero, i.size, i.bytes)) = some (some (encB 0), 1, 1))
    (hs : a.eval s = .slice A n c) (hown : Own encB w B e A n c bs) (hB : B ≤ w.heap.size) (y : UInt8) (v : Value) (hv : encB y = v)
    (hx : a.eval x = .slice (some ⟨w.heap.size, 0, none⟩) 1 1) (hl : n + 1 ≤ maxLen) (hby : n + 1 ≤ 140737488355328)
    (h : ∀ A2 c2 w', Own encB w' B e A2 (n + 1) c2 (bs ++ [y]) → Below B w w' → w.grownBy w' (Value.slice A n c).ownBlock → wpList P ops Q rest (a.put o.dst (.slice A2 (n + 1) c2)) w') : wpList P ops Q (o :: rest) a (w.alloc (.cells #[v] e)) := by
  subst hv
  have hb0 : Below w.heap.size w (w.alloc (.cells #[encB y] e)) := (Below.refl _ _).alloc (Nat.le_refl _) _
  have h1 := own_one w e y
  refine wpList_app (enc := encB) hgd s x ho ht hi encB_one rfl hs (hown.below hb0) (Nat.le_trans hB hb0.size) (some ⟨w.heap.size, 0, none⟩) 1 1 [y] 0 rfl (h1.cells 0) hx hl (by omega) fun A2 c2 w' h2 h3 h4 => ?_
  exact h A2 c2 w' h2 ((hb0.mono hB).trans h3) (grownT (World.grownBy_alloc w _ _) h4)
end
theorem r256_next (k : Nat) : (List.range (k + 1)).map UInt8.ofNat = (List.range k).map UInt8.ofNat ++ [UInt8.ofNat k] := by rw [List.range_succ, List.map_append]; rfl
theorem list34_any (w : World) : Calls Tryz.prog 118 #[] w (RetOwn w.heap.size w lst0) := by
  go_enter Tryz.func118, Tryz.ntmps118
  go_wp2_with fail
  go_loopw [1, 2] (fun vo vi wr => ∃ (k c2 : Nat) (A2 : Option Addr), k ≤ 256 ∧ vi = .int .i64 (k : Int) ∧ vo = .slice A2 k c2 ∧ Hid (Own encB wr w.heap.size 5 A2 k c2 ((List.range k).map UInt8.ofNat) ∧ Below w.heap.size w wr)) (fun _ vi _ => 256 - (intOf vi).toNat)
  case atStart => exact ⟨0, 0, none, Nat.zero_le _, rfl, rfl, Lib.hid ⟨Own.nil _ _ _ _, Below.refl _ _⟩⟩
  case round =>
    obtain ⟨k, c2, A2, hk, rfl, rfl, HI⟩ := hrel
    by_cases hlt : k < 256
    · have d1 : decide ((k : Int) < 256) = true := decide_eq_true (by omega)
      have d1' : decide (k < 256) = true := decide_eq_true hlt
      have m1 : Hid (k + 1 ≤ maxLen ∧ k + 1 ≤ 140737488355328) := ⟨by simp [maxLen]; omega, by omega⟩
      have hw8 := wrap8 hlt
      have HNX := Lib.hid (r256_next k)
      obtain ⟨y, hy⟩ : ∃ y, y = UInt8.ofNat k := ⟨_, rfl⟩
      rw [← hy] at hw8 HNX
      clear hy
      go_wp2_with (at_builtin; refine wpList_pushg rfl (.tmp 7) (.tmp 10) rfl uB infoB rfl HI.out.1 HI.out.2.size y _ rfl rfl m1.out.1 m1.out.2 ?_; intro A6 c6 W6 ho6 hb6 hg6)
      have HF6 : Hid (Own encB W6 w.heap.size 5 A6 (k + 1) c6 ((List.range (k + 1)).map UInt8.ofNat) ∧ Below w.heap.size w W6) := ⟨by rw [HNX.out]; exact ho6, HI.out.2.trans hb6⟩
      clear ho6 hb6 hg6
      go_roundw
      case rel => exact ⟨k + 1, c6, A6, by omega, by go_num, rfl, HF6⟩
      case measure => (simp [intOf]) <;> omega
    · obtain rfl : k = 256 := by omega
      have d1 : decide (((256 : Nat) : Int) < 256) = false := rfl
      go_wp2_with fail
      go_ret
      exact RetOwn.mk HI.out.1 HI.out.2
theorem move34_any (A : Option Addr) (n c k : Nat) (l : List UInt8) (w : World) (hx : Bytes w A n c l) (hn : n ≤ 1000000) (hk : k < n) :
    Calls Tryz.prog 119 #[.slice A n c, .int .i64 (k : Int)] w (RetOwn w.heap.size w (mov l k)) := by
  obtain ⟨b, o, rfl, -, hc⟩ := hx.get hk
  obtain ⟨y, hy⟩ : ∃ y, y = bA l k := ⟨_, rfl⟩
  have c1 : w.cell? ⟨b, o + k, none⟩ = some (.int .u8 (y.toNat : Int)) := by rw [hy]; exact hc k hk
  obtain ⟨hcut1, hb1⟩ := hx.cut_h tB eB sB (k : Int) (by omega) (by omega)
  obtain ⟨A2, hcut2, hb2⟩ := hx.cut_l tB eB sB ((k : Int) + 1) (by omega) (by omega)
  have ek : ((k : Int) + 1).toNat = k + 1 := by omega
  rw [Int.toNat_natCast] at hcut1 hb1
  rw [ek] at hcut2 hb2
  have hcap := hx.2.1
  have hm : Hid (mov l k = [y] ++ l.take k ++ l.drop (k + 1)) := by rw [hy]; rfl
  have H1 := Lib.hid hb1
  have H2 := Lib.hid hb2
  have HO := own_one w 5 y
  have HW : Below w.heap.size w (w.alloc (.cells #[.int .u8 (y.toNat : Int)] 5)) := (Below.refl _ _).alloc (Nat.le_refl _) _
  have HOW := Lib.hid (And.intro HO HW)
  have m1 : Hid (1 + k ≤ maxLen ∧ (1 + k) * 1 ≤ 140737488355328) := ⟨by simp [maxLen]; omega, by omega⟩
  have m2 : Hid (1 + k + (n - (k + 1)) ≤ maxLen ∧ (1 + k + (n - (k + 1))) * 1 ≤ 140737488355328) := ⟨by simp [maxLen]; omega, by omega⟩
  clear hy hc hx hb1 hb2 HO HW ek
  go_enter Tryz.func119, Tryz.ntmps119
  go_wp2_with (at_builtin; first
    | (refine wpList_app (enc := encB) rfl (.tmp 11) (.tmp 14) rfl uB infoB encB_one rfl rfl HOW.out.1 HOW.out.2.size _ k c (l.take k) 0 H1.out.1 (H1.out.below HOW.out.2).2.2 rfl m1.out.1 m1.out.2 ?_; intro A6 c6 W6 ho6 hb6 hg6; have HO6 := Lib.hid (And.intro ho6 (HOW.out.2.trans hb6)); clear ho6 hb6 hg6)
    | (refine wpList_app (enc := encB) rfl (.tmp 16) (.tmp 20) rfl uB infoB encB_one rfl rfl HO6.out.1 HO6.out.2.size _ (n - (k + 1)) _ (l.drop (k + 1)) 0 H2.out.1 (H2.out.below HO6.out.2).2.2 rfl m2.out.1 m2.out.2 ?_; intro A7 c7 W7 ho7 hb7 hg7; have HO7 := Lib.hid (And.intro ho7 (HO6.out.2.trans hb7)); clear ho7 hb7 hg7))
  go_ret
  rw [hm.out]
  exact RetOwn.mk HO7.out.1 HO7.out.2
theorem place34_any (A : Option Addr) (n c : Nat) (l : List UInt8) (b : UInt8) (w : World) (hx : Bytes w A n c l) (hn : n ≤ 1000000) (hb : b ∈ l) :
    Calls Tryz.prog 120 #[.slice A n c, .int .u8 (b.toNat : Int)] w fun e w' => e = .returned (.int .i64 ((plc l b : Nat) : Int)) ∧ w' = w := by
  have hpl : plc l b < n := by rw [← hx.1]; exact List.idxOf_lt_length_of_mem hb
  have hpa : bA l (plc l b) = b := by
    have hl : plc l b < l.length := List.idxOf_lt_length_of_mem hb
    unfold bA
    rw [List.getD_eq_getElem?_getD, List.getElem?_eq_getElem hl]
    exact List.getElem_idxOf hl
  have hln := hx.1
  obtain ⟨bb, o, rfl, -, hc⟩ := hx.2.2 (by omega)
  have hcap := hx.2.1
  have HC := Lib.hid hc
  have HLN := Lib.hid hln
  have HIT := Lib.hid (fun k (hk : k < n) h1 h2 => idx_hit (l := l) (b := b) (k := k) (by rw [hln]; exact hk) h1 h2)
  have hby := b.toNat_lt
  have HPA := Lib.hid hpa
  obtain ⟨p, hp⟩ : ∃ p, p = plc l b := ⟨_, rfl⟩
  rw [← hp] at hpl HPA HIT ⊢
  clear hc hx hb hp hpa hln
  go_enter Tryz.func120, Tryz.ntmps120
  go_wp2_with fail
  go_loopw [5] (fun vk wr => ∃ k : Nat, k ≤ p ∧ vk = .int .i64 (k : Int) ∧ Hid (∀ j, j < k → bA l j ≠ b) ∧ Hid (wr = w)) (fun vk _ => p - (intOf vk).toNat)
  case atStart => exact ⟨0, Nat.zero_le _, rfl, Lib.hid (fun j hj => absurd hj (Nat.not_lt_zero _)), Lib.hid rfl⟩
  case round =>
    obtain ⟨k, hk, rfl, HB, HW⟩ := hrel
    obtain rfl := HW.out
    have hkn : k < n := by omega
    obtain ⟨y, hy⟩ : ∃ y, y = bA l k := ⟨_, rfl⟩
    have c1 : wr.cell? ⟨bb, o + k, none⟩ = some (.int .u8 (y.toNat : Int)) := by rw [hy]; exact HC.out k hkn
    have hy256 := y.toNat_lt
    have q0 := u8_beq y b (b.toNat : Int) rfl
    by_cases he : y = b
    · have hkp : p = k := HIT.out k hkn (by rw [← hy]; exact he) HB.out
      have q1 : ((y.toNat : Int) != (b.toNat : Int)) = false := by rw [bne, q0, decide_eq_true he]; rfl
      have HKP : Hid (k = p) := hkp.symm
      clear he hy q0 hkp
      go_wp2_with fail
      go_ret
      rw [← HKP.out]
      exact ⟨rfl, rfl⟩
    · have q1 : ((y.toNat : Int) != (b.toNat : Int)) = true := by rw [bne, q0, decide_eq_false he]; rfl
      have hlt : k < p := by
        rcases Nat.lt_or_ge k p with h | h
        · exact h
        · obtain rfl : k = p := by omega
          exact absurd (hy.trans HPA.out) he
      have HB2 : Hid (∀ j, j < k + 1 → bA l j ≠ b) := fun j hj => by
        rcases Nat.lt_or_ge j k with h | h
        · exact HB.out j h
        · obtain rfl : j = k := by omega
          rw [← hy]; exact he
      clear he hy q0
      go_wp2_with fail
      go_roundw
      case rel => exact ⟨k + 1, hlt, by go_num, HB2, by first | exact Lib.hid rfl | exact Lib.hid trivial⟩
      case measure => (simp [intOf]) <;> omega
theorem recF_next {l : List UInt8} {b : UInt8} {r : List UInt8} : recF l (b :: r) = UInt8.ofNat (plc l b) :: recF (mov l (plc l b)) r := rfl
theorem ref34F_any (A : Option Addr) (n c : Nat) (bs : List UInt8) (w : World) (hx : Bytes w A n c bs) (hn : n ≤ 1000000) :
    Calls Tryz.prog 60 #[.slice A n c] w (RetBytes w (if 65536 < n then [] else recF lst0 bs) (if 65536 < n then 5 else 0)) := by
  by_cases h6 : 65536 < n
  · simp only [if_pos h6]
    have d0 : decide ((65536 : Int) < (n : Int)) = true := decide_eq_true (by omega)
    have d0' : decide (65536 < n) = true := decide_eq_true h6
    clear hx h6
    go_enter Tryz.func60, Tryz.ntmps60
    go_wp2_with fail
    go_ret2
    exact RetBytes.err rfl (Below.refl _ _)
  · simp only [if_neg h6]
    have d0 : decide ((65536 : Int) < (n : Int)) = false := decide_eq_false (by omega)
    have d0' : decide (65536 < n) = false := decide_eq_false h6
    have HX := Lib.hid hx
    have Hn := Lib.hid hx.1
    have HL := Lib.hid (list34_any w)
    have hn6 : n ≤ 65536 := by omega
    clear hx h6
    go_enter Tryz.func60, Tryz.ntmps60
    go_wp2_with fail
    refine HL.out.mono ?_
    rintro e w1 ⟨A1, n1, c1, rfl, ho1, hb1⟩
    obtain rfl : 256 = n1 := by have := ho1.length; rw [lst0_full.1] at this; exact this
    have HO1 := Lib.hid (And.intro ho1 hb1)
    clear ho1 hb1 HL
    go_wp2_with fail
    go_loopw [4, 5, 6, 7] (fun vl vo vi _ wr => ∃ (k c2 cl B : Nat) (A2 Al : Option Addr) (l xs : List UInt8), k ≤ n ∧ vi = .int .i64 (k : Int) ∧ vo = .slice A2 k c2 ∧ vl = .slice Al 256 cl ∧ Hid (Full l ∧ xs ++ recF l (bs.drop k) = recF lst0 bs ∧ Own encB wr w.heap.size 5 A2 k c2 xs ∧ Own encB wr B 5 Al 256 cl l ∧ (∀ g, (Value.slice A2 k c2).ownBlock = some g → g < B) ∧ Below w.heap.size w wr)) (fun _ _ vi _ _ => n - (intOf vi).toNat)
    case atStart => exact ⟨0, 0, c1, w.heap.size, none, A1, lst0, [], Nat.zero_le _, rfl, rfl, rfl, Lib.hid ⟨lst0_full, rfl, Own.nil _ _ _ _, HO1.out.1, fun g h => (by cases h), HO1.out.2⟩⟩
    case round =>
      obtain ⟨k, c2, cl, B, A2, Al, l, xs, hk, rfl, rfl, rfl, HI⟩ := hrel
      by_cases hlt : k < n
      · have d1 : decide ((k : Int) < (n : Int)) = true := decide_eq_true (by omega)
        have d1' : decide (k < n) = true := decide_eq_true hlt
        obtain ⟨b1, o1, rfl, hb1, hc1⟩ := HX.out.get hlt
        obtain ⟨x, hxd⟩ : ∃ x, x = bA bs k := ⟨_, rfl⟩
        have e0 : w.cell? ⟨b1, o1 + k, none⟩ = some (.int .u8 (x.toNat : Int)) := by rw [hxd]; exact hc1 k hlt
        have e1 : wr.cell? ⟨b1, o1 + k, none⟩ = some (.int .u8 (x.toNat : Int)) := (Below.cell HI.out.2.2.2.2.2 (p := ⟨b1, o1 + k, none⟩) hb1).trans e0
        have hx256 := x.toNat_lt
        have hpl := plc_lt HI.out.1 x
        have HP := Lib.hid (place34_any Al 256 cl l x wr HI.out.2.2.2.1.bytesB (by omega) (HI.out.1.2 x))
        have m1 : Hid (k + 1 ≤ maxLen ∧ k + 1 ≤ 140737488355328) := ⟨by simp [maxLen]; omega, by omega⟩
        have HFU := Lib.hid (HI.out.1.mov hpl)
        have HNX : Hid ((xs ++ [UInt8.ofNat (plc l x)]) ++ recF (mov l (plc l x)) (bs.drop (k + 1)) = recF lst0 bs) := by
          show _ = _
          have h := HI.out.2.1
          rw [drop_bA (by rw [Hn.out]; exact hlt), recF_next, ← hxd] at h
          rw [← h, List.append_assoc]; rfl
        have hw8 := wrap8 hpl
        obtain ⟨p, hp⟩ : ∃ p, p = plc l x := ⟨_, rfl⟩
        rw [← hp] at hpl HP HFU HNX hw8
        obtain ⟨y, hy⟩ : ∃ y, y = UInt8.ofNat p := ⟨_, rfl⟩
        rw [← hy] at HNX hw8
        have HMV := Lib.hid (fun W (h : Bytes W Al 256 cl l) => move34_any Al 256 cl p l W h (by omega) hpl)
        clear hxd hp hy hc1 e0
        go_wp2_with fail
        refine HP.out.mono ?_
        rintro e w2 ⟨rfl, hw⟩
        obtain rfl : wr = w2 := hw.symm
        go_wp2_with (at_builtin; refine wpList_pushg rfl (.tmp 24) (.tmp 27) rfl uB infoB rfl HI.out.2.2.1 HI.out.2.2.2.2.2.size y _ rfl rfl m1.out.1 m1.out.2 ?_; intro A6 c6 W6 ho6 hb6 hg6; have HF6 := Lib.hid (And.intro ho6 (And.intro (HI.out.2.2.2.2.2.trans hb6) (own_past HI.out.2.2.2.1 hg6 HI.out.2.2.2.2.1))); clear ho6 hb6 hg6)
        refine (HMV.out W6 HF6.out.2.2.bytesB).mono ?_
        rintro e w8 ⟨A8, n8, c8, rfl, ho8, hb8⟩
        obtain rfl : 256 = n8 := by have := ho8.length; rw [HFU.out.1] at this; exact this
        have HO8 := Lib.hid (And.intro ho8 hb8)
        clear ho8 hb8
        go_wp2_with fail
        go_roundw
        case rel => exact ⟨k + 1, c6, c8, W6.heap.size, A6, A8, _, _, by omega, by go_num, rfl, rfl, Lib.hid ⟨HFU.out, HNX.out, HF6.out.1.below HO8.out.2, HO8.out.1, own_block_in HF6.out.1, HF6.out.2.1.trans (HO8.out.2.mono HF6.out.2.1.size)⟩⟩
        case measure => (simp [intOf]) <;> omega
      · obtain rfl : k = n := by omega
        have d1 : decide ((k : Int) < (k : Int)) = false := decide_eq_false (by omega)
        have d1' : decide (k < k) = false := decide_eq_false (by omega)
        have HR : Hid (recF lst0 bs = xs) := by
          show _ = _
          have h := HI.out.2.1
          rw [List.drop_eq_nil_iff.2 (Nat.le_of_eq Hn.out)] at h
          rw [← h]; show _ = _; rw [show recF l [] = [] from rfl, List.append_nil]
        go_wp2_with fail
        go_ret2
        rw [HR.out]
        exact RetBytes.mk rfl HI.out.2.2.1.bytesB HI.out.2.2.2.2.2
theorem digR_len : ∀ n : Nat, (digR n).length ≤ n := by
  intro n
  induction n using Nat.strongRecOn with
  | _ n ih =>
    rw [digR]
    by_cases h : n = 0
    · rw [dif_pos h]; exact Nat.zero_le _
    · rw [dif_neg h]
      by_cases h1 : n % 2 = 1
      · rw [if_pos h1, List.length_cons]; have := ih ((n - 1) / 2) (by omega); omega
      · rw [if_neg h1, List.length_cons]; have := ih ((n - 2) / 2) (by omega); omega
theorem digR_odd {n : Nat} (h : n % 2 = 1) : digR n = 0 :: digR ((n - 1) / 2) := by rw [digR, dif_neg (by omega), if_pos h]
theorem digR_even {n : Nat} (h0 : 0 < n) (h : n % 2 = 0) : digR n = 1 :: digR ((n - 2) / 2) := by rw [digR, dif_neg (by omega), if_neg (by omega)]
theorem digits34_any (n : Nat) (w : World) (hn : n ≤ 1000000) : Calls Tryz.prog 121 #[.int .i64 (n : Int)] w (RetOwn w.heap.size w (digR n)) := by
  go_enter Tryz.func121, Tryz.ntmps121
  go_wp2_with fail
  go_loopw [0, 3] (fun vn vo wr => ∃ (k m c2 : Nat) (A2 : Option Addr) (xs : List UInt8), m + k ≤ n ∧ vn = .int .i64 (k : Int) ∧ vo = .slice A2 m c2 ∧ Hid (Own encB wr w.heap.size 5 A2 m c2 xs ∧ xs ++ digR k = digR n ∧ Below w.heap.size w wr)) (fun vn _ _ => (intOf vn).toNat)
  case atStart => exact ⟨n, 0, 0, none, [], by omega, rfl, rfl, Lib.hid ⟨Own.nil _ _ _ _, rfl, Below.refl _ _⟩⟩
  case round =>
    obtain ⟨k, m, c2, A2, xs, hk, rfl, rfl, HI⟩ := hrel
    by_cases h0 : 0 < k
    · have d0 : decide ((0 : Int) < (k : Int)) = true := decide_eq_true (by omega)
      have d0' : decide (0 < k) = true := decide_eq_true h0
      have m1 : Hid (m + 1 ≤ maxLen ∧ m + 1 ≤ 140737488355328) := ⟨by simp [maxLen]; omega, by omega⟩
      by_cases h1 : k % 2 = 1
      · obtain ⟨j, hj⟩ : ∃ j, k = 2 * j + 1 := ⟨k / 2, by omega⟩
        have HNX : Hid ((xs ++ [0]) ++ digR j = digR n) := by
          show _ = _
          have h := HI.out.2.1
          rw [digR_odd h1, show (k - 1) / 2 = j by omega] at h
          rw [← h, List.append_assoc]; rfl
        have t1 : (k : Int).tmod 2 = 1 := by rw [Int.tmod_eq_emod_of_nonneg (by omega)]; omega
        have t2 : (k : Int) % 2 = 1 := by omega
        have t3 : ((k : Int) - 1).tdiv 2 = (j : Int) := by rw [Int.tdiv_eq_ediv_of_nonneg (by omega)]; omega
        have t4 : ((k : Int) - 1) / 2 = (j : Int) := by omega
        have HJ := Lib.hid hj
        clear hj h1
        go_wp2_with (at_builtin; refine wpList_pushg rfl (.tmp 9) (.tmp 10) rfl uB infoB rfl HI.out.1 HI.out.2.2.size 0 _ rfl rfl m1.out.1 m1.out.2 ?_; intro A6 c6 W6 ho6 hb6 hg6; have HO6 := Lib.hid (And.intro ho6 (HI.out.2.2.trans hb6)); clear ho6 hb6 hg6)
        go_roundw
        case rel => exact ⟨j, m + 1, c6, A6, _, by have := HJ.out; omega, rfl, rfl, Lib.hid ⟨HO6.out.1, HNX.out, HO6.out.2⟩⟩
        case measure => have := HJ.out; (simp [intOf]) <;> omega
      · obtain ⟨j, hj⟩ : ∃ j, k = 2 * j + 2 := ⟨(k - 2) / 2, by omega⟩
        have HNX : Hid ((xs ++ [1]) ++ digR j = digR n) := by
          show _ = _
          have h := HI.out.2.1
          rw [digR_even h0 (by omega), show (k - 2) / 2 = j by omega] at h
          rw [← h, List.append_assoc]; rfl
        have t1 : (k : Int).tmod 2 = 0 := by rw [Int.tmod_eq_emod_of_nonneg (by omega)]; omega
        have t2 : (k : Int) % 2 = 0 := by omega
        have t3 : ((k : Int) - 2).tdiv 2 = (j : Int) := by rw [Int.tdiv_eq_ediv_of_nonneg (by omega)]; omega
        have t4 : ((k : Int) - 2) / 2 = (j : Int) := by omega
        have HJ := Lib.hid hj
        clear hj h1
        go_wp2_with (at_builtin; refine wpList_pushg rfl (.tmp 15) (.tmp 16) rfl uB infoB rfl HI.out.1 HI.out.2.2.size 1 _ rfl rfl m1.out.1 m1.out.2 ?_; intro A6 c6 W6 ho6 hb6 hg6; have HO6 := Lib.hid (And.intro ho6 (HI.out.2.2.trans hb6)); clear ho6 hb6 hg6)
        go_roundw
        case rel => exact ⟨j, m + 1, c6, A6, _, by have := HJ.out; omega, rfl, rfl, Lib.hid ⟨HO6.out.1, HNX.out, HO6.out.2⟩⟩
        case measure => have := HJ.out; (simp [intOf]) <;> omega
    · obtain rfl : k = 0 := by omega
      have d0 : decide ((0 : Int) < ((0 : Nat) : Int)) = false := rfl
      have HR : Hid (digR n = xs) := by
        show _ = _
        have h := HI.out.2.1
        rw [show digR 0 = [] by rw [digR, dif_pos rfl], List.append_nil] at h
        exact h.symm
      go_wp2_with fail
      go_ret
      rw [HR.out]
      exact RetOwn.mk HI.out.1 HI.out.2.2
section
variable {P : Program} {ops : Array Oper} {rest : List Oper} {o : Oper} {a : Act} {w : World} {Q : Exit → Act → World → Prop} {t : TypeId} {A : Option Addr} {n c B : Nat} {e : TypeId} {bs : List UInt8}
theorem wpList_push2 (hgd : o.guard = none) (s x : Operand) (ho : o.op = .call { callee := .builtin .append, args := #[s, x], argTypes := #[t, t] })
    (ht : P.underlying t = some (.slice e)) (hi : (P.info? e).map (fun i => (i.zero, i.size, i.bytes)) = some (some (encB 0), 1, 1))
    (hs : a.eval s = .slice A n c) (hown : Own encB w B e A n c bs) (hB : B ≤ w.heap.size) (y z : UInt8) (v u : Value) (hv : encB y = v) (hu : encB z = u)
    (hx : a.eval x = .slice (some ⟨w.heap.size, 0, none⟩) 2 2) (hl : n + 2 ≤ maxLen) (hby : n + 2 ≤ 140737488355328)
    (h : ∀ A2 c2 w', Own encB w' B e A2 (n + 2) c2 (bs ++ [y, z]) → Below B w w' → wpList P ops Q rest (a.put o.dst (.slice A2 (n + 2) c2)) w') : wpList P ops Q (o :: rest) a (w.alloc (.cells #[v, u] e)) := by
  subst hv hu
  have hb0 : Below w.heap.size w (w.alloc (.cells #[encB y, encB z] e)) := (Below.refl _ _).alloc (Nat.le_refl _) _
  have h1 : Own encB (w.alloc (.cells #[encB y, encB z] e)) w.heap.size e (some ⟨w.heap.size, 0, none⟩) 2 2 [y, z] := ⟨rfl, .inr ⟨w.heap.size, 2, #[encB y, encB z], rfl, Nat.le_refl _, World.alloc_heap_new w _, Nat.le_refl _, by simp [maxLen], rfl, rfl⟩⟩
  refine wpList_app (enc := encB) hgd s x ho ht hi encB_one rfl hs (hown.below hb0) (Nat.le_trans hB hb0.size) (some ⟨w.heap.size, 0, none⟩) 2 2 [y, z] 0 rfl (h1.cells 0) hx hl (by omega) fun A2 c2 w' h2 h3 h4 => ?_
  exact h A2 c2 w' h2 ((hb0.mono hB).trans h3)
end
theorem zrs_stop {bs : List UInt8} {i : Nat} (h : ¬ (i < bs.length ∧ bA bs i = 0)) : zrs (bs.drop i) = 0 := by
  by_cases hi : i < bs.length
  · rw [drop_bA hi, zrs, if_neg (fun e => h ⟨hi, e⟩)]
  · rw [List.drop_eq_nil_iff.2 (by omega)]; rfl
theorem zrs_more {bs : List UInt8} {i : Nat} (hi : i < bs.length) (h : bA bs i = 0) : zrs (bs.drop i) = zrs (bs.drop (i + 1)) + 1 := by rw [drop_bA hi, zrs, if_pos h]
theorem u8_m254 {b : UInt8} (h : 254 ≤ b.toNat) : (b - 254).toNat = b.toNat - 254 := by
  have := b.toNat_lt
  rw [UInt8.toNat_sub]
  show (2 ^ 8 - 254 + b.toNat) % 2 ^ 8 = _
  omega
theorem u8_p1 {b : UInt8} (h : b.toNat < 254) : (b + 1).toNat = b.toNat + 1 := by
  rw [UInt8.toNat_add]
  show (b.toNat + 1) % 2 ^ 8 = _
  omega
theorem ref34R_any (A : Option Addr) (n c : Nat) (bs : List UInt8) (w : World) (hx : Bytes w A n c bs) (hn : n ≤ 1000000) :
    Calls Tryz.prog 62 #[.slice A n c] w (RetBytes w (runsP bs).1 (runsP bs).2) := by
  have Hn := Lib.hid hx.1
  by_cases h6 : 65536 < n
  · have HE : Hid (runsP bs = ([], 5)) := by unfold Hid runsP; rw [Hn.out, if_pos h6]
    have d0 : decide ((65536 : Int) < (n : Int)) = true := decide_eq_true (by omega)
    have d0' : decide (65536 < n) = true := decide_eq_true h6
    clear h6 hx
    go_enter Tryz.func62, Tryz.ntmps62
    go_wp2_with fail
    go_ret2
    rw [HE.out]
    exact RetBytes.err rfl (Below.refl _ _)
  · have HE : Hid (runsP bs = if 65536 < (runsL bs).length then ([], 5) else (runsL bs, 0)) := by unfold Hid runsP; rw [Hn.out, if_neg h6]
    have d0 : decide ((65536 : Int) < (n : Int)) = false := decide_eq_false (by omega)
    have d0' : decide (65536 < n) = false := decide_eq_false h6
    have HX := Lib.hid hx
    have hn6 : n ≤ 65536 := by omega
    clear h6 hx
    go_enter Tryz.func62, Tryz.ntmps62
    go_wp2_with fail
    go_loopw [4, 5, 6] (fun vo vi _ wr => ∃ (i m c2 : Nat) (A2 : Option Addr) (xs : List UInt8), i ≤ n ∧ m ≤ 2 * i ∧ vi = .int .i64 (i : Int) ∧ vo = .slice A2 m c2 ∧ Hid (Own encB wr w.heap.size 5 A2 m c2 xs ∧ xs ++ runF bs i = runsL bs ∧ Below w.heap.size w wr)) (fun _ vi _ _ => n - (intOf vi).toNat)
    case atStart => exact ⟨0, 0, 0, none, [], Nat.zero_le _, by omega, rfl, rfl, Lib.hid ⟨Own.nil _ _ _ _, rfl, Below.refl _ _⟩⟩
    case round =>
      obtain ⟨i, m, c2, A2, xs, hi, hm, rfl, rfl, HI⟩ := hrel
      by_cases hlt : i < n
      · have d1 : decide ((i : Int) < (n : Int)) = true := decide_eq_true (by omega)
        have d1' : decide (i < n) = true := decide_eq_true hlt
        have HIL : Hid (i < bs.length) := by unfold Hid; rw [Hn.out]; exact hlt
        obtain ⟨b1, o1, rfl, hb1, hc1⟩ := HX.out.get (show 0 < n by omega)
        have HC : Hid (∀ W, Below w.heap.size w W → ∀ j, j < n → W.cell? ⟨b1, o1 + j, none⟩ = some (.int .u8 ((bA bs j).toNat : Int))) := fun W h j hj => (Below.cell h (p := ⟨b1, o1 + j, none⟩) hb1).trans (hc1 j hj)
        have hcap := HX.out.2.1
        clear hc1 hb1
        obtain ⟨V, rfl⟩ : ∃ V, V = wr := ⟨_, rfl⟩
        go_wp2_with fail
        go_loopw [6] (fun vk W => ∃ k : Nat, i + k ≤ n ∧ vk = .int .i64 (k : Int) ∧ Hid (zrs (bs.drop i) = k + zrs (bs.drop (i + k))) ∧ Hid (W = V)) (fun vk _ => n - (intOf vk).toNat)
        case atStart => exact ⟨0, by omega, rfl, Lib.hid (Nat.zero_add _).symm, Lib.hid rfl⟩
        case round =>
          obtain ⟨k, hk, rfl, HZ, HW⟩ := hrel
          obtain rfl := HW.out
          have TAIL : Hid (zrs (bs.drop (i + k)) = 0 → zrs (bs.drop i) = k) := fun h => by have := HZ.out; rw [h] at this; exact this
          by_cases hin : i + k < n
          · have e1 : decide ((i : Int) + (k : Int) < (n : Int)) = true := decide_eq_true (by omega)
            have e1' : decide (i + k < n) = true := decide_eq_true hin
            obtain ⟨x, hx⟩ : ∃ x, x = bA bs (i + k) := ⟨_, rfl⟩
            have c1 : wr.cell? ⟨b1, o1 + (i + k), none⟩ = some (.int .u8 (x.toNat : Int)) := by rw [hx]; exact HC.out _ HI.out.2.2 (i + k) hin
            have hx256 := x.toNat_lt
            have q0 := u8_beq x 0 0 rfl
            by_cases hx0 : x = 0
            · rw [decide_eq_true hx0] at q0
              have HZ2 : Hid (zrs (bs.drop i) = (k + 1) + zrs (bs.drop (i + (k + 1)))) := by
                show _ = _
                rw [HZ.out, zrs_more (by rw [Hn.out]; exact hin) (by rw [← hx]; exact hx0)]
                show _ = k + 1 + zrs (bs.drop (i + k + 1))
                omega
              clear hx hx0 TAIL
              go_wp2_with fail
              go_roundw
              case rel => exact ⟨k + 1, hin, by go_num, HZ2, by first | exact Lib.hid rfl | exact Lib.hid trivial⟩
              case measure => (simp [intOf]) <;> omega
            · rw [decide_eq_false hx0] at q0
              have hzk : zrs (bs.drop i) = k := TAIL.out (zrs_stop (fun h => hx0 (by rw [hx]; exact h.2)))
              by_cases hk0 : 0 < k
              · have e2 : decide ((0 : Int) < (k : Int)) = true := decide_eq_true (by omega)
                have e2' : decide (0 < k) = true := decide_eq_true hk0
                have HNX : Hid ((xs ++ digR k) ++ runF bs (i + k) = runsL bs) := by
                  show _ = _
                  have h := HI.out.2.1
                  rw [runF_zeros HIL.out (by rw [hzk]; exact hk0), hzk] at h
                  rw [← h, List.append_assoc]
                have HDG := Lib.hid (digits34_any k wr (by omega))
                have hdl := digR_len k
                obtain ⟨dl, hdl2⟩ : ∃ d, d = (digR k).length := ⟨_, rfl⟩
                rw [← hdl2] at hdl
                have HDL := Lib.hid hdl2
                have m1 : Hid (m + dl ≤ maxLen ∧ (m + dl) * 1 ≤ 140737488355328) := ⟨by simp [maxLen]; omega, by omega⟩
                clear hx hx0 TAIL hzk hdl2
                go_wp2_with fail
                refine HDG.out.mono ?_
                rintro e w2 ⟨AD, nD, cD, rfl, hoD, hb2⟩
                obtain rfl : dl = nD := by rw [HDL.out]; exact hoD.length
                have HOD := Lib.hid hoD.bytesB
                have HO2 := Lib.hid (And.intro (HI.out.1.below hb2) (HI.out.2.2.trans (hb2.mono HI.out.2.2.size)))
                clear hoD hb2
                go_wp2_with (at_builtin; refine wpList_app (enc := encB) rfl (.tmp 33) (.tmp 35) rfl uB infoB encB_one rfl rfl HO2.out.1 HO2.out.2.size AD dl cD (digR k) 0 HOD.out.1 HOD.out.2.2 rfl m1.out.1 m1.out.2 ?_; intro A6 c6 W6 ho6 hb6 hg6; have HO6 := Lib.hid (And.intro ho6 (HO2.out.2.trans hb6)); clear ho6 hb6 hg6)
                go_roundw
                case rel => exact ⟨i + k, m + dl, c6, A6, _, hk, by omega, by go_num, rfl, Lib.hid ⟨HO6.out.1, HNX.out, HO6.out.2⟩⟩
                case measure => (simp [intOf]) <;> omega
              · obtain rfl : k = 0 := by omega
                have hx' : x = bA bs i := hx
                have c2' : wr.cell? ⟨b1, o1 + i, none⟩ = some (.int .u8 (x.toNat : Int)) := c1
                have hpos : 0 < x.toNat := by
                  rcases Nat.eq_zero_or_pos x.toNat with h | h
                  · exact absurd (UInt8.toNat_inj.1 (by rw [h]; rfl)) hx0
                  · exact h
                have hone := runF_one HIL.out hzk
                rw [← hx'] at hone
                by_cases h254 : 254 ≤ x.toNat
                · have e3 : decide ((254 : Int) ≤ (x.toNat : Int)) = true := decide_eq_true (by omega)
                  have e3' : decide (254 ≤ x.toNat) = true := decide_eq_true h254
                  have HNX : Hid ((xs ++ [255, x - 254]) ++ runF bs (i + 1) = runsL bs) := by
                    show _ = _
                    have h := HI.out.2.1
                    rw [hone, oneR, if_pos h254] at h
                    rw [← h, List.append_assoc]
                  have HV : Hid (encB (x - 254) = .int .u8 ((x.toNat : Int) - 254)) := by
                    show Value.int .u8 (((x - 254).toNat : Nat) : Int) = _
                    rw [u8_m254 h254, Int.ofNat_sub h254]; rfl
                  obtain ⟨y1, hy1⟩ : ∃ y, y = x - 254 := ⟨_, rfl⟩
                  rw [← hy1] at HNX HV
                  have m1 : Hid (m + 2 ≤ maxLen ∧ m + 2 ≤ 140737488355328) := ⟨by simp [maxLen]; omega, by omega⟩
                  clear hx hx0 TAIL hzk hone hx' hy1 c1
                  go_wp2_with (at_builtin; refine wpList_push2 rfl (.tmp 45) (.tmp 51) rfl uB infoB rfl HI.out.1 HI.out.2.2.size 255 y1 _ _ rfl HV.out rfl m1.out.1 m1.out.2 ?_; intro A6 c6 W6 ho6 hb6; have HO6 := Lib.hid (And.intro ho6 (HI.out.2.2.trans hb6)); clear ho6 hb6)
                  go_roundw
                  case rel => exact ⟨i + 1, m + 2, c6, A6, _, hlt, by omega, by go_num, rfl, Lib.hid ⟨HO6.out.1, HNX.out, HO6.out.2⟩⟩
                  case measure => (simp [intOf]) <;> omega
                · have e3 : decide ((254 : Int) ≤ (x.toNat : Int)) = false := decide_eq_false (by omega)
                  have e3' : decide (254 ≤ x.toNat) = false := decide_eq_false h254
                  have HNX : Hid ((xs ++ [x + 1]) ++ runF bs (i + 1) = runsL bs) := by
                    show _ = _
                    have h := HI.out.2.1
                    rw [hone, oneR, if_neg h254] at h
                    rw [← h, List.append_assoc]
                  have HV : Hid (encB (x + 1) = .int .u8 ((x.toNat : Int) + 1)) := by
                    show Value.int .u8 (((x + 1).toNat : Nat) : Int) = _
                    rw [u8_p1 (by omega)]; rfl
                  obtain ⟨y1, hy1⟩ : ∃ y, y = x + 1 := ⟨_, rfl⟩
                  rw [← hy1] at HNX HV
                  have m1 : Hid (m + 1 ≤ maxLen ∧ m + 1 ≤ 140737488355328) := ⟨by simp [maxLen]; omega, by omega⟩
                  clear hx hx0 TAIL hzk hone hx' hy1 c1
                  go_wp2_with (at_builtin; refine wpList_pushg rfl (.tmp 53) (.tmp 59) rfl uB infoB rfl HI.out.1 HI.out.2.2.size y1 _ HV.out rfl m1.out.1 m1.out.2 ?_; intro A6 c6 W6 ho6 hb6 hg6; have HO6 := Lib.hid (And.intro ho6 (HI.out.2.2.trans hb6)); clear ho6 hb6 hg6)
                  go_roundw
                  case rel => exact ⟨i + 1, m + 1, c6, A6, _, hlt, by omega, by go_num, rfl, Lib.hid ⟨HO6.out.1, HNX.out, HO6.out.2⟩⟩
                  case measure => (simp [intOf]) <;> omega
          · have e1 : decide ((i : Int) + (k : Int) < (n : Int)) = false := decide_eq_false (by omega)
            have e1' : decide (i + k < n) = false := decide_eq_false hin
            have hzk : zrs (bs.drop i) = k := TAIL.out (zrs_stop (fun h => by have := h.1; rw [Hn.out] at this; omega))
            have hk0 : 0 < k := by omega
            have e2 : decide ((0 : Int) < (k : Int)) = true := decide_eq_true (by omega)
            have e2' : decide (0 < k) = true := decide_eq_true hk0
            have HNX : Hid ((xs ++ digR k) ++ runF bs (i + k) = runsL bs) := by
              show _ = _
              have h := HI.out.2.1
              rw [runF_zeros HIL.out (by rw [hzk]; exact hk0), hzk] at h
              rw [← h, List.append_assoc]
            have HDG := Lib.hid (digits34_any k wr (by omega))
            have hdl := digR_len k
            obtain ⟨dl, hdl2⟩ : ∃ d, d = (digR k).length := ⟨_, rfl⟩
            rw [← hdl2] at hdl
            have HDL := Lib.hid hdl2
            have m1 : Hid (m + dl ≤ maxLen ∧ (m + dl) * 1 ≤ 140737488355328) := ⟨by simp [maxLen]; omega, by omega⟩
            clear TAIL hzk hdl2 hk0
            go_wp2_with fail
            refine HDG.out.mono ?_
            rintro e w2 ⟨AD, nD, cD, rfl, hoD, hb2⟩
            obtain rfl : dl = nD := by rw [HDL.out]; exact hoD.length
            have HOD := Lib.hid hoD.bytesB
            have HO2 := Lib.hid (And.intro (HI.out.1.below hb2) (HI.out.2.2.trans (hb2.mono HI.out.2.2.size)))
            clear hoD hb2
            go_wp2_with (at_builtin; refine wpList_app (enc := encB) rfl (.tmp 33) (.tmp 35) rfl uB infoB encB_one rfl rfl HO2.out.1 HO2.out.2.size AD dl cD (digR k) 0 HOD.out.1 HOD.out.2.2 rfl m1.out.1 m1.out.2 ?_; intro A6 c6 W6 ho6 hb6 hg6; have HO6 := Lib.hid (And.intro ho6 (HO2.out.2.trans hb6)); clear ho6 hb6 hg6)
            go_roundw
            case rel => exact ⟨i + k, m + dl, c6, A6, _, hk, by omega, by go_num, rfl, Lib.hid ⟨HO6.out.1, HNX.out, HO6.out.2⟩⟩
            case measure => (simp [intOf]) <;> omega
      · obtain rfl : i = n := by omega
        have d1 : decide ((i : Int) < (i : Int)) = false := decide_eq_false (by omega)
        have d1' : decide (i < i) = false := decide_eq_false (by omega)
        have hxs : runsL bs = xs := by
          have h := HI.out.2.1
          rw [runF_end (Nat.le_of_eq Hn.out), List.append_nil] at h
          exact h.symm
        have hml := HI.out.1.length
        by_cases hbig : 65536 < m
        · have d2 : decide ((65536 : Int) < (m : Int)) = true := decide_eq_true (by omega)
          have d2' : decide (65536 < m) = true := decide_eq_true hbig
          have HR : Hid (runsP bs = ([], 5)) := by show _ = _; rw [HE.out, hxs, if_pos (by omega)]
          clear hxs hml hbig
          go_wp2_with fail
          go_ret2
          rw [HR.out]
          exact RetBytes.err rfl HI.out.2.2
        · have d2 : decide ((65536 : Int) < (m : Int)) = false := decide_eq_false (by omega)
          have d2' : decide (65536 < m) = false := decide_eq_false hbig
          have HR : Hid (runsP bs = (xs, 0)) := by show _ = _; rw [HE.out, hxs, if_neg (by omega)]
          clear hxs hml hbig
          go_wp2_with fail
          go_ret2
          rw [HR.out]
          exact RetBytes.mk rfl HI.out.1.bytesB HI.out.2.2
end Go.Proofs.YtohadkmaemmfgaaGreatDoor
