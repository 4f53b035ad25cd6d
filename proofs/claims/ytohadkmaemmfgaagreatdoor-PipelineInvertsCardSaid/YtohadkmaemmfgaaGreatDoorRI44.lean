/- Ue. -/
import Derived.Test.YtohadkmaemmfgaaGreatDoorRI43
import Derived.Test.YtohadkmaemmfgaaGreatDoorRI19
set_option maxRecDepth 100000
set_option maxHeartbeats 4000000
namespace Go.Proofs.YtohadkmaemmfgaaGreatDoor
open Go.RowKit Go.Proofs
set_option linter.unusedVariables false
set_option linter.unusedSimpArgs false
theorem ref40I_any (A : Option Addr) (n c : Nat) (bs : List UInt8) (w : World) (hx : Bytes w A n c bs) (hn : n ≤ 1000000) :
    Calls Tryz.prog 51 #[.slice A n c] w (RetBytes w (if 65536 < n then [] else callsP (-1) bs) (if 65536 < n then 5 else 0)) := by
  have h := change40_any (-1) (.inr rfl) A n c bs w hx hn
  generalize (if 65536 < n then [] else callsP (-1) bs) = R at h ⊢
  generalize (if 65536 < n then (5 : Int) else 0) = x at h ⊢
  replace h := Lib.hid h
  clear hx hn
  go_enter Tryz.func51, Tryz.ntmps51
  go_wp2_with fail
  refine h.out.mono ?_
  rintro e w1 ⟨A1, n1, c1, rfl, hb, hw⟩
  have HB := Lib.hid (And.intro hb hw)
  clear hb hw
  go_wp2_with fail
  go_ret2
  exact ⟨_, _, _, rfl, HB.out.1, HB.out.2⟩
theorem grownT {w w1 w2 : World} {row : Option Nat} (h : w.grownBy w1 row) (h' : w1.grownBy w2 row) : w.grownBy w2 row :=
  ⟨h'.os.trans h.os, h'.tape.trans h.tape, h'.output.trans h.output, Nat.le_trans h.size h'.size, fun k hk hne => (h'.block k (Nat.lt_of_lt_of_le hk h.size) hne).trans (h.block k hk hne)⟩
theorem own_one (w : World) (e : TypeId) (b : UInt8) : Own encB (w.alloc (.cells #[.int .u8 (b.toNat : Int)] e)) w.heap.size e (some ⟨w.heap.size, 0, none⟩) 1 1 [b] :=
  ⟨rfl, .inr ⟨w.heap.size, 1, #[encB b], rfl, Nat.le_refl _, World.alloc_heap_new w _, Nat.le_refl _, by simp [maxLen], rfl, rfl⟩⟩
theorem own_block_in {α : Type} {enc : α → Value} {w : World} {B : Nat} {e : TypeId} {A : Option Addr} {n c : Nat} {xs : List α} (h : Own enc w B e A n c xs) : ∀ g, (Value.slice A n c).ownBlock = some g → g < w.heap.size := fun g hg => by
  rcases h.2 with ⟨h1, _⟩ | ⟨g', cap, cur, h1, _, h3, _⟩
  · rw [h1] at hg; cases hg
  · rw [h1] at hg
    injection hg with hg
    have hg' : g' = g := hg
    subst hg'
    exact (Array.getElem?_eq_some_iff.1 h3).1
theorem own_past {α : Type} {enc : α → Value} {X Y : World} {B : Nat} {e : TypeId} {A : Option Addr} {n c : Nat} {xs : List α} {row : Option Nat} (h : Own enc X B e A n c xs) (hg : X.grownBy Y row) (hrow : ∀ g, row = some g → g < B) : Own enc Y B e A n c xs := by
  refine ⟨h.1, ?_⟩
  rcases h.2 with h1 | ⟨g, cap, cur, h1, h2, h3, h4⟩
  · exact .inl h1
  · exact .inr ⟨g, cap, cur, h1, h2, (hg.block g (Array.getElem?_eq_some_iff.1 h3).1 (fun e => by have := hrow g e.symm; omega)).trans h3, h4⟩
section
variable {P : Program} {ops : Array Oper} {rest : List Oper} {o : Oper} {a : Act} {w : World} {Q : Exit → Act → World → Prop} {t : TypeId} {A : Option Addr} {n c B : Nat} {e : TypeId} {bs : List UInt8}
theorem wpList_pushg (hgd : o.guard = none) (s x : Operand) (ho : o.op = .call { callee := .builtin .append, args := #[s, x], argTypes := #[t, t] })
    (ht : P.underlying t = some (.slice e)) (hi : (P.info? e).map (fun i => (i.zero, i.size, i.bytes)) = some (some (encB 0), 1, 1))
    (hs : a.eval s = .slice A n c) (hown : Own encB w B e A n c bs) (hB : B ≤ w.heap.size) (y : UInt8) (v : Value) (hv : encB y = v)
    (hx : a.eval x = .slice (some ⟨w.heap.size, 0, none⟩) 1 1) (hl : n + 1 ≤ maxLen) (hby : n + 1 ≤ 140737488355328)
    (h : ∀ A2 c2 w', Own encB w' B e A2 (n + 1) c2 (bs ++ [y]) → Below B w w' → w.grownBy w' (Value.slice A n c).ownBlock → wpList P ops Q rest (a.put o.dst (.slice A2 (n + 1) c2)) w') : wpList P ops Q (o :: rest) a (w.alloc (.cells #[v] e)) := by
  subst hv
  have hb0 : Below w.heap.size w (w.alloc (.cells #[encB y] e)) := (Below.refl _ _).alloc (Nat.le_refl _) _
  have h1 := own_one w e y
  refine wpList_app (enc := encB) hgd s x ho ht hi encB_one rfl hs (hown.below hb0) (Nat.le_trans hB hb0.size) (some ⟨w.heap.size, 0, none⟩) 1 1 [y] 0 rfl (h1.cells 0) hx hl (by omega) fun A2 c2 w' h2 h3 h4 => ?_
  exact h A2 c2 w' h2 ((hb0.mono hB).trans h3) (grownT (World.grownBy_alloc w _ _) h4)
end
theorem r256_next (k : Nat) : (List.range (k + 1)).map UInt8.ofNat = (List.range k).map UInt8.ofNat ++ [UInt8.ofNat k] := by rw [List.range_succ, List.map_append]; rfl
theorem list34_any (w : World) : Calls Tryz.prog 118 #[] w (RetOwn w.heap.size w lst0) := by
  go_enter Tryz.func118, Tryz.ntmps118
  go_wp2_with fail
  go_loopw [1, 2] (fun vo vi wr => ∃ (k c2 : Nat) (A2 : Option Addr), k ≤ 256 ∧ vi = .int .i64 (k : Int) ∧ vo = .slice A2 k c2 ∧ Hid (Own encB wr w.heap.size 5 A2 k c2 ((List.range k).map UInt8.ofNat) ∧ Below w.heap.size w wr)) (fun _ vi _ => 256 - (intOf vi).toNat)
  case atStart => exact ⟨0, 0, none, Nat.zero_le _, rfl, rfl, Lib.hid ⟨Own.nil _ _ _ _, Below.refl _ _⟩⟩
  case round =>
    obtain ⟨k, c2, A2, hk, rfl, rfl, HI⟩ := hrel
    by_cases hlt : k < 256
    · have d1 : decide ((k : Int) < 256) = true := decide_eq_true (by omega)
      have d1' : decide (k < 256) = true := decide_eq_true hlt
      have m1 : Hid (k + 1 ≤ maxLen ∧ k + 1 ≤ 140737488355328) := ⟨by simp [maxLen]; omega, by omega⟩
      have hw8 := wrap8 hlt
      have HNX := Lib.hid (r256_next k)
      obtain ⟨y, hy⟩ : ∃ y, y = UInt8.ofNat k := ⟨_, rfl⟩
      rw [← hy] at hw8 HNX
      clear hy
      go_wp2_with (at_builtin; refine wpList_pushg rfl (.tmp 7) (.tmp 10) rfl uB infoB rfl HI.out.1 HI.out.2.size y _ rfl rfl m1.out.1 m1.out.2 ?_; intro A6 c6 W6 ho6 hb6 hg6)
      have HF6 : Hid (Own encB W6 w.heap.size 5 A6 (k + 1) c6 ((List.range (k + 1)).map UInt8.ofNat) ∧ Below w.heap.size w W6) := ⟨by rw [HNX.out]; exact ho6, HI.out.2.trans hb6⟩
      clear ho6 hb6 hg6
      go_roundw
      case rel => exact ⟨k + 1, c6, A6, by omega, by go_num, rfl, HF6⟩
      case measure => (simp [intOf]) <;> omega
    · obtain rfl : k = 256 := by omega
      have d1 : decide (((256 : Nat) : Int) < 256) = false := rfl
      go_wp2_with fail
      go_ret
      exact RetOwn.mk HI.out.1 HI.out.2
theorem move34_any (A : Option Addr) (n c k : Nat) (l : List UInt8) (w : World) (hx : Bytes w A n c l) (hn : n ≤ 1000000) (hk : k < n) :
    Calls Tryz.prog 119 #[.slice A n c, .int .i64 (k : Int)] w (RetOwn w.heap.size w (mov l k)) := by
  obtain ⟨b, o, rfl, -, hc⟩ := hx.get hk
  obtain ⟨y, hy⟩ : ∃ y, y = bA l k := ⟨_, rfl⟩
  have c1 : w.cell? ⟨b, o + k, none⟩ = some (.int .u8 (y.toNat : Int)) := by rw [hy]; exact hc k hk
  obtain ⟨hcut1, hb1⟩ := hx.cut_h tB eB sB (k : Int) (by omega) (by omega)
  obtain ⟨A2, hcut2, hb2⟩ := hx.cut_l tB eB sB ((k : Int) + 1) (by omega) (by omega)
  have ek : ((k : Int) + 1).toNat = k + 1 := by omega
  rw [Int.toNat_natCast] at hcut1 hb1
  rw [ek] at hcut2 hb2
  have hcap := hx.2.1
  have hm : Hid (mov l k = [y] ++ l.take k ++ l.drop (k + 1)) := by rw [hy]; rfl
  have H1 := Lib.hid hb1
  have H2 := Lib.hid hb2
  have HO := own_one w 5 y
  have HW : Below w.heap.size w (w.alloc (.cells #[.int .u8 (y.toNat : Int)] 5)) := (Below.refl _ _).alloc (Nat.le_refl _) _
  have HOW := Lib.hid (And.intro HO HW)
  have m1 : Hid (1 + k ≤ maxLen ∧ (1 + k) * 1 ≤ 140737488355328) := ⟨by simp [maxLen]; omega, by omega⟩
  have m2 : Hid (1 + k + (n - (k + 1)) ≤ maxLen ∧ (1 + k + (n - (k + 1))) * 1 ≤ 140737488355328) := ⟨by simp [maxLen]; omega, by omega⟩
  clear hy hc hx hb1 hb2 HO HW ek
  go_enter Tryz.func119, Tryz.ntmps119
  go_wp2_with (at_builtin; first
    | (refine wpList_app (enc := encB) rfl (.tmp 11) (.tmp 14) rfl uB infoB encB_one rfl rfl HOW.out.1 HOW.out.2.size _ k c (l.take k) 0 H1.out.1 (H1.out.below HOW.out.2).2.2 rfl m1.out.1 m1.out.2 ?_; intro A6 c6 W6 ho6 hb6 hg6; have HO6 := Lib.hid (And.intro ho6 (HOW.out.2.trans hb6)); clear ho6 hb6 hg6)
    | (refine wpList_app (enc := encB) rfl (.tmp 16) (.tmp 20) rfl uB infoB encB_one rfl rfl HO6.out.1 HO6.out.2.size _ (n - (k + 1)) _ (l.drop (k + 1)) 0 H2.out.1 (H2.out.below HO6.out.2).2.2 rfl m2.out.1 m2.out.2 ?_; intro A7 c7 W7 ho7 hb7 hg7; have HO7 := Lib.hid (And.intro ho7 (HO6.out.2.trans hb7)); clear ho7 hb7 hg7))
  go_ret
  rw [hm.out]
  exact RetOwn.mk HO7.out.1 HO7.out.2
theorem recI_next {l : List UInt8} {p : UInt8} {r : List UInt8} : recI l (p :: r) = bA l p.toNat :: recI (mov l p.toNat) r := rfl
theorem ref34I_any (A : Option Addr) (n c : Nat) (bs : List UInt8) (w : World) (hx : Bytes w A n c bs) (hn : n ≤ 1000000) :
    Calls Tryz.prog 59 #[.slice A n c] w (RetBytes w (if 65536 < n then [] else recI lst0 bs) (if 65536 < n then 5 else 0)) := by
  by_cases h6 : 65536 < n
  · simp only [if_pos h6]
    have d0 : decide ((65536 : Int) < (n : Int)) = true := decide_eq_true (by omega)
    have d0' : decide (65536 < n) = true := decide_eq_true h6
    clear hx h6
    go_enter Tryz.func59, Tryz.ntmps59
    go_wp2_with fail
    go_ret2
    exact RetBytes.err rfl (Below.refl _ _)
  · simp only [if_neg h6]
    have d0 : decide ((65536 : Int) < (n : Int)) = false := decide_eq_false (by omega)
    have d0' : decide (65536 < n) = false := decide_eq_false h6
    have HX := Lib.hid hx
    have Hn := Lib.hid hx.1
    have HL := Lib.hid (list34_any w)
    have hn6 : n ≤ 65536 := by omega
    clear hx h6
    go_enter Tryz.func59, Tryz.ntmps59
    go_wp2_with fail
    refine HL.out.mono ?_
    rintro e w1 ⟨A1, n1, c1, rfl, ho1, hb1⟩
    obtain rfl : 256 = n1 := by have := ho1.length; rw [lst0_full.1] at this; exact this
    have HO1 := Lib.hid (And.intro ho1 hb1)
    clear ho1 hb1 HL
    go_wp2_with fail
    go_loopw [4, 5, 6] (fun vl vo vi wr => ∃ (k c2 cl B : Nat) (A2 Al : Option Addr) (l xs : List UInt8), k ≤ n ∧ vi = .int .i64 (k : Int) ∧ vo = .slice A2 k c2 ∧ vl = .slice Al 256 cl ∧ Hid (Full l ∧ xs ++ recI l (bs.drop k) = recI lst0 bs ∧ Own encB wr w.heap.size 5 A2 k c2 xs ∧ Own encB wr B 5 Al 256 cl l ∧ (∀ g, (Value.slice A2 k c2).ownBlock = some g → g < B) ∧ Below w.heap.size w wr)) (fun _ _ vi _ => n - (intOf vi).toNat)
    case atStart => exact ⟨0, 0, c1, w.heap.size, none, A1, lst0, [], Nat.zero_le _, rfl, rfl, rfl, Lib.hid ⟨lst0_full, rfl, Own.nil _ _ _ _, HO1.out.1, fun g h => (by cases h), HO1.out.2⟩⟩
    case round =>
      obtain ⟨k, c2, cl, B, A2, Al, l, xs, hk, rfl, rfl, rfl, HI⟩ := hrel
      by_cases hlt : k < n
      · have d1 : decide ((k : Int) < (n : Int)) = true := decide_eq_true (by omega)
        have d1' : decide (k < n) = true := decide_eq_true hlt
        obtain ⟨b1, o1, rfl, hb1, hc1⟩ := HX.out.get hlt
        obtain ⟨x, hxd⟩ : ∃ x, x = bA bs k := ⟨_, rfl⟩
        have e0 : w.cell? ⟨b1, o1 + k, none⟩ = some (.int .u8 (x.toNat : Int)) := by rw [hxd]; exact hc1 k hlt
        have HE1 : Hid (∀ W, Below w.heap.size w W → W.cell? ⟨b1, o1 + k, none⟩ = some (.int .u8 (x.toNat : Int))) := fun W h => (Below.cell h (p := ⟨b1, o1 + k, none⟩) hb1).trans e0
        have e1 := HE1.out wr HI.out.2.2.2.2.2
        clear e0
        have hx256 := x.toNat_lt
        obtain ⟨b3, o3, rfl, -, hc3⟩ := HI.out.2.2.2.1.bytesB.get (show x.toNat < 256 from hx256)
        obtain ⟨y, hyd⟩ : ∃ y, y = bA l x.toNat := ⟨_, rfl⟩
        have e3 : wr.cell? ⟨b3, o3 + x.toNat, none⟩ = some (.int .u8 (y.toNat : Int)) := by rw [hyd]; exact hc3 x.toNat hx256
        have HXC := Lib.hid (HX.out.below HI.out.2.2.2.2.2)
        have m1 : Hid (k + 1 ≤ maxLen ∧ k + 1 ≤ 140737488355328) := ⟨by simp [maxLen]; omega, by omega⟩
        have HFU := Lib.hid (HI.out.1.mov hx256)
        have HNX : Hid ((xs ++ [y]) ++ recI (mov l x.toNat) (bs.drop (k + 1)) = recI lst0 bs) := by
          show _ = _
          have h := HI.out.2.1
          rw [drop_bA (by rw [Hn.out]; exact hlt), recI_next, ← hxd, ← hyd] at h
          rw [← h, List.append_assoc]; rfl
        have HMV := Lib.hid (fun W (h : Bytes W (some ⟨b3, o3, none⟩) 256 cl l) => move34_any (some ⟨b3, o3, none⟩) 256 cl x.toNat l W h (by omega) hx256)
        clear hxd hyd hc1 hc3 hb1
        go_wp2_with (at_builtin; refine wpList_pushg rfl (.tmp 17) (.tmp 25) rfl uB infoB rfl HI.out.2.2.1 HI.out.2.2.2.2.2.size y _ rfl rfl m1.out.1 m1.out.2 ?_; intro A6 c6 W6 ho6 hb6 hg6; have HF6 := Lib.hid (And.intro ho6 (And.intro (HI.out.2.2.2.2.2.trans hb6) (own_past HI.out.2.2.2.1 hg6 HI.out.2.2.2.2.1))); have e6 : W6.cell? ⟨b1, o1 + k, none⟩ = some (.int .u8 (x.toNat : Int)) := HE1.out W6 HF6.out.2.1; clear ho6 hb6 hg6)
        refine (HMV.out W6 HF6.out.2.2.bytesB).mono ?_
        rintro e w8 ⟨A8, n8, c8, rfl, ho8, hb8⟩
        obtain rfl : 256 = n8 := by have := ho8.length; rw [HFU.out.1] at this; exact this
        have HO8 := Lib.hid (And.intro ho8 hb8)
        clear ho8 hb8
        go_wp2_with fail
        go_roundw
        case rel => exact ⟨k + 1, c6, c8, W6.heap.size, A6, A8, _, _, by omega, by go_num, rfl, rfl, Lib.hid ⟨HFU.out, HNX.out, HF6.out.1.below HO8.out.2, HO8.out.1, own_block_in HF6.out.1, HF6.out.2.1.trans (HO8.out.2.mono HF6.out.2.1.size)⟩⟩
        case measure => (simp [intOf]) <;> omega
      · obtain rfl : k = n := by omega
        have d1 : decide ((k : Int) < (k : Int)) = false := decide_eq_false (by omega)
        have d1' : decide (k < k) = false := decide_eq_false (by omega)
        have HR : Hid (recI lst0 bs = xs) := by
          show _ = _
          have h := HI.out.2.1
          rw [List.drop_eq_nil_iff.2 (Nat.le_of_eq Hn.out)] at h
          rw [← h]; show _ = _; rw [show recI l [] = [] from rfl, List.append_nil]
        go_wp2_with fail
        go_ret2
        rw [HR.out]
        exact RetBytes.mk rfl HI.out.2.2.1.bytesB HI.out.2.2.2.2.2
end Go.Proofs.YtohadkmaemmfgaaGreatDoor
