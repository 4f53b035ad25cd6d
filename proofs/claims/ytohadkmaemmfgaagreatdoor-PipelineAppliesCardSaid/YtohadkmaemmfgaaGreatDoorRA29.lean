/- Dg Dh Di. -/
import Derived.Test.YtohadkmaemmfgaaGreatDoorRA28
import Derived.Lib.AppendStr
import Derived.Deep.RegionLaw
set_option maxRecDepth 100000
set_option maxHeartbeats 4000000
namespace Go.Proofs.YtohadkmaemmfgaaGreatDoor.Dic
open Go.RowKit Go.Proofs
set_option linter.unusedVariables false
def encB (b : UInt8) : Value := .int .u8 (b.toNat : Int)
theorem encB_one (s : UInt8) : (encB s).oneCell' = true := rfl
theorem infoB : (Tryz.prog.info? 5).map (fun i => (i.zero, i.size, i.bytes)) = some (some (encB 0), 1, 1) := by kernel_rfl
theorem _root_.Go.Proofs.YtohadkmaemmfgaaGreatDoor.Own.bytesBDic {w : World} {B : Nat} {e : TypeId} {A : Option Addr} {n c : Nat} {bs : List UInt8} (h : Own encB w B e A n c bs) : Bytes w A n c bs := ⟨h.length, h.cap, h.cells 0⟩
section
variable {α : Type} {enc : α → Value} {P : Program} {w : World} {B : Nat} {e t : TypeId} {A : Option Addr} {n c : Nat} {xs : List α} {zero : α} {bytes : Nat}
  {ops : Array Oper} {rest : List Oper} {o : Oper} {a : Act} {K : Act → World → Prop} {Q : Exit → Act → World → Prop} {E : Prop}
theorem wpList_pushv (hgd : o.guard = none) (s x : Operand) (ho : o.op = .call { callee := .builtin .append, args := #[s, x], argTypes := #[t, t] })
    (ht : P.underlying t = some (.slice e)) (hi : (P.info? e).map (fun i => (i.zero, i.size, i.bytes)) = some (some (enc zero), 1, bytes)) (h1 : ∀ x, (enc x).oneCell' = true) (hz : (enc zero).cells.size = 1)
    (hs : a.eval s = .slice A n c) (hown : Own enc w B e A n c xs) (hB : B ≤ w.heap.size) (y : α) (v : Value) (hv : enc y = v)
    (hx : a.eval x = .slice (some ⟨w.heap.size, 0, none⟩) 1 1) (hl : n + 1 ≤ maxLen) (hby : (n + 1) * bytes ≤ 140737488355328)
    (h : ∀ A2 c2 w', Own enc w' B e A2 (n + 1) c2 (xs ++ [y]) → Below B w w' → wpList P ops Q rest (a.put o.dst (.slice A2 (n + 1) c2)) w') : wpList P ops Q (o :: rest) a (w.alloc (.cells #[v] e)) := by
  subst hv
  exact wpList_push hgd s x ho ht hi h1 hz hs hown hB y hx hl hby h
theorem wpList_apps {bs : List UInt8} {u : TypeId} (hgd : o.guard = none) (s x : Operand) (ho : o.op = .call { callee := .builtin .append, args := #[s, x], argTypes := #[t, u] })
    (ht : P.underlying t = some (.slice e)) (hu : P.underlying u = some .string) (hi : (P.info? e).map (fun i => (i.zero, i.size, i.bytes)) = some (some (encB 0), 1, 1))
    (hs : a.eval s = .slice A n c) (hown : Own encB w B e A n c bs) (hB : B ≤ w.heap.size) (ys : List UInt8)
    (hx : a.eval x = .string (strB ys)) (hl : n + ys.length ≤ maxLen) (hby : n + ys.length ≤ 140737488355328)
    (h : ∀ A2 c2 w', Own encB w' B e A2 (n + ys.length) c2 (bs ++ ys) → Below B w w' → wpList P ops Q rest (a.put o.dst (.slice A2 (n + ys.length) c2)) w') : wpList P ops Q (o :: rest) a w := by
  obtain ⟨i, hi0, hz0, hs1, hb1⟩ := info_parts hi
  have hsz := strB_size ys
  refine Lib.wpList_append_own_string (w := w) hgd s x t u ho B e i ht hu hi0 hz0 hs1 hb1 _ n _ hs hown (strB ys) hx (by rw [hsz]; exact hl) (by rw [hsz]; exact hby) hB ?_
  intro v' w' h2 h3 h4
  rw [hsz] at h2
  have hform : ∃ A2 c2, v' = .slice A2 (n + ys.length) c2 := by
    rcases h2.2 with ⟨rfl, h0⟩ | ⟨g, cap, cur, rfl, _⟩
    · exact ⟨none, 0, by rw [h0]⟩
    · exact ⟨_, _, rfl⟩
  obtain ⟨A2, c2, rfl⟩ := hform
  refine h A2 c2 w' ?_ ((Below.refl B w).grown h3 hB (fun k hk => (World.ownsRow.lt hown k hk).1))
  unfold Own
  rw [List.map_append]
  exact h2
end
def RetBytes (w : World) (bs : List UInt8) (x : Int) (e : Ending) (w' : World) : Prop := ∃ A n c, e = .returned (.tuple #[.slice A n c, .int .i64 x]) ∧ Bytes w' A n c bs ∧ Below w.heap.size w w'
theorem Bytes.nil (w : World) (c : Nat) : Bytes w none 0 c [] := ⟨rfl, Nat.zero_le _, fun h => absurd h (by omega)⟩
theorem RetBytes.mk {w w' : World} {bs : List UInt8} {x x' : Int} {A : Option Addr} {n c : Nat} (hx : x = x') (h : Bytes w' A n c bs) (hb : Below w.heap.size w w') : RetBytes w bs x' (.returned (.tuple #[.slice A n c, .int .i64 x])) w' := by
  subst hx
  exact ⟨A, n, c, rfl, h, hb⟩
theorem RetBytes.err {w w' : World} {x x' : Int} (hx : x = x') (hb : Below w.heap.size w w') : RetBytes w [] x' (.returned (.tuple #[.slice none 0 0, .int .i64 x])) w' := RetBytes.mk hx (Bytes.nil _ _) hb
def codeR (ss : List (List UInt8)) (bs : List UInt8) : List UInt8 × Nat := if checkL ss = 0 then (codeL ss bs, 0) else ([], checkL ss)
theorem index_any (A : Option Addr) (c n : Nat) (ss : List (List UInt8)) (s : List UInt8) (w : World) (hx : Strs w A n c ss) (hn : n ≤ 1000000000) :
    Calls Tryz.prog 263 #[.slice A n c, .string (strB s)] w fun e w' => e = .returned (.int .i64 (placeL ss s)) ∧ w' = w := by
  have Hl := Lib.hid hx.1
  go_enter Tryz.func263, Tryz.ntmps263
  go_wp2
  go_loop [5, 8] (fun _ i => ∃ k : Nat, k ≤ n ∧ i = .int .i64 k ∧ Hid (∀ j, j < k → gs ss j ≠ s)) (fun _ i => n - (intOf i).toNat)
  case atStart => exact ⟨0, Nat.zero_le _, rfl, fun j hj => absurd hj (by omega)⟩
  case round =>
    obtain ⟨k, hk, rfl, HK⟩ := hrel
    by_cases hlt : k < n
    · obtain ⟨b, off, rfl, hb, hc⟩ := hx.get hlt
      have h1 := hc k hlt
      clear hc
      by_cases he : gs ss k = s
      · have hd : ((strB s).toList == (strB (gs ss k)).toList) = true := by rw [strB_beq]; exact decide_eq_true he.symm
        have hfin : Hid (placeL ss s = k) := placeL_at (by rw [Hl.out]; exact hlt) HK.out he
        clear he
        go_wp2
        go_ret
        exact ⟨ret_int hfin.out.symm, rfl⟩
      · have hd : ((strB s).toList == (strB (gs ss k)).toList) = false := by rw [strB_beq]; exact decide_eq_false (fun h => he h.symm)
        have He := Lib.hid he; clear he
        go_wp2
        go_round
        case rel => exact ⟨k + 1, by omega, by go_num, fun j hj => by
          rcases Nat.lt_succ_iff_lt_or_eq.1 hj with h | h
          · exact HK.out j h
          · subst h; exact He.out⟩
        case measure => simp [intOf]; omega
    · have hfin : Hid (placeL ss s = -1) := placeL_none (fun j hj => HK.out j (by have := Hl.out; omega))
      go_wp2
      go_ret
      exact ⟨ret_int hfin.out.symm, rfl⟩
theorem contains_any (A : Option Addr) (c n : Nat) (ss : List (List UInt8)) (s : List UInt8) (w : World) (hx : Strs w A n c ss) (hn : n ≤ 1000000000) :
    Calls Tryz.prog 212 #[.slice A n c, .string (strB s)] w fun e w' => e = .returned (.bool (decide (s ∈ ss))) ∧ w' = w := by
  have hcal := index_any A c n ss s w hx hn
  have Hcal := Lib.hid hcal; clear hcal
  have hfin := Lib.hid (placeL_ge ss s)
  go_enter Tryz.func212, Tryz.ntmps212
  go_wp2_with fail
  refine Hcal.out.mono ?_
  rintro e w1 ⟨rfl, hw1⟩
  obtain rfl : w = w1 := hw1.symm
  go_wp2_with fail
  go_ret
  exact ⟨ret_bool hfin.out, rfl⟩
theorem checkP_any (A : Option Addr) (c n : Nat) (ss : List (List UInt8)) (w : World) (hx : Strs w A n c ss) (hn : n ≤ 1000000000) (hl : ∀ s ∈ ss, s.length ≤ 1000000000) :
    Calls Tryz.prog 145 #[.slice A n c] w fun e w' => e = .returned (.int .i64 ((checkL ss : Nat) : Int)) ∧ w' = w := by
  have Hl := Lib.hid hx.1
  by_cases h64 : n ≤ 64
  · have d0 : decide ((64 : Int) < (n : Int)) = false := by simp; omega
    have hce : Hid (checkL ss = checkTo ss n) := by show _ = _; unfold checkL; rw [if_neg (by rw [Hl.out]; omega), Hl.out]
    go_enter Tryz.func145, Tryz.ntmps145
    go_wp2_with fail
    go_loop [3, 4, 10] (fun _ _ i => ∃ k : Nat, k ≤ n ∧ i = .int .i64 k ∧ Hid (checkTo ss k = 0)) (fun _ _ i => n - (intOf i).toNat)
    case atStart => exact ⟨0, Nat.zero_le _, rfl, rfl⟩
    case round =>
      obtain ⟨k, hk, rfl, HK⟩ := hrel
      by_cases hlt : k < n
      · have hlk : (gs ss k).length ≤ 1000000000 := by rw [gs_get (by rw [Hl.out]; exact hlt)]; exact hl _ (List.getElem_mem _)
        obtain ⟨r1, v1⟩ := hx.cut_h (k : Int) (by omega) (by omega)
        rw [Int.toNat_natCast] at r1 v1
        have hcal := allowed_any (gs ss k) w hlk
        have hpl := contains_any _ _ _ _ (gs ss k) _ v1 (by omega)
        obtain ⟨b, off, rfl, hb, hc⟩ := hx.get hlt
        have h1 := hc k hlt
        clear hc
        by_cases hw : isWordB (gs ss k) = true
        · rw [hw] at hcal
          have Hcal := Lib.hid hcal; clear hcal
          by_cases hm : gs ss k ∈ ss.take k
          · rw [decide_eq_true hm] at hpl
            have Hpl := Lib.hid hpl; clear hpl
            have hfin : Hid (checkL ss = 8) := by
              show _ = _
              have hbad : badAt ss k = 8 := by unfold badAt; rw [if_neg (by rw [hw]; simp), if_pos hm]
              rw [hce.out, checkTo_stop HK.out (by rw [hbad]; omega) n hlt, hbad]
            clear hw hm
            go_wp2_with (first
              | (go_at_call 138; refine Hcal.out.mono ?_; rintro e w1 ⟨rfl, hw1⟩; obtain rfl : w = w1 := hw1.symm)
              | (go_at_call 212; refine Hpl.out.mono ?_; rintro e w1 ⟨rfl, hw1⟩; obtain rfl : w = w1 := hw1.symm))
            go_ret
            exact ⟨ret_int (by rw [hfin.out]; rfl), rfl⟩
          · rw [decide_eq_false hm] at hpl
            have Hpl := Lib.hid hpl; clear hpl
            have hnext : Hid (checkTo ss (k + 1) = 0) := by
              show _ = _
              rw [checkTo, if_pos HK.out]
              exact badAt_zero.2 ⟨hw, hm⟩
            clear hw hm
            go_wp2_with (first
              | (go_at_call 138; refine Hcal.out.mono ?_; rintro e w1 ⟨rfl, hw1⟩; obtain rfl : w = w1 := hw1.symm)
              | (go_at_call 212; refine Hpl.out.mono ?_; rintro e w1 ⟨rfl, hw1⟩; obtain rfl : w = w1 := hw1.symm))
            go_round
            case rel => exact ⟨k + 1, by omega, by go_num, hnext⟩
            case measure => simp [intOf]; omega
        · have hw' : isWordB (gs ss k) = false := by simpa using hw
          rw [hw'] at hcal
          have Hcal := Lib.hid hcal; clear hcal
          have hfin : Hid (checkL ss = 24) := by
            show _ = _
            have hbad : badAt ss k = 24 := by unfold badAt; rw [if_pos hw']
            rw [hce.out, checkTo_stop HK.out (by rw [hbad]; omega) n hlt, hbad]
          clear hw hw' hpl
          go_wp2_with (go_at_call 138; refine Hcal.out.mono ?_; rintro e w1 ⟨rfl, hw1⟩; obtain rfl : w = w1 := hw1.symm)
          go_ret
          exact ⟨ret_int (by rw [hfin.out]; rfl), rfl⟩
      · have hfin : Hid (checkL ss = 0) := by
          show _ = _
          obtain rfl : k = n := by omega
          rw [hce.out]; exact HK.out
        go_wp2_with fail
        go_ret
        exact ⟨ret_int (by rw [hfin.out]; rfl), rfl⟩
  · have d0 : decide ((64 : Int) < (n : Int)) = true := by simp; omega
    have hfin : Hid (checkL ss = 6) := by show _ = _; unfold checkL; rw [if_pos (by rw [Hl.out]; omega)]
    go_enter Tryz.func145, Tryz.ntmps145
    go_wp2_with fail
    go_ret
    exact ⟨ret_int (by rw [hfin.out]; rfl), rfl⟩
def vLen (v : Value) : Nat := match v with
  | .slice _ n _ => n
  | _ => 0
theorem _root_.Go.Proofs.YtohadkmaemmfgaaGreatDoor.Own.drewN {α : Type} {enc : α → Value} {w : World} {B : Nat} {e : TypeId} {A : Option Addr} {n c : Nat} {xs : List α} (h : Own enc w B e A n c xs) (q : Nat) : Own enc (w.drewN q) B e A n c xs := h
theorem _root_.Go.Proofs.YtohadkmaemmfgaaGreatDoor.Own.drew {α : Type} {enc : α → Value} {w : World} {B : Nat} {e : TypeId} {A : Option Addr} {n c : Nat} {xs : List α} (h : Own enc w B e A n c xs) : Own enc w.drew B e A n c xs := h
section
variable {α : Type} {enc : α → Value} {P : Program} {w : World} {B : Nat} {e t : TypeId} {A : Option Addr} {n c : Nat} {xs : List α} {zero : α} {bytes : Nat}
  {ops : Array Oper} {rest : List Oper} {o : Oper} {a : Act} {K : Act → World → Prop} {Q : Exit → Act → World → Prop} {E : Prop}
theorem step_pushv (hgd : o.guard = none) (s x : Operand) (ho : o.op = .call { callee := .builtin .append, args := #[s, x], argTypes := #[t, t] })
    (ht : P.underlying t = some (.slice e)) (hi : (P.info? e).map (fun i => (i.zero, i.size, i.bytes)) = some (some (enc zero), 1, bytes)) (h1 : ∀ x, (enc x).oneCell' = true) (hz : (enc zero).cells.size = 1)
    (hs : a.eval s = .slice A n c) (hown : Own enc w B e A n c xs) (hB : B ≤ w.heap.size) (y : α) (v : Value) (hv : enc y = v)
    (hx : a.eval x = .slice (some ⟨w.heap.size, 0, none⟩) 1 1) (hl : n + 1 ≤ maxLen) (hby : (n + 1) * bytes ≤ 140737488355328)
    (h : ∀ A2 c2 w', Own enc w' B e A2 (n + 1) c2 (xs ++ [y]) → Below B w w' → K (a.put o.dst (.slice A2 (n + 1) c2)) w') :
    if Region.wanted o (yielded ops a.tmps) = true then Oper.wp P o a (w.alloc (.cells #[v] e)) K Q else E := by
  subst hv
  exact step_push hgd s x ho ht hi h1 hz hs hown hB y hx hl hby h
end
end Go.Proofs.YtohadkmaemmfgaaGreatDoor.Dic
