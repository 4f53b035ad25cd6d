/- Contracts: the closures of Find, suffix.Find. -/
import Derived.Test.YtkndcbnajkiceaaWj
namespace Go.Proofs.Ytkndcbnajkiceaa
open Go.RowKit Go.Proofs
set_option linter.unusedVariables false

def begA (A : Option Addr) (c p : Nat) : Option Addr := if c = p then A else A.map (·.add p)
/-- the beginning of the suffix of a row, as long as the pattern. -/
def beg (bs : List UInt8) (zs : List Int) (l : Nat) (r : Nat) : List UInt8 := (sfx bs (gi zs r)).take l

set_option maxHeartbeats 1000000 in
theorem beginning_any (O X T : Nat) (A B C : Option Addr) (c n d m f l : Nat) (bs : List UInt8) (zs : List Int) (r : Nat) (w : World) (hO : w.cell? ⟨O, 0, none⟩ = some (.slice B m d)) (hX : w.cell? ⟨X, 0, none⟩ = some (.slice A n c)) (hT : w.cell? ⟨T, 0, none⟩ = some (.slice C l f))
    (hx : Bytes w A n c bs) (hy : Ints w B m d zs) (hn : n ≤ 65536) (hl : l ≤ 65536) (hr : r < m) (p : Nat) (hp : gi zs r = (p : Int)) (hpn : p ≤ n) :
    Calls Try.prog 34 #[.int .i64 (r : Int), .pointer (some ⟨O, 0, none⟩), .pointer (some ⟨X, 0, none⟩), .pointer (some ⟨T, 0, none⟩)] w fun e w' => e = .returned (.slice (begA A c p) (min n (p + l) - p) (c - p)) ∧ w' = w := by
  have hnc := hx.2.1
  obtain ⟨b, off, rfl, hb, hcell⟩ := hy.get hr
  have c1 := hcell r hr
  rw [hp] at c1
  clear hcell hp
  have r1 : ∀ W : World, (Instr.slice 22 (.slice A n c) (some (.int .i64 (p : Int))) (some (.int .i64 ((min n (p + l) : Nat) : Int))) none).run Try.prog W = .ok (.slice (begA A c p) (min n (p + l) - p) (c - p)) W := fun W => by
    have h := run_cut_lh (P := Try.prog) (A := A) (n := n) (c := c) tB eB sB (p : Int) ((min n (p + l) : Nat) : Int) (by omega) (by omega) (by omega) W
    simp only [Int.toNat_natCast] at h
    exact h
  have e1 : min (n : Int) ((p : Int) + (l : Int)) = ((min n (p + l) : Nat) : Int) := by omega
  go_enter Try.func34, Try.ntmps34
  go_wp2_with fail
  go_ret
  exact ⟨rfl, rfl⟩

theorem beg_bytes {w : World} {A : Option Addr} {c n l : Nat} {bs : List UInt8} {zs : List Int} {r p : Nat} (hx : Bytes w A n c bs) (hp : gi zs r = (p : Int)) (hpn : p ≤ n) : Bytes w (begA A c p) (min n (p + l) - p) (c - p) (beg bs zs l r) := by
  have h1 := hx.1
  have h2 := hx.2.1
  refine ⟨by simp [beg, sfx, hp]; omega, by omega, fun hm => ?_⟩
  obtain ⟨b, off, hA, hbk, hcell⟩ := hx.2.2.cut p (min n (p + l) - p) (by omega) (begA A c p) (fun _ => if_neg (by omega)) hm
  refine ⟨b, off, hA, hbk, fun i hi => ?_⟩
  rw [hcell i hi]
  show some (Value.int .u8 _) = some (Value.int .u8 _)
  unfold beg sfx
  rw [hp, Int.toNat_natCast, gb_take _ _ _ (by omega), gb_drop]

set_option maxHeartbeats 1000000 in
theorem find2_any (O X T F : Nat) (A B C : Option Addr) (c n d m f l : Nat) (bs : List UInt8) (zs : List Int) (pat : List UInt8) (r : Nat) (w : World) (hO : w.cell? ⟨O, 0, none⟩ = some (.slice B m d)) (hX : w.cell? ⟨X, 0, none⟩ = some (.slice A n c)) (hT : w.cell? ⟨T, 0, none⟩ = some (.slice C l f))
    (hF : w.cell? ⟨F, 0, none⟩ = some (.func (.func 34) #[] #[.pointer (some ⟨O, 0, none⟩), .pointer (some ⟨X, 0, none⟩), .pointer (some ⟨T, 0, none⟩)]))
    (hx : Bytes w A n c bs) (hy : Ints w B m d zs) (hq : Bytes w C l f pat) (hn : n ≤ 65536) (hl : l ≤ 65536) (hr : r < m) (hz0 : 0 ≤ gi zs r) (hz1 : gi zs r ≤ n) :
    Calls Try.prog 35 #[.int .i64 (r : Int), .pointer (some ⟨F, 0, none⟩), .pointer (some ⟨T, 0, none⟩)] w fun e w' => e = .returned (.bool (decide (0 ≤ cmpL (beg bs zs l r) pat))) ∧ Drawn w w' := by
  obtain ⟨p, hp⟩ := Int.eq_ofNat_of_zero_le hz0
  have H1 : Hid (∀ q, Calls Try.prog 34 #[.int .i64 (r : Int), .pointer (some ⟨O, 0, none⟩), .pointer (some ⟨X, 0, none⟩), .pointer (some ⟨T, 0, none⟩)] (w.drewN q) fun e w' => e = .returned (.slice (begA A c p) (min n (p + l) - p) (c - p)) ∧ w' = w.drewN q) :=
    fun q => beginning_any O X T A B C c n d m f l bs zs r (w.drewN q) hO hX hT (hx.drewN q) (hy.drewN q) hn hl hr p hp (by omega)
  have H2 : Hid (∀ q, Calls Try.prog 36 #[.slice (begA A c p) (min n (p + l) - p) (c - p), .slice C l f] (w.drewN q) fun e w' => e = .returned (.int .i64 (cmpL (beg bs zs l r) pat)) ∧ w' = w.drewN q) :=
    fun q => compareS_any _ _ _ _ _ _ _ _ (w.drewN q) ((beg_bytes hx hp (by omega)).drewN q) (hq.drewN q) (by omega) (by omega)
  clear hO hX hp hx hy hq hz0 hz1
  go_enter Try.func35, Try.ntmps35
  go_wp2_with fail
  go_quiet (first
    | (go_at_call 34; exact Calls.quiet_of_same (H1.out _))
    | (go_at_call 36; exact Calls.quiet_of_same (H2.out _)))
  go_wp2_with fail
  go_ret
  exact ⟨rfl, Drawn.drewN _ _⟩

set_option maxHeartbeats 1000000 in
theorem find3_any (O X T F : Nat) (A B C : Option Addr) (c n d m f l : Nat) (bs : List UInt8) (zs : List Int) (pat : List UInt8) (r : Nat) (w : World) (hO : w.cell? ⟨O, 0, none⟩ = some (.slice B m d)) (hX : w.cell? ⟨X, 0, none⟩ = some (.slice A n c)) (hT : w.cell? ⟨T, 0, none⟩ = some (.slice C l f))
    (hF : w.cell? ⟨F, 0, none⟩ = some (.func (.func 34) #[] #[.pointer (some ⟨O, 0, none⟩), .pointer (some ⟨X, 0, none⟩), .pointer (some ⟨T, 0, none⟩)]))
    (hx : Bytes w A n c bs) (hy : Ints w B m d zs) (hq : Bytes w C l f pat) (hn : n ≤ 65536) (hl : l ≤ 65536) (hr : r < m) (hz0 : 0 ≤ gi zs r) (hz1 : gi zs r ≤ n) :
    Calls Try.prog 37 #[.int .i64 (r : Int), .pointer (some ⟨F, 0, none⟩), .pointer (some ⟨T, 0, none⟩)] w fun e w' => e = .returned (.bool (decide (0 < cmpL (beg bs zs l r) pat))) ∧ Drawn w w' := by
  obtain ⟨p, hp⟩ := Int.eq_ofNat_of_zero_le hz0
  have H1 : Hid (∀ q, Calls Try.prog 34 #[.int .i64 (r : Int), .pointer (some ⟨O, 0, none⟩), .pointer (some ⟨X, 0, none⟩), .pointer (some ⟨T, 0, none⟩)] (w.drewN q) fun e w' => e = .returned (.slice (begA A c p) (min n (p + l) - p) (c - p)) ∧ w' = w.drewN q) :=
    fun q => beginning_any O X T A B C c n d m f l bs zs r (w.drewN q) hO hX hT (hx.drewN q) (hy.drewN q) hn hl hr p hp (by omega)
  have H2 : Hid (∀ q, Calls Try.prog 36 #[.slice (begA A c p) (min n (p + l) - p) (c - p), .slice C l f] (w.drewN q) fun e w' => e = .returned (.int .i64 (cmpL (beg bs zs l r) pat)) ∧ w' = w.drewN q) :=
    fun q => compareS_any _ _ _ _ _ _ _ _ (w.drewN q) ((beg_bytes hx hp (by omega)).drewN q) (hq.drewN q) (by omega) (by omega)
  clear hO hX hp hx hy hq hz0 hz1
  go_enter Try.func37, Try.ntmps37
  go_wp2_with fail
  go_quiet (first
    | (go_at_call 34; exact Calls.quiet_of_same (H1.out _))
    | (go_at_call 36; exact Calls.quiet_of_same (H2.out _)))
  go_wp2_with fail
  go_ret
  exact ⟨rfl, Drawn.drewN _ _⟩
end Go.Proofs.Ytkndcbnajkiceaa
