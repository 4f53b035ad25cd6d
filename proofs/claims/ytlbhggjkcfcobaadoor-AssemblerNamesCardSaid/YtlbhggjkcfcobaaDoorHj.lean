/- The reference of the assembler: declare; what read keeps. (Printed by wip/mkhg.py.) -/
import Derived.Test.YtlbhggjkcfcobaaDoorHi
import Derived.Test.YtlbhggjkcfcobaaDoorHd
import Derived.Test.YtlbhggjkcfcobaaDoorGh
namespace Go.Proofs.YtlbhggjkcfcobaaDoor
open Go.RowKit Go.Proofs
set_option linter.unusedVariables false

/-- the words in memory. -/
def WdsC (W : World) (A : Option Addr) (n : Nat) (l : List Wd) : Prop := 0 < n → ∃ b off, A = some ⟨b, off, none⟩ ∧ b < W.heap.size ∧ ∀ i, i < n → W.cell? ⟨b, off + i * 2, none⟩ = some (.string (strB (gW l i).1)) ∧ W.cell? ⟨b, off + i * 2 + 1, none⟩ = some (.int .i64 ((gW l i).2 : Int))
theorem wds_of {W : World} {B n c : Nat} {e : TypeId} {A : Option Addr} {l : List Wd} (h : OwnS encW 2 W B e A n c l) : WdsC W A n l := fun hn => by
  obtain ⟨b, hA, _, hlt, hc⟩ := h.get (fun _ => rfl) (by decide) (([], 0) : Wd) hn
  refine ⟨b, 0, hA, hlt, fun i hi => ⟨?_, ?_⟩⟩
  · have := hc i 0 (.string (strB (gW l i).1)) hi rfl
    simpa using this
  · have := hc i 1 (.int .i64 ((gW l i).2 : Int)) hi rfl
    simpa using this
/-- what the state's error tells. -/
def errAt (g : Nat) (W : World) : Int := match W.cell? ⟨g, 9, none⟩ with
  | some (.int _ z) => z
  | _ => 0
def measR (g N : Nat) (i : Value) (W : World) : Nat := if errAt g W = 0 then N + 4 - (intOf i).toNat else 0
/-- what reading holds to between two items. -/
structure RdI (w W : World) (g4 : Nat) (ws : List Wd) (A : Option Addr) (nl cl : Nat) (v : SVs) (L C a er : Int) : Prop where
  r2 : rowV W w.heap.size 76 #[.slice none 0 0, .int .i64 0, .slice none 0 0, .slice none 0 0, .slice none 0 0, .slice none 0 0, .slice none 0 0, .int .i64 0, .int .i64 0, .int .i64 0]
  r4 : rowV W g4 76 #[.slice v.Aa v.na v.ca, .int .i64 L, .slice v.Ac v.nc v.cc, .slice v.An v.nn v.cn, .slice v.Al v.nl v.cl, .slice v.Ak v.nk v.ck, .slice v.Av v.nv v.cv, .int .i64 C, .int .i64 a, .int .i64 er]
  wo : OwnS encW 2 W w.heap.size 104 A nl cl ws
  b : Below w.heap.size w W
  lt : w.heap.size < g4
def AliveR (w W : World) (n k : Nat) (ws : List Wd) (R : AR) (v : SVs) (L C : Int) (s : AS) : Prop := L = (s.ln.length : Int) ∧ C = s.cells ∧ RS w.heap.size W s.arrs s.an s.ln (s.cn.map (·.1)) (s.cn.map (·.2)) s.code v ∧ Formed s ∧ s.cn.length ≤ k ∧ readW n s (ws.drop k) = R
theorem errAt_row {g : Nat} {W : World} {v : SVs} {L C a er : Int} (h : rowV W g 76 #[.slice v.Aa v.na v.ca, .int .i64 L, .slice v.Ac v.nc v.cc, .slice v.An v.nn v.cn, .slice v.Al v.nl v.cl, .slice v.Ak v.nk v.ck, .slice v.Av v.nv v.cv, .int .i64 C, .int .i64 a, .int .i64 er]) : errAt g W = er := by
  unfold errAt
  rw [cell_rowV h (j := 9) rfl]
  rfl
/-- what reading comes to. -/
def RdF (B : Nat) (W : World) (R : AR) (v : SVs) (L C a er : Int) : Prop := match R with
  | .bad a' e' => a = (a' : Int) ∧ er = e'
  | .ok s' _ => er = 0 ∧ L = (s'.ln.length : Int) ∧ C = s'.cells ∧ RS B W s'.arrs s'.an s'.ln (s'.cn.map (·.1)) (s'.cn.map (·.2)) s'.code v ∧ Formed s'
/-- what read returns. -/
def RdP (w : World) (R : AR) (e : Ending) (w' : World) : Prop := Below w.heap.size w w' ∧ ∃ (v : SVs) (L C a er : Int), e = .returned (.agg (stA v L C a er)) ∧ RdF w.heap.size w' R v L C a er
theorem drop_gW {ws : List Wd} {k : Nat} (h : k < ws.length) : ws.drop k = gW ws k :: ws.drop (k + 1) := by
  unfold gW
  rw [List.getD_eq_getElem?_getD, List.getElem?_eq_getElem h]
  exact List.drop_eq_getElem_cons h
theorem nextW_drop (n : Nat) {ws : List Wd} {k : Nat} (h : k < ws.length) : nextW n (ws.drop k) = gW ws k := by rw [drop_gW h]; rfl
theorem nextW_over (n : Nat) {ws : List Wd} {k : Nat} (h : ws.length ≤ k) : nextW n (ws.drop k) = ([], n) := by rw [List.drop_of_length_le h]; rfl
theorem RS.nil (B : Nat) (w : World) : RS B w [] [] [] [] [] [] ⟨none, 0, 0, none, 0, 0, none, 0, 0, none, 0, 0, none, 0, 0, none, 0, 0⟩ :=
  ⟨OwnS.nil _ _ _ _ _, OwnS.nil _ _ _ _ _, OwnS.nil _ _ _ _ _, OwnS.nil _ _ _ _ _, OwnS.nil _ _ _ _ _, OwnS.nil _ _ _ _ _, (fun b hb => by cases hb), (fun b hb => by cases hb), (fun b hb => by cases hb)⟩
theorem infoWt : (Tryd.prog.info? 104).map (·.size) = some 2 := by kernel_rfl
theorem wpList_store_two {P : Program} {ops : Array Oper} {rest : List Oper} {op : Oper} {a : Act} {w : World} {Q : Exit → Act → World → Prop} (hgd : op.guard = none) (ty : TypeId) (x y : Operand) (ho : op.op = .store ty x y)
    (g j : Nat) (u v : Value) (hx : a.eval x = .pointer (some ⟨g, j, none⟩)) (hy : a.eval y = .agg #[u, v]) {t : TypeId} {cs : Array Value} (hr : rowV w g t cs) (hj : j + 1 < cs.size) (hi : (P.info? ty).map (·.size) = some 2) (h1 : #[u, v].all (·.oneCell') = true)
    (h : wpList P ops Q rest (a.put op.dst undef) ((w.setCell ⟨g, j, none⟩ u).setCell ⟨g, j + 1, none⟩ v)) : wpList P ops Q (op :: rest) a w :=
  wpList_store_mid hgd ty x y ho g j #[u, v] hx hy (fun i hi2 => ⟨by
    have hi2 : i < 2 := hi2
    rw [cell_rowV hr (j := j + i) (Array.getElem?_eq_getElem (by omega))]; rfl, frozen_rowV' hr _⟩) hi h1 h
theorem infoT : (Tryd.prog.info? 105).map (·.size) = some 4 := by kernel_rfl

theorem declareR_any (B : Nat) (w : World) (s : AS) (v : SVs) (n : Nat) (r : List Wd) (at_ er : Int) (h : RS B w s.arrs s.an s.ln (s.cn.map (·.1)) (s.cn.map (·.2)) s.code v) (hF : Formed s) (hB : B ≤ w.heap.size) (hk : v.nk ≤ 90000) (hx0' : (nextW n r).1.length ≤ 9000) (hx1' : (nextW n r.tail).1.length ≤ 9000) (x : List UInt8) (z : Nat) (hx : declL4.contains x = true) :
    Calls Tryd.prog 47 #[.agg #[.slice v.Aa v.na v.ca, .int .i64 (s.ln.length : Int), .slice v.Ac v.nc v.cc, .slice v.An v.nn v.cn, .slice v.Al v.nl v.cl, .slice v.Ak v.nk v.ck, .slice v.Av v.nv v.cv, .int .i64 s.cells, .int .i64 at_, .int .i64 er], .string (strB x), .agg #[.string (strB (nextW n r).1), .int .i64 ((nextW n r).2 : Int), .string (strB (nextW n r.tail).1), .int .i64 ((nextW n r.tail).2 : Int)]] w (DecP B w (stepL n (x, z) s r)) := by
  rw [declL4_eq] at hx
  simp only [Bool.or_eq_true, decide_eq_true_eq] at hx
  rcases hx with ((rfl | rfl) | rfl) | rfl
  · have e : stepL n ([98, 121, 116, 101, 115], z) s r = arrayL n false s r := by unfold stepL; rw [if_pos rfl]
    rw [e]
    exact declare_array B w s v n r at_ er h hF hB hk hx0' hx1' _ false (.inl ⟨rfl, rfl⟩)
  · have e : stepL n ([119, 111, 114, 100, 115], z) s r = arrayL n true s r := by unfold stepL; rw [if_neg (by dsimp only; decide), if_pos rfl]
    rw [e]
    exact declare_array B w s v n r at_ er h hF hB hk hx0' hx1' _ true (.inr ⟨rfl, rfl⟩)
  · have e : stepL n ([108, 111, 99, 97, 108], z) s r = localL n s r := by unfold stepL; rw [if_neg (by dsimp only; decide), if_neg (by dsimp only; decide), if_pos rfl]
    rw [e]
    exact declare_local B w s v n r at_ er h hF hB hk hx0' hx1'
  · have e : stepL n ([99, 111, 110, 115, 116], z) s r = constL n s r := by unfold stepL; rw [if_neg (by dsimp only; decide), if_neg (by dsimp only; decide), if_neg (by dsimp only; decide), if_pos rfl]
    rw [e]
    exact declare_const B w s v n r at_ er h hF hB hk hx0' hx1'
theorem stepL_cn {n : Nat} {w : Wd} {s s' : AS} {r r' : List Wd} (h : stepL n w s r = .ok s' r') : s'.cn.length ≤ s.cn.length + 1 := by
  unfold stepL at h
  by_cases h1 : w.1 = [98, 121, 116, 101, 115]
  · rw [if_pos h1] at h
    obtain ⟨x, y, t, _, _, _, _, _, _, _, rfl⟩ := arrayL_ok h
    exact Nat.le_succ _
  rw [if_neg h1] at h
  by_cases h2 : w.1 = [119, 111, 114, 100, 115]
  · rw [if_pos h2] at h
    obtain ⟨x, y, t, _, _, _, _, _, _, _, rfl⟩ := arrayL_ok h
    exact Nat.le_succ _
  rw [if_neg h2] at h
  by_cases h3 : w.1 = [108, 111, 99, 97, 108]
  · rw [if_pos h3] at h
    obtain ⟨x, t, _, _, _, _, rfl⟩ := localL_ok h
    exact Nat.le_succ _
  rw [if_neg h3] at h
  by_cases h4 : w.1 = [99, 111, 110, 115, 116]
  · rw [if_pos h4] at h
    obtain ⟨x, y, t, _, _, _, _, rfl⟩ := constL_ok h
    simp
  rw [if_neg h4] at h
  obtain ⟨op, _, _, ⟨_, x, t, _, _, _, rfl⟩ | ⟨_, _, rfl⟩⟩ := instrL_ok h
  · exact Nat.le_succ _
  · exact Nat.le_succ _
theorem RdI.below {w W X : World} {g4 : Nat} {ws : List Wd} {A : Option Addr} {nl cl : Nat} {v : SVs} {L C a er : Int} (h : RdI w W g4 ws A nl cl v L C a er) (hb : Below W.heap.size W X) : RdI w X g4 ws A nl cl v L C a er :=
  ⟨h.r2.below hb h.r2.lt, h.r4.below hb h.r4.lt, h.wo.below hb, h.b.trans (hb.mono h.b.size), h.lt⟩
/-- lists of other types are written. -/
theorem RdI.kept {w W X : World} {g4 : Nat} {ws : List Wd} {A : Option Addr} {nl cl : Nat} {v : SVs} {L C a er : Int} (h : RdI w W g4 ws A nl cl v L C a er) (hk : KT W X) (hb : Below w.heap.size W X) : RdI w X g4 ws A nl cl v L C a er :=
  ⟨hk.row h.r2 (by decide), hk.row h.r4 (by decide), hk.own h.wo (by decide), h.b.trans hb, h.lt⟩
/-- the state's own row is written. -/
theorem RdI.far {w W X : World} {g4 : Nat} {ws : List Wd} {A : Option Addr} {nl cl : Nat} {v v' : SVs} {L C a er L' C' a' er' : Int} (h : RdI w W g4 ws A nl cl v L C a er) (hg : W.grownBy X (some g4)) (hb : Below w.heap.size W X) (hr : rowV X g4 76 #[.slice v'.Aa v'.na v'.ca, .int .i64 L', .slice v'.Ac v'.nc v'.cc, .slice v'.An v'.nn v'.cn, .slice v'.Al v'.nl v'.cl, .slice v'.Ak v'.nk v'.ck, .slice v'.Av v'.nv v'.cv, .int .i64 C', .int .i64 a', .int .i64 er']) : RdI w X g4 ws A nl cl v' L' C' a' er' :=
  ⟨h.r2.grown hg (fun e => by injection e with e; have := h.lt; omega), hr, h.wo.grown hg (h.wo.ne_row h.r4 (by decide)), h.b.trans hb, h.lt⟩
theorem RdI.setRow {w W : World} {g4 : Nat} {ws : List Wd} {A : Option Addr} {nl cl : Nat} {v v' : SVs} {L C a er L' C' a' er' : Int} (h : RdI w W g4 ws A nl cl v L C a er) : RdI w (W.setRow g4 (stA v' L' C' a' er')) g4 ws A nl cl v' L' C' a' er' :=
  h.far (grownBy_setRow W g4 _) (Below.setRowG (Below.refl _ _) (Nat.le_of_lt h.lt) _) (setRow_heap W g4 _ (stA v' L' C' a' er') _ _ h.r4)
theorem RdI.setAt {w W : World} {g4 : Nat} {ws : List Wd} {A : Option Addr} {nl cl : Nat} {v : SVs} {L C a er : Int} (h : RdI w W g4 ws A nl cl v L C a er) (a' : Int) : RdI w (W.setCell ⟨g4, 8, none⟩ (.int .i64 a')) g4 ws A nl cl v L C a' er :=
  h.far (grownBy.setCell' (World.grownBy.refl W (some g4)) _) (Below.setG (Nat.le_of_lt h.lt) _) (h.r4.set 8 _)
theorem RdI.setEr {w W : World} {g4 : Nat} {ws : List Wd} {A : Option Addr} {nl cl : Nat} {v : SVs} {L C a er : Int} (h : RdI w W g4 ws A nl cl v L C a er) (er' : Int) : RdI w (W.setCell ⟨g4, 9, none⟩ (.int .i64 er')) g4 ws A nl cl v L C a er' :=
  h.far (grownBy.setCell' (World.grownBy.refl W (some g4)) _) (Below.setG (Nat.le_of_lt h.lt) _) (h.r4.set 9 _)
theorem RdI.setCode {w W : World} {g4 : Nat} {ws : List Wd} {A : Option Addr} {nl cl : Nat} {v : SVs} {L C a er : Int} (h : RdI w W g4 ws A nl cl v L C a er) (A2 : Option Addr) (n2 c2 : Nat) : RdI w (W.setCell ⟨g4, 2, none⟩ (.slice A2 n2 c2)) g4 ws A nl cl { v with Ac := A2, nc := n2, cc := c2 } L C a er :=
  h.far (grownBy.setCell' (World.grownBy.refl W (some g4)) _) (Below.setG (Nat.le_of_lt h.lt) _) (h.r4.set 2 _)
theorem meas_lt {w W X : World} {g4 nl cl N : Nat} {ws : List Wd} {A : Option Addr} {v v' : SVs} {L C a L' C' a' er' : Int} {k : Nat} {i : Value} (h : RdI w W g4 ws A nl cl v L C a 0) (h2 : RdI w X g4 ws A nl cl v' L' C' a' er') (hi : k < (intOf i).toNat ∧ k < N + 4 ∨ er' ≠ 0 ∧ k < N + 4) : measR g4 N i X < measR g4 N (.int .i64 (k : Int)) W := by
  unfold measR
  rw [errAt_row h.r4, errAt_row h2.r4, if_pos rfl]
  have e : (intOf (.int .i64 (k : Int))).toNat = k := by simp [intOf]
  rw [e]
  by_cases h0 : er' = 0
  · rw [if_pos h0]; rcases hi with hi | hi
    · omega
    · exact absurd h0 hi.1
  · rw [if_neg h0]; omega
/-- what an item leaves. -/
def Left (B : Nat) (W : World) (res : AR) (v : SVs) (L C a er : Int) : Prop := match res with
  | .bad a' e' => a = (a' : Int) ∧ er = e'
  | .ok s' _ => er = 0 ∧ L = (s'.ln.length : Int) ∧ C = s'.cells ∧ RS B W s'.arrs s'.an s'.ln (s'.cn.map (·.1)) (s'.cn.map (·.2)) s'.code v
theorem Left.next {w W : World} {n k k1 : Nat} {ws : List Wd} {R : AR} {s : AS} {x : List UInt8} {z : Nat} {v : SVs} {L C a er : Int} (h : Left w.heap.size W (stepL n (x, z) s (ws.drop k1)) v L C a er) (hk1 : k1 = k + 1) (hk : k < ws.length) (hx : gW ws k = (x, z)) (hF : Formed s) (hcn : s.cn.length ≤ k) (hR : readW n s (ws.drop k) = R) (m : Nat) (hm : er = 0 → m = k1 + widthL x) :
    (er = 0 → ∃ s', AliveR w W n m ws R v L C s') ∧ (er ≠ 0 → ∃ a' : Nat, a = (a' : Int) ∧ R = .bad a' er) := by
  rw [drop_gW hk, hx, ← hk1] at hR
  cases hs : stepL n (x, z) s (ws.drop k1) with
  | bad a' e' =>
    rw [hs] at h
    obtain ⟨h1, h2⟩ := h
    have hne := stepL_ne hs
    rw [readW_bad hs] at hR
    exact ⟨fun e => absurd (h2.symm.trans e) hne, fun _ => ⟨a', h1, by rw [← hR, h2]⟩⟩
  | ok s' r' =>
    rw [hs] at h
    obtain ⟨h1, h2, h3, h4⟩ := h
    rw [readW_ok hs] at hR
    obtain ⟨g1, g2, _⟩ := stepL_grew hs
    have hc := stepL_cn hs
    refine ⟨fun _ => ⟨s', h2, h3, h4, stepL_formed hF hs, ?_, ?_⟩, fun e => absurd h1 e⟩
    · rw [hm h1]; omega
    · rw [hm h1, ← hR, g1, List.drop_drop]
theorem stepL_instr {n z : Nat} {x : List UInt8} {s : AS} {r : List Wd} (h : declL4.contains x = false) : stepL n (x, z) s r = instrL n (x, z) s r := by
  have hne : ∀ y ∈ declL4, x ≠ y := fun y hy e => by
    rw [e] at h
    have : declL4.contains y = true := by simpa using hy
    rw [this] at h; cases h
  unfold stepL
  rw [if_neg (hne _ (by simp [declL4])), if_neg (hne _ (by simp [declL4])), if_neg (hne _ (by simp [declL4])), if_neg (hne _ (by simp [declL4]))]
theorem widthL_decl {x : List UInt8} (h : declL4.contains x = true) : widthL x = if x = [108, 111, 99, 97, 108] then 1 else 2 := by
  rw [declL4_eq] at h
  simp only [Bool.or_eq_true, decide_eq_true_eq] at h
  rcases h with ((rfl | rfl) | rfl) | rfl <;> rfl
theorem widthL_instr {x : List UInt8} {op : Nat} (h : declL4.contains x = false) (hf : findL x = some op) : widthL x = if op ≤ 4 ∨ op = 35 then 1 else 0 := by
  have hne : ∀ y ∈ declL4, x ≠ y := fun y hy e => by
    rw [e] at h
    have : declL4.contains y = true := by simpa using hy
    rw [this] at h; cases h
  unfold widthL
  rw [if_neg (hne _ (by simp [declL4])), if_neg (hne _ (by simp [declL4])), if_neg (hne _ (by simp [declL4])), if_neg (hne _ (by simp [declL4])), hf]
theorem arg_iff : ∀ k : Fin 36, (opO k.val).arg = decide (k.val ≤ 4 ∨ k.val = 35) := by decide +kernel
theorem instrL_some {n z op : Nat} {x : List UInt8} {s : AS} {r : List Wd} (hf : findL x = some op) : instrL n (x, z) s r = if 1024 ≤ s.code.length then .bad z 6 else if op ≤ 4 ∨ op = 35 then
        (if (argL s op (nextW n r).1).2 ≠ 0 then .bad (nextW n r).2 (argL s op (nextW n r).1).2 else .ok { s with code := s.code ++ [⟨op, (argL s op (nextW n r).1).1⟩] } r.tail)
      else .ok { s with code := s.code ++ [⟨op, 0⟩] } r := by rw [instrL_eq, hf]
theorem instrL_none {n z : Nat} {x : List UInt8} {s : AS} {r : List Wd} (hf : findL x = none) : instrL n (x, z) s r = .bad z 4 := by rw [instrL_eq, hf]
theorem argL_lt {s : AS} (hF : Formed s) {op : Nat} (x : List UInt8) : (argL s op x).1 < 4294967296 := by
  unfold argL
  have hi : ∀ l : List (List UInt8), l.length ≤ 100 → (indexL l x).1 < 4294967296 := fun l hl => by
    unfold indexL
    by_cases h1 : nameL x = false
    · rw [if_pos h1]; decide
    · rw [if_neg h1]
      by_cases h2 : l.contains x = false
      · rw [if_pos h2]; decide
      · rw [if_neg h2]
        have : l.idxOf x ≤ l.length := List.idxOf_le_length
        show l.idxOf x < _
        omega
  by_cases h0 : op = 0
  · rw [if_pos h0]; exact valueL_lt hF.cn x
  rw [if_neg h0]
  by_cases h1 : op = 35
  · rw [if_pos h1]; exact valueL_lt hF.cn x
  rw [if_neg h1]
  have := hF.an; have := hF.few; have := hF.locs
  by_cases h2 : op = 1 ∨ op = 2
  · rw [if_pos h2]; exact hi _ (by omega)
  · rw [if_neg h2]; exact hi _ (by omega)
end Go.Proofs.YtlbhggjkcfcobaaDoor
