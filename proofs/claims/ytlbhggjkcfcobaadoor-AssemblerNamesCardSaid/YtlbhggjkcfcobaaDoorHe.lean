/- The reference of the assembler: its state in memory; index, value, named, operand. (Printed by wip/mkhe.py.) -/
import Derived.Test.YtlbhggjkcfcobaaDoorGm
import Derived.Test.YtlbhggjkcfcobaaDoorHc
namespace Go.Proofs.YtlbhggjkcfcobaaDoor
open Go.RowKit Go.Proofs
set_option linter.unusedVariables false

def encIv (n : Nat) : List Value := [.int .i64 (n : Int)]
theorem encIv_one (x : Nat) : ∀ u ∈ encIv x, u.oneCell' = true := by
  intro u hu; simp [encIv] at hu; rw [hu]; rfl
theorem infoIv : (Tryd.prog.info? 3).map (fun i => (i.zero, i.size, i.bytes)) = some (some (.int .i64 0), 1, 8) := by kernel_rfl
theorem uIv : Tryd.prog.underlying 74 = some (.slice 3) := by kernel_rfl
/-- where the parts of the reference's state lie. -/
structure SVs where
  Aa : Option Addr
  na : Nat
  ca : Nat
  Ac : Option Addr
  nc : Nat
  cc : Nat
  An : Option Addr
  nn : Nat
  cn : Nat
  Al : Option Addr
  nl : Nat
  cl : Nat
  Ak : Option Addr
  nk : Nat
  ck : Nat
  Av : Option Addr
  nv : Nat
  cv : Nat
/-- the state's parts in memory. -/
structure RS (B : Nat) (w : World) (arrs : List Arr) (an ln kn : List (List UInt8)) (kv : List Nat) (code : List Ins) (v : SVs) : Prop where
  oa : OwnS encAr 2 w B 47 v.Aa v.na v.ca arrs
  oc : OwnS encIn 2 w B 57 v.Ac v.nc v.cc code
  on : OwnS encSt 1 w B 9 v.An v.nn v.cn an
  ol : OwnS encSt 1 w B 9 v.Al v.nl v.cl ln
  ok : OwnS encSt 1 w B 9 v.Ak v.nk v.ck kn
  ov : OwnS encIv 1 w B 3 v.Av v.nv v.cv kv
  n1 : ∀ b, (Value.slice v.An v.nn v.cn).ownBlock = some b → some b ≠ (Value.slice v.Al v.nl v.cl).ownBlock
  n2 : ∀ b, (Value.slice v.An v.nn v.cn).ownBlock = some b → some b ≠ (Value.slice v.Ak v.nk v.ck).ownBlock
  n3 : ∀ b, (Value.slice v.Al v.nl v.cl).ownBlock = some b → some b ≠ (Value.slice v.Ak v.nk v.ck).ownBlock
theorem nats_of {w : World} {B n c : Nat} {A : Option Addr} {l : List Nat} (h : OwnS encIv 1 w B 3 A n c l) (hn : 0 < n) : ∃ b off, A = some ⟨b, off, none⟩ ∧ b < w.heap.size ∧ ∀ i, i < n → w.cell? ⟨b, off + i, none⟩ = some (.int .i64 ((l.getD i 0 : Nat) : Int)) := by
  obtain ⟨b, hA, _, hlt, hc⟩ := h.get (fun _ => rfl) (by decide) 0 hn
  refine ⟨b, 0, hA, hlt, fun i hi => ?_⟩
  have := hc i 0 (.int .i64 ((l.getD i 0 : Nat) : Int)) hi rfl
  simpa using this
section
variable {B : Nat} {w X : World} {arrs : List Arr} {an ln kn : List (List UInt8)} {kv : List Nat} {code : List Ins} {v : SVs}
theorem RS.below (h : RS B w arrs an ln kn kv code v) (hb : Below w.heap.size w X) : RS B X arrs an ln kn kv code v :=
  ⟨h.oa.below hb, h.oc.below hb, h.on.below hb, h.ol.below hb, h.ok.below hb, h.ov.below hb, h.n1, h.n2, h.n3⟩
/-- a store to a block that is none of the lists. -/
theorem RS.far (h : RS B w arrs an ln kn kv code v) {g : Nat} {t : TypeId} {cs : Array Value} (hr : rowV w g t cs) (hg : w.grownBy X (some g)) (t1 : 47 ≠ t) (t2 : 57 ≠ t) (t3 : 9 ≠ t) (t4 : 3 ≠ t) : RS B X arrs an ln kn kv code v :=
  ⟨h.oa.grown hg (h.oa.ne_row hr t1), h.oc.grown hg (h.oc.ne_row hr t2), h.on.grown hg (h.on.ne_row hr t3), h.ol.grown hg (h.ol.ne_row hr t3), h.ok.grown hg (h.ok.ne_row hr t3), h.ov.grown hg (h.ov.ne_row hr t4), h.n1, h.n2, h.n3⟩
theorem RS.set (h : RS B w arrs an ln kn kv code v) {g : Nat} {cs : Array Value} (hr : rowV w g 76 cs) (j : Nat) (u : Value) : RS B (w.setCell ⟨g, j, none⟩ u) arrs an ln kn kv code v :=
  h.far hr (grownBy.setCell' (World.grownBy.refl w (some g)) u) (by decide) (by decide) (by decide) (by decide)
theorem RS.push_arrs (h : RS B w arrs an ln kn kv code v) {A2 : Option Addr} {c2 : Nat} {y : Arr} (ho : OwnS encAr 2 X B 47 A2 (v.na + 1) c2 (arrs ++ [y])) (hg : w.grownBy X (Value.slice v.Aa v.na v.ca).ownBlock)
    (hf : ∀ b, (Value.slice A2 (v.na + 1) c2).ownBlock = some b → (Value.slice v.Aa v.na v.ca).ownBlock = some b ∨ w.heap.size ≤ b) :
    RS B X (arrs ++ [y]) an ln kn kv code { v with Aa := A2, na := v.na + 1, ca := c2 } := by
  refine ⟨ho, h.oc.grown hg (h.oc.ne_own h.oa (by decide)), h.on.grown hg (h.on.ne_own h.oa (by decide)), h.ol.grown hg (h.ol.ne_own h.oa (by decide)), h.ok.grown hg (h.ok.ne_own h.oa (by decide)), h.ov.grown hg (h.ov.ne_own h.oa (by decide)), ?_, ?_, ?_⟩
  · exact h.n1
  · exact h.n2
  · exact h.n3
theorem RS.push_code (h : RS B w arrs an ln kn kv code v) {A2 : Option Addr} {c2 : Nat} {y : Ins} (ho : OwnS encIn 2 X B 57 A2 (v.nc + 1) c2 (code ++ [y])) (hg : w.grownBy X (Value.slice v.Ac v.nc v.cc).ownBlock)
    (hf : ∀ b, (Value.slice A2 (v.nc + 1) c2).ownBlock = some b → (Value.slice v.Ac v.nc v.cc).ownBlock = some b ∨ w.heap.size ≤ b) :
    RS B X arrs an ln kn kv (code ++ [y]) { v with Ac := A2, nc := v.nc + 1, cc := c2 } := by
  refine ⟨h.oa.grown hg (h.oa.ne_own h.oc (by decide)), ho, h.on.grown hg (h.on.ne_own h.oc (by decide)), h.ol.grown hg (h.ol.ne_own h.oc (by decide)), h.ok.grown hg (h.ok.ne_own h.oc (by decide)), h.ov.grown hg (h.ov.ne_own h.oc (by decide)), ?_, ?_, ?_⟩
  · exact h.n1
  · exact h.n2
  · exact h.n3
theorem RS.push_an (h : RS B w arrs an ln kn kv code v) {A2 : Option Addr} {c2 : Nat} {y : List UInt8} (ho : OwnS encSt 1 X B 9 A2 (v.nn + 1) c2 (an ++ [y])) (hg : w.grownBy X (Value.slice v.An v.nn v.cn).ownBlock)
    (hf : ∀ b, (Value.slice A2 (v.nn + 1) c2).ownBlock = some b → (Value.slice v.An v.nn v.cn).ownBlock = some b ∨ w.heap.size ≤ b) :
    RS B X arrs (an ++ [y]) ln kn kv code { v with An := A2, nn := v.nn + 1, cn := c2 } := by
  refine ⟨h.oa.grown hg (h.oa.ne_own h.on (by decide)), h.oc.grown hg (h.oc.ne_own h.on (by decide)), ho, h.ol.grown hg (fun b hb e => h.n1 b e.symm hb.symm), h.ok.grown hg (fun b hb e => h.n2 b e.symm hb.symm), h.ov.grown hg (h.ov.ne_own h.on (by decide)), ?_, ?_, ?_⟩
  · intro b hb e
    rcases hf b hb with h1 | h1
    · exact h.n1 b h1 e
    · have := (h.ol.blk e.symm).1
      omega
  · intro b hb e
    rcases hf b hb with h1 | h1
    · exact h.n2 b h1 e
    · have := (h.ok.blk e.symm).1
      omega
  · exact h.n3
theorem RS.push_ln (h : RS B w arrs an ln kn kv code v) {A2 : Option Addr} {c2 : Nat} {y : List UInt8} (ho : OwnS encSt 1 X B 9 A2 (v.nl + 1) c2 (ln ++ [y])) (hg : w.grownBy X (Value.slice v.Al v.nl v.cl).ownBlock)
    (hf : ∀ b, (Value.slice A2 (v.nl + 1) c2).ownBlock = some b → (Value.slice v.Al v.nl v.cl).ownBlock = some b ∨ w.heap.size ≤ b) :
    RS B X arrs an (ln ++ [y]) kn kv code { v with Al := A2, nl := v.nl + 1, cl := c2 } := by
  refine ⟨h.oa.grown hg (h.oa.ne_own h.ol (by decide)), h.oc.grown hg (h.oc.ne_own h.ol (by decide)), h.on.grown hg (fun b hb => h.n1 b hb), ho, h.ok.grown hg (fun b hb e => h.n3 b e.symm hb.symm), h.ov.grown hg (h.ov.ne_own h.ol (by decide)), ?_, ?_, ?_⟩
  · intro b hb e
    rcases hf b e.symm with h1 | h1
    · exact h.n1 b hb h1.symm
    · have := (h.on.blk hb).1
      omega
  · exact h.n2
  · intro b hb e
    rcases hf b hb with h1 | h1
    · exact h.n3 b h1 e
    · have := (h.ok.blk e.symm).1
      omega
theorem RS.push_kn (h : RS B w arrs an ln kn kv code v) {A2 : Option Addr} {c2 : Nat} {y : List UInt8} (ho : OwnS encSt 1 X B 9 A2 (v.nk + 1) c2 (kn ++ [y])) (hg : w.grownBy X (Value.slice v.Ak v.nk v.ck).ownBlock)
    (hf : ∀ b, (Value.slice A2 (v.nk + 1) c2).ownBlock = some b → (Value.slice v.Ak v.nk v.ck).ownBlock = some b ∨ w.heap.size ≤ b) :
    RS B X arrs an ln (kn ++ [y]) kv code { v with Ak := A2, nk := v.nk + 1, ck := c2 } := by
  refine ⟨h.oa.grown hg (h.oa.ne_own h.ok (by decide)), h.oc.grown hg (h.oc.ne_own h.ok (by decide)), h.on.grown hg (fun b hb => h.n2 b hb), h.ol.grown hg (fun b hb => h.n3 b hb), ho, h.ov.grown hg (h.ov.ne_own h.ok (by decide)), ?_, ?_, ?_⟩
  · exact h.n1
  · intro b hb e
    rcases hf b e.symm with h1 | h1
    · exact h.n2 b hb h1.symm
    · have := (h.on.blk hb).1
      omega
  · intro b hb e
    rcases hf b e.symm with h1 | h1
    · exact h.n3 b hb h1.symm
    · have := (h.ol.blk hb).1
      omega
theorem RS.push_kv (h : RS B w arrs an ln kn kv code v) {A2 : Option Addr} {c2 : Nat} {y : Nat} (ho : OwnS encIv 1 X B 3 A2 (v.nv + 1) c2 (kv ++ [y])) (hg : w.grownBy X (Value.slice v.Av v.nv v.cv).ownBlock)
    (hf : ∀ b, (Value.slice A2 (v.nv + 1) c2).ownBlock = some b → (Value.slice v.Av v.nv v.cv).ownBlock = some b ∨ w.heap.size ≤ b) :
    RS B X arrs an ln kn (kv ++ [y]) code { v with Av := A2, nv := v.nv + 1, cv := c2 } := by
  refine ⟨h.oa.grown hg (h.oa.ne_own h.ov (by decide)), h.oc.grown hg (h.oc.ne_own h.ov (by decide)), h.on.grown hg (h.on.ne_own h.ov (by decide)), h.ol.grown hg (h.ol.ne_own h.ov (by decide)), h.ok.grown hg (h.ok.ne_own h.ov (by decide)), ho, ?_, ?_, ?_⟩
  · exact h.n1
  · exact h.n2
  · exact h.n3
end

set_option maxRecDepth 100000 in
set_option maxHeartbeats 4000000 in
theorem indexR_any (A : Option Addr) (n c : Nat) (l : List (List UInt8)) (x : List UInt8) (w : World) (hl : StrsM w A n c l) (hn : n ≤ 100000) :
    Calls Tryd.prog 82 #[.slice A n c, .string (strB x)] w fun e w' => e = .returned (.int .i64 (idxI l x)) ∧ w' = w := by
  have Hn := Lib.hid hl.1
  have HC := Lib.hid hl.2.2
  obtain ⟨z, hz⟩ : ∃ z, z = idxI l x := ⟨_, rfl⟩
  rw [← hz]
  have HZ := Lib.hid hz
  clear hz hl
  go_enter Tryd.func82, Tryd.ntmps82
  go_wp2_with fail
  go_loop [5] (fun i => ∃ k : Nat, k ≤ n ∧ i = .int .i64 (k : Int) ∧ Hid (∀ j, j < k → l.getD j [] ≠ x)) (fun i => n - (intOf i).toNat)
  case atStart => exact ⟨0, Nat.zero_le _, rfl, fun j hj => absurd hj (by omega)⟩
  case round =>
    obtain ⟨k, hk, rfl, HK⟩ := hrel
    by_cases hlt : k < n
    · have e1 : decide ((k : Int) < (n : Int)) = true := by simp; omega
      have e1' : decide (k < n) = true := by simp; omega
      obtain ⟨b, off, rfl, hbl, hcell⟩ := HC.out.get hlt
      have q1 := hcell k hlt
      have HS : Hid (l.getD k [] = x → z = (k : Int)) := fun h => HZ.out.trans (idxI_hit (by rw [Hn.out]; exact hlt) h HK.out)
      have HG : Hid (l.getD k [] ≠ x → ∀ j, j < k + 1 → l.getD j [] ≠ x) := fun h j hj => by
        rcases Nat.lt_or_ge j k with h1 | h1
        · exact HK.out j h1
        · obtain rfl : j = k := by omega
          exact h
      obtain ⟨y, hye⟩ : ∃ y, y = l.getD k [] := ⟨_, rfl⟩
      rw [← hye] at q1 HS HG
      clear hye hcell HK HC
      have hd := strB_beq y x
      by_cases he : y = x
      · rw [decide_eq_true he] at hd
        have HS' := Lib.hid (HS.out he)
        clear HS HG he
        go_wp2_with fail
        go_ret
        exact ⟨ret_int HS'.out.symm, rfl⟩
      · rw [decide_eq_false he] at hd
        have HG' := Lib.hid (HG.out he)
        clear HS HG he
        go_wp2_with fail
        go_round
        case rel => exact ⟨k + 1, by omega, by go_num, HG'.out⟩
        case measure => simp [intOf]; omega
    · have e1 : decide ((k : Int) < (n : Int)) = false := by simp; omega
      have e1' : decide (k < n) = false := by simp; omega
      have HS' : Hid (z = -1) := HZ.out.trans (idxI_miss (fun j hj => HK.out j (by rw [Hn.out] at hj; omega)))
      go_wp2_with fail
      go_ret
      exact ⟨ret_int HS'.out.symm, rfl⟩

set_option maxRecDepth 100000 in
set_option maxHeartbeats 4000000 in
theorem valueR_any (B : Nat) (w : World) (arrs : List Arr) (an ln : List (List UInt8)) (code : List Ins) (s : AS) (v : SVs) (L C at_ er : Int) (h : RS B w arrs an ln (s.cn.map (·.1)) (s.cn.map (·.2)) code v) (x : List UInt8) (hx : x.length ≤ 9000) (hk : v.nk ≤ 100000) :
    Calls Tryd.prog 79 #[.agg #[.slice v.Aa v.na v.ca, .int .i64 L, .slice v.Ac v.nc v.cc, .slice v.An v.nn v.cn, .slice v.Al v.nl v.cl, .slice v.Ak v.nk v.ck, .slice v.Av v.nv v.cv, .int .i64 C, .int .i64 at_, .int .i64 er], .string (strB x)] w fun e w' => e = .returned (.tuple #[.int .i64 ((valueL s x).1 : Int), .int .i64 (valueL s x).2]) ∧ Below w.heap.size w w' := by
  have r1 := rowV.new w 76 #[.slice v.Aa v.na v.ca, .int .i64 L, .slice v.Ac v.nc v.cc, .slice v.An v.nn v.cn, .slice v.Al v.nl v.cl, .slice v.Ak v.nk v.ck, .slice v.Av v.nv v.cv, .int .i64 C, .int .i64 at_, .int .i64 er]
  have b1 : Below w.heap.size w (w.alloc (.cells #[.slice v.Aa v.na v.ca, .int .i64 L, .slice v.Ac v.nc v.cc, .slice v.An v.nn v.cn, .slice v.Al v.nl v.cl, .slice v.Ak v.nk v.ck, .slice v.Av v.nv v.cv, .int .i64 C, .int .i64 at_, .int .i64 er] 76)) := balloc (Below.refl _ _) _
  obtain ⟨w1, hw1⟩ : ∃ w1, w1 = w.alloc (.cells #[.slice v.Aa v.na v.ca, .int .i64 L, .slice v.Ac v.nc v.cc, .slice v.An v.nn v.cn, .slice v.Al v.nl v.cl, .slice v.Ak v.nk v.ck, .slice v.Av v.nv v.cv, .int .i64 C, .int .i64 at_, .int .i64 er] 76) := ⟨_, rfl⟩
  rw [← hw1] at r1 b1
  have h1 := h.below b1
  have HW := Lib.hid hw1
  have HN := Lib.hid (numberW_any x w1 hx)
  have HM := Lib.hid (nameW_any x w1 hx)
  have HI := Lib.hid (indexR_any v.Ak v.nk v.ck (s.cn.map (·.1)) x w1 h1.ok.toStrs hk)
  have c5 : w1.cell? ⟨w.heap.size, 5, none⟩ = some (.slice v.Ak v.nk v.ck) := cell_rowV r1 rfl
  have c6 : w1.cell? ⟨w.heap.size, 6, none⟩ = some (.slice v.Av v.nv v.cv) := cell_rowV r1 rfl
  have HB := Lib.hid b1
  have hlv : v.nv = v.nk := by
    have e1 := h.ok.length (fun _ => rfl) (by decide)
    have e2 := h.ov.length (fun _ => rfl) (by decide)
    rw [List.length_map] at e1 e2
    omega
  have hlk : (s.cn.map (·.1)).length = v.nk := h.ok.length (fun _ => rfl) (by decide)
  have HOV := Lib.hid h1.ov
  obtain ⟨q, hq⟩ : ∃ q, q = valueL s x := ⟨_, rfl⟩
  rw [← hq]
  have HQ := Lib.hid hq
  clear hw1 h1 h r1 b1 hq
  cases hn : numL x with
  | some n =>
    have Z : Hid (q = (n, 0)) := HQ.out.trans (by unfold valueL; rw [hn])
    rw [hn] at HN
    clear hn HM HI c5 c6 HOV hlk hlv
    go_enter Tryd.func79, Tryd.ntmps79
    go_wp2_with fail
    rw [← HW.out]
    refine HN.out.mono ?_
    rintro e w9 ⟨x9, ok9, rfl, rfl, hx9, hw9⟩
    obtain rfl : w1 = w9 := hw9.symm
    obtain rfl := hx9 n rfl
    go_wp2_with fail
    go_ret2
    exact ⟨by rw [Z.out]; rfl, HB.out⟩
  | none =>
    rw [hn] at HN
    cases hm : nameL x with
    | false =>
      have Z : Hid (q = (0, 4)) := HQ.out.trans (by unfold valueL; rw [hn]; dsimp only; rw [if_pos hm])
      rw [hm] at HM
      clear hn hm HI c5 c6 HOV hlk hlv
      go_enter Tryd.func79, Tryd.ntmps79
      go_wp2_with fail
      rw [← HW.out]
      refine HN.out.mono ?_
      rintro e w9 ⟨x9, ok9, rfl, rfl, hx9, hw9⟩
      obtain rfl : w1 = w9 := hw9.symm
      go_wp2_with fail
      refine HM.out.mono ?_
      rintro e w9 ⟨rfl, hw9⟩
      obtain rfl : w1 = w9 := hw9.symm
      go_wp2_with fail
      go_ret2
      exact ⟨by rw [Z.out]; rfl, HB.out⟩
    | true =>
      rw [hm] at HM
      have HV := Lib.hid (HQ.out.trans (valueL_named hn hm))
      cases hc : (s.cn.map (·.1)).contains x with
      | false =>
        have Z : Hid (q = (0, 7)) := HV.out.trans (if_neg (by rw [hc]; simp))
        have hi : idxI (s.cn.map (·.1)) x = -1 := by unfold idxI; rw [if_neg (by rw [hc]; simp)]
        rw [hi] at HI
        clear hn hm hc hi HOV hlk hlv
        go_enter Tryd.func79, Tryd.ntmps79
        go_wp2_with fail
        rw [← HW.out]
        refine HN.out.mono ?_
        rintro e w9 ⟨x9, ok9, rfl, rfl, hx9, hw9⟩
        obtain rfl : w1 = w9 := hw9.symm
        go_wp2_with fail
        refine HM.out.mono ?_
        rintro e w9 ⟨rfl, hw9⟩
        obtain rfl : w1 = w9 := hw9.symm
        go_wp2_with fail
        refine HI.out.mono ?_
        rintro e w9 ⟨rfl, hw9⟩
        obtain rfl : w1 = w9 := hw9.symm
        go_wp2_with fail
        go_ret2
        exact ⟨by rw [Z.out]; rfl, HB.out⟩
      | true =>
        obtain ⟨hi, hil⟩ := idxI_pos hc
        rw [hi] at HI
        obtain ⟨k, hke⟩ : ∃ k, k = (s.cn.map (·.1)).idxOf x := ⟨_, rfl⟩
        have Z : Hid (q = ((s.cn.map (·.2)).getD k 0, 0)) := HV.out.trans (by rw [if_pos hc, hke])
        rw [← hke] at HI hil
        rw [hlk] at hil
        obtain ⟨b, off, hAv, hbl, hcell⟩ := nats_of HOV.out (by omega)
        have q1 := hcell k (by omega)
        obtain ⟨y, hy⟩ : ∃ y, y = (s.cn.map (·.2)).getD k 0 := ⟨_, rfl⟩
        rw [← hy] at q1 Z
        rw [hAv] at c6
        have hkv : k < v.nv := by omega
        have dk : decide ((k : Int) < 0) = false := by simp
        clear hn hm hc hi HOV hlk hlv hcell hke hy hAv
        go_enter Tryd.func79, Tryd.ntmps79
        go_wp2_with fail
        rw [← HW.out]
        refine HN.out.mono ?_
        rintro e w9 ⟨x9, ok9, rfl, rfl, hx9, hw9⟩
        obtain rfl : w1 = w9 := hw9.symm
        go_wp2_with fail
        refine HM.out.mono ?_
        rintro e w9 ⟨rfl, hw9⟩
        obtain rfl : w1 = w9 := hw9.symm
        go_wp2_with fail
        refine HI.out.mono ?_
        rintro e w9 ⟨rfl, hw9⟩
        obtain rfl : w1 = w9 := hw9.symm
        go_wp2_with fail
        go_ret2
        exact ⟨by rw [Z.out]; rfl, HB.out⟩

/-- the error of the name in a declaration. -/
def namedE (s : AS) (y x : List UInt8) : Int := if freshE s x ≠ 0 then freshE s x else if ((y = [98, 121, 116, 101, 115] ∨ y = [119, 111, 114, 100, 115]) ∧ 8 ≤ s.an.length) ∨ (y = [108, 111, 99, 97, 108] ∧ 16 ≤ s.ln.length) then 6 else 0
theorem freshE_name {s : AS} {x : List UInt8} (h : nameL x = false) : freshE s x = 4 := by unfold freshE; rw [if_pos h]
theorem freshE_twice {s : AS} {x : List UInt8} (h : nameL x = true) (h2 : (s.an.contains x || s.ln.contains x || (s.cn.map (·.1)).contains x) = true) : freshE s x = 8 := by
  unfold freshE
  rw [if_neg (by rw [h]; simp), if_pos]
  rw [conOf_some]
  revert h2
  cases (s.cn.map (·.1)).contains x <;> cases s.an.contains x <;> cases s.ln.contains x <;> simp
theorem freshE_new {s : AS} {x : List UInt8} (h : nameL x = true) (h1 : s.an.contains x = false) (h2 : s.ln.contains x = false) (h3 : (s.cn.map (·.1)).contains x = false) : freshE s x = 0 := by
  unfold freshE
  rw [if_neg (by rw [h]; simp), if_neg]
  rw [conOf_some, h1, h2, h3]
  simp
theorem idxI_ge {l : List (List UInt8)} {x : List UInt8} : decide (0 ≤ idxI l x) = l.contains x := by
  unfold idxI
  cases h : l.contains x with
  | true => simp
  | false => simp

set_option maxRecDepth 100000 in
set_option maxHeartbeats 8000000 in
theorem namedR_any (B : Nat) (w : World) (arrs : List Arr) (code : List Ins) (s : AS) (v : SVs) (L C at_ er : Int) (h : RS B w arrs s.an s.ln (s.cn.map (·.1)) (s.cn.map (·.2)) code v) (y x : List UInt8) (hx : x.length ≤ 9000) (hk : v.nk ≤ 100000) (hkn : v.nn ≤ 100000) (hkl : v.nl ≤ 100000) :
    Calls Tryd.prog 78 #[.agg #[.slice v.Aa v.na v.ca, .int .i64 L, .slice v.Ac v.nc v.cc, .slice v.An v.nn v.cn, .slice v.Al v.nl v.cl, .slice v.Ak v.nk v.ck, .slice v.Av v.nv v.cv, .int .i64 C, .int .i64 at_, .int .i64 er], .string (strB y), .string (strB x)] w fun e w' => e = .returned (.int .i64 (namedE s y x)) ∧ Below w.heap.size w w' := by
  have r1 := rowV.new w 76 #[.slice v.Aa v.na v.ca, .int .i64 L, .slice v.Ac v.nc v.cc, .slice v.An v.nn v.cn, .slice v.Al v.nl v.cl, .slice v.Ak v.nk v.ck, .slice v.Av v.nv v.cv, .int .i64 C, .int .i64 at_, .int .i64 er]
  have b1 : Below w.heap.size w (w.alloc (.cells #[.slice v.Aa v.na v.ca, .int .i64 L, .slice v.Ac v.nc v.cc, .slice v.An v.nn v.cn, .slice v.Al v.nl v.cl, .slice v.Ak v.nk v.ck, .slice v.Av v.nv v.cv, .int .i64 C, .int .i64 at_, .int .i64 er] 76)) := balloc (Below.refl _ _) _
  obtain ⟨w1, hw1⟩ : ∃ w1, w1 = w.alloc (.cells #[.slice v.Aa v.na v.ca, .int .i64 L, .slice v.Ac v.nc v.cc, .slice v.An v.nn v.cn, .slice v.Al v.nl v.cl, .slice v.Ak v.nk v.ck, .slice v.Av v.nv v.cv, .int .i64 C, .int .i64 at_, .int .i64 er] 76) := ⟨_, rfl⟩
  rw [← hw1] at r1 b1
  have h1 := h.below b1
  have HW := Lib.hid hw1
  have HM := Lib.hid (nameW_any x w1 hx)
  have H1 := Lib.hid (indexR_any v.An v.nn v.cn s.an x w1 h1.on.toStrs hkn)
  have H2 := Lib.hid (indexR_any v.Al v.nl v.cl s.ln x w1 h1.ol.toStrs hkl)
  have H3 := Lib.hid (indexR_any v.Ak v.nk v.ck (s.cn.map (·.1)) x w1 h1.ok.toStrs hk)
  have g1 := @idxI_ge s.an x
  have g2 := @idxI_ge s.ln x
  have g3 := @idxI_ge (s.cn.map (·.1)) x
  have c3 : w1.cell? ⟨w.heap.size, 3, none⟩ = some (.slice v.An v.nn v.cn) := cell_rowV r1 rfl
  have c4 : w1.cell? ⟨w.heap.size, 4, none⟩ = some (.slice v.Al v.nl v.cl) := cell_rowV r1 rfl
  have c5 : w1.cell? ⟨w.heap.size, 5, none⟩ = some (.slice v.Ak v.nk v.ck) := cell_rowV r1 rfl
  have HB := Lib.hid b1
  have hln : s.an.length = v.nn := h.on.length (fun _ => rfl) (by decide)
  have hll : s.ln.length = v.nl := h.ol.length (fun _ => rfl) (by decide)
  obtain ⟨z1, hz1⟩ : ∃ z, z = idxI s.an x := ⟨_, rfl⟩
  obtain ⟨z2, hz2⟩ : ∃ z, z = idxI s.ln x := ⟨_, rfl⟩
  obtain ⟨z3, hz3⟩ : ∃ z, z = idxI (s.cn.map (·.1)) x := ⟨_, rfl⟩
  rw [← hz1] at H1 g1
  rw [← hz2] at H2 g2
  rw [← hz3] at H3 g3
  obtain ⟨q, hq⟩ : ∃ q, q = namedE s y x := ⟨_, rfl⟩
  rw [← hq]
  have HQ := Lib.hid hq
  have HLN := Lib.hid (And.intro hln hll)
  clear hw1 h1 h r1 b1 hq hz1 hz2 hz3 hln hll
  cases hm : nameL x with
  | false =>
    have Z : Hid (q = 4) := HQ.out.trans (by unfold namedE; rw [freshE_name hm]; rfl)
    rw [hm] at HM
    clear hm g1 g2 g3
    go_enter Tryd.func78, Tryd.ntmps78
    go_wp2_with fail
    rw [← HW.out]
    refine HM.out.mono ?_
    rintro e w9 ⟨rfl, hw9⟩
    obtain rfl : w1 = w9 := hw9.symm
    go_wp2_with fail
    go_ret
    exact ⟨ret_int Z.out.symm, HB.out⟩
  | true =>
    rw [hm] at HM
    cases t1 : s.an.contains x with
    | true =>
      rw [t1] at g1
      have Z : Hid (q = 8) := HQ.out.trans (by unfold namedE; rw [freshE_twice hm (by rw [t1]; rfl)]; rfl)
      clear hm t1 g2 g3
      go_enter Tryd.func78, Tryd.ntmps78
      go_wp2_with fail
      rw [← HW.out]
      refine HM.out.mono ?_
      rintro e w9 ⟨rfl, hw9⟩
      obtain rfl : w1 = w9 := hw9.symm
      go_wp2_with fail
      refine H1.out.mono ?_
      rintro e w9 ⟨rfl, hw9⟩
      obtain rfl : w1 = w9 := hw9.symm
      go_wp2_with fail
      go_ret
      exact ⟨ret_int Z.out.symm, HB.out⟩
    | false =>
      rw [t1] at g1
      cases t2 : s.ln.contains x with
      | true =>
        rw [t2] at g2
        have Z : Hid (q = 8) := HQ.out.trans (by unfold namedE; rw [freshE_twice hm (by rw [t1, t2]; rfl)]; rfl)
        clear hm t1 t2 g3
        go_enter Tryd.func78, Tryd.ntmps78
        go_wp2_with fail
        rw [← HW.out]
        refine HM.out.mono ?_
        rintro e w9 ⟨rfl, hw9⟩
        obtain rfl : w1 = w9 := hw9.symm
        go_wp2_with fail
        refine H1.out.mono ?_
        rintro e w9 ⟨rfl, hw9⟩
        obtain rfl : w1 = w9 := hw9.symm
        go_wp2_with fail
        refine H2.out.mono ?_
        rintro e w9 ⟨rfl, hw9⟩
        obtain rfl : w1 = w9 := hw9.symm
        go_wp2_with fail
        go_ret
        exact ⟨ret_int Z.out.symm, HB.out⟩
      | false =>
        rw [t2] at g2
        cases t3 : (s.cn.map (·.1)).contains x with
        | true =>
          rw [t3] at g3
          have Z : Hid (q = 8) := HQ.out.trans (by unfold namedE; rw [freshE_twice hm (by rw [t1, t2, t3]; rfl)]; rfl)
          clear hm t1 t2 t3
          go_enter Tryd.func78, Tryd.ntmps78
          go_wp2_with fail
          rw [← HW.out]
          refine HM.out.mono ?_
          rintro e w9 ⟨rfl, hw9⟩
          obtain rfl : w1 = w9 := hw9.symm
          go_wp2_with fail
          refine H1.out.mono ?_
          rintro e w9 ⟨rfl, hw9⟩
          obtain rfl : w1 = w9 := hw9.symm
          go_wp2_with fail
          refine H2.out.mono ?_
          rintro e w9 ⟨rfl, hw9⟩
          obtain rfl : w1 = w9 := hw9.symm
          go_wp2_with fail
          refine H3.out.mono ?_
          rintro e w9 ⟨rfl, hw9⟩
          obtain rfl : w1 = w9 := hw9.symm
          go_wp2_with fail
          go_ret
          exact ⟨ret_int Z.out.symm, HB.out⟩
        | false =>
          rw [t3] at g3
          have HF := Lib.hid (freshE_new hm t1 t2 t3)
          have HQ2 : Hid (q = if ((y = [98, 121, 116, 101, 115] ∨ y = [119, 111, 114, 100, 115]) ∧ 8 ≤ s.an.length) ∨ (y = [108, 111, 99, 97, 108] ∧ 16 ≤ s.ln.length) then 6 else 0) := HQ.out.trans (by unfold namedE; rw [HF.out]; rfl)
          clear hm t1 t2 t3 HF HQ
          have y1 : ((strB y).toList == ([98, 121, 116, 101, 115] : List UInt8)) = decide (y = [98, 121, 116, 101, 115]) := by rw [strB_toList]; exact beq_dec _ _
          have y2 : ((strB y).toList == ([119, 111, 114, 100, 115] : List UInt8)) = decide (y = [119, 111, 114, 100, 115]) := by rw [strB_toList]; exact beq_dec _ _
          have y3 : ((strB y).toList == ([108, 111, 99, 97, 108] : List UInt8)) = decide (y = [108, 111, 99, 97, 108]) := by rw [strB_toList]; exact beq_dec _ _
          by_cases k1 : y = [98, 121, 116, 101, 115] ∨ y = [119, 111, 114, 100, 115]
          · have k3 : ¬ y = [108, 111, 99, 97, 108] := by rcases k1 with k | k <;> rw [k] <;> decide
            rw [decide_eq_false k3] at y3
            by_cases n8 : 8 ≤ v.nn
            · have d1 : decide ((8 : Int) ≤ (v.nn : Int)) = true := by simp; omega
              have d1' : decide (8 ≤ v.nn) = true := by simp; omega
              have Z : Hid (q = 6) := HQ2.out.trans (if_pos (.inl ⟨k1, by rw [HLN.out.1]; exact n8⟩))
              by_cases k2 : y = [98, 121, 116, 101, 115]
              · rw [decide_eq_true k2] at y1
                clear HQ2 k1 k2 k3
                go_enter Tryd.func78, Tryd.ntmps78
                go_wp2_with fail
                rw [← HW.out]
                refine HM.out.mono ?_
                rintro e w9 ⟨rfl, hw9⟩
                obtain rfl : w1 = w9 := hw9.symm
                go_wp2_with fail
                refine H1.out.mono ?_
                rintro e w9 ⟨rfl, hw9⟩
                obtain rfl : w1 = w9 := hw9.symm
                go_wp2_with fail
                refine H2.out.mono ?_
                rintro e w9 ⟨rfl, hw9⟩
                obtain rfl : w1 = w9 := hw9.symm
                go_wp2_with fail
                refine H3.out.mono ?_
                rintro e w9 ⟨rfl, hw9⟩
                obtain rfl : w1 = w9 := hw9.symm
                go_wp2_with fail
                go_ret
                exact ⟨ret_int Z.out.symm, HB.out⟩
              · rw [decide_eq_false k2] at y1
                rw [decide_eq_true (k1.resolve_left k2)] at y2
                clear HQ2 k1 k2 k3
                go_enter Tryd.func78, Tryd.ntmps78
                go_wp2_with fail
                rw [← HW.out]
                refine HM.out.mono ?_
                rintro e w9 ⟨rfl, hw9⟩
                obtain rfl : w1 = w9 := hw9.symm
                go_wp2_with fail
                refine H1.out.mono ?_
                rintro e w9 ⟨rfl, hw9⟩
                obtain rfl : w1 = w9 := hw9.symm
                go_wp2_with fail
                refine H2.out.mono ?_
                rintro e w9 ⟨rfl, hw9⟩
                obtain rfl : w1 = w9 := hw9.symm
                go_wp2_with fail
                refine H3.out.mono ?_
                rintro e w9 ⟨rfl, hw9⟩
                obtain rfl : w1 = w9 := hw9.symm
                go_wp2_with fail
                go_ret
                exact ⟨ret_int Z.out.symm, HB.out⟩
            · have d1 : decide ((8 : Int) ≤ (v.nn : Int)) = false := by simp; omega
              have d1' : decide (8 ≤ v.nn) = false := by simp; omega
              have Z : Hid (q = 0) := HQ2.out.trans (if_neg (by rw [HLN.out.1]; rintro (⟨_, h⟩ | ⟨h, _⟩); exact n8 h; exact k3 h))
              by_cases k2 : y = [98, 121, 116, 101, 115]
              · rw [decide_eq_true k2] at y1
                clear HQ2 k1 k2 k3
                go_enter Tryd.func78, Tryd.ntmps78
                go_wp2_with fail
                rw [← HW.out]
                refine HM.out.mono ?_
                rintro e w9 ⟨rfl, hw9⟩
                obtain rfl : w1 = w9 := hw9.symm
                go_wp2_with fail
                refine H1.out.mono ?_
                rintro e w9 ⟨rfl, hw9⟩
                obtain rfl : w1 = w9 := hw9.symm
                go_wp2_with fail
                refine H2.out.mono ?_
                rintro e w9 ⟨rfl, hw9⟩
                obtain rfl : w1 = w9 := hw9.symm
                go_wp2_with fail
                refine H3.out.mono ?_
                rintro e w9 ⟨rfl, hw9⟩
                obtain rfl : w1 = w9 := hw9.symm
                go_wp2_with fail
                go_ret
                exact ⟨ret_int Z.out.symm, HB.out⟩
              · rw [decide_eq_false k2] at y1
                rw [decide_eq_true (k1.resolve_left k2)] at y2
                clear HQ2 k1 k2 k3
                go_enter Tryd.func78, Tryd.ntmps78
                go_wp2_with fail
                rw [← HW.out]
                refine HM.out.mono ?_
                rintro e w9 ⟨rfl, hw9⟩
                obtain rfl : w1 = w9 := hw9.symm
                go_wp2_with fail
                refine H1.out.mono ?_
                rintro e w9 ⟨rfl, hw9⟩
                obtain rfl : w1 = w9 := hw9.symm
                go_wp2_with fail
                refine H2.out.mono ?_
                rintro e w9 ⟨rfl, hw9⟩
                obtain rfl : w1 = w9 := hw9.symm
                go_wp2_with fail
                refine H3.out.mono ?_
                rintro e w9 ⟨rfl, hw9⟩
                obtain rfl : w1 = w9 := hw9.symm
                go_wp2_with fail
                go_ret
                exact ⟨ret_int Z.out.symm, HB.out⟩
          · rw [decide_eq_false (fun h => k1 (.inl h))] at y1
            rw [decide_eq_false (fun h => k1 (.inr h))] at y2
            by_cases k3 : y = [108, 111, 99, 97, 108]
            · rw [decide_eq_true k3] at y3
              by_cases n16 : 16 ≤ v.nl
              · have d1 : decide ((16 : Int) ≤ (v.nl : Int)) = true := by simp; omega
                have d1' : decide (16 ≤ v.nl) = true := by simp; omega
                have Z : Hid (q = 6) := HQ2.out.trans (if_pos (.inr ⟨k3, by rw [HLN.out.2]; exact n16⟩))
                clear HQ2 k1 k3
                go_enter Tryd.func78, Tryd.ntmps78
                go_wp2_with fail
                rw [← HW.out]
                refine HM.out.mono ?_
                rintro e w9 ⟨rfl, hw9⟩
                obtain rfl : w1 = w9 := hw9.symm
                go_wp2_with fail
                refine H1.out.mono ?_
                rintro e w9 ⟨rfl, hw9⟩
                obtain rfl : w1 = w9 := hw9.symm
                go_wp2_with fail
                refine H2.out.mono ?_
                rintro e w9 ⟨rfl, hw9⟩
                obtain rfl : w1 = w9 := hw9.symm
                go_wp2_with fail
                refine H3.out.mono ?_
                rintro e w9 ⟨rfl, hw9⟩
                obtain rfl : w1 = w9 := hw9.symm
                go_wp2_with fail
                go_ret
                exact ⟨ret_int Z.out.symm, HB.out⟩
              · have d1 : decide ((16 : Int) ≤ (v.nl : Int)) = false := by simp; omega
                have d1' : decide (16 ≤ v.nl) = false := by simp; omega
                have Z : Hid (q = 0) := HQ2.out.trans (if_neg (by rw [HLN.out.2]; rintro (⟨h, _⟩ | ⟨_, h⟩); exact k1 h; exact n16 h))
                clear HQ2 k1 k3
                go_enter Tryd.func78, Tryd.ntmps78
                go_wp2_with fail
                rw [← HW.out]
                refine HM.out.mono ?_
                rintro e w9 ⟨rfl, hw9⟩
                obtain rfl : w1 = w9 := hw9.symm
                go_wp2_with fail
                refine H1.out.mono ?_
                rintro e w9 ⟨rfl, hw9⟩
                obtain rfl : w1 = w9 := hw9.symm
                go_wp2_with fail
                refine H2.out.mono ?_
                rintro e w9 ⟨rfl, hw9⟩
                obtain rfl : w1 = w9 := hw9.symm
                go_wp2_with fail
                refine H3.out.mono ?_
                rintro e w9 ⟨rfl, hw9⟩
                obtain rfl : w1 = w9 := hw9.symm
                go_wp2_with fail
                go_ret
                exact ⟨ret_int Z.out.symm, HB.out⟩
            · rw [decide_eq_false k3] at y3
              have Z : Hid (q = 0) := HQ2.out.trans (if_neg (by rintro (⟨h, _⟩ | ⟨h, _⟩); exact k1 h; exact k3 h))
              clear HQ2 k1 k3
              go_enter Tryd.func78, Tryd.ntmps78
              go_wp2_with fail
              rw [← HW.out]
              refine HM.out.mono ?_
              rintro e w9 ⟨rfl, hw9⟩
              obtain rfl : w1 = w9 := hw9.symm
              go_wp2_with fail
              refine H1.out.mono ?_
              rintro e w9 ⟨rfl, hw9⟩
              obtain rfl : w1 = w9 := hw9.symm
              go_wp2_with fail
              refine H2.out.mono ?_
              rintro e w9 ⟨rfl, hw9⟩
              obtain rfl : w1 = w9 := hw9.symm
              go_wp2_with fail
              refine H3.out.mono ?_
              rintro e w9 ⟨rfl, hw9⟩
              obtain rfl : w1 = w9 := hw9.symm
              go_wp2_with fail
              go_ret
              exact ⟨ret_int Z.out.symm, HB.out⟩

theorem argL_val {s : AS} {op : Nat} {x : List UInt8} (h : op = 0) : argL s op x = valueL s x := by unfold argL; rw [if_pos h]
theorem argL_loc {s : AS} {op : Nat} {x : List UInt8} (h : op = 1 ∨ op = 2) : argL s op x = indexL s.ln x := by unfold argL; rw [if_neg (by omega), if_neg (by omega), if_pos h]
theorem argL_arr {s : AS} {op : Nat} {x : List UInt8} (h : op = 3 ∨ op = 4) : argL s op x = indexL s.an x := by unfold argL; rw [if_neg (by omega), if_neg (by omega), if_neg (by omega)]
theorem argL_con {s : AS} {op : Nat} {x : List UInt8} (h : op = 35) : argL s op x = ((valueL s x).1, if (valueL s x).2 ≠ 0 then (valueL s x).2 else if 16 ≤ (valueL s x).1 then 2 else 0) := by unfold argL; rw [if_neg (by omega), if_pos h]
set_option maxRecDepth 100000 in
set_option maxHeartbeats 8000000 in
theorem operandR_any (B : Nat) (w : World) (arrs : List Arr) (code : List Ins) (s : AS) (v : SVs) (L C at_ er : Int) (h : RS B w arrs s.an s.ln (s.cn.map (·.1)) (s.cn.map (·.2)) code v) (op : Nat) (ho : op ≤ 4 ∨ op = 35) (x : List UInt8) (hx : x.length ≤ 9000) (hk : v.nk ≤ 100000) (hkn : v.nn ≤ 100000) (hkl : v.nl ≤ 100000) :
    Calls Tryd.prog 50 #[.agg #[.slice v.Aa v.na v.ca, .int .i64 L, .slice v.Ac v.nc v.cc, .slice v.An v.nn v.cn, .slice v.Al v.nl v.cl, .slice v.Ak v.nk v.ck, .slice v.Av v.nv v.cv, .int .i64 C, .int .i64 at_, .int .i64 er], .int .i64 (op : Int), .string (strB x)] w fun e w' => e = .returned (.tuple #[.int .i64 ((argL s op x).1 : Int), .int .i64 (argL s op x).2]) ∧ Below w.heap.size w w' := by
  have r1 := rowV.new w 76 #[.slice v.Aa v.na v.ca, .int .i64 L, .slice v.Ac v.nc v.cc, .slice v.An v.nn v.cn, .slice v.Al v.nl v.cl, .slice v.Ak v.nk v.ck, .slice v.Av v.nv v.cv, .int .i64 C, .int .i64 at_, .int .i64 er]
  have b1 : Below w.heap.size w (w.alloc (.cells #[.slice v.Aa v.na v.ca, .int .i64 L, .slice v.Ac v.nc v.cc, .slice v.An v.nn v.cn, .slice v.Al v.nl v.cl, .slice v.Ak v.nk v.ck, .slice v.Av v.nv v.cv, .int .i64 C, .int .i64 at_, .int .i64 er] 76)) := balloc (Below.refl _ _) _
  obtain ⟨w1, hw1⟩ : ∃ w1, w1 = w.alloc (.cells #[.slice v.Aa v.na v.ca, .int .i64 L, .slice v.Ac v.nc v.cc, .slice v.An v.nn v.cn, .slice v.Al v.nl v.cl, .slice v.Ak v.nk v.ck, .slice v.Av v.nv v.cv, .int .i64 C, .int .i64 at_, .int .i64 er] 76) := ⟨_, rfl⟩
  rw [← hw1] at r1 b1
  have h1 := h.below b1
  have HW := Lib.hid hw1
  have HV := Lib.hid (valueR_any B w1 arrs s.an s.ln code s v L C at_ er h1 x hx hk)
  have HM := Lib.hid (nameW_any x w1 hx)
  have H1 := Lib.hid (indexR_any v.An v.nn v.cn s.an x w1 h1.on.toStrs hkn)
  have H2 := Lib.hid (indexR_any v.Al v.nl v.cl s.ln x w1 h1.ol.toStrs hkl)
  have c3 : w1.cell? ⟨w.heap.size, 3, none⟩ = some (.slice v.An v.nn v.cn) := cell_rowV r1 rfl
  have c4 : w1.cell? ⟨w.heap.size, 4, none⟩ = some (.slice v.Al v.nl v.cl) := cell_rowV r1 rfl
  have HB := Lib.hid b1
  have HR := Lib.hid r1
  obtain ⟨q, hq⟩ : ∃ q, q = argL s op x := ⟨_, rfl⟩
  rw [← hq]
  have HQ := Lib.hid hq
  clear hw1 h1 h r1 b1 hq
  by_cases o0 : op = 0
  · subst o0
    have Z := Lib.hid (HQ.out.trans (argL_val rfl))
    obtain ⟨q1, hq1⟩ : ∃ q1, q1 = valueL s x := ⟨_, rfl⟩
    rw [← hq1] at Z HV
    clear HQ hq1 c3 c4 H1 H2 HM ho
    go_enter Tryd.func50, Tryd.ntmps50
    go_wp2_with fail
    rw [← HW.out]
    refine HV.out.mono ?_
    rintro e w2 ⟨rfl, hb2⟩
    have HB2 := Lib.hid (HB.out.trans (hb2.mono HB.out.size))
    clear hb2
    by_cases e0 : q1.2 = 0
    · have d0 : (q1.2 == 0) = true := by simpa using e0
      have E0 := Lib.hid e0
      go_wp2_with fail
      go_ret2
      exact ⟨by rw [Z.out, E0.out]; rfl, HB2.out⟩
    · have d0 : (q1.2 == 0) = false := by simpa using e0
      go_wp2_with fail
      go_ret2
      exact ⟨by rw [Z.out]; rfl, HB2.out⟩
  by_cases o35 : op = 35
  · subst o35
    have Z := Lib.hid (HQ.out.trans (argL_con rfl))
    obtain ⟨q1, hq1⟩ : ∃ q1, q1 = valueL s x := ⟨_, rfl⟩
    rw [← hq1] at Z HV
    clear HQ hq1 c3 c4 H1 H2 HM ho o0
    go_enter Tryd.func50, Tryd.ntmps50
    go_wp2_with fail
    rw [← HW.out]
    refine HV.out.mono ?_
    rintro e w2 ⟨rfl, hb2⟩
    have HB2 := Lib.hid (HB.out.trans (hb2.mono HB.out.size))
    clear hb2
    by_cases e0 : q1.2 = 0
    · have d0 : (q1.2 == 0) = true := by simpa using e0
      have Z2 := Lib.hid (Z.out.trans (by rw [if_neg (by simpa using e0)]))
      by_cases h16 : 16 ≤ q1.1
      · have d1 : decide ((16 : Int) ≤ (q1.1 : Int)) = true := by simp; omega
        have d1' : decide (16 ≤ q1.1) = true := by simp; omega
        have Z3 : Hid (q = (q1.1, 2)) := Z2.out.trans (by rw [if_pos h16])
        go_wp2_with fail
        go_ret2
        exact ⟨by rw [Z3.out]; rfl, HB2.out⟩
      · have d1 : decide ((16 : Int) ≤ (q1.1 : Int)) = false := by simp; omega
        have d1' : decide (16 ≤ q1.1) = false := by simp; omega
        have Z3 : Hid (q = (q1.1, 0)) := Z2.out.trans (by rw [if_neg h16])
        have E0 := Lib.hid e0
        clear e0
        go_wp2_with fail
        go_ret2
        exact ⟨by rw [Z3.out, E0.out]; rfl, HB2.out⟩
    · have d0 : (q1.2 == 0) = false := by simpa using e0
      have Z3 : Hid (q = (q1.1, q1.2)) := Z.out.trans (by rw [if_pos e0])
      go_wp2_with fail
      go_ret2
      exact ⟨by rw [Z3.out]; rfl, HB2.out⟩
  have d0 : ((op : Int) == 0) = false := by simp; omega
  have d35 : ((op : Int) == 35) = false := by simp; omega
  have hnm : Hid (nameL x = false → q = (0, 4)) := fun hm => HQ.out.trans (by
    by_cases o12 : op = 1 ∨ op = 2
    · rw [argL_loc o12]; unfold indexL; rw [if_pos hm]
    · rw [argL_arr (by omega)]; unfold indexL; rw [if_pos hm])
  cases hm : nameL x with
  | false =>
    rw [hm] at HM
    have Z := Lib.hid (hnm.out hm)
    clear hm hnm HQ H1 H2 c3 c4 o0 o35 ho
    go_enter Tryd.func50, Tryd.ntmps50
    go_wp2_with fail
    rw [← HW.out]
    refine HM.out.mono ?_
    rintro e w9 ⟨rfl, hw9⟩
    obtain rfl : w1 = w9 := hw9.symm
    go_wp2_with fail
    go_ret2
    exact ⟨by rw [Z.out]; rfl, HB.out⟩
  | true =>
    rw [hm] at HM
    by_cases o12 : op = 1 ∨ op = 2
    · by_cases o1 : op = 1
      · have d1 : ((op : Int) == 1) = true := by simp; omega
        have HO := Lib.hid o1
        clear o1 o0 o35
        have Z := Lib.hid (HQ.out.trans ((argL_loc o12).trans (indexL_named hm)))
        cases t1 : s.ln.contains x with
        | true =>
          have Z2 : Hid (q = (s.ln.idxOf x, 0)) := Z.out.trans (if_pos t1)
          rw [(idxI_pos t1).1] at H2
          obtain ⟨k, hke⟩ : ∃ k, k = s.ln.idxOf x := ⟨_, rfl⟩
          rw [← hke] at H2 Z2
          have dk : decide ((k : Int) < 0) = false := by simp
          clear Z t1 hm hnm HQ hke ho o12
          go_enter Tryd.func50, Tryd.ntmps50
          go_wp2_with fail
          rw [← HW.out]
          refine HM.out.mono ?_
          rintro e w9 ⟨rfl, hw9⟩
          obtain rfl : w1 = w9 := hw9.symm
          go_wp2_with fail
          refine H2.out.mono ?_
          rintro e w9 ⟨rfl, hw9⟩
          obtain rfl : w1 = w9 := hw9.symm
          go_wp2_with fail
          go_ret2
          exact ⟨by rw [Z2.out]; rfl, HB.out⟩
        | false =>
          have Z2 : Hid (q = (0, 7)) := Z.out.trans (if_neg (by rw [t1]; simp))
          rw [show idxI s.ln x = -1 by unfold idxI; rw [if_neg (by rw [t1]; simp)]] at H2
          clear Z t1 hm hnm HQ ho o12
          go_enter Tryd.func50, Tryd.ntmps50
          go_wp2_with fail
          rw [← HW.out]
          refine HM.out.mono ?_
          rintro e w9 ⟨rfl, hw9⟩
          obtain rfl : w1 = w9 := hw9.symm
          go_wp2_with fail
          refine H2.out.mono ?_
          rintro e w9 ⟨rfl, hw9⟩
          obtain rfl : w1 = w9 := hw9.symm
          go_wp2_with fail
          go_ret2
          exact ⟨by rw [Z2.out]; rfl, HB.out⟩
      · have d1 : ((op : Int) == 1) = false := by simp; omega
        have d2 : ((op : Int) == 2) = true := by simp; omega
        clear o1 o0 o35
        have Z := Lib.hid (HQ.out.trans ((argL_loc o12).trans (indexL_named hm)))
        cases t1 : s.ln.contains x with
        | true =>
          have Z2 : Hid (q = (s.ln.idxOf x, 0)) := Z.out.trans (if_pos t1)
          rw [(idxI_pos t1).1] at H2
          obtain ⟨k, hke⟩ : ∃ k, k = s.ln.idxOf x := ⟨_, rfl⟩
          rw [← hke] at H2 Z2
          have dk : decide ((k : Int) < 0) = false := by simp
          clear Z t1 hm hnm HQ hke ho o12
          go_enter Tryd.func50, Tryd.ntmps50
          go_wp2_with fail
          rw [← HW.out]
          refine HM.out.mono ?_
          rintro e w9 ⟨rfl, hw9⟩
          obtain rfl : w1 = w9 := hw9.symm
          go_wp2_with fail
          refine H2.out.mono ?_
          rintro e w9 ⟨rfl, hw9⟩
          obtain rfl : w1 = w9 := hw9.symm
          go_wp2_with fail
          go_ret2
          exact ⟨by rw [Z2.out]; rfl, HB.out⟩
        | false =>
          have Z2 : Hid (q = (0, 7)) := Z.out.trans (if_neg (by rw [t1]; simp))
          rw [show idxI s.ln x = -1 by unfold idxI; rw [if_neg (by rw [t1]; simp)]] at H2
          clear Z t1 hm hnm HQ ho o12
          go_enter Tryd.func50, Tryd.ntmps50
          go_wp2_with fail
          rw [← HW.out]
          refine HM.out.mono ?_
          rintro e w9 ⟨rfl, hw9⟩
          obtain rfl : w1 = w9 := hw9.symm
          go_wp2_with fail
          refine H2.out.mono ?_
          rintro e w9 ⟨rfl, hw9⟩
          obtain rfl : w1 = w9 := hw9.symm
          go_wp2_with fail
          go_ret2
          exact ⟨by rw [Z2.out]; rfl, HB.out⟩
    · have d1 : ((op : Int) == 1) = false := by simp; omega
      have d2 : ((op : Int) == 2) = false := by simp; omega
      have Z := Lib.hid (HQ.out.trans ((argL_arr (by omega)).trans (indexL_named hm)))
      cases t1 : s.an.contains x with
      | true =>
        have Z2 : Hid (q = (s.an.idxOf x, 0)) := Z.out.trans (if_pos t1)
        rw [(idxI_pos t1).1] at H1
        obtain ⟨k, hke⟩ : ∃ k, k = s.an.idxOf x := ⟨_, rfl⟩
        rw [← hke] at H1 Z2
        have dk : decide ((k : Int) < 0) = false := by simp
        clear Z t1 hm hnm HQ hke ho o12
        go_enter Tryd.func50, Tryd.ntmps50
        go_wp2_with fail
        rw [← HW.out]
        refine HM.out.mono ?_
        rintro e w9 ⟨rfl, hw9⟩
        obtain rfl : w1 = w9 := hw9.symm
        go_wp2_with fail
        refine H1.out.mono ?_
        rintro e w9 ⟨rfl, hw9⟩
        obtain rfl : w1 = w9 := hw9.symm
        go_wp2_with fail
        go_ret2
        exact ⟨by rw [Z2.out]; rfl, HB.out⟩
      | false =>
        have Z2 : Hid (q = (0, 7)) := Z.out.trans (if_neg (by rw [t1]; simp))
        rw [show idxI s.an x = -1 by unfold idxI; rw [if_neg (by rw [t1]; simp)]] at H1
        clear Z t1 hm hnm HQ ho o12
        go_enter Tryd.func50, Tryd.ntmps50
        go_wp2_with fail
        rw [← HW.out]
        refine HM.out.mono ?_
        rintro e w9 ⟨rfl, hw9⟩
        obtain rfl : w1 = w9 := hw9.symm
        go_wp2_with fail
        refine H1.out.mono ?_
        rintro e w9 ⟨rfl, hw9⟩
        obtain rfl : w1 = w9 := hw9.symm
        go_wp2_with fail
        go_ret2
        exact ⟨by rw [Z2.out]; rfl, HB.out⟩
end Go.Proofs.YtlbhggjkcfcobaaDoor
