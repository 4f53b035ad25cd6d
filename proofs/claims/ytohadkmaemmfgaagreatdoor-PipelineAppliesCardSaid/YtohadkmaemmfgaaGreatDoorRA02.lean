/- Ya Yw. -/
import Derived.Test.YtohadkmaemmfgaaGreatDoorRA00
import Derived.Lib.Split
import Derived.Lib.SplitLaws
import Derived.Lib.AtoiAll
import Derived.Lib.AtoiAllCases
import Derived.Lib.AtoiTie
import Derived.Lib.ItoaNum
set_option maxRecDepth 100000
set_option maxHeartbeats 4000000
namespace Go.Proofs.YtohadkmaemmfgaaGreatDoor
open Go.RowKit Go.Proofs
set_option linter.unusedVariables false
set_option linter.unusedSimpArgs false
abbrev Stg := Int × Int
abbrev Ty := Int × Int
def frK (k : Int) : Int := if k = 1 ∨ k = 2 ∨ k = 3 then 1 else if k = 8 then 2 else if k = 9 then 3 else 0
def toP (s : Stg) (t : Ty) : Ty := if s.1 = 0 then (1, s.2) else if s.1 = 1 then t else if s.1 = 7 then (2, 0) else if s.1 = 8 then (3, 0) else (0, 0)
def errP (s : Stg) (t : Ty) : Int := if s.1 < 0 ∨ 10 ≤ s.1 then 1 else if (s.1 = 0 ∧ (s.2 < 1 ∨ 64 < s.2)) ∨ (s.1 ≠ 0 ∧ s.2 ≠ 0) then 2 else if frK s.1 ≠ t.1 then 13 else 0
def stepP (s : Stg) (t : Ty) : Ty := if errP s t = 0 then toP s t else t
def tyOk (t : Ty) : Bool := if t.1 = 1 then decide (1 ≤ t.2 ∧ t.2 ≤ 64) else decide ((t.1 = 0 ∨ t.1 = 2 ∨ t.1 = 3) ∧ t.2 = 0)
def sG (l : List Stg) (k : Nat) : Stg := l.getD k (0, 0)
def tK (l : List Stg) (t : Ty) : Nat → Ty
  | 0 => t
  | k + 1 => stepP (sG l k) (tK l t k)
def eK (l : List Stg) (t : Ty) (k : Nat) : Int := errP (sG l k) (tK l t k)
def fstE (f : Nat → Int) : Nat → Nat → Int × Int
  | 0, _ => (0, 0)
  | m + 1, k => if f k = 0 then fstE f m (k + 1) else (f k, (k : Int))
def typE (l : List Stg) (t : Ty) : Int × Int := if 8 < l.length then (6, -1) else if tyOk t = false then (1, -1) else fstE (eK l t) l.length 0
def typeP (l : List Stg) (t : Ty) : Ty := if (typE l t).1 = 0 then tK l t l.length else (0, 0)
theorem fstE_step {f : Nat → Int} {n k : Nat} (h : k < n) : fstE f (n - k) k = if f k = 0 then fstE f (n - (k + 1)) (k + 1) else (f k, (k : Int)) := by
  rw [show n - k = (n - (k + 1)) + 1 by omega]; rfl
theorem fstE_end {f : Nat → Int} {n k : Nat} (h : n ≤ k) : fstE f (n - k) k = (0, 0) := by
  rw [show n - k = 0 by omega]; rfl
def spl : List UInt8 → List (List UInt8)
  | [] => [[]]
  | c :: s => if c = 32 then [] :: spl s else match spl s with | [] => [[c]] | h :: t => (c :: h) :: t
theorem spl_ne : ∀ s, spl s ≠ []
  | [] => by simp [spl]
  | c :: s => by
    unfold spl
    split
    · simp
    · split <;> simp
def placed : List (List UInt8) → Nat → List (List UInt8 × Nat)
  | [], _ => []
  | p :: ps, i => if p = [] then placed ps (i + 1) else (p, i) :: placed ps (i + p.length + 1)
def wordsP (s : List UInt8) : List (List UInt8 × Nat) := placed (spl s) 0
theorem index_miss32 : ∀ {x : List UInt8}, (32 : UInt8) ∉ x → Lib.index x [32] = -1
  | [], _ => rfl
  | b :: l, h => by
    have hb : ¬ (32 : UInt8) = b := fun e => h (by simp [e])
    have := index_miss32 (x := l) (fun hm => h (by simp [hm]))
    rw [Lib.index, if_neg (by simp [List.isPrefixOf]; exact hb), this]; rfl
theorem index_hit32 : ∀ {x r : List UInt8}, (32 : UInt8) ∉ x → Lib.index (x ++ 32 :: r) [32] = (x.length : Int)
  | [], r, _ => by rw [List.nil_append, Lib.index, if_pos (by simp [List.isPrefixOf])]; rfl
  | b :: l, r, h => by
    have hb : ¬ (32 : UInt8) = b := fun e => h (by simp [e])
    have := index_hit32 (x := l) (r := r) (fun hm => h (by simp [hm]))
    rw [List.cons_append, Lib.index, if_neg (by simp [List.isPrefixOf]; exact hb), this, if_neg (by rw [beq_iff_eq]; omega)]
    simp
theorem spl_word : ∀ {x r : List UInt8}, (32 : UInt8) ∉ x → spl (x ++ 32 :: r) = x :: spl r
  | [], r, _ => by rw [List.nil_append, spl, if_pos rfl]
  | b :: l, r, h => by
    have hb : ¬ b = (32 : UInt8) := fun e => h (by simp [e])
    rw [List.cons_append, spl, if_neg hb, spl_word (x := l) (fun hm => h (by simp [hm]))]
theorem spl_last : ∀ {x : List UInt8}, (32 : UInt8) ∉ x → spl x = [x]
  | [], _ => rfl
  | b :: l, h => by
    have hb : ¬ b = (32 : UInt8) := fun e => h (by simp [e])
    rw [spl, if_neg hb, spl_last (x := l) (fun hm => h (by simp [hm]))]
theorem cut32 (s : List UInt8) : (32 : UInt8) ∉ s ∨ ∃ x r, s = x ++ 32 :: r ∧ (32 : UInt8) ∉ x := by
  induction s with
  | nil => exact .inl (by simp)
  | cons b t ih =>
    by_cases hb : b = 32
    · subst hb
      exact .inr ⟨[], t, rfl, by simp⟩
    · rcases ih with h | ⟨x, r, rfl, h⟩
      · exact .inl (by simp [h]; exact fun e => hb e.symm)
      · exact .inr ⟨b :: x, r, rfl, by simp [h]; exact fun e => hb e.symm⟩
theorem splitK_spl (n : Nat) : ∀ s : List UInt8, s.length ≤ n → Lib.splitK [32] 0 (Lib.count s [32]) s = spl s := by
  induction n with
  | zero =>
    intro s hs
    obtain rfl : s = [] := List.eq_nil_of_length_eq_zero (by omega)
    rfl
  | succ n ih =>
    intro s hs
    rcases cut32 s with h | ⟨x, r, rfl, h⟩
    · rw [Lib.count_miss (index_miss32 h), spl_last h]; rfl
    · have hd : List.drop (x.length + [(32 : UInt8)].length) (x ++ 32 :: r) = r := by simp [List.drop_append]
      rw [Lib.count_hit (by simp) (index_hit32 h), hd, Nat.add_comm 1, Lib.splitK, index_hit32 h, if_neg (by rw [beq_iff_eq]; omega)]
      rw [show List.drop ((x.length : Int).toNat + [(32 : UInt8)].length) (x ++ 32 :: r) = r by simp [List.drop_append], ih r (by simp at hs; omega), spl_word h]
      simp
theorem strB_dataY (l : List ByteArray) : (l.map (·.data.toList)).map strB = l := by
  rw [List.map_map]
  conv => rhs; rw [← List.map_id l]
  apply List.map_congr_left
  intro x _
  rfl
theorem splitB_spl (s : List UInt8) : Lib.splitB ⟨#[32]⟩ 0 (Lib.countB (strB s) ⟨#[32]⟩) (strB s) = (spl s).map strB := by
  have := Lib.splitB_data ⟨#[32]⟩ 0 (Lib.countB (strB s) ⟨#[32]⟩) (strB s)
  rw [show (strB s).data.toList = s from rfl, show (⟨#[32]⟩ : ByteArray).data.toList = [32] from rfl, show Lib.countB (strB s) ⟨#[32]⟩ = Lib.count s [32] from rfl, splitK_spl _ s (Nat.le_refl _)] at this
  rw [← strB_dataY (Lib.splitB ⟨#[32]⟩ 0 (Lib.countB (strB s) ⟨#[32]⟩) (strB s)), show Lib.countB (strB s) ⟨#[32]⟩ = Lib.count s [32] from rfl, this]
theorem spl_count (s : List UInt8) : (spl s).length = Lib.countB (strB s) ⟨#[32]⟩ + 1 := by
  have := Lib.splitB_all ⟨#[32]⟩ (Nat.le_refl _) 0 _ (strB s) rfl
  rw [splitB_spl, List.length_map] at this
  exact this
def digB (d : Nat) : UInt8 := UInt8.ofNat (48 + d)
def decS (n : Nat) : List UInt8 := Lib.decDigits n
theorem decS_small {n : Nat} (h : n < 10) : decS n = [digB n] := by unfold decS digB; rw [Lib.decDigits, dif_pos h]
theorem decS_big {n : Nat} (h : ¬ n < 10) : decS n = decS (n / 10) ++ [digB (n % 10)] := by unfold decS digB; rw [Lib.decDigits, dif_neg h]
theorem digB_nat {d : Nat} (h : d < 10) : (digB d).toNat = 48 + d := by unfold digB; simp; omega
theorem decS_mem (n : Nat) : ∀ b ∈ decS n, 48 ≤ b.toNat ∧ b.toNat ≤ 57 := by
  induction n using Nat.strongRecOn with
  | _ n ih =>
    by_cases h : n < 10
    · rw [decS_small h]
      intro b hb
      rw [List.mem_singleton] at hb
      subst hb
      rw [digB_nat h]; omega
    · rw [decS_big h]
      intro b hb
      rcases List.mem_append.1 hb with hb | hb
      · exact ih _ (by omega) b hb
      · rw [List.mem_singleton] at hb
        subst hb
        rw [digB_nat (by omega)]; omega
theorem decS_ne (n : Nat) : decS n ≠ [] := by
  by_cases h : n < 10
  · rw [decS_small h]; simp
  · rw [decS_big h]; simp
theorem decS_head {n : Nat} (h1 : 1 ≤ n) : (decS n).head? ≠ some 48 := by
  induction n using Nat.strongRecOn with
  | _ n ih =>
    by_cases h : n < 10
    · rw [decS_small h]
      have := digB_nat h
      intro hc
      simp at hc
      rw [hc] at this
      have : (48 : UInt8).toNat = 48 := rfl
      omega
    · rw [decS_big h]
      have := ih (n / 10) (by omega) (by omega)
      obtain ⟨b, t, e⟩ : ∃ b t, decS (n / 10) = b :: t := by
        cases hh : decS (n / 10) with
        | nil => exact absurd hh (decS_ne _)
        | cons a l => exact ⟨a, l, rfl⟩
      rw [e] at this ⊢
      exact this
theorem decS_len : ∀ (k m : Nat), m < 10 ^ (k + 1) → (decS m).length ≤ k + 1
  | 0, m, h => by rw [decS_small (by simpa using h)]; simp
  | k + 1, m, h => by
    by_cases hm : m < 10
    · rw [decS_small hm]; simp
    · rw [decS_big hm, List.length_append]
      have := decS_len k (m / 10) (by rw [Nat.pow_succ] at h; omega)
      simp; omega
def digY : List UInt8 → Nat → Option Nat
  | [], n => some n
  | b :: t, n => if b < 48 ∨ 57 < b then none else digY t (10 * n + (b.toNat - 48))
theorem digY_snoc : ∀ (l : List UInt8) (b : UInt8) (n : Nat), digY (l ++ [b]) n = (digY l n).bind fun m => if b < 48 ∨ 57 < b then none else some (10 * m + (b.toNat - 48))
  | [], b, n => by simp [digY]
  | c :: l, b, n => by
    rw [List.cons_append, digY, digY]
    split
    · rfl
    · exact digY_snoc l b _
theorem digOk {b : UInt8} : ¬ (b < 48 ∨ 57 < b) ↔ 48 ≤ b.toNat ∧ b.toNat ≤ 57 := by
  rw [UInt8.lt_iff_toNat_lt, UInt8.lt_iff_toNat_lt]
  have h1 : (48 : UInt8).toNat = 48 := rfl
  have h2 : (57 : UInt8).toNat = 57 := rfl
  omega
theorem digY_dec (n : Nat) : digY (decS n) 0 = some n := by
  induction n using Nat.strongRecOn with
  | _ n ih =>
    by_cases h : n < 10
    · have h2 := digB_nat h
      rw [decS_small h, digY, if_neg (digOk.2 (by omega)), digY, h2]
      congr 1; omega
    · have h2 := digB_nat (d := n % 10) (by omega)
      rw [decS_big h, digY_snoc, ih _ (by omega), Option.bind_some, if_neg (digOk.2 (by omega)), h2]
      congr 1; omega
theorem digB_of {b : UInt8} (h : 48 ≤ b.toNat ∧ b.toNat ≤ 57) : b = digB (b.toNat - 48) := by
  have h2 := digB_nat (d := b.toNat - 48) (by omega)
  apply UInt8.toNat_inj.1
  rw [h2]; omega
theorem digY_back : ∀ (m : Nat) (l : List UInt8) (n : Nat), l.length = m → l ≠ [] → ¬ (1 < l.length ∧ l.head? = some 48) → digY l 0 = some n → l = decS n := by
  intro m
  induction m with
  | zero => intro l n hl hne; exact absurd (List.eq_nil_of_length_eq_zero hl) hne
  | succ m ih =>
    intro l n hl hne hz hd
    obtain ⟨t, b, rfl⟩ : ∃ t b, l = t ++ [b] := ⟨l.dropLast, l.getLast hne, (List.dropLast_concat_getLast hne).symm⟩
    rw [digY_snoc] at hd
    cases h1 : digY t 0 with
    | none => rw [h1] at hd; cases hd
    | some k =>
      rw [h1, Option.bind_some] at hd
      by_cases hb : b < 48 ∨ 57 < b
      · rw [if_pos hb] at hd; cases hd
      rw [if_neg hb] at hd
      injection hd with hd
      have hb2 := digOk.1 hb
      by_cases ht : t = []
      · subst ht
        have hk : k = 0 := by simpa [digY] using h1.symm
        subst hk
        rw [decS_small (by omega), List.nil_append, ← hd]
        rw [show 10 * 0 + (b.toNat - 48) = b.toNat - 48 by omega, ← digB_of hb2]
      · have htl : t.length = m := by simp at hl; omega
        have hth : ¬ (1 < t.length ∧ t.head? = some 48) := by
          rintro ⟨h3, h4⟩
          refine hz ⟨by simp; omega, ?_⟩
          rw [List.head?_append, h4]; rfl
        have hr := ih t k htl ht hth h1
        have hk0 : 1 ≤ k := by
          rcases Nat.eq_zero_or_pos k with hk | hk
          · exfalso
            subst hk
            have : t = [digB 0] := by rw [hr, decS_small (by omega)]
            refine hz ⟨by rw [this]; simp, ?_⟩
            rw [this]; rfl
          · exact hk
        rw [decS_big (by omega), show n / 10 = k by omega, ← hr, show n % 10 = b.toNat - 48 by omega, ← digB_of hb2]
def numP (s : List UInt8) : Option Nat :=
  if s.length < 1 ∨ 16 < s.length ∨ (1 < s.length ∧ s.head? = some 48) then none else (digY s 0).bind fun n => if n ≤ 9007199254740991 then some n else none
theorem numP_dec {n : Nat} (h : n ≤ 9007199254740991) : numP (decS n) = some n := by
  unfold numP
  have hl := decS_len 15 n (by omega)
  have hne := decS_ne n
  rw [if_neg (by
    rintro (h1 | h1 | ⟨h1, h2⟩)
    · exact hne (List.eq_nil_of_length_eq_zero (by omega))
    · omega
    · by_cases h3 : n < 10
      · rw [decS_small h3] at h1; simp at h1
      · exact decS_head (by omega) h2), digY_dec, Option.bind_some, if_pos h]
theorem numP_back {s : List UInt8} {n : Nat} (h : numP s = some n) : s = decS n ∧ n ≤ 9007199254740991 := by
  unfold numP at h
  split at h
  · cases h
  · rename_i hc
    cases hd : digY s 0 with
    | none => rw [hd] at h; cases h
    | some k =>
      rw [hd, Option.bind_some] at h
      split at h
      · rename_i hk
        injection h with h
        subst h
        refine ⟨digY_back _ s k rfl (fun e => hc (.inl (by rw [e]; simp))) (fun e => hc (.inr (.inr e))) hd, hk⟩
      · cases h
theorem atoi_dec {n : Nat} (h : n ≤ 9007199254740991) : Lib.atoiAll (decS n) = .ok (n : Int) := by
  have hm := decS_mem n
  obtain ⟨c, r, e⟩ : ∃ c r, decS n = c :: r := by
    cases hh : decS n with
    | nil => exact absurd hh (decS_ne _)
    | cons a l => exact ⟨a, l, rfl⟩
  have hc := hm c (by rw [e]; simp)
  have hp : ∀ (l : List UInt8) (acc k : Nat), digY l acc = some k → k ≤ 9007199254740991 → Lib.parseUint10 acc l = .ok k := by
    intro l
    induction l with
    | nil => intro acc k h1 _; simp only [digY, Option.some.injEq] at h1; rw [h1]; rfl
    | cons b t ih =>
      intro acc k h1 hk
      rw [digY] at h1
      by_cases hb : b < 48 ∨ 57 < b
      · rw [if_pos hb] at h1; cases h1
      rw [if_neg hb] at h1
      have hb2 := digOk.1 hb
      have hmono : ∀ (l : List UInt8) (a k : Nat), digY l a = some k → a ≤ k := by
        intro l
        induction l with
        | nil => intro a k h; simp only [digY, Option.some.injEq] at h; omega
        | cons c l ih2 =>
          intro a k h
          rw [digY] at h
          split at h
          · cases h
          · have := ih2 _ _ h; omega
      have hle := hmono t _ k h1
      rw [Lib.parseUint10, if_pos hb2, if_neg (by omega), if_neg (by omega), Nat.mul_comm acc]
      exact ih _ _ h1 hk
  have h2 := hp (decS n) 0 n (digY_dec n) h
  rw [e] at h2 ⊢
  rw [Lib.atoiAll_plain c r (by omega) (by omega)]
  unfold Lib.parseMag
  rw [if_neg (by simp), h2]
  show Lib.signless (.ok n) = _
  unfold Lib.signless
  simp only
  rw [if_neg (by omega)]
def nameP (k : Int) : List UInt8 :=
  if k = 0 then [116, 97, 98, 108, 101] else if k = 1 then [100, 101, 108, 116, 97] else if k = 2 then [99, 111, 108, 117, 109, 110, 115] else if k = 3 then [102, 108, 97, 116]
  else if k = 4 then [99, 97, 108, 108, 115] else if k = 5 then [100, 105, 99, 116, 105, 111, 110, 97, 114, 121] else if k = 6 then [108, 122] else if k = 7 then [115, 111, 114, 116]
  else if k = 8 then [114, 101, 99, 101, 110, 99, 121] else if k = 9 then [114, 117, 110, 115] else []
def kindP (x : List UInt8) : Int := match (List.range 10).find? fun k : Nat => decide (nameP ((k : Nat) : Int) = x) with | some k => (k : Int) | none => -1
def readP (n : Nat) : List (List UInt8 × Nat) → Except (Nat × Int) (List (Stg × Nat))
  | [] => .ok []
  | w :: r =>
    if kindP w.1 < 0 then .error (w.2, 4)
    else if kindP w.1 = 0 then
      match r with
      | [] => .error (n, 4)
      | v :: r' => match numP v.1 with
        | none => .error (v.2, 4)
        | some k => (readP n r').map fun o => ((0, (k : Int)), w.2) :: o
    else (readP n r).map fun o => ((kindP w.1, 0), w.2) :: o
def parseP (s : List UInt8) : List Stg × Int × Int :=
  if 8192 < s.length then ([], 0, 5) else
  match readP s.length (wordsP s) with
  | .error (i, e) => ([], i, e)
  | .ok o =>
    let e := typE (o.map (·.1)) (0, 0)
    if e.1 = 0 then (o.map (·.1), 0, 0) else if e.2 < 0 then ([], 0, e.1) else ([], ((o.map (·.2)).getD e.2.toNat 0 : Nat), e.1)
def totP (ps : List (List UInt8)) : Nat := (ps.map fun p => p.length + 1).sum
theorem placed_append : ∀ (xs ys : List (List UInt8)) (i : Nat), placed (xs ++ ys) i = placed xs i ++ placed ys (i + totP xs)
  | [], ys, i => by simp [placed, totP]
  | p :: xs, ys, i => by
    have ih := placed_append xs ys
    have ht : totP (p :: xs) = p.length + 1 + totP xs := by simp [totP]
    rw [List.cons_append, placed, placed, ht]
    by_cases hp : p = []
    · subst hp
      rw [if_pos rfl, if_pos rfl, ih, show i + 1 + totP xs = i + (([] : List UInt8).length + 1 + totP xs) by simp; omega]
    · rw [if_neg hp, if_neg hp, ih, List.cons_append, show i + p.length + 1 + totP xs = i + (p.length + 1 + totP xs) by omega]
def gP (ps : List (List UInt8)) (k : Nat) : List UInt8 := ps.getD k []
theorem take_gP {ps : List (List UInt8)} {k : Nat} (h : k < ps.length) : ps.take (k + 1) = ps.take k ++ [gP ps k] := by
  rw [List.take_succ_eq_append_getElem h]
  unfold gP
  rw [List.getD_eq_getElem?_getD, List.getElem?_eq_getElem h]; rfl
theorem placed_next {ps : List (List UInt8)} {k : Nat} (h : k < ps.length) : placed (ps.take (k + 1)) 0 = if gP ps k = [] then placed (ps.take k) 0 else placed (ps.take k) 0 ++ [(gP ps k, totP (ps.take k))] := by
  rw [take_gP h, placed_append, placed, placed, placed, Nat.zero_add]
  split <;> simp
theorem tot_next {ps : List (List UInt8)} {k : Nat} (h : k < ps.length) : totP (ps.take (k + 1)) = totP (ps.take k) + (gP ps k).length + 1 := by
  rw [take_gP h]; simp [totP]; omega
theorem tot_spl : ∀ s : List UInt8, totP (spl s) = s.length + 1
  | [] => rfl
  | c :: s => by
    have ih := tot_spl s
    rw [spl]
    split
    · simp [totP] at ih ⊢; omega
    · cases h : spl s with
      | nil => exact absurd h (spl_ne s)
      | cons a l =>
        rw [h] at ih
        simp [totP] at ih ⊢; omega
theorem tot_le : ∀ (ps : List (List UInt8)) (k : Nat), totP (ps.take k) ≤ totP ps
  | [], k => by simp
  | p :: ps, 0 => by simp [totP]
  | p :: ps, k + 1 => by
    have := tot_le ps k
    simp [totP] at this ⊢; omega
theorem placed_at : ∀ (ps : List (List UInt8)) (i : Nat), ∀ x ∈ placed ps i, x.2 ≤ i + totP ps ∧ x.1 ≠ [] ∧ x.1.length ≤ totP ps
  | [], i, x, h => by simp [placed] at h
  | p :: ps, i, x, h => by
    rw [placed] at h
    have ht : totP (p :: ps) = p.length + 1 + totP ps := by simp [totP]
    split at h
    · have := placed_at ps _ x h
      exact ⟨by omega, this.2.1, by omega⟩
    · rename_i hp
      rcases List.mem_cons.1 h with rfl | h
      · exact ⟨by dsimp only; omega, hp, by dsimp only; omega⟩
      · have := placed_at ps _ x h
        exact ⟨by omega, this.2.1, by omega⟩
theorem words_at {s : List UInt8} {x : List UInt8 × Nat} (h : x ∈ wordsP s) : x.2 ≤ s.length + 1 ∧ x.1.length ≤ s.length + 1 := by
  have := placed_at _ _ x h
  rw [tot_spl] at this
  exact ⟨by omega, this.2.2⟩
theorem placed_length : ∀ (ps : List (List UInt8)) (i : Nat), (placed ps i).length ≤ ps.length
  | [], i => by simp [placed]
  | p :: ps, i => by
    rw [placed]
    split
    · have := placed_length ps (i + 1); simp; omega
    · have := placed_length ps (i + p.length + 1); simp; omega
theorem spl_length : ∀ s : List UInt8, (spl s).length ≤ s.length + 1
  | [] => by simp [spl]
  | c :: s => by
    have := spl_length s
    rw [spl]
    split
    · simp; omega
    · split
      · simp
      · rename_i h t e; rw [e] at this; simp at this ⊢; omega
theorem words_length (s : List UInt8) : (wordsP s).length ≤ s.length + 1 := Nat.le_trans (placed_length _ _) (spl_length s)
theorem num_atoi {s : List UInt8} {k : Nat} (h : numP s = some k) : Lib.atoiAll s = .ok (k : Int) := by
  obtain ⟨rfl, hk⟩ := numP_back h; exact atoi_dec hk
theorem num_of_atoi {s : List UInt8} {v : Int} (h : Lib.atoiAll s = .ok v) : numP s = if 0 ≤ v ∧ v ≤ 9007199254740991 ∧ decS v.toNat = s then some v.toNat else none := by
  split
  · rename_i hc
    obtain ⟨h0, h1, h2⟩ := hc
    rw [← h2]
    exact numP_dec (by omega)
  · rename_i hc
    cases hn : numP s with
    | none => rfl
    | some k =>
      exfalso
      have h3 := num_atoi hn
      rw [h] at h3
      injection h3 with h3
      obtain ⟨h4, h5⟩ := numP_back hn
      refine hc ⟨by omega, by omega, ?_⟩
      rw [h3, Int.toNat_natCast]; exact h4.symm
theorem num_none {s : List UInt8} (h : ∀ v, Lib.atoiAll s ≠ .ok v) : numP s = none := by
  cases hn : numP s with
  | none => rfl
  | some k => exact absurd (num_atoi hn) (h _)
theorem kind_hit {x : List UInt8} {k : Nat} (hk : k < 10) (hx : nameP ((k : Nat) : Int) = x) (hb : ∀ j, j < k → nameP ((j : Nat) : Int) ≠ x) : kindP x = (k : Int) := by
  have : (List.range 10).find? (fun k : Nat => decide (nameP ((k : Nat) : Int) = x)) = some k := by
    rw [List.find?_eq_some_iff_getElem]
    refine ⟨by simp [hx], k, by simpa using hk, by simp, fun j hj => ?_⟩
    have := hb j hj
    simp at this ⊢
    exact this
  unfold kindP
  rw [this]
theorem kind_miss {x : List UInt8} (hb : ∀ j, j < 10 → nameP ((j : Nat) : Int) ≠ x) : kindP x = -1 := by
  have : (List.range 10).find? (fun k : Nat => decide (nameP ((k : Nat) : Int) = x)) = none := by
    rw [List.find?_eq_none]
    intro j hj
    have := hb j (by simpa using hj)
    simpa using this
  unfold kindP
  rw [this]
theorem kind_range (x : List UInt8) : -1 ≤ kindP x ∧ kindP x < 10 := by
  unfold kindP
  cases h : (List.range 10).find? (fun k : Nat => decide (nameP ((k : Nat) : Int) = x)) with
  | none => simp
  | some k =>
    have := List.mem_of_find?_eq_some h
    have : k < 10 := by simpa using this
    constructor <;> dsimp only <;> omega
end Go.Proofs.YtohadkmaemmfgaaGreatDoor
