/- A text that declares arrays and locals and lists instructions is read to what it says: the plain law. No program in sight. -/
import Derived.Test.YtlbhggjkcfcobaaDoorJa
namespace Go.Proofs.YtlbhggjkcfcobaaDoor
open Go.RowKit Go.Proofs
set_option linter.unusedVariables false

theorem wordsT_one {x : List UInt8} {c : UInt8} (y : List UInt8) (hx : x ≠ []) (hg : ∀ b ∈ x, gapB b = false) (hc : gapB c = true) (h59 : c ≠ 59) : wordsT (x ++ c :: y) = x :: wordsT y := by
  obtain ⟨b, t, rfl⟩ : ∃ b t, x = b :: t := by cases x with | nil => exact absurd rfl hx | cons a l => exact ⟨a, l, rfl⟩
  have hq : ∀ d ∈ b :: t, (fun c => !gapB c) d = true := fun d hd => by simp [hg d hd]
  rw [List.cons_append, wordsT_word _ (hg b (by simp)), ← List.cons_append, takeWhile_to _ _ hq (by simp [hc]), dropWhile_to _ _ (fun d hd => hq d (by simp [hd])) (by simp [hc]), wordsT_gap _ h59 hc]

theorem hexD_dig : ∀ d : Fin 10, hexD (digB d.val) = d.val := by decide +kernel
theorem digF_snoc (base : Nat) (d : UInt8) : ∀ (l : List UInt8) (a : Nat), digF base (l ++ [d]) a = (digF base l a).bind fun n => if base ≤ hexD d then none else some (base * n + hexD d)
  | [], a => by simp [digF]
  | b :: l, a => by
    rw [List.cons_append]
    unfold digF
    by_cases h : base ≤ hexD b
    · rw [if_pos h, if_pos h]; rfl
    · rw [if_neg h, if_neg h, digF_snoc base d l]
theorem digF_dec (n : Nat) : digF 10 (decS n) 0 = some n := by
  induction n using Nat.strongRecOn with
  | _ n ih =>
    by_cases h : n < 10
    · rw [decS_small h]
      have := hexD_dig ⟨n, h⟩
      dsimp only at this
      simp [digF, this]
      omega
    · have := hexD_dig ⟨n % 10, Nat.mod_lt _ (by omega)⟩
      dsimp only at this
      rw [decS_big h, digF_snoc, ih _ (by omega), Option.bind_some, this, if_neg (by omega)]
      congr 1
      omega
theorem decS_ne (n : Nat) : decS n ≠ [] := by
  by_cases h : n < 10
  · rw [decS_small h]; simp
  · rw [decS_big h]; simp
theorem decS_head {n : Nat} (h1 : 1 ≤ n) : (decS n).head? ≠ some 48 := by
  induction n using Nat.strongRecOn with
  | _ n ih =>
    by_cases h : n < 10
    · rw [decS_small h]
      have := digB_nat h
      intro hc
      simp at hc
      rw [hc] at this
      have : (48 : UInt8).toNat = 48 := rfl
      omega
    · rw [decS_big h]
      have := ih (n / 10) (by omega) (by omega)
      obtain ⟨b, t, e⟩ : ∃ b t, decS (n / 10) = b :: t := by
        cases hh : decS (n / 10) with
        | nil => exact absurd hh (decS_ne _)
        | cons a l => exact ⟨a, l, rfl⟩
      rw [e] at this ⊢
      exact this
theorem decS_len : ∀ (k m : Nat), m < 10 ^ (k + 1) → (decS m).length ≤ k + 1
  | 0, m, h => by rw [decS_small (by simpa using h)]; simp
  | k + 1, m, h => by
    by_cases hm : m < 10
    · rw [decS_small hm]; simp
    · rw [decS_big hm, List.length_append]
      have := decS_len k (m / 10) (by rw [Nat.pow_succ] at h; omega)
      simp; omega
theorem numL_decS {n : Nat} (h : n < 4294967296) : numL (decS n) = some n := by
  unfold numL
  have hm := decS_mem n
  have hne := decS_ne n
  have hl := decS_len 9 n (by omega)
  rw [if_neg (by
    rintro ⟨h1, h2⟩
    have : (120 : UInt8) ∈ (decS n).take 2 := by rw [h2]; simp
    have := hm _ (List.mem_of_mem_take this)
    exact absurd this.2 (by decide)), if_neg (by
    rintro ⟨h1, h2⟩
    by_cases h3 : n < 10
    · rw [decS_small h3] at h1; simp at h1
    · exact decS_head (by omega) h2), if_neg (by
    rintro (h1 | h1)
    · have := List.length_pos_iff.2 hne; omega
    · omega), digF_dec, Option.bind_some, if_pos h]

/-- the words of the declarations of arrays. -/
def wArrs (nm : Nat → List UInt8) : Nat → List Arr → List (List UInt8)
  | _, [] => []
  | k, a :: l => (if a.word = true then [119, 111, 114, 100, 115] else [98, 121, 116, 101, 115]) :: nm k :: decS a.size.toNat :: wArrs nm (k + 1) l
/-- the words of the declarations of locals. -/
def wLocs (nm : Nat → List UInt8) : Nat → Nat → List (List UInt8)
  | _, 0 => []
  | k, c + 1 => [108, 111, 99, 97, 108] :: nm k :: wLocs nm (k + 1) c
/-- the words of an instruction. -/
def InsW (s : AS) (i : Ins) (ws : List (List UInt8)) : Prop := ∃ op : Nat, i.op = (op : Int) ∧ op < 36 ∧
  ((4 < op ∧ op ≠ 35 ∧ i.arg = 0 ∧ ws = [(opO op).name]) ∨ ((op ≤ 4 ∨ op = 35) ∧ ∃ (x : List UInt8) (a : Nat), ws = [(opO op).name, x] ∧ argL s op x = (a, 0) ∧ i.arg = (a : Int)))
/-- the words of a list of instructions. -/
inductive CodeW (s : AS) : List Ins → List (List UInt8) → Prop
  | nil : CodeW s [] []
  | cons {i : Ins} {x : List (List UInt8)} {l : List Ins} {y : List (List UInt8)} (h : InsW s i x) (ht : CodeW s l y) : CodeW s (i :: l) (x ++ y)
theorem CodeW.app {s : AS} {l m : List Ins} {x y : List (List UInt8)} (h : CodeW s l x) (h2 : CodeW s m y) : CodeW s (l ++ m) (x ++ y) := by
  induction h with
  | nil => exact h2
  | cons hi ht ih => rw [List.cons_append, List.append_assoc]; exact .cons hi ih
theorem CodeW.snoc {s : AS} {l : List Ins} {i : Ins} {x y : List (List UInt8)} (h : CodeW s l x) (h2 : InsW s i y) : CodeW s (l ++ [i]) (x ++ y) := h.app (by simpa using CodeW.cons h2 .nil)
def zW (l : List (List UInt8)) : List Wd := l.map fun x => (x, 0)
theorem zW_cons (x : List UInt8) (l : List (List UInt8)) : zW (x :: l) = (x, 0) :: zW l := rfl
theorem zW_app (x y : List (List UInt8)) : zW (x ++ y) = zW x ++ zW y := by unfold zW; rw [List.map_append]
theorem zW_texts (l : List (List UInt8)) : (zW l).map (·.1) = l := by unfold zW; rw [List.map_map]; exact List.map_id' l
theorem range_snoc (nm : Nat → List UInt8) (k : Nat) : (List.range (k + 1)).map nm = (List.range k).map nm ++ [nm k] := by rw [List.range_succ, List.map_append]; rfl
theorem notin_range {nm : Nat → List UInt8} (hi : ∀ a b, nm a = nm b → a = b) (k : Nat) : ((List.range k).map nm).contains (nm k) = false := by
  rw [Bool.eq_false_iff]
  intro h
  have h : nm k ∈ (List.range k).map nm := by simpa using h
  obtain ⟨j, hj, e⟩ := List.mem_map.1 h
  have := hi _ _ e
  rw [List.mem_range] at hj
  omega
theorem notin_other {nm nl : Nat → List UInt8} (hd : ∀ a b, nm a ≠ nl b) (k c : Nat) : ((List.range c).map nm).contains (nl k) = false := by
  rw [Bool.eq_false_iff]
  intro h
  have h : nl k ∈ (List.range c).map nm := by simpa using h
  obtain ⟨j, hj, e⟩ := List.mem_map.1 h
  exact hd _ _ e
theorem fresh_zero {s : AS} {x : List UInt8} (h : nameL x = true) (h0 : s.cn = []) (h1 : s.an.contains x = false) (h2 : s.ln.contains x = false) : freshE s x = 0 := by
  unfold freshE conOf
  rw [if_neg (by simp [h]), h0, h1, h2]
  rfl
theorem valueL_dec (s : AS) {n : Nat} (h : n < 4294967296) : valueL s (decS n) = (n, 0) := by unfold valueL; rw [numL_decS h]
theorem read_arrs {n : Nat} {nm : Nat → List UInt8} (hn : ∀ k, k < 8 → nameL (nm k) = true) (hi : ∀ a b, nm a = nm b → a = b) : ∀ (l arrs : List Arr) (rest : List Wd), arrs.length + l.length ≤ 8 → (∀ x ∈ l, 1 ≤ x.size) → ((arrs ++ l).map (·.size)).sum ≤ 65536 → 0 ≤ (arrs.map (·.size)).sum →
    readW n ⟨arrs, (List.range arrs.length).map nm, [], [], []⟩ (zW (wArrs nm arrs.length l) ++ rest) = readW n ⟨arrs ++ l, (List.range (arrs.length + l.length)).map nm, [], [], []⟩ rest
  | [], arrs, rest, _, _, _, _ => by rw [List.append_nil]; rfl
  | a :: l, arrs, rest, h8, h1, hs, h0 => by
    have ha := h1 a (by simp)
    have hsum : (∀ x ∈ l, 1 ≤ x.size) → 0 ≤ (l.map (·.size)).sum := by
      clear hs h8 h1
      induction l with
      | nil => intro _; exact Int.le_refl _
      | cons z l ih => intro hl; rw [List.map_cons, List.sum_cons]; have := hl z (by simp); have := ih (fun x hx => hl x (by simp [hx])); omega
    have hs0 := hsum (fun x hx => h1 x (by simp [hx]))
    have hs2 : (arrs.map (·.size)).sum + (a.size + (l.map (·.size)).sum) ≤ 65536 := by
      rw [List.map_append, List.sum_append, List.map_cons, List.sum_cons] at hs
      exact hs
    have hk : arrs.length < 8 := by simp at h8; omega
    have hz : ((a.size.toNat : Nat) : Int) = a.size := Int.toNat_of_nonneg (by omega)
    have hst : ∀ wide : Bool, wide = a.word → arrayL n wide ⟨arrs, (List.range arrs.length).map nm, [], [], []⟩ ((nm arrs.length, 0) :: (decS a.size.toNat, 0) :: (zW (wArrs nm (arrs.length + 1) l) ++ rest)) = .ok ⟨arrs ++ [a], (List.range (arrs.length + 1)).map nm, [], [], []⟩ (zW (wArrs nm (arrs.length + 1) l) ++ rest) := fun wide hw => by
      unfold arrayL
      dsimp only [nextW, List.tail_cons]
      rw [if_neg (by rw [fresh_zero (hn _ hk) rfl (notin_range hi _) rfl]; decide), if_neg (by simp; omega), valueL_dec _ (by omega), if_neg (by simp)]
      dsimp only
      rw [hz, if_neg (by
        rintro (h | h)
        · omega
        · unfold AS.cells at h; dsimp only at h; omega), hw, range_snoc]
    have e1 : readW n ⟨arrs, (List.range arrs.length).map nm, [], [], []⟩ (zW (wArrs nm arrs.length (a :: l)) ++ rest) = readW n ⟨arrs ++ [a], (List.range (arrs.length + 1)).map nm, [], [], []⟩ (zW (wArrs nm (arrs.length + 1) l) ++ rest) := by
      show readW n _ (((if a.word = true then [119, 111, 114, 100, 115] else [98, 121, 116, 101, 115]), 0) :: (nm arrs.length, 0) :: (decS a.size.toNat, 0) :: (zW (wArrs nm (arrs.length + 1) l) ++ rest)) = _
      refine readW_ok ?_
      unfold stepL
      cases hw : a.word with
      | true => rw [if_neg (by decide), if_pos (by decide)]; exact hst true hw.symm
      | false => rw [if_pos (by decide)]; exact hst false hw.symm
    have hlen : (arrs ++ [a]).length = arrs.length + 1 := by simp
    have := read_arrs (n := n) hn hi l (arrs ++ [a]) rest (by simp at h8 ⊢; omega) (fun x hx => h1 x (by simp [hx])) (by rw [List.append_assoc]; exact hs) (by rw [List.map_append, List.sum_append]; simp; omega)
    rw [hlen] at this
    rw [e1, this, List.append_assoc, List.length_cons, Nat.add_assoc, Nat.add_comm 1]
    rfl
theorem read_locs {n : Nat} {nm nl : Nat → List UInt8} (hn : ∀ k, k < 16 → nameL (nl k) = true) (hi : ∀ a b, nl a = nl b → a = b) (hd : ∀ a b, nm a ≠ nl b) (arrs : List Arr) (m : Nat) : ∀ (c k : Nat) (rest : List Wd), k + c ≤ 16 →
    readW n ⟨arrs, (List.range m).map nm, (List.range k).map nl, [], []⟩ (zW (wLocs nl k c) ++ rest) = readW n ⟨arrs, (List.range m).map nm, (List.range (k + c)).map nl, [], []⟩ rest
  | 0, k, rest, _ => rfl
  | c + 1, k, rest, h => by
    have e1 : readW n ⟨arrs, (List.range m).map nm, (List.range k).map nl, [], []⟩ (zW (wLocs nl k (c + 1)) ++ rest) = readW n ⟨arrs, (List.range m).map nm, (List.range (k + 1)).map nl, [], []⟩ (zW (wLocs nl (k + 1) c) ++ rest) := by
      show readW n _ (([108, 111, 99, 97, 108], 0) :: (nl k, 0) :: (zW (wLocs nl (k + 1) c) ++ rest)) = _
      refine readW_ok ?_
      unfold stepL
      rw [if_neg (by decide), if_neg (by decide), if_pos rfl]
      unfold localL
      dsimp only [nextW, List.tail_cons]
      rw [if_neg (by rw [fresh_zero (hn _ (by omega)) rfl (notin_other hd _ _) (notin_range hi _)]; decide), if_neg (by simp; omega), range_snoc]
    rw [e1, read_locs hn hi hd arrs m c (k + 1) rest (by omega), Nat.add_assoc, Nat.add_comm 1]
theorem findL_name : ∀ k : Fin 36, findL (opO k.val).name = some k.val ∧ declL4.contains (opO k.val).name = false := by decide +kernel
theorem read_code {n : Nat} {s : AS} {l : List Ins} {x : List (List UInt8)} (h : CodeW s l x) : ∀ (code : List Ins) (rest : List Wd), code.length + l.length ≤ 1024 →
    readW n { s with code := code } (zW x ++ rest) = readW n { s with code := code ++ l } rest := by
  induction h with
  | nil => intro code rest _; rw [List.append_nil]; rfl
  | @cons i x l y hi ht ih =>
    intro code rest hc
    obtain ⟨op, ho, h36, hcase⟩ := hi
    obtain ⟨hf, hnd⟩ := findL_name ⟨op, h36⟩
    dsimp only at hf hnd
    have hne : ∀ z ∈ declL4, (opO op).name ≠ z := fun z hz e => by
      rw [e] at hnd
      have : declL4.contains z = true := by simpa using hz
      rw [this] at hnd; cases hnd
    have hstep : ∀ r : List Wd, stepL n ((opO op).name, 0) { s with code := code } r = instrL n ((opO op).name, 0) { s with code := code } r := fun r => by
      unfold stepL
      rw [if_neg (hne _ (by simp [declL4])), if_neg (hne _ (by simp [declL4])), if_neg (hne _ (by simp [declL4])), if_neg (hne _ (by simp [declL4]))]
    have hlen : ¬ 1024 ≤ code.length := by simp at hc; omega
    have hcont : readW n { s with code := code ++ [i] } (zW y ++ rest) = readW n { s with code := code ++ i :: l } rest := by
      rw [ih (code ++ [i]) rest (by simp at hc ⊢; omega), List.append_assoc]
      rfl
    rcases hcase with ⟨h4, h35, ha, rfl⟩ | ⟨h4, v, a, rfl, hv, ha⟩
    · rw [zW_app, List.append_assoc]
      show readW n { s with code := code } (((opO op).name, 0) :: (zW y ++ rest)) = _
      rw [← hcont]
      refine readW_ok ((hstep _).trans ?_)
      unfold instrL
      rw [hf]
      dsimp only
      rw [if_neg hlen, if_neg (by omega), if_neg h35, if_neg (by omega), if_neg (by omega)]
      have : i = ⟨(op : Int), 0⟩ := by cases i; simp_all
      rw [this]
    · rw [zW_app, List.append_assoc]
      show readW n { s with code := code } (((opO op).name, 0) :: (v, 0) :: (zW y ++ rest)) = _
      rw [← hcont]
      have hi : i = ⟨(op : Int), (a : Int)⟩ := by cases i; simp_all
      refine readW_ok ((hstep _).trans ?_)
      have hv' : argL { s with code := code } op v = (a, 0) := hv
      rw [instrL_eq, hf, hi]
      dsimp only [nextW, List.tail_cons]
      rw [if_neg hlen, if_pos h4]
      have h1 : (argL { s with code := code } op v).1 = a := by rw [hv']
      have h2 : (argL { s with code := code } op v).2 = 0 := by rw [hv']
      simp [h1, h2]
/-- a text that declares and lists is read to what it says. -/
theorem read_built {T : List UInt8} {nm nl : Nat → List UInt8} (hna : ∀ k, k < 8 → nameL (nm k) = true) (hia : ∀ a b, nm a = nm b → a = b) (hnl : ∀ k, k < 16 → nameL (nl k) = true) (hil : ∀ a b, nl a = nl b → a = b) (hd : ∀ a b, nm a ≠ nl b)
    {arrs : List Arr} {L : Nat} {code : List Ins} {x : List (List UInt8)} (hT : T.length ≤ 8192) (h8 : arrs.length ≤ 8) (h1 : ∀ a ∈ arrs, 1 ≤ a.size) (hs : (arrs.map (·.size)).sum ≤ 65536) (hL : L ≤ 16) (hc : code.length ≤ 1024)
    (hx : CodeW ⟨arrs, (List.range arrs.length).map nm, (List.range L).map nl, [], []⟩ code x) (hw : wordsT T = wArrs nm 0 arrs ++ (wLocs nl 0 L ++ x)) :
    readL T = .ok ⟨arrs, (List.range arrs.length).map nm, (List.range L).map nl, code, []⟩ [] := by
  have e1 : readW T.length AS.start (zW (wArrs nm 0 arrs ++ (wLocs nl 0 L ++ x))) = .ok ⟨arrs, (List.range arrs.length).map nm, (List.range L).map nl, code, []⟩ [] := by
    rw [zW_app, zW_app]
    have a1 := read_arrs (n := T.length) hna hia arrs [] (zW (wLocs nl 0 L) ++ zW x) (by simpa using h8) h1 (by simpa using hs) (by decide)
    have a2 := read_locs (n := T.length) hnl hil hd arrs arrs.length L 0 (zW x) (by omega)
    have a3 := read_code (n := T.length) hx [] [] (by simpa using hc)
    rw [List.length_nil, Nat.zero_add, List.nil_append] at a1
    rw [Nat.zero_add] at a2
    rw [List.append_nil, List.nil_append, readW_nil] at a3
    exact (a1.trans a2).trans a3
  have e2 := readW_strip (n := T.length) (n2 := T.length) ((wordsL T).length + 1) AS.start (wordsL T) (zW (wArrs nm 0 arrs ++ (wLocs nl 0 L ++ x))) (by omega) (by rw [zW_texts]; exact hw)
  rw [← readL_eq hT, e1] at e2
  cases hr : readL T with
  | bad a e => rw [hr] at e2; cases e2
  | ok s r =>
    rw [hr, strip_ok, strip_ok] at e2
    injection e2 with _ e3
    injection e3 with e4
    injection e4 with e5 e6
    have : r = [] := by simpa using e6
    rw [e5, this]
end Go.Proofs.YtlbhggjkcfcobaaDoor
