/- A region inside a round, in whatever order: by an invariant of what has come up, the frame and the world. No program in sight. -/
import Derived.Test.YtoodfmilleodaaaBl
namespace Go.Proofs.Ytoodfmilleodaaa
open Go.RowKit Go.Proofs
set_option linter.unusedVariables false

def upB (ops : List Oper) : Bool := (List.range ops.length).all fun j => match ops[j]? with | some o => o.after.all fun e => (!Region.binds .any e) || decide (e.on < j) | none => true
theorem upB_spec {ops : List Oper} (h : upB ops = true) {j : Nat} {o : Oper} (ho : ops[j]? = some o) (e : _) (he : e ∈ o.after) (hb : Region.binds .any e = true) : e.on < j := by
  have hj : j < ops.length := (List.getElem?_eq_some_iff.1 ho).1
  have := List.all_eq_true.1 h j (List.mem_range.2 hj)
  rw [ho] at this
  have := Array.all_eq_true_iff_forall_mem.1 this e he
  rw [hb] at this
  simpa using this
def unl (n : Nat) (listed : Array Bool) : Nat := ((List.range n).filter fun j => !listed.getD j false).length
theorem getD_set' (listed : Array Bool) (i j : Nat) (hi : i < listed.size) : (listed.setIfInBounds i true).getD j false = if i = j then true else listed.getD j false := by
  simp only [Array.getD_eq_getD_getElem?, Array.getElem?_setIfInBounds]
  by_cases h : i = j
  · subst h; simp [hi]
  · simp [h]
theorem unl_set {n : Nat} {listed : Array Bool} {i : Nat} (hi : i < n) (hs : listed.size = n) (h : listed.getD i false = false) : unl n (listed.setIfInBounds i true) < unl n listed := by
  unfold unl
  have hsub : (List.range n).filter (fun j => !(listed.setIfInBounds i true).getD j false) = ((List.range n).filter fun j => !listed.getD j false).filter (fun j => decide (j ≠ i)) := by
    rw [List.filter_filter]
    apply List.filter_congr
    intro j _
    rw [getD_set' _ _ _ (by omega)]
    by_cases e : i = j
    · simp [e]
    · simp [e, Ne.symm e]
  rw [hsub]
  refine Nat.lt_of_le_of_ne (List.length_filter_le _ _) (fun e => ?_)
  have := List.length_filter_eq_length_iff.1 e i (List.mem_filter.2 ⟨List.mem_range.2 hi, by rw [h]; rfl⟩)
  simp at this
section
variable {P : Program} {Q : Exit → Act → World → Prop} {m l0 : Nat} {l : List Oper}
theorem wpAny_inv (J : Array Bool → Act → World → Prop) (hup : upB l = true)
    (hstep : ∀ i o listed a w, l[i]? = some o → listed.getD i false = false → (∀ e ∈ o.after, Region.binds .any e = true → listed.getD e.on false = true) → listed.size = l.length → J listed a w → Region.wanted o (yielded l.toArray a.tmps) = true ∧ o.wp P a w (J (listed.setIfInBounds i true)) Q)
    (hend : ∀ listed a w, (∀ j, j < l.length → listed.getD j false = true) → J listed a w → Q .normal a w) :
    ∀ (fuel : Nat) (listed : Array Bool) (a : Act) (w : World), listed.size = l.length → unl l.length listed ≤ fuel → J listed a w → wpAny P .any l.toArray Q fuel listed a w := by
  have getDs : ∀ (listed : Array Bool) (j : Nat), j < listed.size → listed.getD j true = listed.getD j false := fun listed j hj => by simp [Array.getD_eq_getD_getElem?, hj]
  have ready_all : ∀ listed : Array Bool, listed.size = l.length → Region.ready .any l.toArray listed = [] → ∀ j, j < l.length → listed.getD j false = true := fun listed hs hr => by
    intro j
    induction j using Nat.strongRecOn with
    | _ j ih =>
      intro hj
      cases hc : listed.getD j false with
      | true => rfl
      | false =>
        exfalso
        have hm : j ∈ Region.ready .any l.toArray listed := by
          refine mem_ready.2 ⟨by rw [getDs _ _ (by omega)]; exact hc, l[j], by simp [hj], fun e he hb => ?_⟩
          have hlt := upB_spec hup (j := j) (o := l[j]) (by simp [hj]) e he hb
          exact ih _ hlt (by omega)
        rw [hr] at hm
        cases hm
  intro fuel
  induction fuel with
  | zero =>
    intro listed a w hs hu hJ
    have hall : ∀ j, j < l.length → listed.getD j false = true := fun j hj => by
      cases hc : listed.getD j false with
      | true => rfl
      | false =>
        exfalso
        have hm : j ∈ (List.range l.length).filter fun j => !listed.getD j false := List.mem_filter.2 ⟨List.mem_range.2 hj, by rw [hc]; rfl⟩
        have : 0 < unl l.length listed := List.length_pos_of_mem hm
        omega
    refine ⟨?_, hend _ _ _ hall hJ⟩
    cases hr : Region.ready .any l.toArray listed with
    | nil => rfl
    | cons i is =>
      exfalso
      have hm : i ∈ Region.ready .any l.toArray listed := by rw [hr]; simp
      obtain ⟨h1, o, h2, _⟩ := mem_ready.1 hm
      have hi : i < l.length := by simpa using (Array.getElem?_eq_some_iff.1 h2).1
      rw [getDs _ _ (by omega), hall i hi] at h1
      cases h1
  | succ fuel ih =>
    intro listed a w hs hu hJ
    refine ⟨fun hr => hend _ _ _ (ready_all listed hs hr) hJ, fun i hi => ?_⟩
    obtain ⟨h1, o, h2, h3⟩ := mem_ready.1 hi
    have hil : i < l.length := by simpa using (Array.getElem?_eq_some_iff.1 h2).1
    rw [getDs _ _ (by omega)] at h1
    unfold wpOp
    simp only [h2]
    obtain ⟨hw, hop⟩ := hstep i o listed a w (by simpa using h2) h1 h3 hs hJ
    rw [if_pos hw]
    refine .inl (Oper.wp_mono (fun a' w' hJ' => ih _ a' w' (by simpa using hs) ?_ hJ') hop)
    have := unl_set hil hs h1
    omega
theorem wpIn_region_inv {id : Nat} {a : Act} {w : World} (J : Array Bool → Act → World → Prop) (hm : P.follows .mixedOrders = true) (hnd : noDefer l = true) (hup : upB l = true)
    (h0 : J (Array.replicate l.length false) a w.drew)
    (hstep : ∀ i o listed a w, l[i]? = some o → listed.getD i false = false → (∀ e ∈ o.after, Region.binds .any e = true → listed.getD e.on false = true) → listed.size = l.length → J listed a w → Region.wanted o (yielded l.toArray a.tmps) = true ∧ o.wp P a w (J (listed.setIfInBounds i true)) (OnlyNormal Q))
    (hend : ∀ listed a w, (∀ j, j < l.length → listed.getD j false = true) → J listed a w → Q .normal a w) : (Code.region id l.toArray true).wpIn (Fence.wide.inRound l0) m P Q a w := by
  refine wpIn_mono (Q := OnlyNormal Q) ?_ (fun e a w h => by obtain ⟨rfl, h⟩ := h; exact h)
  refine wpIn_region_any hm ?_
  refine anyIn_of_any OnlyNormal.out (noDefer_spec hnd) _ _ _ _ ?_
  have := wpAny_inv (P := P) (Q := OnlyNormal Q) J hup hstep (fun listed a w h1 h2 => ⟨rfl, hend listed a w h1 h2⟩) l.length (Array.replicate l.length false) a w.drew (by simp) (by unfold unl; exact Nat.le_trans (List.length_filter_le _ _) (by simp)) h0
  simpa using this
end

/-- the invariant of a region whose operation j < m puts v j into slot s0 + j: the base slots, the slots of what has come up, and the world by its class. -/
structure SlotInv (N s0 m : Nat) (base : List (Nat × Value)) (v : Nat → Value) (C : Array Bool → World → Prop) (listed : Array Bool) (a : Act) (w : World) : Prop where
  size : a.tmps.size = N
  base : ∀ x ∈ base, a.eval (.tmp x.1) = x.2
  got : ∀ j, j < m → listed.getD j false = true → a.eval (.tmp (s0 + j)) = v j
  world : C listed w
theorem eval_put {a : Act} {d s : Nat} {v : Value} : (a.put (some d) v).eval (.tmp s) = if d = s ∧ s < a.tmps.size then v else a.eval (.tmp s) := by
  simp only [Act.put, Act.eval, Array.getD_eq_getD_getElem?, Array.getElem?_setIfInBounds]
  by_cases h : d = s
  · subst h
    by_cases h2 : d < a.tmps.size
    · simp [h2]
    · simp [h2]
  · simp [h]
theorem SlotInv.put {N s0 m : Nat} {base : List (Nat × Value)} {v : Nat → Value} {C : Array Bool → World → Prop} {listed : Array Bool} {a : Act} {w w' : World} (h : SlotInv N s0 m base v C listed a w) {i : Nat} (hi : i < m) (hN : s0 + m ≤ N) (hb : ∀ x ∈ base, x.1 < s0 ∨ s0 + m ≤ x.1) (hs : i < listed.size)
    (hC : C (listed.setIfInBounds i true) w') : SlotInv N s0 m base v C (listed.setIfInBounds i true) (a.put (some (s0 + i)) (v i)) w' := by
  refine ⟨by simp [Act.put, h.size], fun x hx => ?_, fun j hj hl => ?_, hC⟩
  · rw [eval_put, if_neg (by have := hb x hx; omega)]
    exact h.base x hx
  · rw [eval_put]
    by_cases e : i = j
    · subst e
      rw [if_pos ⟨rfl, by rw [h.size]; omega⟩]
    · rw [if_neg (by omega)]
      rw [getD_set' _ _ _ hs, if_neg e] at hl
      exact h.got j hj hl
theorem SlotInv.none {N s0 m : Nat} {base : List (Nat × Value)} {v : Nat → Value} {C : Array Bool → World → Prop} {listed : Array Bool} {a : Act} {w w' : World} (h : SlotInv N s0 m base v C listed a w) {i : Nat} (hi : m ≤ i) (hs : i < listed.size)
    (hC : C (listed.setIfInBounds i true) w') : SlotInv N s0 m base v C (listed.setIfInBounds i true) (a.put none undef) w' :=
  ⟨h.size, h.base, fun j hj hl => by rw [getD_set' _ _ _ hs, if_neg (by omega)] at hl; exact h.got j hj hl, hC⟩
theorem wp_value {P : Program} {o : Oper} {a : Act} {w : World} {K : Act → World → Prop} {Q : Exit → Act → World → Prop} {v : Value} (h : (execOp a.eval o).run P w = .ok (.value v) w) (hK : K (a.put o.dst v) w) : o.wp P a w K Q := by
  unfold Oper.wp; rw [h]; exact hK
theorem wp_store {P : Program} {o : Oper} {a : Act} {w w' : World} {K : Act → World → Prop} {Q : Exit → Act → World → Prop} (h : (execOp a.eval o).run P w = .ok .skip w') (hK : K (a.put o.dst undef) w') : o.wp P a w K Q := by
  unfold Oper.wp; rw [h]; exact hK
theorem wp_enter {P : Program} {o : Oper} {a : Act} {w : World} {K : Act → World → Prop} {Q : Exit → Act → World → Prop} {f : FuncId} {args : Array Value} {v : Value} {R : World → Prop} (h : (execOp a.eval o).run P w = .ok (.enter f args) w) (hc : Calls P f args w fun e w' => e = .returned v ∧ R w') (hK : ∀ w', R w' → K (a.put o.dst v) w') : o.wp P a w K Q := by
  unfold Oper.wp; rw [h]
  show Calls P f args w _
  refine hc.mono ?_
  rintro e w' ⟨rfl, hr⟩
  exact hK w' hr
end Go.Proofs.Ytoodfmilleodaaa
