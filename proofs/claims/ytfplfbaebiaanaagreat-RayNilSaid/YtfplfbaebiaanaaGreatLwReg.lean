/- A region that draws its order: operations that read or call quietly (new blocks may be laid), then allocations, then a forced tail: one walk serves every order. -/
import Derived.StillTail
import Derived.OrdersHeld
import Derived.Deep.QuietTactic
import Derived.Lib.QuietBelow
import Derived.Below
import Derived.WalkKit
namespace Go.Reg
open Go.RowKit Go.Sort

section
variable {P : Program} {ops : Array Oper} {w0 : World}

/-- the class: w0 with blocks laid behind it -/
def Cl (w0 w : World) : Prop := Below w0.heap.size w0 w

def calmUpon (P : Program) (W : World) (v : Value) : Result Next → Prop
  | .ok (.value u) w' => w' = W ∧ u = v
  | .ok .skip w' => w' = W ∧ v = undef
  | .ok (.enter f args) w' => w' = W ∧ Calls P f args W (fun e w'' => e = .returned v ∧ Below W.heap.size W w'')
  | _ => False

def calmAt (P : Program) (o : Oper) (a : Act) (W : World) (v : Value) : Prop := calmUpon P W v ((execOp a.eval o).run P W)

/-- one value in every world of the class -/
def calmIn (P : Program) (ops : Array Oper) (w0 : World) (o : Oper) (v : Value) (a : Act) : Prop :=
  (Region.wanted o (yielded ops a.tmps) = true ∧ ∀ w, Cl w0 w → calmAt P o a w v) ∨ (Region.wanted o (yielded ops a.tmps) = false ∧ v = undef)

def calm (P : Program) (w0 : World) (o : Oper) (a : Act) (K : Act → Prop) : Prop := ∃ v, (∀ d os, calmAt P o a (grow (redrawn w0 d) os) v) ∧ K (a.put o.dst v)

def wpCalm (P : Program) (ops : Array Oper) (w0 : World) (Q : Act → Prop) : List Oper → Act → Prop
  | [], a => Q a
  | o :: rest, a => if Region.wanted o (yielded ops a.tmps) then calm P w0 o a (wpCalm P ops w0 Q rest) else wpCalm P ops w0 Q rest (a.put o.dst undef)

theorem wpCalm_nil {Q : Act → Prop} {a : Act} (h : Q a) : wpCalm P ops w0 Q [] a := h
theorem wpCalm_step {Q : Act → Prop} {a : Act} {o : Oper} {rest : List Oper}
    (h : ∀ K : Act → Prop, (∀ a, wpCalm P ops w0 Q rest a → K a) → if Region.wanted o (yielded ops a.tmps) then calm P w0 o a K else K (a.put o.dst undef)) : wpCalm P ops w0 Q (o :: rest) a :=
  h _ (fun _ h => h)

theorem wpCalm_mono {Q Q' : Act → Prop} (hq : ∀ a, Q a → Q' a) : ∀ {l : List Oper} {a : Act}, wpCalm P ops w0 Q l a → wpCalm P ops w0 Q' l a
  | [], _, h => hq _ h
  | o :: l, a, h => by
    unfold wpCalm at h ⊢
    split
    · rename_i hw
      rw [if_pos hw] at h
      obtain ⟨v, h1, h2⟩ := h
      exact ⟨v, h1, wpCalm_mono hq h2⟩
    · rename_i hw
      rw [if_neg hw] at h
      exact wpCalm_mono hq h

theorem cl_grow {w : World} (h : Cl w0 w) : ∃ d os, w = grow (redrawn w0 d) os := by
  obtain ⟨p, hp⟩ := regrown_of_below h
  exact ⟨p.d, p.os, hp⟩

def putsL (a : Act) : List Oper → List Value → Act
  | o :: l, v :: vs => putsL (a.put o.dst v) l vs
  | _, _ => a

theorem calm_vals {K : Act → Prop} : ∀ (l : List Oper) (a : Act), wpCalm P ops w0 K l a →
    ∃ vs : List Value, vs.length = l.length ∧ K (putsL a l vs) ∧ ∀ i o, l[i]? = some o → ∃ v, vs[i]? = some v ∧ calmIn P ops w0 o v (putsL a (l.take i) (vs.take i))
  | [], a, h => ⟨[], rfl, h, fun i o ho => by simp at ho⟩
  | o :: l, a, h => by
    unfold wpCalm at h
    have key : ∃ v, calmIn P ops w0 o v a ∧ wpCalm P ops w0 K l (a.put o.dst v) := by
      by_cases hw : Region.wanted o (yielded ops a.tmps) = true
      · rw [if_pos hw] at h
        obtain ⟨v, h1, h2⟩ := h
        refine ⟨v, .inl ⟨hw, fun w hw' => ?_⟩, h2⟩
        obtain ⟨d, os, rfl⟩ := cl_grow hw'
        exact h1 d os
      · rw [if_neg hw] at h
        exact ⟨undef, .inr ⟨by simpa using hw, rfl⟩, h⟩
    obtain ⟨v, hv, hr⟩ := key
    obtain ⟨vs, hl, hK, hi⟩ := calm_vals l _ hr
    refine ⟨v :: vs, by simp [hl], hK, fun i o' ho => ?_⟩
    cases i with
    | zero => simp at ho; subst ho; exact ⟨v, rfl, hv⟩
    | succ i => simpa [putsL] using hi i o' (by simpa using ho)

theorem putsL_size : ∀ (l : List Oper) (vs : List Value) (a : Act), (putsL a l vs).tmps.size = a.tmps.size
  | [], _, _ => by simp [putsL]
  | _ :: _, [], _ => rfl
  | o :: l, v :: vs, a => by
    simp only [putsL, putsL_size l vs]
    cases h : o.dst <;> simp [Act.put]
theorem putsL_defers : ∀ (l : List Oper) (vs : List Value) (a : Act), (putsL a l vs).defers = a.defers
  | [], _, _ => by simp [putsL]
  | _ :: _, [], _ => rfl
  | o :: l, v :: vs, a => by
    simp only [putsL, putsL_defers l vs]
    cases h : o.dst <;> simp [Act.put]

theorem getD_put_ne (a : Act) (dst : Option Tmp) (v : Value) (s : Nat) (h : dst ≠ some s) : (a.put dst v).tmps.getD s undef = a.tmps.getD s undef := by
  cases dst with
  | none => rfl
  | some d =>
    have : d ≠ s := fun e => h (by rw [e])
    simp [Act.put, Array.getElem?_setIfInBounds_ne this]
theorem getD_put_eq (a : Act) (d : Nat) (v : Value) (h : d < a.tmps.size) : (a.put (some d) v).tmps.getD d undef = v := by
  simp [Act.put, h]

theorem putsL_other : ∀ (l : List Oper) (vs : List Value) (a : Act) (s : Nat), (∀ o ∈ l, o.dst ≠ some s) → (putsL a l vs).tmps.getD s undef = a.tmps.getD s undef
  | [], _, _, _, _ => by simp [putsL]
  | _ :: _, [], _, _, _ => rfl
  | o :: l, v :: vs, a, s, h => by
    simp only [putsL]
    rw [putsL_other l vs _ s (fun o ho => h o (by simp [ho])), getD_put_ne _ _ _ _ (h o (by simp))]

theorem putsL_at : ∀ (l : List Oper) (vs : List Value) (a : Act) (i s : Nat) (o : Oper) (v : Value), l[i]? = some o → vs[i]? = some v → o.dst = some s → s < a.tmps.size →
    (∀ j o', l[j]? = some o' → i < j → o'.dst ≠ some s) → (putsL a l vs).tmps.getD s undef = v
  | [], _, _, i, _, _, _, h, _, _, _, _ => by simp at h
  | _ :: _, [], _, i, _, _, _, _, h, _, _, _ => by simp at h
  | o :: l, v :: vs, a, i, s, o', v', h1, h2, h3, h4, h5 => by
    simp only [putsL]
    cases i with
    | zero =>
      simp at h1 h2; subst h1; subst h2
      rw [putsL_other l vs _ s ?_, h3, getD_put_eq _ _ _ h4]
      intro o' ho'
      obtain ⟨j, hj⟩ := List.getElem?_of_mem ho'
      exact h5 (j + 1) o' (by simpa using hj) (by omega)
    | succ i =>
      refine putsL_at l vs _ i s o' v' (by simpa using h1) (by simpa using h2) h3 ?_ (fun j o'' hj hij => h5 (j + 1) o'' (by simpa using hj) (by omega))
      cases o.dst <;> simp [Act.put, h4]
end

/-! ### the theorem -/
section
variable {P : Program} {ops : Array Oper} {w0 : World}

def dstOf (ops : Array Oper) (i : Nat) : Option Tmp := (ops[i]?).bind (·.dst)

/-- an operation that reads temporaries alone -/
def frameOp (o : Oper) : Bool := match o.op with
  | .move _ => true
  | .assign _ => true
  | .extract _ _ => true
  | _ => false
def leafB (ops : Array Oper) (i : Nat) : Bool := (List.range ops.size).all fun j => !Region.waitsFor .any ops j i
def candB (ops : Array Oper) (m i : Nat) : Bool := decide (i < m) && leafB ops i && (match ops[i]? with
  | some o => frameOp o && o.guard.isNone
  | none => false)
/-- a floater: nobody waits for it, and it is apart from the tail -/
def flB (ops : Array Oper) (m n i : Nat) : Bool := candB ops m i && (match ops[i]? with
  | some o => (List.range ops.size).all fun j => j == i || (decide (j < n) && !candB ops m j) || (match ops[j]? with
    | some oj => o.apart ops oj
    | none => true)
  | none => false)
def sinkF (ops : Array Oper) (m n : Nat) : Bool := (List.range n).all fun i => flB ops m n i || (List.range (n + 1)).any fun j => decide (i < j) && !flB ops m n j && Region.waitsFor .any ops j i

theorem candB_spec {ops : Array Oper} {m i : Nat} (h : candB ops m i = true) : i < m ∧ ∃ o, ops[i]? = some o ∧ frameOp o = true ∧ o.guard = none := by
  unfold candB at h
  simp only [Bool.and_eq_true, decide_eq_true_eq] at h
  refine ⟨h.1.1, ?_⟩
  have h2 := h.2
  split at h2
  · rename_i o ho
    simp only [Bool.and_eq_true, Option.isNone_iff_eq_none] at h2
    exact ⟨o, ho, h2.1, h2.2⟩
  · cases h2
theorem flB_spec {ops : Array Oper} {m n i : Nat} (h : flB ops m n i = true) : candB ops m i = true ∧ ∀ o, ops[i]? = some o → ∀ j oj, ops[j]? = some oj → j ≠ i → (n ≤ j ∨ candB ops m j = true) → o.apart ops oj = true := by
  unfold flB at h
  simp only [Bool.and_eq_true] at h
  refine ⟨h.1, fun o ho j oj hoj hji hj => ?_⟩
  have h2 := h.2
  rw [ho] at h2
  have hjl : j < ops.size := (Array.getElem?_eq_some_iff.1 hoj).1
  have := List.all_eq_true.1 h2 j (List.mem_range.2 hjl)
  simp only [hoj, Bool.or_eq_true, beq_iff_eq, Bool.and_eq_true, decide_eq_true_eq, Bool.not_eq_true'] at this
  rcases this with (h3 | ⟨h3, h4⟩) | h3
  · exact absurd h3 hji
  · rcases hj with hj | hj
    · omega
    · rw [hj] at h4; cases h4
  · exact h3

theorem tail_waitsF {ops : Array Oper} {m n : Nat} {listed : Array Bool} (hs : sinkF ops m n = true) (hc : Region.chainB .any ops n = true) (hn : n < ops.size) (inv : HeadInv .any ops n listed) :
    ∀ (d i : Nat), n - i = d → i < n → flB ops m n i = false → listed.getD i true = false → ∀ t, n ≤ t → t ∉ Region.ready .any ops listed := by
  intro d
  induction d using Nat.strongRecOn with
  | _ d ih =>
    intro i hd hi hfl hun t ht hr
    obtain ⟨_, ot, hot, hall⟩ := mem_ready.1 hr
    have htlt : t < ops.size := (Array.getElem?_eq_some_iff.1 hot).1
    by_cases htn : t = n
    · subst htn
      have h1 := List.all_eq_true.1 hs i (List.mem_range.2 hi)
      simp only [hfl, Bool.false_or] at h1
      obtain ⟨j, hj, hj2⟩ := List.any_eq_true.1 h1
      simp only [Bool.and_eq_true, decide_eq_true_eq, Bool.not_eq_true'] at hj2
      obtain ⟨⟨hij, hjf⟩, hjw⟩ := hj2
      obtain ⟨oj, hoj, e, he, hb, hon⟩ := Region.waitsFor_spec hjw
      have hjle : j ≤ t := by have := List.mem_range.1 hj; omega
      by_cases hjt : j = t
      · subst hjt
        have : oj = ot := Option.some.inj (hoj.symm.trans hot)
        subst this
        have h2 := hall e he hb
        rw [hon, getD_both hun] at h2
        cases h2
      · cases hl : listed.getD j false with
        | true =>
          have h2 := inv.closed j oj hoj hl e he hb
          rw [hon, getD_both hun] at h2
          cases h2
        | false =>
          have hjs : j < listed.size := by rw [inv.size]; omega
          exact ih (t - j) (by omega) j rfl (by omega) hjf (getD_in hjs hl) t (Nat.le_refl _) hr
    · have h1 := List.all_eq_true.1 hc t (List.mem_range.2 htlt)
      simp only [Bool.or_eq_true, decide_eq_true_eq] at h1
      rcases h1 with h1 | h1
      · omega
      · obtain ⟨o', ho', e, he, hb, hon⟩ := Region.waitsFor_spec h1
        have : o' = ot := Option.some.inj (ho'.symm.trans hot)
        subst this
        have h2 := hall e he hb
        rw [hon, getD_both (inv.tail (t - 1) (by omega) (by omega))] at h2
        cases h2

theorem wpAnyH_of {md : Region.Mode} {Q : Exit → Act → World → Prop} : ∀ (fuel : Nat) (listed : Array Bool) (a : Act) (w : World), wpAny P md ops Q fuel listed a w → wpAnyH P md ops Q (fun _ => True) fuel listed a w
  | 0, _, _, _, h => h
  | fuel + 1, _, _, _, h => ⟨h.1, fun i hi => wpOp_mono (fun a' w' h' => ⟨trivial, wpAnyH_of fuel _ a' w' h'⟩) (h.2 i hi)⟩

theorem frame_run {o : Oper} {a : Act} {w0 : World} {v : Value} (hf : frameOp o = true) (h : calmAt P o a w0 v) (w : World) : (execOp a.eval o).run P w = .ok (.value v) w := by
  unfold frameOp at hf
  unfold calmAt execOp at h
  unfold execOp
  split at hf
  · rename_i x ho
    rw [ho] at h ⊢
    obtain ⟨_, rfl⟩ := h
    rfl
  · rename_i x ho
    rw [ho] at h ⊢
    obtain ⟨_, rfl⟩ := h
    rfl
  · rename_i x i ho
    rw [ho] at h ⊢
    simp only [Instr.extract] at h ⊢
    cases hx : a.eval x with
    | tuple vs =>
      rw [hx] at h
      simp only [Sem.run_bind] at h ⊢
      cases hv : vs[i]? with
      | some u =>
        rw [hv] at h
        obtain ⟨_, rfl⟩ := h
        rfl
      | none => rw [hv] at h; exact h.elim
    | _ => rw [hx] at h; exact h.elim
  · cases hf

def okB (ops : Array Oper) (m n : Nat) : Bool :=
  Region.noSelect ops && decide (m ≤ n) && decide (n ≤ ops.size) &&
  (decide (n = ops.size) || (sinkF ops m n && Region.chainB .any ops n)) &&
  Region.seqB .any ops (ops.size - n) n ((Array.range ops.size).map fun i => decide (i < n)) &&
  ((List.range ops.size).all fun i => match ops[i]? with
    | some o => o.after.all fun e => !Region.binds .any e || decide (e.on < i)
    | none => true) &&
  ((List.range n).all fun i => match ops[i]? with
    | some o => (match o.dst with
        | some d => (List.range n).all fun j => j == i || dstOf ops j != some d
        | none => true) &&
      (decide (m ≤ i) || (o.looksAt ops).all fun s => (List.range n).all fun k => dstOf ops k != some s || (decide (k < i) && Region.waitsFor .any ops i k))
    | none => true) &&
  ((List.range n).all fun i => decide (i < m) || (match ops[i]? with
    | some o => o.guard.isNone && o.dst.isSome
    | none => false))

structure Ok (ops : Array Oper) (m n : Nat) : Prop where
  sel : Region.noSelect ops = true
  mn : m ≤ n
  ns : n ≤ ops.size
  tail : n = ops.size ∨ (sinkF ops m n = true ∧ Region.chainB .any ops n = true)
  seq : Region.seqB .any ops (ops.size - n) n ((Array.range ops.size).map fun i => decide (i < n)) = true
  back : ∀ i o, ops[i]? = some o → ∀ e ∈ o.after, Region.binds .any e = true → e.on < i
  dist : ∀ i o d, i < n → ops[i]? = some o → o.dst = some d → ∀ j, j < n → j ≠ i → dstOf ops j ≠ some d
  look : ∀ i o, i < m → ops[i]? = some o → ∀ s ∈ o.looksAt ops, ∀ k, k < n → dstOf ops k = some s → k < i ∧ Region.waitsFor .any ops i k = true
  al : ∀ i, m ≤ i → i < n → ∃ o d, ops[i]? = some o ∧ o.guard = none ∧ o.dst = some d

theorem Ok.of {m n : Nat} (h : okB ops m n = true) : Ok ops m n := by
  simp only [okB, Bool.and_eq_true, decide_eq_true_eq, Bool.or_eq_true] at h
  obtain ⟨⟨⟨⟨⟨⟨⟨h1, h2⟩, h3⟩, h4⟩, h5⟩, h6⟩, h7⟩, h8⟩ := h
  refine ⟨h1, h2, h3, h4, h5, ?_, ?_, ?_, ?_⟩
  · intro i o ho e he hb
    have hi : i < ops.size := (Array.getElem?_eq_some_iff.1 ho).1
    have := List.all_eq_true.1 h6 i (List.mem_range.2 hi)
    rw [ho] at this
    have := Array.all_eq_true'.1 this e he
    simp only [hb, Bool.not_true, Bool.false_or, decide_eq_true_eq] at this
    exact this
  · intro i o d hi ho hd j hj hne
    have := List.all_eq_true.1 h7 i (List.mem_range.2 hi)
    rw [ho] at this
    simp only [hd, Bool.and_eq_true] at this
    have := List.all_eq_true.1 this.1 j (List.mem_range.2 hj)
    simp only [Bool.or_eq_true, beq_iff_eq, bne_iff_ne, ne_eq] at this
    exact this.resolve_left hne
  · intro i o hi ho s hs k hk hd
    have := List.all_eq_true.1 h7 i (List.mem_range.2 (by omega))
    rw [ho] at this
    simp only [Bool.and_eq_true, Bool.or_eq_true, decide_eq_true_eq] at this
    have := List.all_eq_true.1 (this.2.resolve_left (by omega)) s hs
    have := List.all_eq_true.1 this k (List.mem_range.2 hk)
    simp only [hd, Bool.or_eq_true, bne_self_eq_false, Bool.false_eq_true, false_or, Bool.and_eq_true, decide_eq_true_eq] at this
    exact this
  · intro i hi hin
    have := List.all_eq_true.1 h8 i (List.mem_range.2 hin)
    simp only [Bool.or_eq_true, decide_eq_true_eq] at this
    have := this.resolve_left (by omega)
    cases ho : ops[i]? with
    | none => rw [ho] at this; cases this
    | some o =>
      rw [ho] at this
      simp only [Bool.and_eq_true, Option.isNone_iff_eq_none, Option.isSome_iff_exists] at this
      obtain ⟨hg, d, hd⟩ := this
      exact ⟨o, d, rfl, hg, hd⟩

/-- an allocation: whatever the state, a block 'ob' is laid and its address handed back -/
def Allocs (P : Program) (o : Oper) (ob : Obj) : Prop := ∀ (a : Act) (w : World), (execOp a.eval o).run P w = .ok (.value (.pointer (some ⟨w.heap.size, 0, none⟩))) (w.alloc ob)

/-- the allocations, one by one -/
def AllAllocs (P : Program) : List Oper → List Obj → Prop
  | [], [] => True
  | o :: l, b :: bs => Allocs P o b ∧ AllAllocs P l bs
  | _, _ => False
theorem AllAllocs.len : ∀ {l : List Oper} {bs : List Obj}, AllAllocs P l bs → l.length = bs.length
  | [], [], _ => rfl
  | o :: l, b :: bs, h => by simp [AllAllocs.len h.2]
  | [], _ :: _, h => h.elim
  | _ :: _, [], h => h.elim
theorem AllAllocs.at : ∀ {l : List Oper} {bs : List Obj} (i : Nat) (o : Oper), AllAllocs P l bs → l[i]? = some o → ∃ b, bs[i]? = some b ∧ Allocs P o b
  | [], [], i, o, _, h => by simp at h
  | x :: l, b :: bs, 0, o, h, e => by simp at e; subst e; exact ⟨b, rfl, h.1⟩
  | x :: l, b :: bs, i + 1, o, h, e => by simpa using AllAllocs.at i o h.2 (by simpa using e)
  | [], _ :: _, _, _, h, _ => h.elim
  | _ :: _, [], _, _, h, _ => h.elim

theorem count_set (n : Nat) (f g : Nat → Bool) (i : Nat) (hfi : f i = true) (hgi : g i = false) (hne : ∀ j, j ≠ i → g j = f j) :
    (List.range n).countP f = (List.range n).countP g + if i < n then 1 else 0 := by
  induction n with
  | zero => simp
  | succ n ih =>
    rw [List.range_succ, List.countP_append, List.countP_append, ih]
    by_cases h : i < n
    · have : n ≠ i := by omega
      simp [h, hne n this, show i < n + 1 by omega]; omega
    · by_cases h2 : i = n
      · subst h2; simp [hfi, hgi]
      · simp [h, hne n (Ne.symm h2), show ¬ i < n + 1 by omega]

variable {m n : Nat} {a : Act} {vs : List Value} {obs : List Obj}

structure EInv (ops : Array Oper) (m n : Nat) (w0 : World) (a : Act) (vs : List Value) (obs : List Obj) (listed : Array Bool) (a' : Act) (w' : World) (β : Nat → Nat) : Prop where
  size : listed.size = ops.size
  closed : ∀ j oj, ops[j]? = some oj → listed.getD j false = true → ∀ e ∈ oj.after, Region.binds .any e = true → listed.getD e.on false = true
  tail : ∀ t, n ≤ t → t < ops.size → listed.getD t true = false
  cl : Cl w0 w'
  sz : a'.tmps.size = a.tmps.size
  df : a'.defers = a.defers
  q : ∀ i d, i < m → dstOf ops i = some d → listed.getD i false = true → a'.tmps.getD d undef = vs.getD i undef
  al : ∀ i d, m ≤ i → i < n → listed.getD i false = true → dstOf ops i = some d → a'.tmps.getD d undef = .pointer (some ⟨β i, 0, none⟩)
  bl : ∀ i, m ≤ i → i < n → listed.getD i false = true → w0.heap.size ≤ β i ∧ β i < w'.heap.size ∧ w'.heap[β i]? = obs[i - m]?
  inj : ∀ i j, m ≤ i → i < n → m ≤ j → j < n → listed.getD i false = true → listed.getD j false = true → β i = β j → i = j
  oth : ∀ s, (∀ i, i < n → listed.getD i false = true → dstOf ops i ≠ some s) → a'.tmps.getD s undef = a.tmps.getD s undef

theorem head_of {listed : Array Bool} {a' : Act} {w' : World} {β : Nat → Nat} (h : EInv ops m n w0 a vs obs listed a' w' β) : HeadInv .any ops n listed := ⟨h.size, h.closed, h.tail⟩

theorem eval_same {o : Oper} {a₁ a₂ : Act} (h : ∀ s ∈ o.looksAt ops, a₁.tmps.getD s undef = a₂.tmps.getD s undef) (hs : ∀ cs b, o.op ≠ .select cs b) :
    execOp a₁.eval o = execOp a₂.eval o ∧ Region.wanted o (yielded ops a₁.tmps) = Region.wanted o (yielded ops a₂.tmps) := by
  refine ⟨execOp_congr o hs fun x hx => ?_, ?_⟩
  · cases x with
    | tmp t =>
      refine h t ?_
      unfold Oper.looksAt
      refine List.mem_append_left _ (List.mem_filterMap.2 ⟨.tmp t, by simpa using hx, rfl⟩)
    | _ => rfl
  · unfold Region.wanted
    cases hg : o.guard with
    | none => rfl
    | some g =>
      obtain ⟨j, want⟩ := g
      simp only
      congr 1
      unfold yielded
      cases hj : (ops[j]?).bind (·.dst) with
      | none => simp
      | some d =>
        have := h d (by unfold Oper.looksAt; rw [hg]; simp [hj])
        simp only [Array.getD_eq_getD_getElem?] at this
        simp only [Option.bind_some]
        cases h1 : a₁.tmps[d]? <;> cases h2 : a₂.tmps[d]? <;> simp only [h1, h2, Option.getD_none, Option.getD_some] at this
        · rfl
        · subst this; rfl
        · subst this; rfl
        · subst this; rfl

theorem getD_set_self {listed : Array Bool} {i : Nat} (h : i < listed.size) (d : Bool) : (listed.setIfInBounds i true).getD i d = true := by
  simp [h]

theorem getD_lt {listed : Array Bool} {i : Nat} (h : i < listed.size) (d d' : Bool) : listed.getD i d = listed.getD i d' := by
  simp [h]

theorem dstOf_eq {i : Nat} {o : Oper} (h : ops[i]? = some o) : dstOf ops i = o.dst := by simp [dstOf, h]

theorem act_ext {a₁ a₂ : Act} (h1 : a₁.tmps.size = a₂.tmps.size) (h2 : a₁.defers = a₂.defers) (h3 : ∀ s, a₁.tmps.getD s undef = a₂.tmps.getD s undef) : a₁ = a₂ := by
  cases a₁; cases a₂
  simp only at h1 h2 h3
  subst h2
  congr 1
  refine Array.ext h1 fun i hi hi' => ?_
  have := h3 i
  simpa [hi, hi'] using this

/-- One more operation listed: the frame's part of the invariant. -/
theorem EInv.put {listed : Array Bool} {a' : Act} {w' w'' : World} {β β' : Nat → Nat} (ok : Ok ops m n) (h : EInv ops m n w0 a vs obs listed a' w' β)
    {i : Nat} {o : Oper} {v : Value} (hi : i < n) (ho : ops[i]? = some o) (hr : i ∈ Region.ready .any ops listed) (hdst : ∀ j o d, j < n → ops[j]? = some o → o.dst = some d → d < a.tmps.size)
    (hcl : Cl w0 w'') (hst : ∀ k, k < w'.heap.size → w''.heap[k]? = w'.heap[k]?) (hsz : w'.heap.size ≤ w''.heap.size) (hβ : ∀ j, listed.getD j false = true → β' j = β j)
    (hv : i < m → v = vs.getD i undef) (hal : m ≤ i → v = .pointer (some ⟨β' i, 0, none⟩) ∧ β' i = w'.heap.size ∧ w'.heap.size < w''.heap.size ∧ w''.heap[β' i]? = obs[i - m]?) :
    EInv ops m n w0 a vs obs (listed.setIfInBounds i true) (a'.put o.dst v) w'' β' := by
  have hil : i < listed.size := by rw [h.size]; have := ok.ns; omega
  have hun : listed.getD i false = false := getD_both (mem_ready.1 hr).1
  have hset : ∀ j, j ≠ i → (listed.setIfInBounds i true).getD j false = listed.getD j false := fun j hj => getD_set_ne false (Ne.symm hj)
  have hne : ∀ j, listed.getD j false = true → j ≠ i := fun j hj e => by rw [e, hun] at hj; cases hj
  have hor : ∀ j, (listed.setIfInBounds i true).getD j false = true → j = i ∨ listed.getD j false = true := fun j hj => by
    by_cases e : j = i
    · exact .inl e
    · rw [hset j e] at hj; exact .inr hj
  have hcell := (head_of h).set hr hi
  have slot : ∀ j d, j < n → j ≠ i → dstOf ops j = some d → (a'.put o.dst v).tmps.getD d undef = a'.tmps.getD d undef := fun j d hj hji hd =>
    getD_put_ne _ _ _ _ (fun e => ok.dist i o d hi ho e j hj hji hd)
  have own : ∀ d, dstOf ops i = some d → (a'.put o.dst v).tmps.getD d undef = v := fun d hd => by
    rw [dstOf_eq ho] at hd
    rw [hd, getD_put_eq _ _ _ (by rw [h.sz]; exact hdst i o d hi ho hd)]
  refine ⟨hcell.size, hcell.closed, hcell.tail, hcl, ?_, ?_, ?_, ?_, ?_, ?_, ?_⟩
  · rw [← h.sz]; cases o.dst <;> simp [Act.put]
  · rw [← h.df]; cases o.dst <;> simp [Act.put]
  · intro j d hj hd hl
    rcases hor j hl with e | hl
    · subst e; rw [own d hd]; exact hv hj
    · rw [slot j d (by have := ok.mn; omega) (hne j hl) hd]; exact h.q j d hj hd hl
  · intro j d hj hjn hl hd
    rcases hor j hl with e | hl
    · subst e; rw [own d hd]; exact (hal hj).1
    · rw [slot j d hjn (hne j hl) hd, h.al j d hj hjn hl hd, hβ j hl]
  · intro j hj hjn hl
    rcases hor j hl with e | hl
    · subst e
      obtain ⟨_, e1, e2, e3⟩ := hal hj
      exact ⟨by rw [e1]; exact h.cl.size, by omega, e3⟩
    · obtain ⟨b1, b2, b3⟩ := h.bl j hj hjn hl
      rw [hβ j hl]
      exact ⟨b1, by omega, by rw [hst _ b2]; exact b3⟩
  · intro j k hj hjn hk hkn hlj hlk e
    rcases hor j hlj with ej | hlj' <;> rcases hor k hlk with ek | hlk'
    · rw [ej, ek]
    · subst ej
      have e1 := (hal hj).2.1
      have e2 := (h.bl k hk hkn hlk').2.1
      rw [hβ k hlk'] at e; omega
    · subst ek
      have e1 := (hal hk).2.1
      have e2 := (h.bl j hj hjn hlj').2.1
      rw [hβ j hlj'] at e; omega
    · rw [hβ j hlj', hβ k hlk'] at e
      exact h.inj j k hj hjn hk hkn hlj' hlk' e
  · intro s hs
    rw [getD_put_ne]
    · refine h.oth s fun j hj hl => hs j hj ?_
      rw [hset j (hne j hl)]; exact hl
    · rw [← dstOf_eq ho]; exact hs i hi (getD_set_self hil _)

/-- the frame that the tail meets: the canonical frame, the addresses put in -/
theorem main {Q : Exit → Act → World → Prop} (hQ : ∀ c a w, ¬ Q (.panic c) a w) (ok : Ok ops m n) (hdst : ∀ j o d, j < n → ops[j]? = some o → o.dst = some d → d < a.tmps.size)
    (hvl : vs.length = m) (hcalm : ∀ i o, i < m → ops[i]? = some o → calmIn P ops w0 o (vs.getD i undef) (putsL a (ops.toList.take i) (vs.take i)))
    (hal : ∀ i o, m ≤ i → i < n → ops[i]? = some o → ∃ ob, obs[i - m]? = some ob ∧ Allocs P o ob)
    (hK : ∀ bs : List Nat, bs.length = n - m → bs.Nodup → (∀ b ∈ bs, w0.heap.size ≤ b) → ∀ w', Below w0.heap.size w0 w' → (∀ (i b : Nat), bs[i]? = some b → b < w'.heap.size ∧ w'.heap[b]? = obs[i]?) →
      wpList P ops Q (ops.toList.drop n) (putsL (putsL a (ops.toList.take m) vs) ((ops.toList.drop m).take (n - m)) (bs.map fun b => Value.pointer (some ⟨b, 0, none⟩))) w') :
    ∀ (c : Nat) (listed : Array Bool) (a' : Act) (w' : World) (β : Nat → Nat), EInv ops m n w0 a vs obs listed a' w' β → (List.range n).countP (fun i => !listed.getD i false) = c →
      wpAny P .any ops Q (c + (ops.size - n)) listed a' w' := by
  intro c
  induction c with
  | zero =>
    intro listed a' w' β h hc
    have hall : ∀ i, i < n → listed.getD i false = true := fun i hi => by
      have := List.countP_eq_zero.1 hc i (List.mem_range.2 hi)
      simpa using this
    have hlist : listed = (Array.range ops.size).map fun i => decide (i < n) := by
      refine Array.ext (by simp [h.size]) fun i hi hi' => ?_
      by_cases hin : i < n
      · have := hall i hin
        simp [hi] at this
        simp [this, hin]
      · have := h.tail i (by omega) (by rw [h.size] at hi; exact hi)
        simp [hi] at this
        simp [this, hin]
    have hwp := hK ((List.range (n - m)).map fun i => β (m + i)) (by simp)
      (by
        refine List.pairwise_map.2 (List.nodup_range.imp_of_mem ?_)
        intro x y hx hy hxy e
        refine hxy ?_
        have hx' := List.mem_range.1 hx
        have hy' := List.mem_range.1 hy
        have := h.inj (m + x) (m + y) (by omega) (by omega) (by omega) (by omega) (hall _ (by omega)) (hall _ (by omega)) e
        omega)
      (by
        intro b hb
        obtain ⟨i, hi, rfl⟩ := List.mem_map.1 hb
        have := List.mem_range.1 hi
        exact (h.bl (m + i) (by omega) (by omega) (hall _ (by omega))).1)
      w' h.cl
      (by
        intro i b hb
        obtain ⟨hi, he⟩ := List.getElem?_eq_some_iff.1 hb
        simp at hi he
        subst he
        have := h.bl (m + i) (by omega) (by omega) (hall _ (by omega))
        exact ⟨this.2.1, by rw [this.2.2]; congr 1; omega⟩)
    have hact : a' = putsL (putsL a (ops.toList.take m) vs) ((ops.toList.drop m).take (n - m)) (((List.range (n - m)).map fun i => β (m + i)).map fun b => Value.pointer (some ⟨b, 0, none⟩)) := by
      refine act_ext (by rw [putsL_size, putsL_size, h.sz]) (by rw [putsL_defers, putsL_defers, h.df]) fun s => ?_
      have hns := ok.ns
      have hmn := ok.mn
      by_cases hs : ∃ i, i < n ∧ dstOf ops i = some s
      · obtain ⟨i, hi, hd⟩ := hs
        have hio : i < ops.size := by omega
        have ho : ops[i]? = some ops[i] := by simp [hio]
        have hod : ops[i].dst = some s := by rw [← dstOf_eq ho]; exact hd
        have hsz := hdst i _ s hi ho hod
        have huniq : ∀ j, j < n → j ≠ i → dstOf ops j ≠ some s := fun j hj hji => ok.dist i _ s hi ho hod j hj hji
        by_cases him : i < m
        · rw [h.q i s him hd (hall i hi), putsL_other]
          · symm
            refine putsL_at _ _ _ i s ops[i] _ (by simp [him, hio]) ?_ hod hsz ?_
            · rw [List.getElem?_eq_getElem (by omega)]; simp [show i < vs.length by omega]
            · intro j o' hj hij e
              have hjl := (List.getElem?_eq_some_iff.1 hj).1
              simp at hjl
              rw [List.getElem?_take_of_lt (by omega)] at hj
              refine huniq j (by omega) (by omega) ?_
              rw [dstOf_eq (by simpa using hj)]; exact e
          · intro o' ho' e
            obtain ⟨j, hj⟩ := List.getElem?_of_mem ho'
            have hjl := (List.getElem?_eq_some_iff.1 hj).1
            simp at hjl
            rw [List.getElem?_take_of_lt (by omega), List.getElem?_drop] at hj
            refine huniq (m + j) (by omega) (by omega) ?_
            rw [dstOf_eq (by simpa using hj)]; exact e
        · rw [h.al i s (by omega) hi (hall i hi) hd]
          symm
          refine putsL_at _ _ _ (i - m) s ops[i] _ ?_ ?_ hod (by rw [putsL_size]; exact hsz) ?_
          · rw [List.getElem?_take_of_lt (by omega), List.getElem?_drop]; simp [show m + (i - m) = i by omega, hio]
          · simp [show i - m < n - m by omega, show m + (i - m) = i by omega]
          · intro j o' hj hij e
            have hjl := (List.getElem?_eq_some_iff.1 hj).1
            simp at hjl
            rw [List.getElem?_take_of_lt (by omega), List.getElem?_drop] at hj
            refine huniq (m + j) (by omega) (by omega) ?_
            rw [dstOf_eq (by simpa using hj)]; exact e
      · have hs' : ∀ i, i < n → dstOf ops i ≠ some s := fun i hi hd => hs ⟨i, hi, hd⟩
        rw [h.oth s (fun i hi _ => hs' i hi), putsL_other, putsL_other]
        · intro o' ho' e
          obtain ⟨j, hj⟩ := List.getElem?_of_mem ho'
          have hjl := (List.getElem?_eq_some_iff.1 hj).1
          simp at hjl
          rw [List.getElem?_take_of_lt (by omega)] at hj
          refine hs' j (by omega) ?_
          rw [dstOf_eq (by simpa using hj)]; exact e
        · intro o' ho' e
          obtain ⟨j, hj⟩ := List.getElem?_of_mem ho'
          have hjl := (List.getElem?_eq_some_iff.1 hj).1
          simp at hjl
          rw [List.getElem?_take_of_lt (by omega), List.getElem?_drop] at hj
          refine hs' (m + j) (by omega) ?_
          rw [dstOf_eq (by simpa using hj)]; exact e
    rw [hlist, hact]
    have hdl : (ops.toList.drop n).length = ops.size - n := by simp
    have := wpAny_of_seq (md := .any) (Q' := Q) (ops.toList.drop n) n _ _ w' (fun j => by simp [List.getElem?_drop]) (by rw [hdl]; exact ok.seq) hwp
    rw [hdl] at this
    simpa using this
  | succ c ih =>
    intro listed a' w' β h hc
    have hpos : 0 < (List.range n).countP (fun i => !listed.getD i false) := by omega
    obtain ⟨i0, hi0, hu0⟩ := List.countP_pos_iff.1 hpos
    have hi0n := List.mem_range.1 hi0
    have hex : ∃ i, i < n ∧ listed.getD i false = false := ⟨i0, hi0n, by simpa using hu0⟩
    have hns := ok.ns
    rw [show c + 1 + (ops.size - n) = (c + (ops.size - n)) + 1 by omega]
    have hleast : ∀ k, (∃ i, i < k ∧ i < n ∧ listed.getD i false = false) → ∃ i, i < n ∧ listed.getD i false = false ∧ ∀ j, j < i → listed.getD j false = true := by
      intro k
      induction k with
      | zero => rintro ⟨i, hi, _⟩; omega
      | succ k ihk =>
        rintro ⟨i, hi, hin, hl⟩
        by_cases hk : ∃ j, j < k ∧ j < n ∧ listed.getD j false = false
        · exact ihk hk
        · have : i = k := by
            rcases Nat.lt_or_ge i k with h1 | h1
            · exact absurd ⟨i, h1, hin, hl⟩ hk
            · omega
          subst this
          refine ⟨i, hin, hl, fun j hj => ?_⟩
          cases hb : listed.getD j false with
          | true => rfl
          | false => exact absurd ⟨j, hj, by omega, hb⟩ hk
    have hcntof : ∀ i, i < n → listed.getD i false = false → (List.range n).countP (fun j => !(listed.setIfInBounds i true).getD j false) = c := fun i hi hl => by
      have := count_set n (fun j => !listed.getD j false) (fun j => !(listed.setIfInBounds i true).getD j false) i (by simp [hl])
        (by simp [getD_set_self (show i < listed.size by rw [h.size]; omega)]) (fun j hj => by rw [getD_set_ne false (Ne.symm hj)])
      rw [if_pos hi] at this
      omega
    have hmn := ok.mn
    have hsameof : ∀ i o, i < m → ops[i]? = some o → (∀ e ∈ o.after, Region.binds .any e = true → listed.getD e.on false = true) →
        execOp a'.eval o = execOp (putsL a (ops.toList.take i) (vs.take i)).eval o ∧ Region.wanted o (yielded ops a'.tmps) = Region.wanted o (yielded ops (putsL a (ops.toList.take i) (vs.take i)).tmps) := fun i o him ho hall =>
      eval_same (fun s hs => by
          by_cases hw : ∃ k, k < n ∧ dstOf ops k = some s
          · obtain ⟨k, hk, hd⟩ := hw
            obtain ⟨hki, hwait⟩ := ok.look i o him ho s hs k hk hd
            have hlk : listed.getD k false = true := by
              obtain ⟨o', ho', e, he, hb, hon⟩ := Region.waitsFor_spec hwait
              have : o' = o := Option.some.inj (ho'.symm.trans ho)
              subst this
              rw [← hon]; exact hall e he hb
            rw [h.q k s (by omega) hd hlk]
            have hko : k < ops.size := by omega
            have hod : ops[k].dst = some s := by rw [← dstOf_eq (show ops[k]? = some ops[k] by simp [hko])]; exact hd
            symm
            refine putsL_at _ _ _ k s ops[k] _ (by simp [hki, hko]) ?_ hod (hdst k _ s hk (by simp [hko]) hod) ?_
            · rw [List.getElem?_take_of_lt hki, List.getElem?_eq_getElem (by omega)]; simp [show k < vs.length by omega]
            · intro j o' hj hij e
              have hjl := (List.getElem?_eq_some_iff.1 hj).1
              simp at hjl
              rw [List.getElem?_take_of_lt (by omega)] at hj
              refine ok.dist k _ s hk (by simp [hko]) hod j (by omega) (by omega) ?_
              rw [dstOf_eq (by simpa using hj)]; exact e
          · have hs' : ∀ k, k < n → dstOf ops k ≠ some s := fun k hk hd => hw ⟨k, hk, hd⟩
            rw [h.oth s (fun k hk _ => hs' k hk), putsL_other]
            intro o' ho' e
            obtain ⟨j, hj⟩ := List.getElem?_of_mem ho'
            have hjl := (List.getElem?_eq_some_iff.1 hj).1
            simp at hjl
            rw [List.getElem?_take_of_lt (by omega)] at hj
            refine hs' j (by omega) ?_
            rw [dstOf_eq (by simpa using hj)]; exact e) (fun cs b => Region.noSelect_spec ok.sel i o cs b ho)
    rcases Classical.em (n < ops.size ∧ ∀ i, i < n → listed.getD i false = false → flB ops m n i = true) with hx | hx
    · obtain ⟨i, hi, hl, hlt⟩ := hleast n ⟨i0, hi0n, hi0n, by simpa using hu0⟩
      have hio : i < ops.size := by omega
      have ho : ops[i]? = some ops[i] := by simp [hio]
      have hls : i < listed.size := by rw [h.size]; exact hio
      have hall : ∀ e ∈ ops[i].after, Region.binds .any e = true → listed.getD e.on false = true := fun e he hb => hlt _ (ok.back i _ ho e he hb)
      have hready : i ∈ Region.ready .any ops listed := mem_ready.2 ⟨getD_in hls hl, ops[i], ho, hall⟩
      obtain ⟨hcand, hap⟩ := flB_spec (hx.2 i hi hl)
      obtain ⟨him, o', ho', hfr, hg⟩ := candB_spec hcand
      have : o' = ops[i] := Option.some.inj (ho'.symm.trans ho)
      subst this
      have hsame := hsameof i _ him ho hall
      have hcm : calmAt P ops[i] (putsL a (ops.toList.take i) (vs.take i)) w0 (vs.getD i undef) := by
        rcases hcalm i _ him ho with ⟨_, h1⟩ | ⟨h1, _⟩
        · exact h1 w0 (Below.refl _ _)
        · simp [Region.wanted, hg] at h1
      have hy : YieldsIf P ops (fun _ => True) ops[i] (vs.getD i undef) a' := by
        refine .inl ⟨by simp [Region.wanted, hg], fun w _ => ?_⟩
        rw [hsame.1]
        exact frame_run hfr hcm w
      refine wpAny_of_held _ _ _ _ (wpAnyH_first ho (fun j o cs b hj => Region.noSelect_spec ok.sel j o cs b hj) (fun c a w hq => absurd hq (hQ c _ w)) _ _ _ _ ?_ hready hy trivial (wpAnyH_of _ _ _ _ ?_))
      · intro j oj hoj hji hun _
        refine hap _ ho j oj hoj hji ?_
        rcases Nat.lt_or_ge j n with h1 | h1
        · exact .inr (flB_spec (hx.2 j h1 (getD_both hun))).1
        · exact .inl h1
      · exact ih _ _ _ β (h.put ok hi ho hready hdst h.cl (fun _ _ => rfl) (Nat.le_refl _) (fun _ _ => rfl) (fun _ => rfl) (fun hm => absurd him (by omega))) (hcntof i hi hl)
    have hin : ∀ t ∈ Region.ready .any ops listed, t < n := fun t ht => by
      rcases Nat.lt_or_ge t n with h1 | h1
      · exact h1
      · have htl : t < ops.size := by
          obtain ⟨_, o, ho, _⟩ := mem_ready.1 ht
          exact (Array.getElem?_eq_some_iff.1 ho).1
        rcases ok.tail with e | ⟨hs, hc'⟩
        · omega
        · have hex2 : ∃ i, i < n ∧ listed.getD i false = false ∧ flB ops m n i = false := by
            apply Classical.byContradiction
            intro hno
            refine hx ⟨by omega, fun i hi hl => ?_⟩
            cases e : flB ops m n i with
            | true => rfl
            | false => exact absurd ⟨i, hi, hl, e⟩ hno
          obtain ⟨i1, h2, h3, h4⟩ := hex2
          exact absurd ht (tail_waitsF hs hc' (by omega) (head_of h) _ i1 rfl h2 h4 (getD_in (by rw [h.size]; omega) h3) t h1)
    refine ⟨fun h0 => ?_, fun i hi => ?_⟩
    · exfalso
      -- the least one that is not listed is ready
      have hleast : ∀ k, (∃ i, i < k ∧ i < n ∧ listed.getD i false = false) → ∃ i, i < n ∧ listed.getD i false = false ∧ ∀ j, j < i → listed.getD j false = true := by
        intro k
        induction k with
        | zero => rintro ⟨i, hi, _⟩; omega
        | succ k ihk =>
          rintro ⟨i, hi, hin, hl⟩
          by_cases hk : ∃ j, j < k ∧ j < n ∧ listed.getD j false = false
          · exact ihk hk
          · have : i = k := by
              rcases Nat.lt_or_ge i k with h1 | h1
              · exact absurd ⟨i, h1, hin, hl⟩ hk
              · omega
            subst this
            refine ⟨i, hin, hl, fun j hj => ?_⟩
            cases hb : listed.getD j false with
            | true => rfl
            | false => exact absurd ⟨j, hj, by omega, hb⟩ hk
      obtain ⟨i, hi, hl, hlt⟩ := hleast n ⟨i0, hi0n, hi0n, by simpa using hu0⟩
      have hio : i < ops.size := by omega
      have : i ∈ Region.ready .any ops listed := mem_ready.2 ⟨getD_in (by rw [h.size]; exact hio) hl, ops[i], by simp [hio], fun e he hb => hlt _ (ok.back i _ (by simp [hio]) e he hb)⟩
      rw [h0] at this; cases this
    · have hin' := hin i hi
      obtain ⟨hun, o, ho, hall⟩ := mem_ready.1 hi
      have hcnt : (List.range n).countP (fun j => !(listed.setIfInBounds i true).getD j false) = c := by
        have := count_set n (fun j => !listed.getD j false) (fun j => !(listed.setIfInBounds i true).getD j false) i (by simp [getD_both hun])
          (by simp [getD_set_self (show i < listed.size by rw [h.size]; omega)]) (fun j hj => by rw [getD_set_ne false (Ne.symm hj)])
        rw [if_pos hin'] at this
        omega
      unfold wpOp
      simp only [ho]
      by_cases him : i < m
      · have hc0 := hcalm i o him ho
        have hsel := fun cs b => Region.noSelect_spec ok.sel i o cs b ho
        have hsame := eval_same (ops := ops) (o := o) (a₁ := a') (a₂ := putsL a (ops.toList.take i) (vs.take i)) (fun s hs => by
          by_cases hw : ∃ k, k < n ∧ dstOf ops k = some s
          · obtain ⟨k, hk, hd⟩ := hw
            obtain ⟨hki, hwait⟩ := ok.look i o him ho s hs k hk hd
            have hlk : listed.getD k false = true := by
              obtain ⟨o', ho', e, he, hb, hon⟩ := Region.waitsFor_spec hwait
              have : o' = o := Option.some.inj (ho'.symm.trans ho)
              subst this
              rw [← hon]; exact hall e he hb
            rw [h.q k s (by omega) hd hlk]
            have hko : k < ops.size := by omega
            have hod : ops[k].dst = some s := by rw [← dstOf_eq (show ops[k]? = some ops[k] by simp [hko])]; exact hd
            symm
            refine putsL_at _ _ _ k s ops[k] _ (by simp [hki, hko]) ?_ hod (hdst k _ s hk (by simp [hko]) hod) ?_
            · rw [List.getElem?_take_of_lt hki, List.getElem?_eq_getElem (by omega)]; simp [show k < vs.length by omega]
            · intro j o' hj hij e
              have hjl := (List.getElem?_eq_some_iff.1 hj).1
              simp at hjl
              rw [List.getElem?_take_of_lt (by omega)] at hj
              refine ok.dist k _ s hk (by simp [hko]) hod j (by omega) (by omega) ?_
              rw [dstOf_eq (by simpa using hj)]; exact e
          · have hs' : ∀ k, k < n → dstOf ops k ≠ some s := fun k hk hd => hw ⟨k, hk, hd⟩
            rw [h.oth s (fun k hk _ => hs' k hk), putsL_other]
            intro o' ho' e
            obtain ⟨j, hj⟩ := List.getElem?_of_mem ho'
            have hjl := (List.getElem?_eq_some_iff.1 hj).1
            simp at hjl
            rw [List.getElem?_take_of_lt (by omega)] at hj
            refine hs' j (by omega) ?_
            rw [dstOf_eq (by simpa using hj)]; exact e) hsel
        have next : ∀ w'', Below w'.heap.size w' w'' → wpAny P .any ops Q (c + (ops.size - n)) (listed.setIfInBounds i true) (a'.put o.dst (vs.getD i undef)) w'' := fun w'' hb =>
          ih _ _ _ β (h.put ok hin' ho hi hdst (Below.trans h.cl (hb.mono h.cl.size)) hb.block hb.size (fun _ _ => rfl) (fun _ => rfl) (fun hm => absurd him (by omega))) hcnt
        rcases hc0 with ⟨hw, hv⟩ | ⟨hw, hv⟩
        · rw [if_pos (by rw [hsame.2]; exact hw)]
          left
          have h3 := hv w' h.cl
          unfold calmAt at h3
          rw [← hsame.1] at h3
          unfold Oper.wp
          generalize (execOp a'.eval o).run P w' = r at *
          cases r with
          | ok nx wx =>
            cases nx <;> simp only [calmUpon] at h3 <;> simp only [Oper.upon]
            case value u =>
              obtain ⟨e1, e2⟩ := h3
              rw [e1, e2]
              exact next _ (Below.refl _ _)
            case skip =>
              obtain ⟨e1, e2⟩ := h3
              rw [e1, ← e2]
              exact next _ (Below.refl _ _)
            case enter f args =>
              obtain ⟨e1, hcc⟩ := h3
              rw [e1]
              exact hcc.mono fun e w'' ⟨he, hw''⟩ => by subst he; exact next _ hw''
          | halt x wx => simp only [calmUpon] at h3
        · rw [if_neg (by rw [hsame.2, hw]; simp)]
          rw [← hv]
          exact next _ (Below.refl _ _)
      · obtain ⟨o2, d, ho2, hg, hd⟩ := ok.al i (by omega) hin'
        have : o2 = o := Option.some.inj (ho2.symm.trans ho)
        subst this
        obtain ⟨ob, hob, hrun⟩ := hal i o2 (by omega) hin' ho
        rw [if_pos (by simp [Region.wanted, hg])]
        left
        unfold Oper.wp
        rw [hrun a' w']
        simp only [Oper.upon]
        refine ih _ _ _ (fun j => if j = i then w'.heap.size else β j) (h.put ok hin' ho hi hdst (Below.alloc h.cl h.cl.size _) (fun k hk => Below.heap_alloc _ _ _ hk) (by simp) ?_ (fun hm => absurd hm (by omega)) ?_) hcnt
        · intro j hj
          have : j ≠ i := fun e => by rw [e, getD_both hun] at hj; cases hj
          simp [this]
        · intro _
          refine ⟨by simp, by simp, by simp, ?_⟩
          simp only [if_true]
          rw [hob]
          show (w'.heap.push ob)[w'.heap.size]? = some ob
          simp

/-- **A REGION THAT DRAWS ITS ORDER**: quiet operations (the first m), allocations (m to n), a forced tail. -/
theorem wp_region {id : Nat} {Q : Exit → Act → World → Prop} {a : Act} {w : World} {l : List Oper} (m n : Nat) (obs : List Obj) (hQ : ∀ c a w, ¬ Q (.panic c) a w) (hm : P.follows .mixedOrders = true) (hB : okB l.toArray m n = true)
    (hdst : (l.take n).all (fun o => match o.dst with | some d => decide (d < a.tmps.size) | none => true) = true)
    (hal : AllAllocs P ((l.drop m).take (n - m)) obs)
    (h : wpCalm P l.toArray w (fun a' => ∀ bs : List Nat, bs.length = n - m → bs.Nodup → (∀ b ∈ bs, w.heap.size ≤ b) → ∀ w', Below w.heap.size w w' → (∀ (i b : Nat), bs[i]? = some b → b < w'.heap.size ∧ w'.heap[b]? = obs[i]?) →
      wpList P l.toArray Q (l.drop n) (putsL a' ((l.drop m).take (n - m)) (bs.map fun b => Value.pointer (some ⟨b, 0, none⟩))) w') (l.take m) a) : (Code.region id l.toArray true).wp P Q a w := by
  have ok := Ok.of hB
  have hns : n ≤ l.length := by have := ok.ns; simpa using this
  have hmn := ok.mn
  obtain ⟨vs, hvl, hK, hi⟩ := calm_vals _ _ h
  have hvl' : vs.length = m := by rw [hvl]; simp; omega
  refine wp_region_any hm ?_
  have := main (P := P) (ops := l.toArray) (w0 := w) (m := m) (n := n) (a := a) (vs := vs) (obs := obs) (Q := Q) hQ ok
    (by
      intro j o d hj ho hd
      have ho' : l[j]? = some o := by simpa using ho
      have := List.all_eq_true.1 hdst o (List.mem_of_getElem? (show (l.take n)[j]? = some o by rw [List.getElem?_take_of_lt hj]; exact ho'))
      simpa [hd] using this)
    hvl'
    (by
      intro i o him ho
      have ho' : l[i]? = some o := by simpa using ho
      obtain ⟨v, h1, h2⟩ := hi i o (by rw [List.getElem?_take_of_lt him]; exact ho')
      have e : vs.getD i undef = v := by simp [h1]
      rw [e]
      simpa [List.take_take, Nat.min_eq_left (Nat.le_of_lt him)] using h2)
    (by
      intro i o hmi hin ho
      have ho' : l[i]? = some o := by simpa using ho
      have h1 : ((l.drop m).take (n - m))[i - m]? = some o := by
        rw [List.getElem?_take_of_lt (by omega), List.getElem?_drop, show m + (i - m) = i by omega]; exact ho'
      exact hal.at _ _ h1)
    (by simpa using hK)
    n (Array.replicate l.toArray.size false) a { w with drawn := w.drawn + 1 } (fun _ => 0)
    { size := by simp
      closed := fun j oj _ hl => by rw [getD_replicate_false] at hl; cases hl
      tail := fun t _ ht => getD_in (by simpa using ht) (getD_replicate_false _ _)
      cl := (Below.refl _ w).drew
      sz := rfl
      df := rfl
      q := fun i d _ _ hl => by rw [getD_replicate_false] at hl; cases hl
      al := fun i d _ _ hl _ => by rw [getD_replicate_false] at hl; cases hl
      bl := fun i _ _ hl => by rw [getD_replicate_false] at hl; cases hl
      inj := fun i j _ _ _ _ hl _ _ => by rw [getD_replicate_false] at hl; cases hl
      oth := fun s _ => rfl }
    (by
      rw [List.countP_eq_length.2]
      · simp
      · intro i _; simp only [getD_replicate_false, Bool.not_false])
  rw [show n + (l.toArray.size - n) = l.toArray.size by have : l.toArray.size = l.length := by simp
                                                        omega] at this
  exact this
end
end Go.Reg
namespace Go.Reg
open Go.RowKit Go.Sort
attribute [go_sem] calm calmAt calmUpon
theorem allocs_of {P : Program} {o : Oper} {E : TypeId} {ob : Obj} (ho : o.op = .alloc E)
    (h : ∀ w, (Instr.alloc E true (.tuple #[])).run P w = .ok (.pointer (some ⟨w.heap.size, 0, none⟩)) (w.alloc ob)) : Allocs P o ob := fun a w => by
  unfold execOp
  rw [ho]
  simp [h]
theorem cell?_regrown {w : World} {d : Nat} {os : Array Obj} (a : Addr) (h : a.block < w.heap.size) : (grow (redrawn w d) os).cell? a = w.cell? a :=
  cell?_grow (redrawn w d) os a h
theorem frozen?_regrown {w : World} {d : Nat} {os : Array Obj} (a : Addr) (h : a.block < w.heap.size) : (grow (redrawn w d) os).frozen? a = w.frozen? a :=
  frozen?_grow (redrawn w d) os a h
attribute [go_sem] cell?_regrown frozen?_regrown
end Go.Reg
