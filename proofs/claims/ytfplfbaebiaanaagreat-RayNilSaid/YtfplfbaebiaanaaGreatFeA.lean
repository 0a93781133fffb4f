/- A region that draws its order: the theorem. -/
import Derived.Test.YtfplfbaebiaanaaGreatFe9
noncomputable section
namespace Go.Fe
open Go.RowKit Go.Reg Go.Sort Go.Sy

section
variable {P : Program} {ops : Array Oper} {tb : Tab} {E : Env} {hd : Hid}

theorem pw_mem {α : Type} {R : α → α → Prop} (sym : ∀ x y, R x y → R y x) : ∀ {l : List α} {x y : α}, l.Pairwise R → x ∈ l → y ∈ l → x ≠ y → R x y
  | [], _, _, _, hx, _, _ => by cases hx
  | z :: l, x, y, hp, hx, hy, hxy => by
    obtain ⟨p1, p2⟩ := List.pairwise_cons.1 hp
    rcases List.mem_cons.1 hx with e | hx' <;> rcases List.mem_cons.1 hy with e' | hy'
    · exact absurd (e.trans e'.symm) hxy
    · rw [e]; exact p1 y hy'
    · rw [e']; exact sym _ _ (p1 x hx')
    · exact pw_mem sym p2 hx' hy' hxy
/-- what a pending operation looks at -/
def Lk (ops : Array Oper) (dn : List Nat) (tm0 : List AV) (s c : AS) (o : Oper) (i : Nat) : Prop :=
  ∀ d ∈ o.looksAt ops, (∃ k, k ∈ dn ∧ dstOf ops k = some d ∧ Rch ops i k ∧ Veq (getL und c.tm d) (getL und s.tm d)) ∨ ((∀ k, dstOf ops k = some d → Rch ops k i ∨ k = i) ∧ Veq (getL und c.tm d) (getL und tm0 d))
/-- a quiet operation that has been reckoned but has not come up -/
def PRec (P : Program) (ops : Array Oper) (dn : List Nat) (tm0 : List AV) (s : AS) (lim : Nat) (i : Nat) : Prop :=
  ∃ o c v, ops[i]? = some o ∧ Calm P ops o c v ∧ (∀ q ∈ c.hp, q ∈ s.hp) ∧ (∀ k ob, c.mem k = some ob → s.mem k = some ob) ∧ s.lo = c.lo ∧ c.nx ≤ lim ∧ (∀ d, o.dst = some d → Veq (getL und s.tm d) v) ∧ Lk ops dn tm0 s c o i ∧ ∃ c0 : AS, c = cst c0 o ∧ c0.tm = c.tm
/-- nothing hangs on the name k -/
def noN (k : Nat) (v : AV) : Prop := ∀ β β' : Nat → Nat × Nat, (∀ j, j ≠ k → β' j = β j) → v.val β' = v.val β
def noB (k : Nat) (b : Blk) : Prop := ∀ β β' : Nat → Nat × Nat, (∀ j, j ≠ k → β' j = β j) → b.vals β' = b.vals β
theorem noN_bd {k n : Nat} {v : AV} (h : v.bd n) (hn : n ≤ k) : noN k v := fun _ _ hb => AV.val_agree (n := n) (fun j hj => hb j (by omega)) h
theorem noB_bd {k n : Nat} {b : Blk} (h : b.bd n) (hn : n ≤ k) : noB k b := fun _ _ hb => Blk.vals_agree (n := n) (fun j hj => hb j (by omega)) h
/-- an allocation that has been reckoned but has not come up -/
def ARec (P : Program) (ops : Array Oper) (dn : List Nat) (tm0 : List AV) (s : AS) (lim : Nat) (i k : Nat) : Prop :=
  ∃ o c B r d, ops[i]? = some o ∧ o.guard = none ∧ o.dst = some d ∧ AlOk P o c B r ∧ c.nx ≤ lim ∧ getL und s.tm d = r.av k ∧ (k, B) ∈ s.hp ∧ Lk ops dn tm0 s c o i

structure DI (P : Program) (ops : Array Oper) (w0 : World) (M : List Nat) (tm0 : List AV) (nx0 : Nat) (β0 : Nat → Nat × Nat) (lo0 : Nat) (dn pend : List Nat) (gU : List (Nat × Nat)) (lim : Nat) (s : AS) (listed : Array Bool) (β : Nat → Nat × Nat) (a : Act) (w : World) : Prop where
  clo : Clo ops listed
  cov : ∀ i, i < ops.size → (listed.getD i false = true ↔ i ∈ dn ∧ i ∉ pend ∧ ∀ q ∈ gU, q.1 ≠ i)
  pd : ∀ i ∈ pend, i ∈ dn
  gd : ∀ q ∈ gU, q.1 ∈ dn ∧ q.1 ∉ pend
  len : s.tm.length = tm0.length
  sz : a.tmps.size = tm0.length
  df : a.defers = [] ∧ s.df = []
  fr : ∀ d, (∀ i ∈ pend, dstOf ops i ≠ some d) → (∀ q ∈ gU, dstOf ops q.1 ≠ some d) → a.tmps.getD d undef = (getL und s.tm d).val β
  fp : ∀ d, ((∃ i ∈ pend, dstOf ops i = some d) ∨ ∃ q ∈ gU, dstOf ops q.1 = some d) → a.tmps.getD d undef = (getL und tm0 d).val β
  f0 : ∀ d, (∀ k ∈ dn, dstOf ops k ≠ some d) → Veq (getL und s.tm d) (getL und tm0 d)
  wf : Wf s
  mem : Mm w0 M β { s with hp := s.hp.filter fun q => gU.all fun g => !(g.2 == q.1) } w
  prec : ∀ i ∈ pend, PRec P ops dn tm0 s lim i
  arec : ∀ q ∈ gU, ARec P ops dn tm0 s lim q.1 q.2
  t0 : ∀ d, (getL und tm0 d).bd nx0
  nl : nx0 ≤ lim
  ln : lim ≤ s.nx
  ag : Agree nx0 β0 β
  lo : s.lo = lo0
  gl : ∀ q ∈ gU, lim ≤ q.2 ∧ q.2 < s.nx
  gn : gU.Pairwise (fun p q => p.1 ≠ q.1 ∧ p.2 ≠ q.2)
  gi : ∀ q ∈ gU, (∀ d, dstOf ops q.1 ≠ some d → noN q.2 (getL und s.tm d)) ∧ ∀ b ∈ s.hp, b.1 ≠ q.2 → noB q.2 b.2

/-- the region's own facts -/
structure RgOk (ops : Array Oper) (len : Nat) : Prop where
  sel : Region.noSelect ops = true
  back : ∀ i o, ops[i]? = some o → ∀ e ∈ o.after, Region.binds .any e = true → e.on < i
  dlt : ∀ i d, dstOf ops i = some d → d < len
  dist : ∀ i j d, dstOf ops i = some d → dstOf ops j = some d → i = j

variable {w0 : World} {M : List Nat} {tm0 : List AV} {nx0 : Nat} {β0 : Nat → Nat × Nat} {lo0 : Nat} {dn pend : List Nat} {gU : List (Nat × Nat)} {lim : Nat} {s : AS} {listed : Array Bool} {β : Nat → Nat × Nat} {a : Act} {w : World}

/-- the frame as it would be if all that is reckoned had come up -/
def frOf (β : Nat → Nat × Nat) (c : AS) : Act := { tmps := (c.tm.map (AV.val β)).toArray, defers := dfs β c.df }
theorem frOf_getD (β : Nat → Nat × Nat) (c : AS) (d : Nat) : (frOf β c).tmps.getD d undef = (getL und c.tm d).val β := by
  simp only [frOf, getL_eq]
  by_cases hd : d < c.tm.length
  · simp [hd]
  · simp [hd, und_val]

theorem DI.unl (h : DI P ops w0 M tm0 nx0 β0 lo0 dn pend gU lim s listed β a w) {i : Nat} (hi : i < ops.size) (hu : listed.getD i false = false) : i ∉ dn ∨ i ∈ pend ∨ ∃ q ∈ gU, q.1 = i := by
  by_cases h1 : i ∈ dn
  · by_cases h2 : i ∈ pend
    · exact .inr (.inl h2)
    · by_cases h3 : ∃ q ∈ gU, q.1 = i
      · exact .inr (.inr h3)
      · have := (h.cov i hi).2 ⟨h1, h2, fun q hq e => h3 ⟨q, hq, e⟩⟩
        rw [hu] at this; cases this
  · exact .inl h1

/-- an operation that may come up meets, in what it looks at, what was reckoned -/
theorem DI.same (h : DI P ops w0 M tm0 nx0 β0 lo0 dn pend gU lim s listed β a w) (rg : RgOk ops tm0.length) {i : Nat} {o : Oper} {c : AS} (ho : ops[i]? = some o) (hr : i ∈ Region.ready .any ops listed) (hl : Lk ops dn tm0 s c o i) :
    execOp a.eval o = execOp (frOf β c).eval o ∧ Region.wanted o (yielded ops a.tmps) = Region.wanted o (yielded ops (frOf β c).tmps) := by
  refine eval_same (fun d hd => ?_) (fun cs b => Region.noSelect_spec rg.sel i o cs b ho)
  rw [frOf_getD]
  have hun : listed.getD i false = false := getD_both (mem_ready.1 hr).1
  rcases hl d hd with ⟨k, _, hk, hik, hv⟩ | ⟨hk, hv⟩
  · have hlk := h.clo.ready hr hik
    have hks : k < ops.size := by
      unfold dstOf at hk
      cases e : ops[k]? with
      | none => rw [e] at hk; cases hk
      | some x => exact (Array.getElem?_eq_some_iff.1 e).1
    obtain ⟨_, c2, c3⟩ := (h.cov k hks).1 hlk
    rw [h.fr d (fun j hj e => c2 (rg.dist k j d hk e ▸ hj)) (fun q hq e => c3 q hq (rg.dist k q.1 d hk e).symm), hv β]
  · rw [hv β]
    have hunl : ∀ k, dstOf ops k = some d → listed.getD k false = false := fun k hd => by
      rcases hk k hd with hki | rfl
      · cases e : listed.getD k false with
        | false => rfl
        | true => have := h.clo.rch hki e; rw [hun] at this; cases this
      · exact hun
    by_cases hp : (∃ k ∈ pend, dstOf ops k = some d) ∨ ∃ q ∈ gU, dstOf ops q.1 = some d
    · exact h.fp d hp
    · have h1 : ∀ k ∈ pend, dstOf ops k ≠ some d := fun k hk e => hp (.inl ⟨k, hk, e⟩)
      have h2 : ∀ q ∈ gU, dstOf ops q.1 ≠ some d := fun q hq e => hp (.inr ⟨q, hq, e⟩)
      rw [h.fr d h1 h2]
      refine h.f0 d (fun k hkd e => ?_) β
      have hks : k < ops.size := by
        unfold dstOf at e
        cases e' : ops[k]? with
        | none => rw [e'] at e; cases e
        | some x => exact (Array.getElem?_eq_some_iff.1 e').1
      rcases h.unl hks (hunl k e) with h3 | h3 | ⟨q, hq, rfl⟩
      · exact h3 hkd
      · exact h1 k h3 e
      · exact h2 q hq e

theorem wp_calm {o : Oper} {v : Value} {next : Act → World → Prop} {Q : Exit → Act → World → Prop} (h : calmAt P o a w v) (hk : ∀ w', Below w.heap.size w w' → next (a.put o.dst v) w') : o.wp P a w next Q := by
  unfold calmAt at h
  unfold Oper.wp
  generalize (execOp a.eval o).run P w = r at h
  cases r with
  | ok nx wx =>
    cases nx <;> simp only [calmUpon] at h <;> simp only [Oper.upon]
    case value u =>
      obtain ⟨e1, e2⟩ := h
      rw [e1, e2]
      exact hk _ (Below.refl _ _)
    case skip =>
      obtain ⟨e1, e2⟩ := h
      rw [e1, ← e2]
      exact hk _ (Below.refl _ _)
    case enter f args =>
      obtain ⟨e1, hcc⟩ := h
      rw [e1]
      exact hcc.mono fun e w'' ⟨he, hw''⟩ => by subst he; exact hk _ hw''
  | halt x wx => simp only [calmUpon] at h

theorem size_put (a : Act) (d : Option Tmp) (v : Value) : (a.put d v).tmps.size = a.tmps.size := by cases d <;> simp [Act.put]
theorem defers_put (a : Act) (d : Option Tmp) (v : Value) : (a.put d v).defers = a.defers := by cases d <;> rfl

/-- a pending quiet operation comes up: the invariant behind it -/
theorem DI.pick (h : DI P ops w0 M tm0 nx0 β0 lo0 dn pend gU lim s listed β a w) (rg : RgOk ops tm0.length) {i : Nat} {o : Oper} {v : AV} (ho : ops[i]? = some o) (hi : i ∈ pend) (hr : i ∈ Region.ready .any ops listed)
    (hv : ∀ d, o.dst = some d → Veq (getL und s.tm d) v) {w' : World} (hb : Below w.heap.size w w') :
    DI P ops w0 M tm0 nx0 β0 lo0 dn (pend.filter (· != i)) gU lim s (listed.setIfInBounds i true) β (a.put o.dst (v.val β)) w' := by
  have hil : i < ops.size := (Array.getElem?_eq_some_iff.1 ho).1
  have hd : dstOf ops i = o.dst := dstOf_eq ho
  have hmem : ∀ j, j ∈ pend.filter (· != i) ↔ j ∈ pend ∧ j ≠ i := fun j => by simp [List.mem_filter]
  refine ⟨h.clo.set hr, fun j hj => ?_, fun j hj => h.pd j ((hmem j).1 hj).1, fun q hq => ⟨(h.gd q hq).1, fun hp => (h.gd q hq).2 ((hmem _).1 hp).1⟩, h.len, by rw [size_put, h.sz], ⟨by rw [defers_put, h.df.1], h.df.2⟩, fun d h1 h2 => ?_, fun d hd' => ?_, h.f0, h.wf, h.mem.grow hb,
    fun j hj => h.prec j ((hmem j).1 hj).1, h.arec, h.t0, h.nl, h.ln, h.ag, h.lo, h.gl, h.gn, h.gi⟩
  · by_cases hji : j = i
    · subst hji
      refine ⟨fun _ => ⟨h.pd j hi, fun hp => ((hmem j).1 hp).2 rfl, fun q hq e => (h.gd q hq).2 (e ▸ hi)⟩, fun _ => getD_set_self (by rw [h.clo.size]; exact hj) _⟩
    · rw [getD_set_ne false (Ne.symm hji), h.cov j hj]
      constructor
      · rintro ⟨g1, g2, g3⟩
        exact ⟨g1, fun hp => g2 ((hmem j).1 hp).1, g3⟩
      · rintro ⟨g1, g2, g3⟩
        exact ⟨g1, fun hp => g2 ((hmem j).2 ⟨hp, hji⟩), g3⟩
  · by_cases hdd : o.dst = some d
    · rw [hdd, getD_put_eq _ _ _ (by rw [h.sz]; exact rg.dlt i d (hd.trans hdd)), hv d hdd β]
    · rw [getD_put_ne _ _ _ _ hdd]
      refine h.fr d (fun j hj => ?_) h2
      by_cases hji : j = i
      · subst hji; rw [hd]; exact hdd
      · exact h1 j ((hmem j).2 ⟨hj, hji⟩)
  · have hne : o.dst ≠ some d := by
      intro e
      rcases hd' with ⟨j, hj, ej⟩ | ⟨q, hq, eq⟩
      · exact ((hmem j).1 hj).2 (rg.dist j i d ej (hd.trans e))
      · exact (h.gd q hq).2 (rg.dist q.1 i d eq (hd.trans e) ▸ hi)
    rw [getD_put_ne _ _ _ _ hne]
    refine h.fp d ?_
    rcases hd' with ⟨j, hj, ej⟩ | hq
    · exact .inl ⟨j, ((hmem j).1 hj).1, ej⟩
    · exact .inr hq

theorem DI.step_pend (h : DI P ops w0 M tm0 nx0 β0 lo0 dn pend gU lim s listed β a w) (rg : RgOk ops tm0.length) {Q : Exit → Act → World → Prop} {i : Nat} (hi : i ∈ pend) (hr : i ∈ Region.ready .any ops listed) {next : Act → World → Prop}
    (hk : ∀ a' w', DI P ops w0 M tm0 nx0 β0 lo0 dn (pend.filter (· != i)) gU lim s (listed.setIfInBounds i true) β a' w' → next a' w') : wpOp P ops Q i next a w := by
  obtain ⟨o, c, v, ho, hc, hhp, hmm, hlo, hnx, hdst, hl, _⟩ := h.prec i hi
  obtain ⟨e1, e2⟩ := h.same rg ho hr hl
  have hIs : Is w0 M β c (frOf β c) w := by
    refine ⟨rfl, rfl, ?_, hc.wf⟩
    refine h.mem.sub (fun q hq => ?_) hmm (by rw [hlo]; exact Nat.le_refl _)
    refine List.mem_filter.2 ⟨hhp q hq, ?_⟩
    refine List.all_eq_true.2 fun g hg => ?_
    have h1 := (hc.wf.hp q hq).1
    have h2 := (h.gl g hg).1
    have : g.2 ≠ q.1 := by omega
    simpa using this
  unfold wpOp
  simp only [ho]
  rcases hc.run with hrun | ⟨rfl, hrun⟩
  · obtain ⟨r1, r2⟩ := hrun w0 M β (frOf β c) w hIs
    rw [e2, r1]
    simp only [if_true]
    refine .inl (wp_calm (v := v.val β) ?_ fun w' hb => hk _ _ (h.pick rg ho hi hr hdst hb))
    unfold calmAt at r2 ⊢
    rw [e1]; exact r2
  · have r1 := hrun w0 M β (frOf β c) w hIs
    rw [e2, r1]
    simp only [Bool.false_eq_true, if_false]
    have := h.pick rg ho hi hr hdst (Below.refl _ w)
    rw [und_val] at this
    exact hk _ _ this

/-- a pending allocation comes up -/
theorem DI.step_al (h : DI P ops w0 M tm0 nx0 β0 lo0 dn pend gU lim s listed β a w) (rg : RgOk ops tm0.length) {Q : Exit → Act → World → Prop} {q : Nat × Nat} (hq : q ∈ gU) (hr : q.1 ∈ Region.ready .any ops listed) {next : Act → World → Prop}
    (hk : ∀ β' a' w', DI P ops w0 M tm0 nx0 β0 lo0 dn pend (gU.filter (fun g => g.1 != q.1)) lim s (listed.setIfInBounds q.1 true) β' a' w' → next a' w') : wpOp P ops Q q.1 next a w := by
  obtain ⟨i, k⟩ := q
  obtain ⟨o, c, B, r, dd, ho, hg, hdd, ⟨hB, hal⟩, hcn, hav, hBm, hl⟩ := h.arec _ hq
  simp only at ho hav hBm hl hr ⊢
  obtain ⟨e1, e2⟩ := h.same rg ho hr hl
  have hil : i < ops.size := (Array.getElem?_eq_some_iff.1 ho).1
  have hd : dstOf ops i = some dd := (dstOf_eq ho).trans hdd
  obtain ⟨hlk, hkn⟩ := h.gl _ hq
  simp only at hlk hkn
  obtain ⟨gi1, gi2⟩ := h.gi _ hq
  simp only at gi1 gi2
  have hrun : (execOp a.eval o).run P w = .ok (.value (r.mk w.heap.size)) (w.alloc (.cells (B.vals β).toArray B.ty)) := by
    rw [e1]
    exact hal β _ w fun x => by
      cases x with
      | tmp t =>
        simp only [AS.ev, Act.eval]
        exact frOf_getD β c t
      | const v => exact (cv_val β v).symm
      | global g => simp [Act.eval, AS.ev, AV.val_e, EV.val_x, SV.val]
      | func f => simp [Act.eval, AS.ev, AV.val_e, EV.val_x, SV.val]
  unfold wpOp
  simp only [ho]
  have hw : Region.wanted o (yielded ops a.tmps) = true := by simp [Region.wanted, hg]
  rw [hw]
  simp only [if_true]
  refine .inl ?_
  unfold Oper.wp
  rw [hrun]
  simp only [Oper.upon]
  let β' : Nat → Nat × Nat := fun j => if j = k then (w.heap.size, (B.vals β).length) else β j
  have hβ : ∀ j, j ≠ k → β' j = β j := fun j hj => by simp [β', hj]
  have hβk : β' k = (w.heap.size, (B.vals β).length) := by simp [β']
  have hBv : B.vals β' = B.vals β := noB_bd hB (by omega) β β' hβ
  have hmem : ∀ j, j ∈ gU.filter (fun g => g.1 != i) ↔ j ∈ gU ∧ j.1 ≠ i := fun j => by simp [List.mem_filter]
  have hsame : ∀ g ∈ gU, g.1 = i → g = (i, k) := fun g hg' e => by
    by_cases he : g = (i, k)
    · exact he
    · exact absurd e (pw_mem (fun x y h => ⟨Ne.symm h.1, Ne.symm h.2⟩) h.gn hg' hq he).1
  have hkne : ∀ g ∈ gU, g.1 ≠ i → g.2 ≠ k := fun g hg' hn =>
    (pw_mem (fun x y h => ⟨Ne.symm h.1, Ne.symm h.2⟩) h.gn hg' hq (fun e => hn (by rw [e]))).2
  have hnoS : ∀ d, dstOf ops i ≠ some d → (getL und s.tm d).val β' = (getL und s.tm d).val β := fun d hd => gi1 d hd β β' hβ
  have hno0 : ∀ d, (getL und tm0 d).val β' = (getL und tm0 d).val β := fun d => noN_bd (h.t0 d) (by have := h.nl; omega) β β' hβ
  refine hk β' _ _ ⟨h.clo.set hr, fun j hj => ?_, h.pd, fun g hg' => h.gd g ((hmem g).1 hg').1, h.len, by rw [size_put, h.sz], ⟨by rw [defers_put, h.df.1], h.df.2⟩, fun d h1 h2 => ?_, fun d hd' => ?_, h.f0, h.wf, ?_, h.prec, fun g hg' => h.arec g ((hmem g).1 hg').1, h.t0, h.nl, h.ln,
    fun j hj => by rw [hβ j (by have := h.nl; omega)]; exact h.ag j hj, h.lo, fun g hg' => h.gl g ((hmem g).1 hg').1, h.gn.sublist List.filter_sublist, fun g hg' => h.gi g ((hmem g).1 hg').1⟩
  · by_cases hji : j = i
    · subst hji
      refine ⟨fun _ => ⟨(h.gd _ hq).1, (h.gd _ hq).2, fun g hg' e => ((hmem g).1 hg').2 e⟩, fun _ => getD_set_self (by rw [h.clo.size]; exact hj) _⟩
    · rw [getD_set_ne false (Ne.symm hji), h.cov j hj]
      constructor
      · rintro ⟨g1, g2, g3⟩
        exact ⟨g1, g2, fun g hg' => g3 g ((hmem g).1 hg').1⟩
      · rintro ⟨g1, g2, g3⟩
        refine ⟨g1, g2, fun g hg' e => ?_⟩
        by_cases hgi : g.1 = i
        · exact hji (e.symm.trans hgi)
        · exact g3 g ((hmem g).2 ⟨hg', hgi⟩) e
  · by_cases hdd' : d = dd
    · subst hdd'
      rw [hdd, getD_put_eq _ _ _ (by rw [h.sz]; exact rg.dlt i d hd), hav, AR.av_val, hβk]
    · have hne : o.dst ≠ some d := by rw [hdd]; intro e; exact hdd' (Option.some.inj e).symm
      have hne' : dstOf ops i ≠ some d := by rw [hd]; intro e; exact hdd' (Option.some.inj e).symm
      rw [getD_put_ne _ _ _ _ hne, hnoS d hne']
      refine h.fr d h1 fun g hg' => ?_
      by_cases hgi : g.1 = i
      · rw [hgi]; exact hne'
      · exact h2 g ((hmem g).2 ⟨hg', hgi⟩)
  · have hne : o.dst ≠ some d := by
      rw [hdd]
      intro e
      rcases hd' with ⟨j, hj, ej⟩ | ⟨g, hg', eg⟩
      · exact (h.gd _ hq).2 (rg.dist j i d ej (hd.trans e) ▸ hj)
      · exact ((hmem g).1 hg').2 (rg.dist g.1 i d eg (hd.trans e))
    rw [getD_put_ne _ _ _ _ hne, hno0]
    refine h.fp d ?_
    rcases hd' with hj | ⟨g, hg', eg⟩
    · exact .inl hj
    · exact .inr ⟨g, ((hmem g).1 hg').1, eg⟩
  · -- memory: one block more
    have hS := h.mem
    have hin : ∀ b, b ∈ (s.hp.filter fun b => (gU.filter fun g => g.1 != i).all fun g => !(g.2 == b.1)) ↔ b ∈ s.hp ∧ ∀ g ∈ gU, g.1 ≠ i → g.2 ≠ b.1 := fun b => by
      simp only [List.mem_filter, List.all_eq_true, Bool.not_eq_true', beq_eq_false_iff_ne]
      constructor
      · rintro ⟨x1, x2⟩
        exact ⟨x1, fun g hg' hn => x2 g (by simpa using ⟨hg', hn⟩)⟩
      · rintro ⟨x1, x2⟩
        exact ⟨x1, fun g hg' => by
          have h2 : g ∈ gU ∧ g.1 ≠ i := by simpa using hg'
          exact x2 g h2.1 h2.2⟩
    have hold : ∀ b, b ∈ s.hp → (∀ g ∈ gU, g.2 ≠ b.1) → b ∈ (s.hp.filter fun b => gU.all fun g => !(g.2 == b.1)) := fun b hb hg' => by
      simp only [List.mem_filter, List.all_eq_true, Bool.not_eq_true', beq_eq_false_iff_ne]
      exact ⟨hb, hg'⟩
    have huniq : ∀ b ∈ s.hp, b.1 = k → b = (k, B) := fun b hb e => by
      by_cases he : b = (k, B)
      · exact he
      · exact absurd e (pw_mem (fun x y h => Ne.symm h) h.wf.nd hb hBm he)
    have hcase : ∀ b, (b ∈ s.hp ∧ ∀ g ∈ gU, g.1 ≠ i → g.2 ≠ b.1) → b = (k, B) ∨ (b.1 ≠ k ∧ b ∈ (s.hp.filter fun b => gU.all fun g => !(g.2 == b.1))) := fun b ⟨hb, hg'⟩ => by
      by_cases e : b.1 = k
      · exact .inl (huniq b hb e)
      · refine .inr ⟨e, hold b hb fun g hgg => ?_⟩
        by_cases hgi : g.1 = i
        · rw [hsame g hgg hgi]; exact fun e' => e e'.symm
        · exact hg' g hgg hgi
    have hblk : ∀ b ∈ s.hp, b.1 ≠ k → b.2.vals β' = b.2.vals β := fun b hb hn => gi2 b hb hn β β' hβ
    have hS' := hS.grow (w' := w.alloc (.cells (B.vals β).toArray B.ty)) ((Below.refl _ _).alloc (Nat.le_refl _) _)
    refine ⟨hS'.os, hS'.tape, hS'.output, hS'.size, hS'.keep, fun p hp b hb hn => ?_, fun b hb hlo => ?_, fun b hb => ?_, fun j ob ho' => ?_⟩
    · rcases hcase p ((hin p).1 hp) with rfl | ⟨p1, p2⟩ <;> rcases hcase b ((hin b).1 hb) with rfl | ⟨b1, b2⟩
      · exact absurd rfl hn
      · have := (hS.has b b2).lt
        simp only
        rw [hβk, hβ b.1 b1]; simp only; omega
      · have := (hS.has p p2).lt
        simp only
        rw [hβk, hβ p.1 p1]; simp only; omega
      · rw [hβ p.1 p1, hβ b.1 b1]; exact hS.apart p p2 b b2 hn
    · rcases hcase b ((hin b).1 hb) with rfl | ⟨b1, b2⟩
      · simp only; rw [hβk]; exact .inl hS.size
      · rw [hβ b.1 b1]; exact hS.base b b2 hlo
    · rcases hcase b ((hin b).1 hb) with rfl | ⟨b1, b2⟩
      · simp only; rw [hβk, hBv]
        exact Kn.full (heap_alloc_new _ _)
      · have := hS'.has b b2
        rw [hβ b.1 b1, hblk b ((hin b).1 hb).1 b1]; exact this
    · obtain ⟨g1, g2⟩ := hS'.frz j ob ho'
      refine ⟨g1, fun b hb hlo => ?_⟩
      rcases hcase b ((hin b).1 hb) with rfl | ⟨b1, b2⟩
      · simp only; rw [hβk]
        have := (Array.getElem?_eq_some_iff.1 (hS.frz j ob ho').1).1
        simp only; omega
      · rw [hβ b.1 b1]; exact g2 b b2 hlo
end
end Go.Fe
