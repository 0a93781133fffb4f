/- What a call knows of memory while it runs: the world in which it began, and the blocks of its own, each whole. One law an operation. -/
import Derived.Test.YtfplfbaebiaanaaGreatLwReg
namespace Go.Sy
open Go.RowKit Go.Reg Go.Sort

/-- Below the call's own blocks all is as it was but for the blocks M; the listed blocks are known whole. -/
structure St (w0 : World) (M : List Nat) (L : List (Nat × Obj)) (w : World) : Prop where
  os : w.os = w0.os
  tape : w.tape = w0.tape
  output : w.output = w0.output
  size : w0.heap.size ≤ w.heap.size
  keep : ∀ k, k < w0.heap.size → k ∉ M → w.heap[k]? = w0.heap[k]?
  nodup : L.Pairwise (fun p q => p.1 ≠ q.1)
  base : ∀ p ∈ L, w0.heap.size ≤ p.1 ∨ p.1 ∈ M
  has : ∀ p ∈ L, w.heap[p.1]? = some p.2

variable {w0 w w' : World} {M : List Nat} {L : List (Nat × Obj)}

theorem St.start (w : World) : St w [] [] w := ⟨rfl, rfl, rfl, Nat.le_refl _, fun _ _ _ => rfl, .nil, by simp, by simp⟩

theorem St.lt (h : St w0 M L w) {b : Nat} {o : Obj} (hm : (b, o) ∈ L) : b < w.heap.size := by
  have := h.has _ hm
  exact (Array.getElem?_eq_some_iff.1 this).1

theorem St.below (h : St w0 [] L w) : Below w0.heap.size w0 w := ⟨h.os, h.tape, h.output, h.size, fun k hk => h.keep k hk (by simp)⟩

theorem St.grow (h : St w0 M L w) (hb : Below w.heap.size w w') : St w0 M L w' :=
  ⟨hb.os.trans h.os, hb.tape.trans h.tape, hb.output.trans h.output, Nat.le_trans h.size hb.size,
   fun k hk hm => (hb.block k (Nat.lt_of_lt_of_le hk h.size)).trans (h.keep k hk hm), h.nodup, h.base,
   fun p hp => (hb.block p.1 (h.lt hp)).trans (h.has p hp)⟩

theorem St.alloc (h : St w0 M L w) (o : Obj) : St w0 M ((w.heap.size, o) :: L) (w.alloc o) := by
  have g := h.grow (w' := w.alloc o) ((Below.refl _ _).alloc (Nat.le_refl _) _)
  refine ⟨g.os, g.tape, g.output, g.size, g.keep, List.pairwise_cons.2 ⟨fun p hp e => ?_, g.nodup⟩, fun p hp => ?_, fun p hp => ?_⟩
  · have := h.lt hp; simp only at e; omega
  · rcases List.mem_cons.1 hp with rfl | hp
    · exact .inl h.size
    · exact g.base p hp
  · rcases List.mem_cons.1 hp with rfl | hp
    · exact heap_alloc_new w o
    · exact g.has p hp

/-- a new block in a world that has grown -/
theorem St.add (h : St w0 M L w) {b : Nat} {o : Obj} (hb : w0.heap.size ≤ b) (hn : ∀ p ∈ L, p.1 ≠ b) (ho : w.heap[b]? = some o) : St w0 M ((b, o) :: L) w :=
  ⟨h.os, h.tape, h.output, h.size, h.keep, List.pairwise_cons.2 ⟨fun p hp e => hn p hp e.symm, h.nodup⟩,
   fun p hp => by rcases List.mem_cons.1 hp with rfl | hp; exact .inl hb; exact h.base p hp,
   fun p hp => by rcases List.mem_cons.1 hp with rfl | hp; exact ho; exact h.has p hp⟩

theorem St.sub (h : St w0 M L w) {L' : List (Nat × Obj)} (hs : L'.Sublist L) : St w0 M L' w :=
  ⟨h.os, h.tape, h.output, h.size, h.keep, h.nodup.sublist hs, fun p hp => h.base p (hs.subset hp), fun p hp => h.has p (hs.subset hp)⟩

/-- block b holds o' now -/
def upd (b : Nat) (o' : Obj) : List (Nat × Obj) → List (Nat × Obj)
  | [] => []
  | (c, o) :: L => (c, if c = b then o' else o) :: upd b o' L

theorem upd_keys (b : Nat) (o' : Obj) : ∀ L : List (Nat × Obj), (upd b o' L).map (·.1) = L.map (·.1)
  | [] => rfl
  | (c, o) :: L => by simp [upd, upd_keys b o' L]
theorem mem_upd {b : Nat} {o' : Obj} {p : Nat × Obj} : ∀ {L : List (Nat × Obj)}, p ∈ upd b o' L → (p.1 = b ∧ p.2 = o') ∨ (p.1 ≠ b ∧ p ∈ L)
  | [], h => by simp [upd] at h
  | (c, o) :: L, h => by
    simp only [upd, List.mem_cons] at h
    rcases h with rfl | h
    · by_cases e : c = b
      · left; simp [e]
      · right; simp [e]
    · rcases mem_upd h with h | h
      · exact .inl h
      · exact .inr ⟨h.1, List.mem_cons_of_mem _ h.2⟩

theorem St.set (h : St w0 M L w) {b : Nat} {o o' : Obj} (hm : (b, o) ∈ L) (he : w'.heap = w.heap.setIfInBounds b o') (h1 : w'.os = w.os) (h2 : w'.tape = w.tape) (h3 : w'.output = w.output) :
    St w0 M (upd b o' L) w' := by
  have hk := upd_keys b o' L
  refine ⟨h1.trans h.os, h2.trans h.tape, h3.trans h.output, by rw [he]; simpa using h.size, fun k hk hM => ?_, ?_, fun p hp => ?_, fun p hp => ?_⟩
  · rw [he, Array.getElem?_setIfInBounds_ne]
    · exact h.keep k hk hM
    · rcases h.base _ hm with hb | hb
      · simp only at hb; omega
      · intro e; rw [← e] at hM; exact hM hb
  · have h4 : (L.map (·.1)).Pairwise (· ≠ ·) := List.pairwise_map.2 h.nodup
    rw [← hk] at h4
    exact List.pairwise_map.1 h4
  · have : p.1 ∈ L.map (·.1) := by rw [← hk]; exact List.mem_map_of_mem hp
    obtain ⟨q, hq, e⟩ := List.mem_map.1 this
    rw [← e]; exact h.base q hq
  · rcases mem_upd hp with ⟨e1, e2⟩ | ⟨e1, e2⟩
    · rw [e1, e2, he]
      have := h.lt hm
      simp [this]
    · rw [he, Array.getElem?_setIfInBounds_ne (Ne.symm e1)]
      exact h.has p e2

/-- one block of the list holds something else now -/
inductive SetAt (b : Nat) (o o' : Obj) : List (Nat × Obj) → List (Nat × Obj) → Prop
  | here {L : List (Nat × Obj)} : SetAt b o o' ((b, o) :: L) ((b, o') :: L)
  | there {p : Nat × Obj} {L L' : List (Nat × Obj)} : SetAt b o o' L L' → SetAt b o o' (p :: L) (p :: L')
theorem SetAt.mem {b : Nat} {o o' : Obj} {L L' : List (Nat × Obj)} (h : SetAt b o o' L L') : (b, o) ∈ L := by
  induction h with
  | here => exact List.mem_cons_self
  | there _ ih => exact List.mem_cons_of_mem _ ih
theorem SetAt.upd {b : Nat} {o o' : Obj} {L L' : List (Nat × Obj)} (h : SetAt b o o' L L') (hn : L.Pairwise (fun p q => p.1 ≠ q.1)) : upd b o' L = L' := by
  induction h with
  | here =>
    rename_i L
    have h1 := (List.pairwise_cons.1 hn).1
    simp only [Sy.upd, if_true]
    congr 1
    clear hn
    induction L with
    | nil => rfl
    | cons q L ih =>
      obtain ⟨c, oc⟩ := q
      have := h1 (c, oc) (by simp)
      simp only at this
      simp only [Sy.upd, if_neg (Ne.symm this)]
      rw [ih (fun p hp => h1 p (by simp [hp]))]
  | there hm ih =>
    rename_i p L L'
    obtain ⟨c, oc⟩ := p
    have h1 := (List.pairwise_cons.1 hn).1 _ hm.mem
    simp only at h1
    simp only [Sy.upd, if_neg h1]
    rw [ih (List.pairwise_cons.1 hn).2]
theorem St.setAt {b : Nat} {o o' : Obj} {L' : List (Nat × Obj)} {w' : World} (h : St w0 M (upd b o' L) w') (hS : St w0 M L w) (hm : SetAt b o o' L L') : St w0 M L' w' := by
  rw [← hm.upd hS.nodup]; exact h
def allOne (vs : List Value) : Bool := vs.all fun c => c.oneCell'

theorem St.cell (h : St w0 M L w) {b : Nat} {cs : Array Value} {t : TypeId} {fr : Nat × Nat} (hm : (b, Obj.cells cs t fr) ∈ L) (i : Nat) : w.cell? ⟨b, i, none⟩ = cs[i]? := by
  have := h.has _ hm
  simp [World.cell?, this]

section
variable {P : Program}

/-- how a type is read out of a row of cells -/
def Reads (P : Program) (t : TypeId) (cs : Array Value) (off : Nat) (v : Value) : Prop :=
  ∀ (w : World) (b : Nat) (o : Nat), (∀ i c, cs[off + i]? = some c → w.cell? ⟨b, o + i, none⟩ = some c) → (Instr.loadAt t (.pointer (some ⟨b, o, none⟩))).run P w = .ok v w

theorem reads_cell {t : TypeId} {d : TypeDesc} (hd : P.underlying t = some d) (hn : ∀ fs, d ≠ .struct fs) (hn2 : ∀ n e, d ≠ .array n e) {cs : Array Value} {off : Nat} {v : Value} (h : cs[off]? = some v) : Reads P t cs off v := by
  intro w b o hc
  have hc0 := hc 0 v (by simpa using h)
  simp only [Nat.add_zero] at hc0
  have ha : (isAgg t).run P w = .ok false w := by
    unfold isAgg
    simp only [Sem.run_bind, run_underlying hd, Result.andThen_ok]
    cases d <;> first | rfl | (exact absurd rfl (hn _)) | (exact absurd rfl (hn2 _ _))
  simp only [Instr.loadAt, Instr.sureAddr, loadVar, Sem.run_bind, Sem.run_pure, Result.andThen_ok, ha]
  simp [run_load, hc0]

/-- is the type an aggregate? -/
def aggOf (P : Program) (t : TypeId) : Option Bool := (P.underlying t).map fun | .struct _ => true | .array _ _ => true | _ => false

theorem run_isAgg {t : TypeId} {b : Bool} (h : aggOf P t = some b) (w : World) : (isAgg t).run P w = .ok b w := by
  unfold aggOf at h
  cases hd : P.underlying t with
  | none => simp [hd] at h
  | some d =>
    unfold isAgg
    simp only [Sem.run_bind, run_underlying hd, Result.andThen_ok]
    simp [hd] at h
    cases d <;> simp at h <;> subst h <;> rfl

def szOf (P : Program) (t : TypeId) : Option Nat := (P.info? t).map (·.size)
theorem run_sizeOf {t : TypeId} {n : Nat} (h : szOf P t = some n) (w : World) : (sizeOf t).run P w = .ok n w := by
  unfold szOf at h
  cases hd : P.info? t with
  | none => simp [hd] at h
  | some i =>
    simp [hd] at h
    simp [sizeOf, typeInfo, hd, h]

theorem addr_add (b o i : Nat) : (⟨b, o, none⟩ : Addr).add i = ⟨b, o + i, none⟩ := by unfold Addr.add; split <;> simp_all

theorem reads_one {t : TypeId} (hd : aggOf P t = some false) {cs : Array Value} {off : Nat} {v : Value} (h : cs[off]? = some v) : Reads P t cs off v := by
  intro w b o hc
  have hc0 := hc 0 v (by simpa using h)
  simp only [Nat.add_zero] at hc0
  simp [Instr.loadAt, Instr.sureAddr, loadVar, run_isAgg hd, run_load, hc0]

theorem reads_agg {t : TypeId} {n : Nat} (hd : aggOf P t = some true) (hn : szOf P t = some n) {cs : Array Value} {off : Nat} {vs : List Value} (hl : vs.length = n) (h : ∀ i c, vs[i]? = some c → cs[off + i]? = some c) : Reads P t cs off (.agg vs.toArray) := by
  intro w b o hc
  have := run_loadCells_list (P := P) w ⟨b, o, none⟩ vs (fun j v hv => by rw [addr_add]; exact hc j v (h j v hv))
  rw [hl] at this
  simp [Instr.loadAt, Instr.sureAddr, loadVar, run_isAgg hd, run_sizeOf hn, this]

theorem reads2 {t : TypeId} (hd : aggOf P t = some true) (hn : szOf P t = some 2) {cs : Array Value} {off : Nat} {x y : Value} (h0 : cs[off]? = some x) (h1 : cs[off + 1]? = some y) : Reads P t cs off (.agg #[x, y]) :=
  reads_agg hd hn (vs := [x, y]) rfl (fun i c hc => by
    match i with
    | 0 => simp at hc; subst hc; simpa using h0
    | 1 => simp at hc; subst hc; exact h1
    | i + 2 => simp at hc)
theorem reads3 {t : TypeId} (hd : aggOf P t = some true) (hn : szOf P t = some 3) {cs : Array Value} {off : Nat} {x y z : Value} (h0 : cs[off]? = some x) (h1 : cs[off + 1]? = some y) (h2 : cs[off + 2]? = some z) : Reads P t cs off (.agg #[x, y, z]) :=
  reads_agg hd hn (vs := [x, y, z]) rfl (fun i c hc => by
    match i with
    | 0 => simp at hc; subst hc; simpa using h0
    | 1 => simp at hc; subst hc; exact h1
    | 2 => simp at hc; subst hc; exact h2
    | i + 3 => simp at hc)
theorem reads6 {t : TypeId} (hd : aggOf P t = some true) (hn : szOf P t = some 6) {cs : Array Value} {off : Nat} {x y z u v r : Value} (h0 : cs[off]? = some x) (h1 : cs[off + 1]? = some y) (h2 : cs[off + 2]? = some z)
    (h3 : cs[off + 3]? = some u) (h4 : cs[off + 4]? = some v) (h5 : cs[off + 5]? = some r) : Reads P t cs off (.agg #[x, y, z, u, v, r]) :=
  reads_agg hd hn (vs := [x, y, z, u, v, r]) rfl (fun i c hc => by
    match i with
    | 0 => simp at hc; subst hc; simpa using h0
    | 1 => simp at hc; subst hc; exact h1
    | 2 => simp at hc; subst hc; exact h2
    | 3 => simp at hc; subst hc; exact h3
    | 4 => simp at hc; subst hc; exact h4
    | 5 => simp at hc; subst hc; exact h5
    | i + 6 => simp at hc)

/-- a load from a block of the call's own -/
theorem run_load_own (hS : St w0 M L w) {b off : Nat} {cs : Array Value} {ty : TypeId} {fr : Nat × Nat} (hm : (b, Obj.cells cs ty fr) ∈ L) {t : TypeId} {v : Value} (hr : Reads P t cs off v) :
    (Instr.loadAt t (.pointer (some ⟨b, off, none⟩))).run P w = .ok v w :=
  hr w b off fun i c hc => by rw [hS.cell hm]; exact hc

/-- a load from a row that was there when the call began -/
theorem run_load_old (hS : St w0 [] L w) {b o : Nat} {vs : List Value} (hc : ∀ i c, vs[i]? = some c → w0.cell? ⟨b, o + i, none⟩ = some c) {t : TypeId} {v : Value} (hr : Reads P t vs.toArray 0 v) :
    (Instr.loadAt t (.pointer (some ⟨b, o, none⟩))).run P w = .ok v w :=
  hr w b o fun i c h => by
    have := hc i c (by simpa using h)
    rw [hS.below.cell (World.block_lt_of_cell? w0 _ this)]; exact this

/-- a store into a block of the call's own: the cells from 'off' on -/
def splice (cs : Array Value) (off : Nat) (vs : List Value) : Array Value := (cs.toList.take off ++ vs ++ cs.toList.drop (off + vs.length)).toArray

theorem run_store_own (hS : St w0 M L w) {b off : Nat} {cs : Array Value} {ty : TypeId} (hm : (b, Obj.cells cs ty (0, 0)) ∈ L) {t : TypeId} {v : Value} {n : Nat} (hn : szOf P t = some n) (hv : v.cells.size = n) (hfit : off + n ≤ cs.size)
    (h1 : ∀ c ∈ v.cells.toList, c.oneCell' = true) :
    ∃ w', (Instr.storeAt t (.pointer (some ⟨b, off, none⟩)) v).run P w = .ok () w' ∧ St w0 M (upd b (.cells (splice cs off v.cells.toList) ty) L) w' := by
  have hst := run_storeCells_at P b off ty v.cells.toList 0 cs w (hS.has _ hm) (by simpa [hv] using hfit) h1
  refine ⟨_, ?_, hS.set (w' := w.setRow b (splice cs off v.cells.toList)) hm ?_ rfl rfl rfl⟩
  · simp only [Nat.add_zero] at hst
    simp [Instr.storeAt, Instr.sureAddr, storeVar, run_sizeOf hn, hv, hst, splice]
  · have hlt := hS.lt hm
    have hb := hS.has _ hm
    simp only [World.setRow]
    apply Array.ext_getElem?
    intro i
    by_cases hi : b = i
    · subst hi
      simp only [Array.getElem?_modify, if_true, hb, Option.map_some, Array.getElem?_setIfInBounds_self_of_lt hlt]
    · rw [Array.getElem?_setIfInBounds_ne hi, Array.getElem?_modify, if_neg hi]

/-! ### The walk's laws -/
section
variable {ops : Array Oper} {Q : Exit → Act → World → Prop} {a : Act} {rest : List Oper} {o : Oper}

theorem wpList_val {v : Value} (hw : Region.wanted o (yielded ops a.tmps) = true) (h : (execOp a.eval o).run P w = .ok (.value v) w') (k : wpList P ops Q rest (a.put o.dst v) w') : wpList P ops Q (o :: rest) a w := by
  unfold wpList
  rw [if_pos hw]
  left
  unfold Oper.wp
  rw [h]
  exact k
theorem wpList_skip (hw : Region.wanted o (yielded ops a.tmps) = true) (h : (execOp a.eval o).run P w = .ok .skip w') (k : wpList P ops Q rest (a.put o.dst undef) w') : wpList P ops Q (o :: rest) a w := by
  unfold wpList
  rw [if_pos hw]
  left
  unfold Oper.wp
  rw [h]
  exact k

/-- load -/
theorem l_load (hS : St w0 M L w) {t : TypeId} {x : Operand} (ho : o.op = .load t x) (hw : Region.wanted o (yielded ops a.tmps) = true) {b off : Nat} (hx : a.eval x = .pointer (some ⟨b, off, none⟩))
    {cs : Array Value} {ty : TypeId} {fr : Nat × Nat} (hm : (b, Obj.cells cs ty fr) ∈ L) {v : Value} (hr : Reads P t cs off v) (k : wpList P ops Q rest (a.put o.dst v) w) : wpList P ops Q (o :: rest) a w :=
  wpList_val hw (by unfold execOp; rw [ho]; simp only [hx]; simp [run_load_own hS hm hr]) k
theorem l_load_old (hS : St w0 [] L w) {t : TypeId} {x : Operand} (ho : o.op = .load t x) (hw : Region.wanted o (yielded ops a.tmps) = true) {b off : Nat} (hx : a.eval x = .pointer (some ⟨b, off, none⟩))
    {vs : List Value} (hc : ∀ i c, vs[i]? = some c → w0.cell? ⟨b, off + i, none⟩ = some c) {v : Value} (hr : Reads P t vs.toArray 0 v) (k : wpList P ops Q rest (a.put o.dst v) w) : wpList P ops Q (o :: rest) a w :=
  wpList_val hw (by unfold execOp; rw [ho]; simp only [hx]; simp [run_load_old hS hc hr]) k
/-- store -/
theorem l_store (hS : St w0 M L w) {t : TypeId} {x y : Operand} (ho : o.op = .store t x y) (hw : Region.wanted o (yielded ops a.tmps) = true) {b off : Nat} (hx : a.eval x = .pointer (some ⟨b, off, none⟩)) {v : Value} (hy : a.eval y = v)
    {cs cs' : Array Value} {ty : TypeId} {L' : List (Nat × Obj)} (hm : SetAt b (.cells cs ty) (.cells cs' ty) L L') {vs : List Value} (hvs : v.cells.toList = vs) {n : Nat} (hl : vs.length = n) (hn : szOf P t = some n) (hfit : Nat.ble (off + vs.length) cs.size = true) (h1 : allOne vs = true)
    (hcs : splice cs off vs = cs')
    (k : ∀ w', St w0 M L' w' → wpList P ops Q rest (a.put o.dst undef) w') : wpList P ops Q (o :: rest) a w := by
  subst hvs hcs
  obtain ⟨w', h, hS'⟩ := run_store_own (P := P) (v := v) hS hm.mem hn (by simpa using hl) (by rw [← hl]; exact Nat.le_of_ble_eq_true hfit) (List.all_eq_true.1 h1)
  exact wpList_skip hw (by unfold execOp; rw [ho]; simp only [hx, hy]; simp [h]) (k w' (hS'.setAt hS hm))
/-- alloc, box -/
theorem l_alloc (hS : St w0 M L w) {t : TypeId} (ho : o.op = .alloc t) (hw : Region.wanted o (yielded ops a.tmps) = true) {ob : Obj}
    (hz : ∀ w, (Instr.alloc t true (.tuple #[])).run P w = .ok (.pointer (some ⟨w.heap.size, 0, none⟩)) (w.alloc ob))
    (k : ∀ b w', w0.heap.size ≤ b → St w0 M ((b, ob) :: L) w' → wpList P ops Q rest (a.put o.dst (.pointer (some ⟨b, 0, none⟩))) w') : wpList P ops Q (o :: rest) a w :=
  wpList_val hw (by unfold execOp; rw [ho]; simp [hz]) (k _ _ hS.size (hS.alloc ob))
theorem l_box (hS : St w0 M L w) {t : TypeId} {x : Operand} (ho : o.op = .box t x) (hw : Region.wanted o (yielded ops a.tmps) = true) {v : Value} (hx : a.eval x = v) {cs : Array Value} (hc : v.cells = cs)
    (k : ∀ b w', w0.heap.size ≤ b → St w0 M ((b, .cells cs t) :: L) w' → wpList P ops Q rest (a.put o.dst (.pointer (some ⟨b, 0, none⟩))) w') : wpList P ops Q (o :: rest) a w := by
  subst hc
  exact wpList_val hw (by unfold execOp; rw [ho]; simp only [hx]; simp [Instr.box, newVar, newRow, newObj]; rfl) (k _ _ hS.size (hS.alloc _))

/-- a slice literal -/
theorem l_new (hS : St w0 M L w) {t : TypeId} {ln : Nat} {ps : Array (Nat × Operand)} (_ : o.op = .buildSlice t ln ps) {r : Result Next} (hw : Region.wanted o (yielded ops a.tmps) = true) (h : (execOp a.eval o).run P w = r) {len cap : Nat} {ob : Obj} (hr : r = .ok (.value (.slice (some ⟨w.heap.size, 0, none⟩) len cap)) (w.alloc ob))
    (k : ∀ b w', w0.heap.size ≤ b → St w0 M ((b, ob) :: L) w' → wpList P ops Q rest (a.put o.dst (.slice (some ⟨b, 0, none⟩) len cap)) w') : wpList P ops Q (o :: rest) a w :=
  wpList_val hw (h.trans hr) (k _ _ hS.size (hS.alloc _))

/-! ### the end -/
theorem run_results_cell {fn : Func} {p : Tmp} {ty : TypeId} (h : fn.results = #[.cell p ty]) {tmps : Array Value} (hS : St w0 M L w) {b off : Nat} (hx : tmps.getD p undef = .pointer (some ⟨b, off, none⟩))
    {cs : Array Value} {t : TypeId} {fr : Nat × Nat} (hm : (b, Obj.cells cs t fr) ∈ L) {v : Value} (hr : Reads P ty cs off v) : (results fn tmps).run P w = .ok v w := by
  have := run_load_own (P := P) hS hm hr
  simp only [Instr.loadAt, Instr.sureAddr, Sem.run_bind, Sem.run_pure, Result.andThen_ok] at this
  have hx' : tmps[p]?.getD undef = .pointer (some ⟨b, off, none⟩) := by simpa using hx
  simp [results, h, hx', asAddr, this]
end

/-! ### regions that draw -/
section
variable {ops : Array Oper} {Q : Act → Prop} {a : Act} {rest : List Oper} {o : Oper} {ws : World}

theorem calm_val (hw : Region.wanted o (yielded ops a.tmps) = true) {v : Value} (h : ∀ W, Cl ws W → (execOp a.eval o).run P W = .ok (.value v) W) (k : wpCalm P ops ws Q rest (a.put o.dst v)) : wpCalm P ops ws Q (o :: rest) a := by
  unfold wpCalm
  rw [if_pos hw]
  exact ⟨v, fun d os => by unfold calmAt; rw [h _ (below_regrown ws d os)]; exact ⟨rfl, rfl⟩, k⟩
theorem calm_pure (hw : Region.wanted o (yielded ops a.tmps) = true) {r : World → Result Next} (h : ∀ W, (execOp a.eval o).run P W = r W) {v : Value} (hr : ∀ W, r W = .ok (.value v) W) (k : wpCalm P ops ws Q rest (a.put o.dst v)) : wpCalm P ops ws Q (o :: rest) a :=
  calm_val hw (fun W _ => (h W).trans (hr W)) k
theorem calm_skip (hw : Region.wanted o (yielded ops a.tmps) = false) (k : wpCalm P ops ws Q rest (a.put o.dst undef)) : wpCalm P ops ws Q (o :: rest) a := by
  unfold wpCalm
  rw [if_neg (by rw [hw]; simp)]
  exact k
theorem calm_move {x : Operand} (ho : o.op = .move x) (hw : Region.wanted o (yielded ops a.tmps) = true) {v : Value} (hx : a.eval x = v) (k : wpCalm P ops ws Q rest (a.put o.dst v)) : wpCalm P ops ws Q (o :: rest) a :=
  calm_val hw (fun W _ => by unfold execOp; rw [ho]; simp only [hx]; rfl) k
theorem calm_assign {x : Operand} (ho : o.op = .assign x) (hw : Region.wanted o (yielded ops a.tmps) = true) {v : Value} (hx : a.eval x = v) (k : wpCalm P ops ws Q rest (a.put o.dst v)) : wpCalm P ops ws Q (o :: rest) a :=
  calm_val hw (fun W _ => by unfold execOp; rw [ho]; simp only [hx]; rfl) k
theorem calm_load (hS : St w0 M L ws) {t : TypeId} {x : Operand} (ho : o.op = .load t x) (hw : Region.wanted o (yielded ops a.tmps) = true) {b off : Nat} (hx : a.eval x = .pointer (some ⟨b, off, none⟩))
    {cs : Array Value} {ty : TypeId} {fr : Nat × Nat} (hm : (b, Obj.cells cs ty fr) ∈ L) {v : Value} (hr : Reads P t cs off v) (k : wpCalm P ops ws Q rest (a.put o.dst v)) : wpCalm P ops ws Q (o :: rest) a :=
  calm_val hw (fun W hW => by unfold execOp; rw [ho]; simp only [hx]; simp [run_load_own (hS.grow hW) hm hr]) k
theorem calm_load_old (hS : St w0 [] L ws) {t : TypeId} {x : Operand} (ho : o.op = .load t x) (hw : Region.wanted o (yielded ops a.tmps) = true) {b off : Nat} (hx : a.eval x = .pointer (some ⟨b, off, none⟩))
    {vs : List Value} (hc : ∀ i c, vs[i]? = some c → w0.cell? ⟨b, off + i, none⟩ = some c) {v : Value} (hr : Reads P t vs.toArray 0 v) (k : wpCalm P ops ws Q rest (a.put o.dst v)) : wpCalm P ops ws Q (o :: rest) a :=
  calm_val hw (fun W hW => by unfold execOp; rw [ho]; simp only [hx]; simp [run_load_old (hS.grow hW) hc hr]) k
theorem calm_call {f : FuncId} {args : Array Value} {v : Value} (hw : Region.wanted o (yielded ops a.tmps) = true) (h : ∀ W, (execOp a.eval o).run P W = .ok (.enter f args) W)
    (hc : ∀ W, Cl ws W → Calls P f args W fun e w' => e = .returned v ∧ Below W.heap.size W w') (k : wpCalm P ops ws Q rest (a.put o.dst v)) : wpCalm P ops ws Q (o :: rest) a := by
  unfold wpCalm
  rw [if_pos hw]
  exact ⟨v, fun d os => by unfold calmAt; rw [h]; exact ⟨rfl, hc _ (below_regrown ws d os)⟩, k⟩
end

/-- the region's theorem in St's words -/
def zipB : List Nat → List Obj → List (Nat × Obj)
  | b :: bs, o :: os => (b, o) :: zipB bs os
  | _, _ => []
theorem mem_zipB {p : Nat × Obj} : ∀ {bs : List Nat} {os : List Obj}, p ∈ zipB bs os → ∃ i : Nat, bs[i]? = some p.1 ∧ os[i]? = some p.2
  | [], _, h => by simp [zipB] at h
  | _ :: _, [], h => by simp [zipB] at h
  | b :: bs, o :: os, h => by
    simp only [zipB, List.mem_cons] at h
    rcases h with rfl | h
    · exact ⟨0, rfl, rfl⟩
    · obtain ⟨i, h1, h2⟩ := mem_zipB h
      exact ⟨i + 1, by simpa using h1, by simpa using h2⟩
theorem zipB_pairwise : ∀ {bs : List Nat} {os : List Obj}, bs.Nodup → (zipB bs os).Pairwise (fun p q => p.1 ≠ q.1)
  | [], _, _ => by simp [zipB]
  | _ :: _, [], _ => by simp [zipB]
  | b :: bs, o :: os, h => by
    simp only [zipB, List.pairwise_cons]
    have h' := List.pairwise_cons.1 h
    refine ⟨fun p hp e => ?_, zipB_pairwise h'.2⟩
    obtain ⟨i, h1, _⟩ := mem_zipB hp
    exact h'.1 _ (List.mem_of_getElem? h1) e
theorem St.zip (h : St w0 M L w) (hb : Below w.heap.size w w') {bs : List Nat} {os : List Obj} (hn : bs.Nodup) (hge : ∀ b ∈ bs, w.heap.size ≤ b) (hh : ∀ (i b : Nat), bs[i]? = some b → b < w'.heap.size ∧ w'.heap[b]? = os[i]?) :
    St w0 M (zipB bs os ++ L) w' := by
  have g := h.grow hb
  refine ⟨g.os, g.tape, g.output, g.size, g.keep, List.pairwise_append.2 ⟨zipB_pairwise hn, g.nodup, fun p hp q hq e => ?_⟩, fun p hp => ?_, fun p hp => ?_⟩
  · obtain ⟨i, h1, _⟩ := mem_zipB hp
    have := hge _ (List.mem_of_getElem? h1)
    have := h.lt hq
    omega
  · rcases List.mem_append.1 hp with hp | hp
    · obtain ⟨i, h1, _⟩ := mem_zipB hp
      exact .inl (Nat.le_trans h.size (hge _ (List.mem_of_getElem? h1)))
    · exact g.base p hp
  · rcases List.mem_append.1 hp with hp | hp
    · obtain ⟨i, h1, h2⟩ := mem_zipB hp
      rw [(hh i _ h1).2, h2]
    · exact g.has p hp

/-- quiet operations, then allocations (their blocks bs), then the tail -/
def AfterAllocs (P : Program) (ops : Array Oper) (Q : Exit → Act → World → Prop) (w0 : World) (M : List Nat) (L : List (Nat × Obj)) (la lt : List Oper) (obs : List Obj) (a : Act) : Prop :=
  ∀ (bs : List Nat) (w' : World), bs.length = obs.length → (∀ b ∈ bs, w0.heap.size ≤ b) → St w0 M (zipB bs obs ++ L) w' → wpList P ops Q lt (putsL a la (bs.map fun b => Value.pointer (some ⟨b, 0, none⟩))) w'

theorem after0 {ops : Array Oper} {Q : Exit → Act → World → Prop} {lt : List Oper} {a : Act} (h : ∀ w', St w0 M L w' → wpList P ops Q lt a w') : AfterAllocs P ops Q w0 M L [] lt [] a := by
  intro bs w' hl _ hS
  match bs, hl with
  | [], _ => exact h w' hS
theorem after1 {ops : Array Oper} {Q : Exit → Act → World → Prop} {lt : List Oper} {a : Act} {o1 : Oper} {x1 : Obj} (h : ∀ b1 w', w0.heap.size ≤ b1 → St w0 M ((b1, x1) :: L) w' → wpList P ops Q lt (a.put o1.dst (.pointer (some ⟨b1, 0, none⟩))) w') : AfterAllocs P ops Q w0 M L [o1] lt [x1] a := by
  intro bs w' hl hg hS
  match bs, hl with
  | [b1], _ => exact h b1 w' (hg b1 (by simp)) hS
theorem after2 {ops : Array Oper} {Q : Exit → Act → World → Prop} {lt : List Oper} {a : Act} {o1 o2 : Oper} {x1 x2 : Obj} (h : ∀ b1 b2 w', w0.heap.size ≤ b1 → w0.heap.size ≤ b2 → St w0 M ((b1, x1) :: (b2, x2) :: L) w' → wpList P ops Q lt ((a.put o1.dst (.pointer (some ⟨b1, 0, none⟩))).put o2.dst (.pointer (some ⟨b2, 0, none⟩))) w') : AfterAllocs P ops Q w0 M L [o1, o2] lt [x1, x2] a := by
  intro bs w' hl hg hS
  match bs, hl with
  | [b1, b2], _ => exact h b1 b2 w' (hg b1 (by simp)) (hg b2 (by simp)) hS
theorem after3 {ops : Array Oper} {Q : Exit → Act → World → Prop} {lt : List Oper} {a : Act} {o1 o2 o3 : Oper} {x1 x2 x3 : Obj} (h : ∀ b1 b2 b3 w', w0.heap.size ≤ b1 → w0.heap.size ≤ b2 → w0.heap.size ≤ b3 → St w0 M ((b1, x1) :: (b2, x2) :: (b3, x3) :: L) w' → wpList P ops Q lt (((a.put o1.dst (.pointer (some ⟨b1, 0, none⟩))).put o2.dst (.pointer (some ⟨b2, 0, none⟩))).put o3.dst (.pointer (some ⟨b3, 0, none⟩))) w') : AfterAllocs P ops Q w0 M L [o1, o2, o3] lt [x1, x2, x3] a := by
  intro bs w' hl hg hS
  match bs, hl with
  | [b1, b2, b3], _ => exact h b1 b2 b3 w' (hg b1 (by simp)) (hg b2 (by simp)) (hg b3 (by simp)) hS
theorem after4 {ops : Array Oper} {Q : Exit → Act → World → Prop} {lt : List Oper} {a : Act} {o1 o2 o3 o4 : Oper} {x1 x2 x3 x4 : Obj} (h : ∀ b1 b2 b3 b4 w', w0.heap.size ≤ b1 → w0.heap.size ≤ b2 → w0.heap.size ≤ b3 → w0.heap.size ≤ b4 → St w0 M ((b1, x1) :: (b2, x2) :: (b3, x3) :: (b4, x4) :: L) w' → wpList P ops Q lt ((((a.put o1.dst (.pointer (some ⟨b1, 0, none⟩))).put o2.dst (.pointer (some ⟨b2, 0, none⟩))).put o3.dst (.pointer (some ⟨b3, 0, none⟩))).put o4.dst (.pointer (some ⟨b4, 0, none⟩))) w') : AfterAllocs P ops Q w0 M L [o1, o2, o3, o4] lt [x1, x2, x3, x4] a := by
  intro bs w' hl hg hS
  match bs, hl with
  | [b1, b2, b3, b4], _ => exact h b1 b2 b3 b4 w' (hg b1 (by simp)) (hg b2 (by simp)) (hg b3 (by simp)) (hg b4 (by simp)) hS

theorem region (hS : St w0 M L w) {id : Nat} {Q : Exit → Act → World → Prop} {a : Act} {l : List Oper} (m n : Nat) (obs : List Obj) (hQ : ∀ c a w, ¬ Q (.panic c) a w) (hm : P.follows .mixedOrders = true) (hB : okB l.toArray m n = true)
    (hob : obs.length = n - m)
    (hdst : (l.take n).all (fun o => match o.dst with | some d => decide (d < a.tmps.size) | none => true) = true) (hal : AllAllocs P ((l.drop m).take (n - m)) obs)
    (h : wpCalm P l.toArray w (AfterAllocs P l.toArray Q w0 M L ((l.drop m).take (n - m)) (l.drop n) obs) (l.take m) a) : (Code.region id l.toArray true).wp P Q a w := by
  refine Reg.wp_region m n obs hQ hm hB hdst hal (wpCalm_mono (fun a' h bs hl hn hge w' hb hh => ?_) h)
  exact h bs w' (by omega) (fun b hb' => Nat.le_trans hS.size (hge b hb')) (hS.zip hb hn hge hh)
end
attribute [irreducible] Reads aggOf szOf
end Go.Sy
