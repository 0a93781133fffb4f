/- The engine's values: what a cell, a frame's slot and a block hold, with names in the places of blocks' numbers. -/
import Derived.Test.YtfplfbaebiaanaaGreatLwS
noncomputable section
namespace Go.Fe
open Go.RowKit Go.Reg Go.Sort Go.Sy

/-- a slice's capacity: a number, or up to the end of its block (elements of so many cells) -/
inductive Cap
  | k (c : Nat)
  | full (m : Nat)
def Cap.val (tot off : Nat) : Cap → Nat
  | .k c => c
  | .full m => (tot - off) / m

/-- one cell's value: any value without an address of the call's own; a literal; an address in, or a slice of, a named block ('p', 's': at a place that is known; 'q', 'z': at any place); a function with captured variables; a method bound to its receiver ('one': of one cell) -/
inductive SV
  | c (v : Value)
  | li (k : IntKind) (n : Int)
  | lb (v : Bool)
  | p (n off : Nat)
  | s (n off len : Nat) (cap : Cap)
  | q (n off : Nat)
  | z (n off len : Nat) (cap : Cap)
  | f (fid : FuncId) (cs : List (Nat × Nat))
  | mb (fid : FuncId) (one : Bool) (r : List SV)
/-- a cell, or several -/
inductive EV
  | x (v : SV)
  | g (l : List SV)
inductive AV
  | e (v : EV)
  | t (l : List EV)

mutual
def SV.val (β : Nat → Nat × Nat) : SV → Value
  | .c v => v
  | .li k n => .int k n
  | .lb v => .bool v
  | .p n o => .pointer (some ⟨(β n).1, o, none⟩)
  | .s n o l k => .slice (some ⟨(β n).1, o, none⟩) l (k.val (β n).2 o)
  | .q n o => .pointer (some ⟨(β n).1, o, none⟩)
  | .z n o l k => .slice (some ⟨(β n).1, o, none⟩) l (k.val (β n).2 o)
  | .f fid cs => .func (.func fid) #[] (cs.map fun q => Value.pointer (some ⟨(β q.1).1, q.2, none⟩)).toArray
  | .mb fid one r => .func (.func fid) (match one with
    | true => (SV.vals β r).toArray
    | false => #[.agg (SV.vals β r).toArray]) #[]
def SV.vals (β : Nat → Nat × Nat) : List SV → List Value
  | [] => []
  | v :: l => SV.val β v :: SV.vals β l
end
def EV.val (β : Nat → Nat × Nat) : EV → Value
  | .x v => v.val β
  | .g l => .agg (SV.vals β l).toArray
def EV.vals (β : Nat → Nat × Nat) : List EV → List Value
  | [] => []
  | v :: l => v.val β :: EV.vals β l
def AV.val (β : Nat → Nat × Nat) : AV → Value
  | .e v => v.val β
  | .t l => .tuple (EV.vals β l).toArray

theorem AV.val_e (β : Nat → Nat × Nat) (v : EV) : (AV.e v).val β = v.val β := rfl
theorem EV.val_x (β : Nat → Nat × Nat) (v : SV) : (EV.x v).val β = v.val β := rfl
theorem EV.val_g (β : Nat → Nat × Nat) (l : List SV) : (EV.g l).val β = .agg (SV.vals β l).toArray := rfl
theorem AV.val_t (β : Nat → Nat × Nat) (l : List EV) : (AV.t l).val β = .tuple (EV.vals β l).toArray := rfl
theorem SV.vals_eq (β : Nat → Nat × Nat) : ∀ l : List SV, SV.vals β l = l.map (SV.val β)
  | [] => by simp [SV.vals]
  | v :: l => by simp [SV.vals, SV.vals_eq β l]
theorem EV.vals_eq (β : Nat → Nat × Nat) : ∀ l : List EV, EV.vals β l = l.map (EV.val β)
  | [] => rfl
  | v :: l => by simp [EV.vals, EV.vals_eq β l]

mutual
/-- no name from n on -/
def SV.bd (n : Nat) : SV → Prop
  | .c _ => True
  | .li _ _ => True
  | .lb _ => True
  | .p m _ => m < n
  | .s m _ _ _ => m < n
  | .q m _ => m < n
  | .z m _ _ _ => m < n
  | .f _ cs => ∀ q ∈ cs, q.1 < n
  | .mb _ _ r => SV.bds n r
def SV.bds (n : Nat) : List SV → Prop
  | [] => True
  | v :: l => SV.bd n v ∧ SV.bds n l
end
theorem SV.bds_iff {n : Nat} : ∀ {l : List SV}, SV.bds n l ↔ ∀ v ∈ l, SV.bd n v
  | [] => by simp [SV.bds]
  | v :: l => by simp [SV.bds, SV.bds_iff (l := l)]
def EV.bd (n : Nat) : EV → Prop
  | .x v => v.bd n
  | .g l => ∀ v ∈ l, SV.bd n v
def AV.bd (n : Nat) : AV → Prop
  | .e v => v.bd n
  | .t l => ∀ v ∈ l, EV.bd n v

mutual
theorem SV.bd.mono {n m : Nat} (h : n ≤ m) : ∀ {v : SV}, v.bd n → v.bd m
  | .c _, _ => by simp [SV.bd]
  | .li _ _, _ => by simp [SV.bd]
  | .lb _, _ => by simp [SV.bd]
  | .p _ _, hv => by simp only [SV.bd] at *; omega
  | .s _ _ _ _, hv => by simp only [SV.bd] at *; omega
  | .q _ _, hv => by simp only [SV.bd] at *; omega
  | .z _ _ _ _, hv => by simp only [SV.bd] at *; omega
  | .f _ _, hv => by simp only [SV.bd] at *; exact fun q hq => Nat.lt_of_lt_of_le (hv q hq) h
  | .mb _ _ r, hv => by simp only [SV.bd] at *; exact SV.bds.mono h hv
theorem SV.bds.mono {n m : Nat} (h : n ≤ m) : ∀ {l : List SV}, SV.bds n l → SV.bds m l
  | [], _ => by simp [SV.bds]
  | v :: l, hv => by simp only [SV.bds] at *; exact ⟨SV.bd.mono h hv.1, SV.bds.mono h hv.2⟩
end
theorem EV.bd.mono {n m : Nat} (h : n ≤ m) : ∀ {v : EV}, v.bd n → v.bd m
  | .x _, hv => SV.bd.mono h hv
  | .g _, hv => fun v hm => SV.bd.mono h (hv v hm)
theorem AV.bd.mono {n m : Nat} (h : n ≤ m) : ∀ {v : AV}, v.bd n → v.bd m
  | .e _, hv => EV.bd.mono h hv
  | .t _, hv => fun v hm => EV.bd.mono h (hv v hm)

def Agree (n : Nat) (β β' : Nat → Nat × Nat) : Prop := ∀ k, k < n → β' k = β k
theorem Agree.rfl (n : Nat) (β : Nat → Nat × Nat) : Agree n β β := fun _ _ => Eq.refl _
theorem Agree.trans {n m : Nat} {β β' β'' : Nat → Nat × Nat} (h : Agree n β β') (h' : Agree m β' β'') (hnm : n ≤ m) : Agree n β β'' := fun k hk => by rw [h' k (by omega), h k hk]
theorem Agree.mono {n m : Nat} {β β' : Nat → Nat × Nat} (h : Agree m β β') (hnm : n ≤ m) : Agree n β β' := fun k hk => h k (by omega)
mutual
theorem SV.val_agree {n : Nat} {β β' : Nat → Nat × Nat} (h : Agree n β β') : ∀ {v : SV}, v.bd n → v.val β' = v.val β
  | .c _, _ => by simp [SV.val]
  | .li _ _, _ => by simp [SV.val]
  | .lb _, _ => by simp [SV.val]
  | .p m o, hv => by simp only [SV.bd] at hv; simp [SV.val, h m hv]
  | .s m o l k, hv => by simp only [SV.bd] at hv; simp [SV.val, h m hv]
  | .q m o, hv => by simp only [SV.bd] at hv; simp [SV.val, h m hv]
  | .z m o l k, hv => by simp only [SV.bd] at hv; simp [SV.val, h m hv]
  | .f fid cs, hv => by
    simp only [SV.bd] at hv
    simp only [SV.val]
    congr 2
    exact List.map_congr_left fun q hq => by rw [h q.1 (hv q hq)]
  | .mb fid one r, hv => by
    simp only [SV.bd] at hv
    simp only [SV.val, SV.vals_agree h hv]
theorem SV.vals_agree {n : Nat} {β β' : Nat → Nat × Nat} (h : Agree n β β') : ∀ {l : List SV}, SV.bds n l → SV.vals β' l = SV.vals β l
  | [], _ => by simp [SV.vals]
  | v :: l, hv => by
    simp only [SV.bds] at hv
    simp only [SV.vals, SV.val_agree h hv.1, SV.vals_agree h hv.2]
end
theorem EV.val_agree {n : Nat} {β β' : Nat → Nat × Nat} (h : Agree n β β') : ∀ {v : EV}, v.bd n → v.val β' = v.val β
  | .x _, hv => SV.val_agree h hv
  | .g l, hv => by simp only [EV.val, SV.vals_agree h (SV.bds_iff.2 hv)]
theorem AV.val_agree {n : Nat} {β β' : Nat → Nat × Nat} (h : Agree n β β') : ∀ {v : AV}, v.bd n → v.val β' = v.val β
  | .e _, hv => EV.val_agree h hv
  | .t l, hv => by
    simp only [AV.val, EV.vals_eq]
    congr 2
    exact List.map_congr_left fun q hq => EV.val_agree h (hv q hq)

/-- a block: its cells told one by one, or as one list of values -/
inductive Blk
  | ex (cs : List SV) (ty : TypeId)
  | sy (l : List Value) (ty : TypeId)
def Blk.ty : Blk → TypeId
  | .ex _ t => t
  | .sy _ t => t
def Blk.vals (β : Nat → Nat × Nat) : Blk → List Value
  | .ex cs _ => SV.vals β cs
  | .sy l _ => l
def Blk.bd (n : Nat) : Blk → Prop
  | .ex cs _ => SV.bds n cs
  | .sy _ _ => True
theorem Blk.bd.mono {n m : Nat} (h : n ≤ m) : ∀ {b : Blk}, b.bd n → b.bd m
  | .ex _ _, hb => SV.bds.mono h hb
  | .sy _ _, _ => trivial
theorem Blk.vals_agree {n : Nat} {β β' : Nat → Nat × Nat} (h : Agree n β β') : ∀ {b : Blk}, b.bd n → b.vals β' = b.vals β
  | .ex _ _, hb => SV.vals_agree h hb
  | .sy _ _, _ => rfl

/-- a cover that keeps a term from being computed -/
structure Hid where
  f : (α : Type) → (Unit → α) → α
  ok : ∀ (α : Type) (t : Unit → α), f α t = t ()
def Hid.bare : Hid := ⟨fun _ t => t (), fun _ _ => rfl⟩

/-- memory that stays: what a block holds -/
abbrev Mem := Nat → Option Obj

structure AS where
  tm : List AV
  hp : List (Nat × Blk)
  nx : Nat
  /-- blocks under this name are not written -/
  lo : Nat
  mem : Mem
  /-- calls that are put off, the last one first -/
  df : List (Nat × List AV) := []

def und : AV := .t []
theorem und_val (β : Nat → Nat × Nat) : und.val β = undef := rfl
theorem und_bd (n : Nat) : und.bd n := fun v hv => absurd hv (by simp)

noncomputable def getL (d : AV) (l : List AV) : Nat → AV := @List.rec AV (fun _ => Nat → AV) (fun _ => d) (fun x _ ih n => @Nat.rec (fun _ => AV) x (fun n _ => ih n) n) l
noncomputable def setL (l : List AV) : Nat → AV → List AV := @List.rec AV (fun _ => Nat → AV → List AV) (fun _ _ => []) (fun x l ih n v => @Nat.rec (fun _ => List AV) (v :: l) (fun n _ => x :: ih n v) n) l
theorem getL_nil (d : AV) (n : Nat) : getL d [] n = d := rfl
theorem getL_zero (d x : AV) (l : List AV) : getL d (x :: l) 0 = x := rfl
theorem getL_succ (d x : AV) (l : List AV) (n : Nat) : getL d (x :: l) (n + 1) = getL d l n := rfl
theorem setL_nil (n : Nat) (v : AV) : setL [] n v = [] := rfl
theorem setL_zero (x v : AV) (l : List AV) : setL (x :: l) 0 v = v :: l := rfl
theorem setL_succ (x v : AV) (l : List AV) (n : Nat) : setL (x :: l) (n + 1) v = x :: setL l n v := rfl
def getB : List (Nat × Blk) → Nat → Option Blk
  | [], _ => none
  | (m, b) :: l, n => bif Nat.beq m n then some b else getB l n
def setB : List (Nat × Blk) → Nat → Blk → List (Nat × Blk)
  | [], _, _ => []
  | (m, b) :: l, n, b' => bif Nat.beq m n then (m, b') :: l else (m, b) :: setB l n b'
/-- without one name -/
def delB : List (Nat × Blk) → Nat → List (Nat × Blk)
  | [], _ => []
  | (m, b) :: l, n => bif Nat.beq m n then l else (m, b) :: delB l n

theorem getL_eq (d : AV) : ∀ (l : List AV) (n : Nat), getL d l n = l.getD n d
  | [], _ => by simp [getL_nil]
  | x :: _, 0 => rfl
  | x :: l, n + 1 => by simp [getL_succ, getL_eq d l n]
theorem setL_eq : ∀ (l : List AV) (n : Nat) (v : AV), setL l n v = l.set n v
  | [], _, _ => rfl
  | _ :: _, 0, _ => rfl
  | x :: l, n + 1, v => by simp [setL_succ, setL_eq l n v]
theorem getB_mem : ∀ {l : List (Nat × Blk)} {n : Nat} {b : Blk}, getB l n = some b → (n, b) ∈ l
  | [], _, _, h => by simp [getB] at h
  | (m, b0) :: l, n, b, h => by
    unfold getB at h
    cases e : Nat.beq m n with
    | true => rw [e] at h; simp at h; subst h; rw [Nat.eq_of_beq_eq_true e]; exact List.mem_cons_self
    | false => rw [e] at h; exact List.mem_cons_of_mem _ (getB_mem h)
theorem setB_keys : ∀ (l : List (Nat × Blk)) (n : Nat) (b : Blk), (setB l n b).map (·.1) = l.map (·.1)
  | [], _, _ => rfl
  | (m, b0) :: l, n, b => by
    unfold setB
    cases e : Nat.beq m n with
    | true => rfl
    | false => simp [setB_keys l n b]
theorem setB_mem {b' : Blk} : ∀ {l : List (Nat × Blk)} {n : Nat} {q : Nat × Blk}, l.Pairwise (fun p q => p.1 ≠ q.1) → q ∈ setB l n b' → (q.1 = n ∧ q.2 = b') ∨ (q.1 ≠ n ∧ q ∈ l)
  | [], _, _, _, h => by simp [setB] at h
  | (m, b0) :: l, n, q, hp, h => by
    unfold setB at h
    obtain ⟨hp1, hp2⟩ := List.pairwise_cons.1 hp
    cases e : Nat.beq m n with
    | true =>
      rw [e] at h
      have e := Nat.eq_of_beq_eq_true e
      rcases List.mem_cons.1 h with rfl | h
      · exact .inl ⟨e, rfl⟩
      · exact .inr ⟨by have := hp1 q h; simp only at this; rw [e] at this; exact Ne.symm this, List.mem_cons_of_mem _ h⟩
    | false =>
      rw [e] at h
      have e := Nat.ne_of_beq_eq_false e
      rcases List.mem_cons.1 h with rfl | h
      · exact .inr ⟨e, List.mem_cons_self⟩
      · rcases setB_mem hp2 h with h | h
        · exact .inl h
        · exact .inr ⟨h.1, List.mem_cons_of_mem _ h.2⟩
theorem delB_sub : ∀ (l : List (Nat × Blk)) (n : Nat), (delB l n).Sublist l
  | [], _ => .slnil
  | (m, b) :: l, n => by
    unfold delB
    cases Nat.beq m n with
    | true => exact List.sublist_cons_self _ _
    | false => exact .cons_cons _ (delB_sub l n)
theorem delB_ne : ∀ {l : List (Nat × Blk)} {n : Nat} {q : Nat × Blk}, l.Pairwise (fun p q => p.1 ≠ q.1) → q ∈ delB l n → q.1 ≠ n
  | [], _, _, _, h => by simp [delB] at h
  | (m, b0) :: l, n, q, hp, h => by
    unfold delB at h
    obtain ⟨hp1, hp2⟩ := List.pairwise_cons.1 hp
    cases e : Nat.beq m n with
    | true =>
      rw [e] at h
      have := hp1 q h
      simp only [Nat.eq_of_beq_eq_true e] at this
      exact Ne.symm this
    | false =>
      rw [e] at h
      rcases List.mem_cons.1 h with rfl | h
      · exact Nat.ne_of_beq_eq_false e
      · exact delB_ne hp2 h

noncomputable def AS.put (st : AS) (d : Option Tmp) (v : AV) : AS :=
  match d with
  | some d => { st with tm := setL st.tm d v }
  | none => st
/-- a constant of the text -/
def cv : Value → SV
  | .int k n => .li k n
  | .bool v => .lb v
  | v => .c v
theorem cv_val (β : Nat → Nat × Nat) (v : Value) : (cv v).val β = v := by cases v <;> simp [cv, SV.val]
theorem cv_bd (n : Nat) (v : Value) : (cv v).bd n := by cases v <;> simp [cv, SV.bd]
noncomputable def AS.ev (st : AS) : Operand → AV
  | .tmp t => getL und st.tm t
  | .const v => .e (.x (cv v))
  | .global g => .e (.x (.c (.pointer (some ⟨g, 0, none⟩))))
  | .func f => .e (.x (.f f []))
def AS.new (st : AS) (b : Blk) : AS := { st with hp := (st.nx, b) :: st.hp, nx := st.nx + 1 }

structure WfM (st : AS) : Prop where
  hp : ∀ q ∈ st.hp, q.1 < st.nx ∧ q.2.bd st.nx
  nd : st.hp.Pairwise (fun p q => p.1 ≠ q.1)
structure Wf (st : AS) : Prop extends WfM st where
  tm : ∀ v ∈ st.tm, AV.bd st.nx v
  dfb : ∀ q ∈ st.df, ∀ v ∈ q.2, AV.bd st.nx v
/-- the calls that are put off -/
def dfs (β : Nat → Nat × Nat) (l : List (Nat × List AV)) : List Deferred := l.map fun q => { target := .fn (.func q.1) #[], args := (q.2.map (AV.val β)).toArray }
theorem dfs_agree {n : Nat} {β β' : Nat → Nat × Nat} (h : Agree n β β') {l : List (Nat × List AV)} (hb : ∀ q ∈ l, ∀ v ∈ q.2, AV.bd n v) : dfs β' l = dfs β l := by
  unfold dfs
  refine List.map_congr_left fun q hq => ?_
  congr 2
  exact List.map_congr_left fun v hv => AV.val_agree h (hb q hq v hv)

/-- a block holds these cells at its head, and so many in all -/
def Kn (b : Nat × Nat) (cs : List Value) (ty : TypeId) (w : World) : Prop := ∃ tail : List Value, w.heap[b.1]? = some (.cells (cs ++ tail).toArray ty (0, 0)) ∧ cs.length + tail.length = b.2

/-- memory is as the state says: below the blocks of w0 all is as it was but for the blocks M -/
structure Mm (w0 : World) (M : List Nat) (β : Nat → Nat × Nat) (st : AS) (w : World) : Prop where
  os : w.os = w0.os
  tape : w.tape = w0.tape
  output : w.output = w0.output
  size : w0.heap.size ≤ w.heap.size
  keep : ∀ k, k < w0.heap.size → k ∉ M → w.heap[k]? = w0.heap[k]?
  apart : ∀ p ∈ st.hp, ∀ q ∈ st.hp, p.1 ≠ q.1 → (β p.1).1 ≠ (β q.1).1
  base : ∀ q ∈ st.hp, st.lo ≤ q.1 → w0.heap.size ≤ (β q.1).1 ∨ (β q.1).1 ∈ M
  has : ∀ q ∈ st.hp, Kn (β q.1) (q.2.vals β) q.2.ty w
  frz : ∀ k o, st.mem k = some o → w.heap[k]? = some o ∧ ∀ q ∈ st.hp, st.lo ≤ q.1 → (β q.1).1 ≠ k

/-- the frame and the world are as the state says, its names standing for the blocks β -/
structure Is (w0 : World) (M : List Nat) (β : Nat → Nat × Nat) (st : AS) (a : Act) (w : World) : Prop where
  tm : a.tmps = (st.tm.map (AV.val β)).toArray
  df : a.defers = dfs β st.df
  mem : Mm w0 M β st w
  wf : Wf st

section
variable {w0 w w' : World} {M : List Nat} {β : Nat → Nat × Nat} {st : AS} {a : Act}

theorem Kn.lt {b : Nat × Nat} {cs : List Value} {ty : TypeId} (h : Kn b cs ty w) : b.1 < w.heap.size := by
  obtain ⟨tail, h, _⟩ := h
  exact (Array.getElem?_eq_some_iff.1 h).1
theorem Kn.grow {b : Nat × Nat} {cs : List Value} {ty : TypeId} (h : Kn b cs ty w) (hb : Below w.heap.size w w') : Kn b cs ty w' := by
  have hl := h.lt
  obtain ⟨tail, h, e⟩ := h
  exact ⟨tail, by rw [hb.block _ hl]; exact h, e⟩
theorem Kn.cell {b : Nat × Nat} {cs : List Value} {ty : TypeId} (h : Kn b cs ty w) {i : Nat} {v : Value} (hv : cs[i]? = some v) : w.cell? ⟨b.1, i, none⟩ = some v := by
  obtain ⟨tail, h, _⟩ := h
  have hi := (List.getElem?_eq_some_iff.1 hv).1
  simp [World.cell?, h, List.getElem?_append_left hi, hv]

theorem Mm.grow (h : Mm w0 M β st w) (hb : Below w.heap.size w w') : Mm w0 M β st w' :=
  ⟨hb.os.trans h.os, hb.tape.trans h.tape, hb.output.trans h.output, Nat.le_trans h.size hb.size,
   fun k hk hm => (hb.block k (Nat.lt_of_lt_of_le hk h.size)).trans (h.keep k hk hm), h.apart, h.base,
   fun p hp => (h.has p hp).grow hb,
   fun k o ho => by
     obtain ⟨h1, h2⟩ := h.frz k o ho
     exact ⟨(hb.block k (Array.getElem?_eq_some_iff.1 h1).1).trans h1, h2⟩⟩

/-- fewer blocks known -/
theorem Mm.sub {st' : AS} (h : Mm w0 M β st w) (h1 : ∀ q ∈ st'.hp, q ∈ st.hp) (h2 : ∀ k o, st'.mem k = some o → st.mem k = some o) (h3 : st.lo ≤ st'.lo) : Mm w0 M β st' w :=
  ⟨h.os, h.tape, h.output, h.size, h.keep, fun p hp q hq => h.apart p (h1 p hp) q (h1 q hq), fun q hq hl => h.base q (h1 q hq) (Nat.le_trans h3 hl), fun q hq => h.has q (h1 q hq),
   fun k o ho => ⟨(h.frz k o (h2 k o ho)).1, fun q hq hl => (h.frz k o (h2 k o ho)).2 q (h1 q hq) (Nat.le_trans h3 hl)⟩⟩

theorem Mm.agree {β' : Nat → Nat × Nat} (h : Mm w0 M β st w) (hw : ∀ q ∈ st.hp, q.1 < st.nx ∧ q.2.bd st.nx) (ha : Agree st.nx β β') : Mm w0 M β' st w :=
  ⟨h.os, h.tape, h.output, h.size, h.keep, fun p hp q hq hn => by rw [ha _ (hw p hp).1, ha _ (hw q hq).1]; exact h.apart p hp q hq hn,
   fun q hq hl => by rw [ha _ (hw q hq).1]; exact h.base q hq hl,
   fun q hq => by rw [ha _ (hw q hq).1, Blk.vals_agree ha (hw q hq).2]; exact h.has q hq,
   fun k o ho => ⟨(h.frz k o ho).1, fun q hq hl => by rw [ha _ (hw q hq).1]; exact (h.frz k o ho).2 q hq hl⟩⟩

/-- a new block under the next name -/
theorem Mm.new (h : Mm w0 M β st w) (hw : ∀ q ∈ st.hp, q.1 < st.nx ∧ q.2.bd st.nx) {B : Blk} (hB : B.bd st.nx) {b tot : Nat} (hb : w.heap.size ≤ b) (hg : Below w.heap.size w w') (hk : Kn (b, tot) (B.vals β) B.ty w') :
    Mm w0 M (fun k => if k = st.nx then (b, tot) else β k) (st.new B) w' := by
  have hag : Agree st.nx β (fun k => if k = st.nx then (b, tot) else β k) := fun k hk => by simp [Nat.ne_of_lt hk]
  have g := (h.grow hg).agree hw hag
  have hlt : ∀ q ∈ st.hp, (β q.1).1 < w.heap.size := fun q hq => (h.has q hq).lt
  refine ⟨g.os, g.tape, g.output, g.size, g.keep, fun p hp q hq hn => ?_, fun q hq hl => ?_, fun q hq => ?_, fun k o ho => ?_⟩
  · simp only [AS.new, List.mem_cons] at hp hq
    rcases hp with rfl | hp <;> rcases hq with rfl | hq
    · exact absurd rfl hn
    · have := hlt q hq
      simp only [if_true, if_neg (Nat.ne_of_lt (hw q hq).1)]
      intro e; omega
    · have := hlt p hp
      simp only [if_true, if_neg (Nat.ne_of_lt (hw p hp).1)]
      intro e; omega
    · exact g.apart p hp q hq hn
  · simp only [AS.new, List.mem_cons] at hq
    rcases hq with rfl | hq
    · simp only [if_true]; exact .inl (Nat.le_trans h.size hb)
    · exact g.base q hq hl
  · simp only [AS.new, List.mem_cons] at hq
    rcases hq with rfl | hq
    · simp only [if_true]
      rw [Blk.vals_agree hag hB]; exact hk
    · exact g.has q hq
  · obtain ⟨g1, g2⟩ := g.frz k o ho
    refine ⟨g1, fun q hq hl => ?_⟩
    simp only [AS.new, List.mem_cons] at hq
    rcases hq with rfl | hq
    · simp only [if_true]
      have := (Array.getElem?_eq_some_iff.1 (h.frz k o ho).1).1
      intro e; omega
    · exact g2 q hq hl
theorem WfM.new (h : WfM st) {B : Blk} (hB : B.bd st.nx) : WfM (st.new B) :=
  ⟨fun q hq => by
    rcases List.mem_cons.1 hq with rfl | hq
    · exact ⟨Nat.lt_succ_self _, hB.mono (Nat.le_succ _)⟩
    · obtain ⟨h1, h2⟩ := h.hp q hq
      exact ⟨Nat.lt_succ_of_lt h1, h2.mono (Nat.le_succ _)⟩,
   List.pairwise_cons.2 ⟨fun q hq => Nat.ne_of_gt (h.hp q hq).1, h.nd⟩⟩
theorem Wf.new (h : Wf st) {B : Blk} (hB : B.bd st.nx) : Wf (st.new B) := ⟨h.toWfM.new hB, fun v hv => (h.tm v hv).mono (Nat.le_succ _), fun q hq v hv => (h.dfb q hq v hv).mono (Nat.le_succ _)⟩
theorem WfM.set (h : WfM st) {n : Nat} {B' : Blk} (hn : n < st.nx) (hB : B'.bd st.nx) : WfM { st with hp := setB st.hp n B' } := by
  refine ⟨fun q hq => ?_, ?_⟩
  · rcases setB_mem h.nd hq with ⟨e1, e2⟩ | ⟨_, e2⟩
    · exact ⟨by rw [e1]; exact hn, by rw [e2]; exact hB⟩
    · exact h.hp q e2
  · have := List.pairwise_map.2 h.nd
    rw [← setB_keys st.hp n B'] at this
    exact List.pairwise_map.1 this
theorem WfM.sub {st' : AS} (h : WfM st) (h1 : st'.hp.Sublist st.hp) (h2 : st'.nx = st.nx) : WfM st' :=
  ⟨fun q hq => by rw [h2]; exact h.hp q (h1.subset hq), h.nd.sublist h1⟩

theorem Kn.full {b : Nat} {cs : List Value} {ty : TypeId} (h : w.heap[b]? = some (.cells cs.toArray ty (0, 0))) : Kn (b, cs.length) cs ty w := ⟨[], by simpa using h, by simp⟩

/-- a block is written -/
theorem Mm.set (h : Mm w0 M β st w) (_hw : ∀ q ∈ st.hp, q.1 < st.nx ∧ q.2.bd st.nx) (hnd : st.hp.Pairwise (fun p q => p.1 ≠ q.1)) {n : Nat} {B B' : Blk} (hB : getB st.hp n = some B) (hlo : st.lo ≤ n) {ob : Obj}
    (he : w'.heap = w.heap.setIfInBounds (β n).1 ob) (h1 : w'.os = w.os) (h2 : w'.tape = w.tape) (h3 : w'.output = w.output) (hk : Kn (β n) (B'.vals β) B'.ty w') : Mm w0 M β { st with hp := setB st.hp n B' } w' := by
  have hm := getB_mem hB
  have hne : ∀ k, k ≠ (β n).1 → w'.heap[k]? = w.heap[k]? := fun k hk => by rw [he, Array.getElem?_setIfInBounds_ne (Ne.symm hk)]
  have hin : ∀ q ∈ setB st.hp n B', q.1 = n ∧ q.2 = B' ∨ q.1 ≠ n ∧ q ∈ st.hp := fun q hq => setB_mem hnd hq
  refine ⟨h1.trans h.os, h2.trans h.tape, h3.trans h.output, by rw [he]; simpa using h.size, fun k hk hM => ?_, fun p hp q hq hn => ?_, fun q hq hl => ?_, fun q hq => ?_, fun k o ho => ?_⟩
  · rw [hne k]
    · exact h.keep k hk hM
    · intro e
      rcases h.base _ hm hlo with hb | hb
      · simp only at hb; omega
      · exact hM (e ▸ hb)
  · rcases hin p hp with ⟨e1, e2⟩ | ⟨e1, e2⟩ <;> rcases hin q hq with ⟨f1, f2⟩ | ⟨f1, f2⟩
    · exact absurd (e1.trans f1.symm) hn
    · rw [e1]; exact h.apart _ hm q f2 (Ne.symm f1)
    · rw [f1]; exact h.apart p e2 _ hm e1
    · exact h.apart p e2 q f2 hn
  · rcases hin q hq with ⟨e1, e2⟩ | ⟨e1, e2⟩
    · rw [e1]; exact h.base _ hm hlo
    · exact h.base q e2 hl
  · rcases hin q hq with ⟨e1, e2⟩ | ⟨e1, e2⟩
    · rw [e1, e2]; exact hk
    · obtain ⟨tail, t1, t2⟩ := h.has q e2
      exact ⟨tail, by rw [hne _ (h.apart q e2 _ hm e1)]; exact t1, t2⟩
  · obtain ⟨g1, g2⟩ := h.frz k o ho
    refine ⟨by rw [hne k (fun e => g2 _ hm hlo e.symm)]; exact g1, fun q hq hl => ?_⟩
    rcases hin q hq with ⟨e1, e2⟩ | ⟨e1, e2⟩
    · rw [e1]; exact g2 _ hm hlo
    · exact g2 q e2 hl

theorem Is.eval (h : Is w0 M β st a w) (x : Operand) : a.eval x = (st.ev x).val β := by
  cases x with
  | tmp t =>
    simp only [Act.eval, AS.ev, h.tm, getL_eq]
    by_cases ht : t < st.tm.length
    · simp [ht]
    · simp [ht, und_val]
  | const v => exact (cv_val β v).symm
  | global g => simp [Act.eval, AS.ev, AV.val, EV.val, SV.val]
  | func f => simp [Act.eval, AS.ev, AV.val, EV.val, SV.val]

theorem Wf.ev (h : Wf st) (x : Operand) : (st.ev x).bd st.nx := by
  cases x with
  | tmp t =>
    simp only [AS.ev, getL_eq]
    by_cases ht : t < st.tm.length
    · simp only [List.getD_eq_getElem?_getD, List.getElem?_eq_getElem ht, Option.getD_some]
      exact h.tm _ (List.getElem_mem ht)
    · simp only [List.getD_eq_getElem?_getD, List.getElem?_eq_none (Nat.le_of_not_lt ht), Option.getD_none]
      exact und_bd _
  | const v => exact cv_bd _ v
  | global g => simp [AS.ev, AV.bd, EV.bd, SV.bd]
  | func f => simp [AS.ev, AV.bd, EV.bd, SV.bd]

theorem Wf.put (h : Wf st) (d : Option Tmp) {v : AV} (hv : v.bd st.nx) : Wf (st.put d v) := by
  cases d with
  | none => exact h
  | some d =>
    refine ⟨⟨h.hp, h.nd⟩, fun u hu => ?_, h.dfb⟩
    simp only [AS.put, setL_eq] at hu
    rcases List.mem_or_eq_of_mem_set hu with hu | rfl
    · exact h.tm u hu
    · exact hv
theorem put_nx (st : AS) (d : Option Tmp) (v : AV) : (st.put d v).nx = st.nx := by cases d <;> rfl
theorem put_hp (st : AS) (d : Option Tmp) (v : AV) : (st.put d v).hp = st.hp := by cases d <;> rfl
theorem put_lo (st : AS) (d : Option Tmp) (v : AV) : (st.put d v).lo = st.lo := by cases d <;> rfl
theorem put_mem (st : AS) (d : Option Tmp) (v : AV) : (st.put d v).mem = st.mem := by cases d <;> rfl
theorem put_len (s : AS) (d : Option Tmp) (v : AV) : (s.put d v).tm.length = s.tm.length := by
  cases d with
  | none => rfl
  | some d => simp [AS.put, setL_eq]
theorem put_df (st : AS) (d : Option Tmp) (v : AV) : (st.put d v).df = st.df := by cases d <;> rfl
theorem Mm.of_eq {st' : AS} (h : Mm w0 M β st w) (h1 : st'.hp = st.hp) (h2 : st'.mem = st.mem) (h3 : st'.lo = st.lo) : Mm w0 M β st' w :=
  h.sub (fun q hq => by rw [← h1]; exact hq) (fun k o ho => by rw [← h2]; exact ho) (by omega)
theorem Mm.put (h : Mm w0 M β st w) (d : Option Tmp) (v : AV) : Mm w0 M β (st.put d v) w := h.of_eq (put_hp ..) (put_mem ..) (put_lo ..)
theorem Is.put (h : Is w0 M β st a w) (hS : Mm w0 M β st w') (d : Option Tmp) {v : AV} (hv : v.bd st.nx) : Is w0 M β (st.put d v) (a.put d (v.val β)) w' := by
  refine ⟨?_, by rw [put_df, ← h.df]; cases d <;> rfl, hS.put d v, h.wf.put d hv⟩
  cases d with
  | none => exact h.tm
  | some d =>
    simp only [Act.put, AS.put, h.tm, setL_eq]
    apply Array.ext'
    simp [List.map_set]
end
end Go.Fe
