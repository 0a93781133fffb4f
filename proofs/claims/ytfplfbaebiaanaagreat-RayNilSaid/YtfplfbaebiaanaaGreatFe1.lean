/- What is still to be shown, as data; the program's tables; operations that look at no memory. -/
import Derived.Test.YtfplfbaebiaanaaGreatFe0
noncomputable section
namespace Go.Fe
open Go.RowKit Go.Reg Go.Sort Go.Sy

/-! ### What is still to be shown -/
inductive VC (α : Type) : Type 1
  | ret (a : α)
  | fail
  | ob (p : Prop) (k : VC α)
  | br (b : Bool) (k : Bool → VC α)
  | all (ι : Type) (k : ι → VC α)
  | imp (p : Prop) (k : VC α)

structure brk (b : Bool) (f : Bool → Prop) : Prop where
  out : f b
theorem brk_intro {b : Bool} {f : Bool → Prop} (h1 : b = true → f true) (h2 : b = false → f false) : brk b f := by
  refine ⟨?_⟩
  cases b with
  | true => exact h1 rfl
  | false => exact h2 rfl

def VC.holds {α : Type} : VC α → (α → Prop) → Prop
  | .ret a, K => K a
  | .fail, _ => False
  | .ob p k, K => p ∧ k.holds K
  | .br b k, K => brk b fun b' => (k b').holds K
  | .all _ k, K => ∀ i, (k i).holds K
  | .imp p k, K => p → k.holds K
def VC.bind {α : Type} {β : Type} : VC α → (α → VC β) → VC β
  | .ret a, f => f a
  | .fail, _ => .fail
  | .ob p k, f => .ob p (k.bind f)
  | .br b k, f => .br b fun b' => (k b').bind f
  | .all ι k, f => .all ι fun i => (k i).bind f
  | .imp p k, f => .imp p (k.bind f)
theorem VC.holds_mono {α : Type} : ∀ {t : VC α} {K K' : α → Prop}, (∀ a, K a → K' a) → t.holds K → t.holds K'
  | .ret _, _, _, hk, h => hk _ h
  | .fail, _, _, _, h => h
  | .ob _ k, _, _, hk, h => ⟨h.1, k.holds_mono hk h.2⟩
  | .br b k, _, _, hk, h => ⟨(k b).holds_mono hk h.out⟩
  | .all _ k, _, _, hk, h => fun i => (k i).holds_mono hk (h i)
  | .imp _ k, _, _, hk, h => fun hp => k.holds_mono hk (h hp)
theorem VC.holds_bind {α : Type} {β : Type} : ∀ {t : VC α} {f : α → VC β} {K : β → Prop}, (t.bind f).holds K → t.holds fun a => (f a).holds K
  | .ret _, _, _, h => h
  | .fail, _, _, h => h
  | .ob _ k, _, _, h => ⟨h.1, k.holds_bind h.2⟩
  | .br b k, _, _, h => ⟨(k b).holds_bind h.out⟩
  | .all _ k, _, _, h => fun i => (k i).holds_bind (h i)
  | .imp _ k, _, _, h => fun hp => k.holds_bind (h hp)
def VC.ofO {α : Type} : Option α → VC α
  | some a => .ret a
  | none => .fail

/-! ### The program's tables -/
inductive LT (α : Type)
  | l
  | n (k : Nat) (v : α) (a b : LT α)
def LT.look {α : Type} : LT α → Nat → Option α
  | .l, _ => none
  | .n k v a b, m => bif Nat.beq m k then some v else bif Nat.blt m k then a.look m else b.look m
def LT.all {α : Type} (f : Nat → α → Bool) : LT α → Bool
  | .l => true
  | .n k v a b => f k v && a.all f && b.all f
theorem LT.all_look {α : Type} {f : Nat → α → Bool} : ∀ {t : LT α}, t.all f = true → ∀ {m : Nat} {v : α}, t.look m = some v → f m v = true
  | .l, _, _, _, h => by simp [LT.look] at h
  | .n k v a b, h, m, u, hl => by
    simp only [LT.all, Bool.and_eq_true] at h
    simp only [LT.look] at hl
    cases e : Nat.beq m k with
    | true =>
      rw [e] at hl; simp at hl; subst hl
      rw [Nat.eq_of_beq_eq_true e]; exact h.1.1
    | false =>
      rw [e] at hl
      cases e2 : Nat.blt m k with
      | true => rw [e2] at hl; exact LT.all_look h.1.2 hl
      | false => rw [e2] at hl; exact LT.all_look h.2 hl
/-- the entries, as a list -/
def LT.list {α : Type} : LT α → List (Nat × α)
  | .l => []
  | .n k v a b => a.list ++ (k, v) :: b.list
theorem LT.look_mem {α : Type} : ∀ {t : LT α} {m : Nat} {v : α}, t.look m = some v → (m, v) ∈ t.list
  | .l, _, _, h => by simp [LT.look] at h
  | .n k v a b, m, u, hl => by
    simp only [LT.look] at hl
    simp only [LT.list, List.mem_append, List.mem_cons]
    cases e : Nat.beq m k with
    | true =>
      rw [e] at hl; simp at hl; subst hl
      rw [Nat.eq_of_beq_eq_true e]; exact .inr (.inl rfl)
    | false =>
      rw [e] at hl
      cases e2 : Nat.blt m k with
      | true => rw [e2] at hl; exact .inl (LT.look_mem hl)
      | false => rw [e2] at hl; exact .inr (.inr (LT.look_mem hl))

/-- a type: its size in cells, whether it is of several, its fields' places and types, an array's length and element, a slice's element, an int's kind, what its cells are at first, its parts' places and sizes, which kind of other type it is (1: bool, 2: pointer, 3: string) -/
structure Ty where
  sz : Nat
  ag : Bool
  fo : List (Nat × Nat)
  ar : Option (Nat × Nat)
  sl : Option Nat
  ik : Option IntKind
  zr : Option (List Value)
  pl : Option (List (Nat × Nat))
  kd : Nat
  bt : Nat
  eq : Option (List Value)
abbrev Tab := Unit → LT Ty

def fieldOf (P : Program) (t f : Nat) : Option (Nat × Nat) := match P.underlying t with
  | some (.struct fs) => (fs[f]?).map fun x => (x.offset, x.type)
  | _ => none
def arrOf (P : Program) (t : Nat) : Option (Nat × Nat) := match P.underlying t with
  | some (.array n e) => some (n, e)
  | _ => none
def slcOf (P : Program) (t : Nat) : Option Nat := match P.underlying t with
  | some (.slice e) => some e
  | _ => none
def ikOf (P : Program) (t : Nat) : Option IntKind := match P.underlying t with
  | some (.int k) => some k
  | _ => none
def kdOf (P : Program) (t : Nat) : Nat := match P.underlying t with
  | some .bool => 1
  | some (.pointer _) => 2
  | some .string => 3
  | some .unsafePointer => 4
  | _ => 0
/-- a pointer to what is no empty struct -/
def nzP (P : Program) (t : Nat) : Bool := match P.underlying t with
  | some (.pointer e) => (P.info? e).map (fun i => decide (i.size = 0)) == some false
  | _ => false
def byOf (P : Program) (t : Nat) : Option Nat := (P.info? t).map (·.bytes)

def tyB (P : Program) (t : Nat) (q : Ty) : Bool :=
  szOf P t == some q.sz && aggOf P t == some q.ag && byOf P t == some q.bt && ((List.range q.fo.length).all fun f => fieldOf P t f == q.fo[f]?) && (q.ar.isNone || arrOf P t == q.ar) && (q.sl.isNone || slcOf P t == q.sl) && (q.ik.isNone || ikOf P t == q.ik) && (Nat.beq q.kd 0 || Nat.beq (kdOf P t) q.kd || (Nat.beq q.kd 5 && nzP P t))

/-- two cells alike, of the kinds that '==' can compare without memory -/
def cEq : Value → Value → Bool
  | .int _ a, .int _ b => a == b
  | .bool a, .bool b => a == b
  | .string a, .string b => a == b
  | _, _ => false
def cEqL : List Value → List Value → Bool
  | a :: l, b :: r => cEq a b && cEqL l r
  | [], [] => true
  | _, _ => false
def sameK : Value → Value → Bool
  | .int k _, .int k' _ => decide (k = k')
  | .bool _, .bool _ => true
  | .string _, .string _ => true
  | _, _ => false
def sameKL : List Value → List Value → Bool
  | a :: l, b :: r => sameK a b && sameKL l r
  | [], [] => true
  | _, _ => false
structure EqTy (P : Program) (t : Nat) (zs : List Value) : Prop where
  guard : P.eqGuardType P.depth t = false
  run : ∀ (xs ys : List Value) (w : World), sameKL zs xs = true → sameKL zs ys = true → (Op.equal t (.agg xs.toArray) (.agg ys.toArray)).run P w = .ok (cEqL xs ys) w

structure TyOk (P : Program) (t : Nat) (q : Ty) : Prop where
  sz : szOf P t = some q.sz
  ag : aggOf P t = some q.ag
  bt : byOf P t = some q.bt
  fo : ∀ {f o y}, q.fo[f]? = some (o, y) → fieldOf P t f = some (o, y)
  ar : ∀ {n e}, q.ar = some (n, e) → P.underlying t = some (.array n e)
  sl : ∀ {e}, q.sl = some e → P.underlying t = some (.slice e)
  ik : ∀ {k}, q.ik = some k → P.underlying t = some (.int k)
  bo : q.kd = 1 → P.underlying t = some .bool
  pt : q.kd = 2 → ∃ e, P.underlying t = some (.pointer e)
  st : q.kd = 3 → P.underlying t = some .string
  up : q.kd = 4 → P.underlying t = some .unsafePointer
  np : q.kd = 5 → ∃ e, P.underlying t = some (.pointer e) ∧ (P.info? e).map (fun i => decide (i.size = 0)) = some false
  zr : ∀ {cs}, q.zr = some cs → cs.length = q.sz ∧ ∀ w, ∃ v, (zeroValue t).run P w = .ok v w ∧ v.cells = cs.toArray
  pl : ∀ {pl}, q.pl = some pl → ∃ fs, P.underlying t = some (.struct fs) ∧ ∀ w, (fs.mapM fun f => do pure (f.offset, ← sizeOf f.type) : Sem (Array (Nat × Nat))).run P w = .ok pl.toArray w
  eq : ∀ {zs}, q.eq = some zs → EqTy P t zs
def TabOk (P : Program) (tb : Tab) : Prop := ∀ {t q}, (tb ()).look t = some q → TyOk P t q

theorem TabOk.of {P : Program} {tb : Tab} (h : (tb ()).all (tyB P) = true) (hz : ∀ p ∈ (tb ()).list, ∀ cs, p.2.zr = some cs → cs.length = p.2.sz ∧ ∀ w, ∃ v, (zeroValue p.1).run P w = .ok v w ∧ v.cells = cs.toArray)
    (hs : ∀ p ∈ (tb ()).list, ∀ pl, p.2.pl = some pl → ∃ fs, P.underlying p.1 = some (.struct fs) ∧ ∀ w, (fs.mapM fun f => do pure (f.offset, ← sizeOf f.type) : Sem (Array (Nat × Nat))).run P w = .ok pl.toArray w)
    (he : ∀ p ∈ (tb ()).list, ∀ zs, p.2.eq = some zs → EqTy P p.1 zs) : TabOk P tb := by
  intro t q hl
  have hm := LT.look_mem hl
  have h := LT.all_look h hl
  simp only [tyB, Bool.and_eq_true, beq_iff_eq, Bool.or_eq_true, Option.isNone_iff_eq_none] at h
  obtain ⟨⟨⟨⟨⟨⟨⟨h1, h2⟩, h2b⟩, h3⟩, h4⟩, h5⟩, h6⟩, h7⟩ := h
  refine ⟨h1, h2, h2b, ?_, ?_, ?_, ?_, ?_, ?_, ?_, ?_, ?_, fun hq => hz _ hm _ hq, fun hq => hs _ hm _ hq, fun hq => he _ hm _ hq⟩
  · intro f o y hf
    have hlt := (List.getElem?_eq_some_iff.1 hf).1
    have := List.all_eq_true.1 h3 f (List.mem_range.2 hlt)
    simp only [beq_iff_eq] at this
    rw [this, hf]
  · intro n e hq
    rw [hq] at h4
    rcases h4 with h4 | h4
    · cases h4
    · unfold arrOf at h4
      split at h4
      · rename_i n' e' he; simp at h4; rw [he, h4.1, h4.2]
      · cases h4
  · intro e hq
    rw [hq] at h5
    rcases h5 with h5 | h5
    · cases h5
    · unfold slcOf at h5
      split at h5
      · rename_i e' he; simp at h5; rw [he, h5]
      · cases h5
  · intro k hq
    rw [hq] at h6
    rcases h6 with h6 | h6
    · cases h6
    · unfold ikOf at h6
      split at h6
      · rename_i e' he; simp at h6; rw [he, h6]
      · cases h6
  case refine_9 =>
    intro hq
    rw [hq] at h7
    rcases h7 with (h7 | h7) | h7
    · cases h7
    · exfalso
      have h7 := Nat.eq_of_beq_eq_true h7
      unfold kdOf at h7
      split at h7 <;> omega
    · have h8 := h7.2
      unfold nzP at h8
      split at h8
      · rename_i e he; exact ⟨e, he, by simpa using h8⟩
      · cases h8
  all_goals
    intro hq
    rw [hq] at h7
    have h7 := Nat.eq_of_beq_eq_true ((h7.resolve_right (by simp)).resolve_left (by decide))
    unfold kdOf at h7
    split at h7 <;> first | (rename_i he; first | exact he | exact ⟨_, he⟩) | (exfalso; omega)

/-! ### Ints and Bools -/
/-- a run that asks nothing of the world -/
def exP {α : Type} : Sem α → Option α
  | .pure a => some a
  | _ => none
theorem exP_run {α : Type} {s : Sem α} {a : α} (h : exP s = some a) (P : Program) (w : World) : s.run P w = .ok a w := by
  cases s <;> simp [exP] at h
  subst h; rfl

structure InR (k : IntKind) (n : Int) : Prop where
  out : k.wrap n = n
structure NZ (n : Int) : Prop where
  out : n ≠ 0
structure NN (n : Int) : Prop where
  out : 0 ≤ n
structure IxIn (i : Int) (n : Nat) : Prop where
  out : 0 ≤ i ∧ i < n
def hI (h : Hid) (t : Unit → Int) : Int := h.f Int t
def hB (h : Hid) (t : Unit → Bool) : Bool := h.f Bool t
def hN (h : Hid) (t : Unit → Nat) : Nat := h.f Nat t
theorem hI_eq (h : Hid) (t : Unit → Int) : hI h t = t () := h.ok _ _
theorem hB_eq (h : Hid) (t : Unit → Bool) : hB h t = t () := h.ok _ _
theorem hN_eq (h : Hid) (t : Unit → Nat) : hN h t = t () := h.ok _ _

def bitI (op : BinOp) (k : IntKind) (m n : Int) : Int :=
  let a := BitVec.ofInt k.bits m
  let b := BitVec.ofInt k.bits n
  match op with
  | .and => k.wrap (a &&& b).toNat
  | .or => k.wrap (a ||| b).toNat
  | .xor => k.wrap (a ^^^ b).toNat
  | _ => k.wrap (a &&& ~~~b).toNat
def shI (op : BinOp) (k : IntKind) (m n : Int) : Int := match op with
  | .shl => k.wrap (m * 2 ^ min n.toNat k.bits)
  | _ => m.fdiv (2 ^ min n.toNat k.bits)

def cI (k : IntKind) (n : Int) : VC AV := .ret (.e (.x (.c (.int k n))))
def cB (b : Bool) : VC AV := .ret (.e (.x (.c (.bool b))))
/-- what a sum owes: that it fits, if it is signed -/
def sumI (hd : Hid) (k : IntKind) (t : Unit → Int) : VC AV := match k.signed with
  | true => .ob (InR k (hI hd t)) (cI k (hI hd t))
  | false => cI k (hI hd fun _ => k.wrap (t ()))
/-- an int's operator, not all of it known -/
def binS (hd : Hid) (op : BinOp) (k k' : IntKind) (m n : Int) : VC AV :=
  match op with
  | .shl => .ob (NN n) (cI k (hI hd fun _ => shI .shl k m n))
  | .shr => .ob (NN n) (cI k (hI hd fun _ => shI .shr k m n))
  | _ => bif decide (k = k') then (match op with
    | .add => sumI hd k fun _ => m + n
    | .sub => sumI hd k fun _ => m - n
    | .mul => sumI hd k fun _ => m * n
    | .quo => .ob (NZ n) (.ob (InR k (hI hd fun _ => m.tdiv n)) (cI k (hI hd fun _ => m.tdiv n)))
    | .rem => .ob (NZ n) (cI k (hI hd fun _ => m.tmod n))
    | .eql => cB (hB hd fun _ => m == n)
    | .neq => cB (hB hd fun _ => !(m == n))
    | .lss => cB (hB hd fun _ => decide (m < n))
    | .leq => cB (hB hd fun _ => decide (m ≤ n))
    | .gtr => cB (hB hd fun _ => decide (n < m))
    | .geq => cB (hB hd fun _ => decide (n ≤ m))
    | .and => cI k (hI hd fun _ => bitI .and k m n)
    | .or => cI k (hI hd fun _ => bitI .or k m n)
    | .xor => cI k (hI hd fun _ => bitI .xor k m n)
    | .andNot => cI k (hI hd fun _ => bitI .andNot k m n)
    | _ => .fail) else .fail

/-- an int, literal or not -/
def isI : AV → Option (Bool × IntKind × Int)
  | .e (.x (.li k n)) => some (true, k, n)
  | .e (.x (.c (.int k n))) => some (false, k, n)
  | _ => none
theorem isI_val {v : AV} {q : Bool × IntKind × Int} (h : isI v = some q) (β : Nat → Nat × Nat) : v.val β = .int q.2.1 q.2.2 := by
  unfold isI at h
  split at h
  · simp at h; subst h; simp [AV.val, EV.val, SV.val]
  · simp at h; subst h; simp [AV.val, EV.val, SV.val]
  · simp at h
def isB : AV → Option Bool
  | .e (.x (.lb b)) => some b
  | .e (.x (.c (.bool b))) => some b
  | _ => none
theorem isB_val {v : AV} {b : Bool} (h : isB v = some b) (β : Nat → Nat × Nat) : v.val β = .bool b := by
  unfold isB at h
  split at h
  · simp at h; subst h; simp [AV.val, EV.val, SV.val]
  · simp at h; subst h; simp [AV.val, EV.val, SV.val]
  · simp at h

def binI (hd : Hid) (l1 l2 : Bool) (op : BinOp) (k k' : IntKind) (m n : Int) : VC AV :=
  match l1, l2 with
  | true, true => match exP (binOp op 0 (.int k m) (.int k' n)) with
    | some v => .ret (.e (.x (cv v)))
    | none => .fail
  | _, _ => binS hd op k k' m n

section
variable {P : Program}
theorem binOp_ty (op : BinOp) (t t' : TypeId) (k k' : IntKind) (m n : Int) : binOp op t (.int k m) (.int k' n) = binOp op t' (.int k m) (.int k' n) := by cases op <;> rfl
theorem sumI_run {hd : Hid} {k : IntKind} {t : Unit → Int} {K : AV → Prop} (h : (sumI hd k t).holds K) : K (.e (.x (.c (.int k (k.wrap (t ())))))) := by
  unfold sumI at h
  split at h
  · obtain ⟨h1, h2⟩ := h
    have := h1.out
    rw [hI_eq] at this
    simp only [cI, VC.holds, hI_eq] at h2
    rw [this]; exact h2
  · simpa only [cI, VC.holds, hI_eq] using h
theorem shl_kinds (op : BinOp) (h : op = .shl ∨ op = .shr) (t : TypeId) (k k' : IntKind) (m n : Int) : binOp op t (.int k m) (.int k' n) = Op.shift op k m k' n := by rcases h with rfl | rfl <;> rfl

/-- an int's operator gives a value, in whatever world -/
theorem binI_run {hd : Hid} {l1 l2 : Bool} {op : BinOp} {k k' : IntKind} {m n : Int} {K : AV → Prop} (t : TypeId) (h : (binI hd l1 l2 op k k' m n).holds K) :
    ∃ v : SV, K (.e (.x v)) ∧ v.bd 0 ∧ ∀ β w, (binOp op t (.int k m) (.int k' n)).run P w = .ok (v.val β) w := by
  unfold binI at h
  split at h
  · split at h
    · rename_i v hv
      refine ⟨cv v, h, cv_bd _ _, fun β w => ?_⟩
      rw [binOp_ty op t 0, exP_run hv, cv_val]
    · exact False.elim h
  · unfold binS at h
    split at h
    · obtain ⟨h1, h2⟩ := h
      simp only [cI, VC.holds, hI_eq] at h2
      have h1 : ¬ n < 0 := by have := h1.out; omega
      exact ⟨_, h2, by simp [SV.bd], fun β w => by simp [shl_kinds, Op.shift, h1, SV.val, shI]⟩
    · obtain ⟨h1, h2⟩ := h
      simp only [cI, VC.holds, hI_eq] at h2
      have h1 : ¬ n < 0 := by have := h1.out; omega
      exact ⟨_, h2, by simp [SV.bd], fun β w => by simp [shl_kinds, Op.shift, h1, SV.val, shI]⟩
    · cases hk : decide (k = k') with
      | false => rw [hk] at h; exact False.elim h
      | true =>
        have hk := of_decide_eq_true hk
        subst hk
        simp only [decide_true, cond_true] at h
        split at h
        · exact ⟨_, sumI_run h, by simp [SV.bd], fun β w => by simp [binOp, Op.intArith, SV.val]⟩
        · exact ⟨_, sumI_run h, by simp [SV.bd], fun β w => by simp [binOp, Op.intArith, SV.val]⟩
        · exact ⟨_, sumI_run h, by simp [SV.bd], fun β w => by simp [binOp, Op.intArith, SV.val]⟩
        · obtain ⟨h1, h2, h3⟩ := h
          have h2 := h2.out
          simp only [cI, VC.holds, hI_eq] at h2 h3
          exact ⟨_, h3, by simp [SV.bd], fun β w => by simp [binOp, Op.intDiv, SV.val, h2, h1.out]⟩
        · obtain ⟨h1, h3⟩ := h
          simp only [cI, VC.holds, hI_eq] at h3
          exact ⟨_, h3, by simp [SV.bd], fun β w => by simp [binOp, Op.intDiv, SV.val, h1.out]⟩
        · simp only [cB, VC.holds, hB_eq] at h
          exact ⟨_, h, by simp [SV.bd], fun β w => by simp [binOp, Op.intCmp, SV.val]⟩
        · simp only [cB, VC.holds, hB_eq] at h
          exact ⟨_, h, by simp [SV.bd], fun β w => by simp [binOp, Op.intCmp, SV.val, bne]⟩
        · simp only [cB, VC.holds, hB_eq] at h
          exact ⟨_, h, by simp [SV.bd], fun β w => by simp [binOp, Op.intCmp, SV.val]⟩
        · simp only [cB, VC.holds, hB_eq] at h
          exact ⟨_, h, by simp [SV.bd], fun β w => by simp [binOp, Op.intCmp, SV.val]⟩
        · simp only [cB, VC.holds, hB_eq] at h
          exact ⟨_, h, by simp [SV.bd], fun β w => by simp [binOp, Op.intCmp, SV.val]⟩
        · simp only [cB, VC.holds, hB_eq] at h
          exact ⟨_, h, by simp [SV.bd], fun β w => by simp [binOp, Op.intCmp, SV.val]⟩
        · simp only [cI, VC.holds, hI_eq] at h
          exact ⟨_, h, by simp [SV.bd], fun β w => by simp [binOp, Op.intBits, SV.val, bitI]⟩
        · simp only [cI, VC.holds, hI_eq] at h
          exact ⟨_, h, by simp [SV.bd], fun β w => by simp [binOp, Op.intBits, SV.val, bitI]⟩
        · simp only [cI, VC.holds, hI_eq] at h
          exact ⟨_, h, by simp [SV.bd], fun β w => by simp [binOp, Op.intBits, SV.val, bitI]⟩
        · simp only [cI, VC.holds, hI_eq] at h
          exact ⟨_, h, by simp [SV.bd], fun β w => by simp [binOp, Op.intBits, SV.val, bitI]⟩
        · exact False.elim h
end
end Go.Fe
