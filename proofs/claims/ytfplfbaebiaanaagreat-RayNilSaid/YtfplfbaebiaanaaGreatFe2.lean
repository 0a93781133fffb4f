/- Operations on values: cells of aggregates, addresses, slices; what memory that stays holds. -/
import Derived.Test.YtfplfbaebiaanaaGreatFe1
noncomputable section
namespace Go.Fe
open Go.RowKit Go.Reg Go.Sort Go.Sy

/-! ### Lists of cells -/
def takeN : Nat → List SV → Option (List SV)
  | 0, _ => some []
  | n + 1, x :: l => match takeN n l with
    | some r => some (x :: r)
    | none => none
  | _ + 1, [] => none
def dropN : Nat → List SV → List SV
  | 0, l => l
  | n + 1, _ :: l => dropN n l
  | _ + 1, [] => []
theorem takeN_eq : ∀ {n : Nat} {l r : List SV}, takeN n l = some r → r = l.take n ∧ n ≤ l.length
  | 0, l, r, h => by simp [takeN] at h; simp [h]
  | n + 1, [], r, h => by simp [takeN] at h
  | n + 1, x :: l, r, h => by
    unfold takeN at h
    cases e : takeN n l with
    | none => rw [e] at h; simp at h
    | some q =>
      rw [e] at h; simp at h; subst h
      obtain ⟨h1, h2⟩ := takeN_eq e
      simp [h1, h2]
theorem dropN_eq : ∀ (n : Nat) (l : List SV), dropN n l = l.drop n
  | 0, l => by simp [dropN]
  | n + 1, [] => by simp [dropN]
  | n + 1, x :: l => by simp [dropN, dropN_eq n l]
def lenN : List SV → Nat
  | [] => 0
  | _ :: l => lenN l + 1
theorem lenN_eq : ∀ l : List SV, lenN l = l.length
  | [] => rfl
  | v :: l => by simp [lenN, lenN_eq l]
def overlay : List SV → List SV → Option (List SV)
  | cs, [] => some cs
  | _ :: cs, v :: vs => match overlay cs vs with
    | some r => some (v :: r)
    | none => none
  | [], _ :: _ => none
def spl : List SV → Nat → List SV → Option (List SV)
  | cs, 0, vs => overlay cs vs
  | c :: cs, n + 1, vs => match spl cs n vs with
    | some r => some (c :: r)
    | none => none
  | [], _ + 1, _ => none
theorem overlay_eq : ∀ {cs vs r : List SV}, overlay cs vs = some r → r = vs ++ cs.drop vs.length ∧ vs.length ≤ cs.length
  | cs, [], r, h => by simp [overlay] at h; subst h; simp
  | [], v :: vs, r, h => by simp [overlay] at h
  | c :: cs, v :: vs, r, h => by
    unfold overlay at h
    cases e : overlay cs vs with
    | none => rw [e] at h; simp at h
    | some q =>
      rw [e] at h; simp at h; subst h
      obtain ⟨h1, h2⟩ := overlay_eq e
      simp [h1, h2]
theorem spl_eq : ∀ {cs : List SV} {off : Nat} {vs r : List SV}, spl cs off vs = some r → r = cs.take off ++ vs ++ cs.drop (off + vs.length) ∧ off + vs.length ≤ cs.length
  | cs, 0, vs, r, h => by
    have h : overlay cs vs = some r := by cases cs <;> simpa [spl] using h
    obtain ⟨h1, h2⟩ := overlay_eq h
    simp [h1, h2]
  | [], n + 1, vs, r, h => by simp [spl] at h
  | c :: cs, n + 1, vs, r, h => by
    unfold spl at h
    cases e : spl cs n vs with
    | none => rw [e] at h; simp at h
    | some q =>
      rw [e] at h; simp at h; subst h
      obtain ⟨h1, h2⟩ := spl_eq e
      refine ⟨?_, by simp; omega⟩
      rw [h1]
      simp [show n + 1 + vs.length = (n + vs.length) + 1 by omega]
theorem spl_bd {cs : List SV} {off : Nat} {vs r : List SV} {n : Nat} (h : spl cs off vs = some r) (h1 : ∀ s ∈ cs, SV.bd n s) (h2 : ∀ s ∈ vs, SV.bd n s) : ∀ s ∈ r, SV.bd n s := by
  rw [(spl_eq h).1]
  intro s hs
  rcases List.mem_append.1 hs with hs | hs
  · rcases List.mem_append.1 hs with hs | hs
    · exact h1 s (List.mem_of_mem_take hs)
    · exact h2 s hs
  · exact h1 s (List.mem_of_mem_drop hs)
def nthP : List (Nat × Nat) → Nat → Option (Nat × Nat)
  | [], _ => none
  | x :: _, 0 => some x
  | _ :: l, n + 1 => nthP l n
theorem nthP_eq : ∀ (l : List (Nat × Nat)) (n : Nat), nthP l n = l[n]?
  | [], _ => by simp [nthP]
  | x :: _, 0 => rfl
  | x :: l, n + 1 => by simp [nthP, nthP_eq l n]
def cL : List Value → List SV
  | [] => []
  | v :: l => cv v :: cL l
theorem cL_eq : ∀ l : List Value, cL l = l.map cv
  | [] => rfl
  | v :: l => by simp [cL, cL_eq l]
theorem cL_bd (n : Nat) (zs : List Value) : ∀ s ∈ cL zs, SV.bd n s := by
  rw [cL_eq]; intro s hs
  obtain ⟨v, _, rfl⟩ := List.mem_map.1 hs
  exact cv_bd _ v
theorem cL_val (β : Nat → Nat × Nat) (zs : List Value) : SV.vals β (cL zs) = zs := by
  rw [SV.vals_eq, cL_eq, List.map_map]
  conv => rhs; rw [← List.map_id zs]
  exact List.map_congr_left fun v _ => cv_val β v

/-- what a type reads out of cells from 'off' on -/
def readE (q : Ty) (cs : List SV) (off : Nat) : Option EV :=
  match q.ag with
  | true => match takeN q.sz (dropN off cs) with
    | some l => some (.g l)
    | none => none
  | false => match dropN off cs with
    | x :: _ => some (.x x)
    | [] => none
section
variable {P : Program} {tb : Tab}
theorem readE_reads {t : Nat} {q : Ty} (ok : TyOk P t q) {cs : List SV} {off : Nat} {v : EV} (h : readE q cs off = some v) (β : Nat → Nat × Nat) : Reads P t (SV.vals β cs).toArray off (v.val β) := by
  unfold readE at h
  rw [dropN_eq] at h
  have h1 := ok.sz
  have h2 := ok.ag
  rw [SV.vals_eq]
  split at h
  · rename_i hag
    rw [hag] at h2
    split at h
    · rename_i r hr
      simp at h; subst h
      obtain ⟨e1, e2⟩ := takeN_eq hr
      simp only [EV.val, SV.vals_eq]
      refine reads_agg h2 h1 (vs := r.map (SV.val β)) ?_ ?_
      · rw [e1]; simp; simp at e2; omega
      · intro i c hc
        rw [e1] at hc
        simp only [List.map_take, List.map_drop] at hc
        have hi : i < q.sz := by
          have := (List.getElem?_eq_some_iff.1 hc).1
          simp at this; omega
        rw [List.getElem?_take_of_lt hi, List.getElem?_drop] at hc
        simpa using hc
    · simp at h
  · rename_i hag
    rw [hag] at h2
    split at h
    · rename_i x l hd
      simp at h; subst h
      refine reads_one h2 ?_
      have : (cs.drop off)[0]? = some x := by rw [hd]; rfl
      rw [List.getElem?_drop] at this
      simp at this
      simp [this, EV.val]
    · simp at h
theorem run_part {t : Nat} {q : Ty} (ok : TyOk P t q) {cs : List SV} {off : Nat} {v : EV} (h : readE q cs off = some v) (β : Nat → Nat × Nat) (w : World) : (part t (SV.vals β cs).toArray off).run P w = .ok (v.val β) w := by
  unfold readE at h
  rw [dropN_eq] at h
  have h1 := ok.sz
  have h2 := ok.ag
  rw [SV.vals_eq]
  split at h
  · rename_i hag
    rw [hag] at h2
    split at h
    · rename_i r hr
      simp at h; subst h
      obtain ⟨e1, e2⟩ := takeN_eq hr
      simp only [part, Sem.run_bind, run_isAgg h2, Result.andThen_ok, if_true, Sy.run_sizeOf h1]
      simp only [EV.val, SV.vals_eq, e1]
      simp [List.map_take, List.map_drop]
    · simp at h
  · rename_i hag
    rw [hag] at h2
    split at h
    · rename_i x l hd
      simp at h; subst h
      have : (cs.drop off)[0]? = some x := by rw [hd]; rfl
      rw [List.getElem?_drop] at this
      simp at this
      simp [part, run_isAgg h2, this, EV.val]
    · simp at h
theorem readE_bd {q : Ty} {cs : List SV} {off n : Nat} {v : EV} (h : readE q cs off = some v) (hb : ∀ s ∈ cs, SV.bd n s) : v.bd n := by
  unfold readE at h
  rw [dropN_eq] at h
  split at h
  · split at h
    · rename_i r hr
      simp at h; subst h
      obtain ⟨e1, e2⟩ := takeN_eq hr
      intro s hs
      rw [e1] at hs
      exact hb s (List.mem_of_mem_drop (List.mem_of_mem_take hs))
    · simp at h
  · split at h
    · rename_i x l hd
      simp at h; subst h
      exact hb x (List.mem_of_mem_drop (by rw [hd]; exact List.mem_cons_self))
    · simp at h
end

def cellsOf : AV → Option (List SV)
  | .e (.x (.c v)) => bif v.oneCell' then some [.c v] else none
  | .e (.x v) => some [v]
  | .e (.g l) => some l
  | .t _ => none
theorem cellsOf_val {v : AV} {cs : List SV} (h : cellsOf v = some cs) (β : Nat → Nat × Nat) : (v.val β).cells = (SV.vals β cs).toArray := by
  unfold cellsOf at h
  split at h
  · rename_i u
    cases hu : u.oneCell' with
    | false => rw [hu] at h; simp at h
    | true =>
      rw [hu] at h; simp at h; subst h
      cases u <;> simp [Value.oneCell'] at hu <;> simp [AV.val, EV.val, SV.val, SV.vals, Value.cells]
  · rename_i u hu
    simp at h; subst h
    cases u <;> first | exact absurd rfl (hu _) | simp [AV.val, EV.val, SV.val, SV.vals, Value.cells]
  · simp at h; subst h; rfl
  · simp at h
theorem cellsOf_bd {v : AV} {cs : List SV} {n : Nat} (h : cellsOf v = some cs) (hb : v.bd n) : ∀ s ∈ cs, SV.bd n s := by
  unfold cellsOf at h
  split at h
  · rename_i u
    cases hu : u.oneCell' with
    | false => rw [hu] at h; simp at h
    | true => rw [hu] at h; simp at h; subst h; intro s hs; simp at hs; subst hs; simp [SV.bd]
  · simp at h; subst h; intro s hs; simp at hs; subst hs; exact hb
  · simp at h; subst h; exact hb
  · simp at h

/-- parts laid over cells: each with its place and size -/
def fillS (pl : Nat → Option (Nat × Nat)) (st : AS) : List SV → List (Nat × Operand) → Option (List SV)
  | cs, [] => some cs
  | cs, (i, x) :: r => match pl i, cellsOf (st.ev x) with
    | some (off, m), some vs => bif Nat.beq (lenN vs) m then (match spl cs off vs with
      | some cs' => fillS pl st cs' r
      | none => none) else none
    | _, _ => none
theorem foldl_set (vs : List Value) : ∀ (cs : List Value) (off k : Nat), off + k + vs.length ≤ cs.length →
    (vs.zipIdx k).foldl (fun cs (c, j) => cs.setIfInBounds (off + j) c) cs.toArray = (cs.take (off + k) ++ vs ++ cs.drop (off + k + vs.length)).toArray := by
  induction vs with
  | nil => intro cs off k _; simp
  | cons v vs ih =>
    intro cs off k h
    simp only [List.length_cons] at h
    simp only [List.zipIdx_cons, List.foldl_cons, List.setIfInBounds_toArray]
    rw [ih (cs.set (off + k) v) off (k + 1) (by simp; omega)]
    congr 1
    rw [show off + (k + 1) = off + k + 1 by omega]
    rw [List.take_succ_eq_append_getElem (by simp; omega)]
    simp [List.take_set, List.drop_set, show off + k < off + k + 1 + vs.length by omega, show off + k + (vs.length + 1) = off + k + 1 + vs.length by omega]
    exact List.set_eq_of_length_le (by simp; omega)
theorem fillS_spec {pl : Nat → Option (Nat × Nat)} {st : AS} {β : Nat → Nat × Nat} {ρ : Operand → Value} (hρ : ∀ x, ρ x = (st.ev x).val β) : ∀ {ps : List (Nat × Operand)} {cs r : List SV}, fillS pl st cs ps = some r →
    Instr.fill pl (SV.vals β cs).toArray (ps.map fun (i, x) => (i, ρ x)) = some (SV.vals β r).toArray
  | [], cs, r, h => by simp [fillS] at h; subst h; rfl
  | (i, x) :: ps, cs, r, h => by
    unfold fillS at h
    cases hp : pl i with
    | none => rw [hp] at h; simp at h
    | some q =>
      obtain ⟨off, m⟩ := q
      cases hc : cellsOf (st.ev x) with
      | none => rw [hp, hc] at h; simp at h
      | some vs =>
        rw [hp, hc] at h
        simp only at h
        cases hm : Nat.beq (lenN vs) m with
        | false => rw [hm] at h; simp at h
        | true =>
          rw [hm] at h
          simp only [cond_true] at h
          cases hs : spl cs off vs with
          | none => rw [hs] at h; simp at h
          | some cs' =>
            rw [hs] at h
            simp only at h
            have ih := fillS_spec hρ h
            have hcv := cellsOf_val hc β
            have hml : vs.length = m := by rw [← lenN_eq]; exact Nat.eq_of_beq_eq_true hm
            obtain ⟨h1, h2⟩ := spl_eq hs
            have hx := hρ x
            simp only [SV.vals_eq] at ih hcv ⊢
            simp only [List.map_cons, Instr.fill, hp, hx, hcv]
            have hsz : ((vs.map (SV.val β)).toArray).size = m := by simp [hml]
            have hno : ¬ (off + ((vs.map (SV.val β)).toArray).size > ((cs.map (SV.val β)).toArray).size) := by simp; omega
            simp only [hsz, ne_eq, not_true_eq_false, decide_false, Bool.false_or]
            rw [hsz] at hno
            simp only [hno, decide_false, Bool.false_eq_true, if_false]
            rw [← ih]
            congr 1
            have := foldl_set (vs.map (SV.val β)) (cs.map (SV.val β)) off 0 (by simp; omega)
            rw [h1]
            rw [Array.zipIdx_toArray, List.foldl_toArray]
            simpa using this
theorem fillS_bd {pl : Nat → Option (Nat × Nat)} {st : AS} {n : Nat} (hst : ∀ x, (st.ev x).bd n) : ∀ {ps : List (Nat × Operand)} {cs r : List SV}, fillS pl st cs ps = some r → (∀ s ∈ cs, SV.bd n s) → ∀ s ∈ r, SV.bd n s
  | [], cs, r, h, hb => by simp [fillS] at h; subst h; exact hb
  | (i, x) :: ps, cs, r, h, hb => by
    unfold fillS at h
    cases hp : pl i with
    | none => rw [hp] at h; simp at h
    | some q =>
      obtain ⟨off, m⟩ := q
      cases hc : cellsOf (st.ev x) with
      | none => rw [hp, hc] at h; simp at h
      | some vs =>
        rw [hp, hc] at h
        simp only at h
        cases hm : Nat.beq (lenN vs) m with
        | false => rw [hm] at h; simp at h
        | true =>
          rw [hm] at h
          simp only [cond_true] at h
          cases hs : spl cs off vs with
          | none => rw [hs] at h; simp at h
          | some cs' =>
            rw [hs] at h
            exact fillS_bd hst h (spl_bd hs hb (cellsOf_bd hc (hst x)))

/-! ### What is read of cells that are not known one by one -/
/-- the cells, by their places -/
abbrev Src := Nat → Option Value
def mcell (m : Mem) (a : Addr) : Option Value := match m a.block with
  | some (.cells c _ _) => if a.spot.isSome then none else c[a.off]?
  | _ => none
def spA (p : Option Addr) : Addr := p.getD default
def mSrc (m : Mem) (p : Option Addr) : Src := fun j => mcell m ⟨(spA p).block, (spA p).off + j, none⟩
def lSrc (l : List Value) (off : Nat) : Src := fun j => l[off + j]?
def cellI : Option Value → Int
  | some (.int _ n) => n
  | _ => 0
def cellB : Option Value → Bool
  | some (.bool b) => b
  | _ => false
def cellSp : Option Value → Option Addr
  | some (.slice p _ _) => p
  | _ => none
def cellSl : Option Value → Nat
  | some (.slice _ n _) => n
  | _ => 0
def cellSc : Option Value → Nat
  | some (.slice _ _ n) => n
  | _ => 0
def cellPt : Option Value → Option Addr
  | some (.pointer p) => p
  | _ => none
def cellSt : Option Value → ByteArray
  | some (.string s) => s
  | _ => .empty
/-- the value that a cell of a kind is read as -/
def rdP (s : Src) (j : Nat) : Value → Value
  | .int k _ => .int k (cellI (s j))
  | .bool _ => .bool (cellB (s j))
  | .slice _ _ _ => .slice (cellSp (s j)) (cellSl (s j)) (cellSc (s j))
  | .pointer _ => .pointer (cellPt (s j))
  | .string _ => .string (cellSt (s j))
  | _ => (s j).getD undef
def rdC (h : Hid) (s : Src) (j : Nat) : Value → SV
  | .int k _ => .c (.int k (h.f Int fun _ => cellI (s j)))
  | .bool _ => .c (.bool (h.f Bool fun _ => cellB (s j)))
  | .slice _ _ _ => .c (.slice (h.f (Option Addr) fun _ => cellSp (s j)) (h.f Nat fun _ => cellSl (s j)) (h.f Nat fun _ => cellSc (s j)))
  | .pointer _ => .c (.pointer (h.f (Option Addr) fun _ => cellPt (s j)))
  | .string _ => .c (.string (h.f ByteArray fun _ => cellSt (s j)))
  | _ => .c (h.f Value fun _ => (s j).getD undef)
theorem rdC_val (h : Hid) (s : Src) (j : Nat) (z : Value) (β : Nat → Nat × Nat) : (rdC h s j z).val β = rdP s j z := by
  cases z <;> simp only [rdC, SV.val, rdP, Hid.ok]
def rdL (h : Hid) (s : Src) : Nat → List Value → List SV
  | _, [] => []
  | j, z :: l => rdC h s j z :: rdL h s (j + 1) l
theorem rdL_val (h : Hid) (s : Src) (β : Nat → Nat × Nat) : ∀ (l : List Value) (j i : Nat), (SV.vals β (rdL h s j l))[i]? = (l[i]?).map (rdP s (j + i))
  | [], _, _ => by simp [rdL, SV.vals]
  | z :: l, j, 0 => by simp [rdL, SV.vals, rdC_val]
  | z :: l, j, i + 1 => by
    have := rdL_val h s β l (j + 1) i
    simp only [rdL, SV.vals, List.getElem?_cons_succ, this]
    rw [show j + 1 + i = j + (i + 1) by omega]
/-- the cells are there, of these kinds -/
structure SrcOk (s : Src) (zs : List Value) : Prop where
  cell : ∀ i z, zs[i]? = some z → s i = some (rdP s i z)
/-- a row of cells that stays -/
structure OldOk (m : Mem) (p : Option Addr) (zs : List Value) : Prop where
  sm : p = some (spA p)
  spot : (spA p).spot = none
  src : SrcOk (mSrc m p) zs
theorem rdC_bd (h : Hid) (s : Src) (j : Nat) (z : Value) (n : Nat) : (rdC h s j z).bd n := by cases z <;> simp [rdC, SV.bd]
theorem rdL_bd (h : Hid) (s : Src) (n : Nat) : ∀ (l : List Value) (j : Nat), ∀ v ∈ rdL h s j l, SV.bd n v
  | [], _, v, hv => absurd hv (by simp [rdL])
  | z :: l, j, v, hv => by
    rcases List.mem_cons.1 hv with rfl | hv
    · exact rdC_bd _ _ _ _ _
    · exact rdL_bd h s n l (j + 1) v hv

structure IsSm (p : Option Addr) : Prop where
  out : p = some (spA p)
/-- a place further on -/
def adr (h : Hid) (p : Option Addr) (k : Unit → Nat) : Option Addr := h.f (Option Addr) fun _ => some ((spA p).add (k ()))
theorem adr_eq (h : Hid) (p : Option Addr) (k : Unit → Nat) : adr h p k = some ((spA p).add (k ())) := h.ok _ _

/-! ### Operands -/
/-- a literal index -/
def natOf : AV → Option Nat
  | .e (.x (.li _ (.ofNat n))) => some n
  | _ => none
theorem natOf_val {v : AV} {k : Nat} (h : natOf v = some k) (β : Nat → Nat × Nat) : ∃ q, v.val β = .int q k := by
  unfold natOf at h
  split at h
  · rename_i q n
    simp at h; subst h
    exact ⟨q, by simp [AV.val, EV.val, SV.val]⟩
  · simp at h
def evs (st : AS) : List Operand → List AV
  | [] => []
  | x :: l => st.ev x :: evs st l
theorem evs_eq (st : AS) : ∀ l : List Operand, evs st l = l.map st.ev
  | [] => rfl
  | x :: l => by simp [evs, evs_eq st l]
def capOf : List AV → Option (List (Nat × Nat))
  | [] => some []
  | .e (.x (.p n o)) :: l => match capOf l with
    | some r => some ((n, o) :: r)
    | none => none
  | _ :: _ => none
theorem capOf_val (β : Nat → Nat × Nat) : ∀ {l : List AV} {r : List (Nat × Nat)}, capOf l = some r → l.map (AV.val β) = r.map fun q => Value.pointer (some ⟨(β q.1).1, q.2, none⟩)
  | [], r, h => by simp [capOf] at h; subst h; rfl
  | v :: l, r, h => by
    unfold capOf at h
    split at h
    · rename_i e; cases e
    · rename_i n o l' e
      simp only [List.cons.injEq] at e
      obtain ⟨rfl, rfl⟩ := e
      cases hc : capOf l with
      | none => rw [hc] at h; simp at h
      | some r' =>
        rw [hc] at h; simp at h; subst h
        simp [capOf_val β hc, AV.val, EV.val, SV.val]
    · simp at h
theorem capOf_bd {n : Nat} : ∀ {l : List AV} {r : List (Nat × Nat)}, capOf l = some r → (∀ v ∈ l, AV.bd n v) → ∀ q ∈ r, q.1 < n
  | [], r, h, _ => by simp [capOf] at h; subst h; simp
  | v :: l, r, h, hb => by
    unfold capOf at h
    split at h
    · rename_i e; cases e
    · rename_i m o l' e
      simp only [List.cons.injEq] at e
      obtain ⟨rfl, rfl⟩ := e
      cases hc : capOf l with
      | none => rw [hc] at h; simp at h
      | some r' =>
        rw [hc] at h; simp at h; subst h
        intro q hq
        rcases List.mem_cons.1 hq with rfl | hq
        · have := hb _ List.mem_cons_self
          simpa [AV.bd, EV.bd, SV.bd] using this
        · exact capOf_bd hc (fun v hv => hb v (List.mem_cons_of_mem _ hv)) q hq
    · simp at h

/-- least, greatest -/
def minL (hd : Hid) (k : IntKind) (mx : Bool) : Bool → Int → List AV → VC AV
  | lit, m, [] => .ret (.e (.x (match lit with | true => .li k m | false => .c (.int k m))))
  | lit, m, v :: l => match isI v with
    | some (true, _, n) => match lit with
      | true => minL hd k mx true (bif mx then max m n else min m n) l
      | false => minL hd k mx false (hI hd fun _ => bif mx then max m n else min m n) l
    | some (false, _, n) => minL hd k mx false (hI hd fun _ => bif mx then max m n else min m n) l
    | none => .fail
theorem minL_val {P : Program} {hd : Hid} {K : AV → Prop} {k : IntKind} {mx : Bool} : ∀ {l : List AV} {lit : Bool} {m : Int}, (minL hd k mx lit m l).holds K → ∃ (s : SV) (r : Int), K (.e (.x s)) ∧ s.bd 0 ∧ (∀ β, s.val β = .int k r) ∧
    ∀ β w, ((l.map (AV.val β)).foldlM (bif mx then Builtin.max2 else Builtin.min2) (Value.int k m)).run P w = .ok (.int k r) w
  | [], lit, m, h => by
    cases lit with
    | true => exact ⟨_, m, h, by simp [SV.bd], fun β => by simp [SV.val], fun β w => rfl⟩
    | false => exact ⟨_, m, h, by simp [SV.bd], fun β => by simp [SV.val], fun β w => rfl⟩
  | v :: l, lit, m, h => by
    have key : ∀ (q : Bool × IntKind × Int) (m' : Int) (lit' : Bool), isI v = some q → m' = (bif mx then max m q.2.2 else min m q.2.2) → (minL hd k mx lit' m' l).holds K →
        ∃ (s : SV) (r : Int), K (.e (.x s)) ∧ s.bd 0 ∧ (∀ β, s.val β = .int k r) ∧ ∀ β w, (((v :: l).map (AV.val β)).foldlM (bif mx then Builtin.max2 else Builtin.min2) (Value.int k m)).run P w = .ok (.int k r) w := by
      intro q m' lit' hv hm' h
      obtain ⟨s, r, h1, h2, h3, h4⟩ := minL_val (P := P) h
      refine ⟨s, r, h1, h2, h3, fun β w => ?_⟩
      have := h4 β w
      have hval := isI_val hv β
      simp only [List.map_cons, List.foldlM_cons, Sem.run_bind, hval]
      cases mx with
      | true =>
        have e : (Builtin.max2 (Value.int k m) (.int q.2.1 q.2.2)).run P w = .ok (.int k m') w := by
          simp only [Builtin.max2, Sem.run_pure, hm', cond_true]
          congr 2; omega
        simp only [cond_true] at this ⊢
        rw [e]; exact this
      | false =>
        have e : (Builtin.min2 (Value.int k m) (.int q.2.1 q.2.2)).run P w = .ok (.int k m') w := by
          simp only [Builtin.min2, Sem.run_pure, hm', cond_false]
          congr 2; omega
        simp only [cond_false] at this ⊢
        rw [e]; exact this
    unfold minL at h
    split at h
    · rename_i q n hv
      split at h
      · exact key _ _ _ hv rfl h
      · exact key _ _ _ hv (by rw [hI_eq]) h
    · rename_i q n hv
      exact key _ _ _ hv (by rw [hI_eq]) h
    · exact False.elim h

/-! ### Bounds -/
structure SlB (i top : Int) : Prop where
  out : 0 ≤ i ∧ i ≤ top
def optI (st : AS) : Option Operand → Option (Option Int)
  | none => some none
  | some x => match isI (st.ev x) with
    | some (_, _, n) => some (some n)
    | none => none
def optN (st : AS) : Option Operand → Option (Option Nat)
  | none => some none
  | some x => match natOf (st.ev x) with
    | some n => some (some n)
    | none => none
def slOb (o : Option Int) (top : Int) : Prop := match o with
  | none => True
  | some i => SlB i top
def orI (o : Option Int) (d : Int) : Int := match o with
  | none => d
  | some i => i
def slNb (o : Option Nat) (top : Nat) : Bool := match o with
  | none => true
  | some i => Nat.ble i top
def orN (o : Option Nat) (d : Nat) : Nat := match o with
  | none => d
  | some i => i
def okMx {α : Type} (hi mx : Option α) : Bool := match hi, mx with
  | none, some _ => false
  | _, _ => true
section
variable {P : Program}
theorem optN_some {st : AS} {β : Nat → Nat × Nat} {ρ : Operand → Value} (hρ : ∀ x, ρ x = (st.ev x).val β) {x : Operand} {r : Option Nat} (h : optN st (some x) = some r) :
    ∃ n, r = some n ∧ ∀ top c w, n ≤ top → (Instr.sliceBound (ρ x) top c).run P w = .ok n w := by
  cases hn : natOf (st.ev x) with
  | some n =>
    simp only [optN, hn, Option.some.injEq] at h; subst h
    obtain ⟨q, hq⟩ := natOf_val hn β
    refine ⟨n, rfl, fun top c w hle => ?_⟩
    have h1 : (0 : Int) ≤ (n : Int) ∧ (n : Int) ≤ (top : Int) := ⟨by omega, by omega⟩
    simp only [hρ, hq, Instr.sliceBound, asIntOf, Sem.run_bind, Sem.run_pure, Result.andThen_ok, h1, and_self, if_true, Int.toNat_natCast]
  | none => simp [optN, hn] at h
theorem optI_some {st : AS} {β : Nat → Nat × Nat} {ρ : Operand → Value} (hρ : ∀ x, ρ x = (st.ev x).val β) {x : Operand} {r : Option Int} (h : optI st (some x) = some r) :
    ∃ n, r = some n ∧ ∀ (top : Nat) c w, 0 ≤ n ∧ n ≤ (top : Int) → (Instr.sliceBound (ρ x) top c).run P w = .ok n.toNat w := by
  cases hn : isI (st.ev x) with
  | some q =>
    obtain ⟨b, q, n⟩ := q
    simp only [optI, hn, Option.some.injEq] at h; subst h
    have hq := isI_val hn β
    refine ⟨n, rfl, fun top c w hle => ?_⟩
    simp only [hρ, hq, Instr.sliceBound, asIntOf, Sem.run_bind, Sem.run_pure, Result.andThen_ok, hle, and_self, if_true]
  | none => simp [optI, hn] at h
theorem optN_none {st : AS} {r : Option Nat} (h : optN st none = some r) : r = none := by simp [optN] at h; exact h.symm
theorem optI_none {st : AS} {r : Option Int} (h : optI st none = some r) : r = none := by simp [optI] at h; exact h.symm
theorem boundsI_run {st : AS} {β : Nat → Nat × Nat} {ρ : Operand → Value} (hρ : ∀ x, ρ x = (st.ev x).val β) {lo hi mx : Option Operand} {l h m : Option Int} (hl : optI st lo = some l) (hh : optI st hi = some h) (hm : optI st mx = some m)
    {len cap : Nat} (c0 : okMx h m = true) (c1 : slOb m cap) (c2 : slOb h (orI m cap)) (c3 : slOb l (orI h len)) (b : Bool) (w : World) :
    (Instr.sliceBounds b len cap (lo.map ρ) (hi.map ρ) (mx.map ρ)).run P w = .ok ((orI l 0).toNat, (orI h len).toNat, (orI m cap).toNat) w := by
  unfold Instr.sliceBounds
  cases mx with
  | none =>
    have := optI_none hm; subst this
    cases hi with
    | none =>
      have := optI_none hh; subst this
      cases lo with
      | none => have := optI_none hl; subst this; simp [orI]
      | some x =>
        obtain ⟨n, rfl, r⟩ := optI_some (P := P) hρ hl
        have r := fun c => r len c w (SlB.out c3)
        simp [orI, r]
    | some y =>
      obtain ⟨k, rfl, r2⟩ := optI_some (P := P) hρ hh
      have c2' := SlB.out c2
      have r2 := fun c => r2 cap c w c2'
      cases lo with
      | none => have := optI_none hl; subst this; simp [orI, r2]
      | some x =>
        obtain ⟨n, rfl, r⟩ := optI_some (P := P) hρ hl
        have c3' := SlB.out c3
        simp only [orI] at c2' c3'
        have r := fun c => r k.toNat c w (by omega)
        simp [orI, r, r2]
  | some z =>
    obtain ⟨i, rfl, r3⟩ := optI_some (P := P) hρ hm
    have c1' := SlB.out c1
    have r3 := fun c => r3 cap c w c1'
    cases hi with
    | none => have := optI_none hh; subst this; simp [okMx] at c0
    | some y =>
      obtain ⟨k, rfl, r2⟩ := optI_some (P := P) hρ hh
      have c2' := SlB.out c2
      simp only [orI] at c1' c2'
      have r2 := fun c => r2 i.toNat c w (by omega)
      cases lo with
      | none => have := optI_none hl; subst this; simp [orI, r2, r3]
      | some x =>
        obtain ⟨n, rfl, r⟩ := optI_some (P := P) hρ hl
        have c3' := SlB.out c3
        simp only [orI] at c3'
        have r := fun c => r k.toNat c w (by omega)
        simp [orI, r, r2, r3]
theorem optN_optI {st : AS} {x : Option Operand} {r : Option Nat} (h : optN st x = some r) : optI st x = some (r.map Int.ofNat) := by
  cases x with
  | none => simp [optN] at h; subst h; rfl
  | some x =>
    simp only [optN] at h
    split at h
    · rename_i n hn
      simp at h; subst h
      unfold natOf at hn
      split at hn
      · rename_i q m e
        simp at hn; subst hn
        simp [optI, e, isI]
      · simp at hn
    · simp at h
theorem slNb_slOb {r : Option Nat} {top : Nat} (h : slNb r top = true) : slOb (r.map Int.ofNat) top := by
  cases r with
  | none => exact trivial
  | some n => exact ⟨⟨by simp, by simpa using Nat.le_of_ble_eq_true h⟩⟩
theorem orN_orI (r : Option Nat) (d : Nat) : orI (r.map Int.ofNat) d = ((orN r d : Nat) : Int) := by cases r <;> rfl
theorem okMx_map {r s : Option Nat} (h : okMx r s = true) : okMx (r.map Int.ofNat) (s.map Int.ofNat) = true := by
  cases r <;> cases s <;> first | rfl | exact h
theorem bounds_run {st : AS} {β : Nat → Nat × Nat} {ρ : Operand → Value} (hρ : ∀ x, ρ x = (st.ev x).val β) {lo hi mx : Option Operand} {l h m : Option Nat} (hl : optN st lo = some l) (hh : optN st hi = some h) (hm : optN st mx = some m)
    {len cap : Nat} (c0 : okMx h m = true) (c1 : slNb m cap = true) (c2 : slNb h (orN m cap) = true) (c3 : slNb l (orN h len) = true) (b : Bool) (w : World) :
    (Instr.sliceBounds b len cap (lo.map ρ) (hi.map ρ) (mx.map ρ)).run P w = .ok (orN l 0, orN h len, orN m cap) w := by
  have := boundsI_run (P := P) hρ (optN_optI hl) (optN_optI hh) (optN_optI hm) (len := len) (cap := cap) (okMx_map c0) (slNb_slOb c1) (by rw [orN_orI]; exact slNb_slOb c2) (by rw [orN_orI]; exact slNb_slOb c3) b w
  rw [this]
  have e0 : orI (l.map Int.ofNat) 0 = ((orN l 0 : Nat) : Int) := orN_orI l 0
  simp only [orN_orI, e0, Int.toNat_natCast]

/-! ### Comparing -/
theorem run_equalIn_nil {t e : Nat} (hu : P.underlying t = some (.pointer e)) (d : Nat) (p : Option Addr) (w : World) : (Op.equalIn (d + 1) t (.pointer p) (.pointer none)).run P w = .ok p.isNone w := by
  unfold Op.equalIn
  simp only [Sem.run_bind, run_underlying hu, Result.andThen_ok]
  cases p <;> rfl
theorem run_equal_nil {t e : Nat} (hu : P.underlying t = some (.pointer e)) (p : Option Addr) (w : World) : (Op.equal t (.pointer p) (.pointer none)).run P w = .ok p.isNone w := run_equalIn_nil hu 9999 p w
theorem run_equalIn_bool {t : Nat} (hu : P.underlying t = some .bool) (d : Nat) (u v : Bool) (w : World) : (Op.equalIn (d + 1) t (.bool u) (.bool v)).run P w = .ok (u == v) w := by
  unfold Op.equalIn
  simp only [Sem.run_bind, run_underlying hu, Result.andThen_ok]
  rfl
theorem run_equal_bool {t : Nat} (hu : P.underlying t = some .bool) (u v : Bool) (w : World) : (Op.equal t (.bool u) (.bool v)).run P w = .ok (u == v) w := run_equalIn_bool hu 9999 u v w
end
/-- == or != -/
def isEq : BinOp → Option Bool
  | .eql => some true
  | .neq => some false
  | _ => none
/-- values without names -/
def plL : List SV → Option (List Value)
  | [] => some []
  | .c v :: l => match plL l with
    | some r => some (v :: r)
    | none => none
  | .li k n :: l => match plL l with
    | some r => some (.int k n :: r)
    | none => none
  | .lb b :: l => match plL l with
    | some r => some (.bool b :: r)
    | none => none
  | _ :: _ => none
theorem plL_val (β : Nat → Nat × Nat) : ∀ {l : List SV} {r : List Value}, plL l = some r → SV.vals β l = r
  | [], r, h => by simp [plL] at h; subst h; simp [SV.vals]
  | v :: l, r, h => by
    cases v <;> simp only [plL] at h <;> (try cases h) <;> (
      split at h
      · rename_i q hq
        simp only [Option.some.injEq] at h; subst h
        simp [SV.vals, SV.val, plL_val β hq]
      · cases h)
/-- are all literals? -/
def litL : List SV → Bool
  | [] => true
  | .li _ _ :: l => litL l
  | .lb _ :: l => litL l
  | .c (.string _) :: l => litL l
  | _ :: _ => false
end Go.Fe
