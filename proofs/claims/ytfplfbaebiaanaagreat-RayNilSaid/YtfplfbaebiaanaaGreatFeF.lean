/- Functions of the model's own: marks, atomics; the tables' proofs. -/
import Derived.Test.YtfplfbaebiaanaaGreatFeE
import Derived.Laws.StructEq
noncomputable section
namespace Go.Fe
open Go.RowKit Go.Reg Go.Sort Go.Sy

/-- a function of the model's own, and what it runs -/
structure XF (P : Program) (f : Nat) (e : Array Value → Sem Value) : Prop where
  out : ∃ fn, P.funcs[f]? = some fn ∧ (fn.name == "runtime.NumGoroutine") = false ∧ fn.body.isNone = true ∧ Extern.findNext fn = none ∧ Extern.find fn = some e

def xMark0 : FC := fun _ st args => match args with
  | [] => .ret (st, .t [])
  | _ => .fail
def xMark1 : FC := fun _ st args => match args with
  | [.e (.x (.p _ _))] => .ret (st, .t [])
  | _ => .fail
def nthS : List SV → Nat → Option SV
  | [], _ => none
  | x :: _, 0 => some x
  | _ :: l, n + 1 => nthS l n
def xLoad (k : IntKind) : FC := fun _ st args => match args with
  | [.e (.x (.p n off))] => match getB st.hp n with
    | some (.ex cs _) => match nthS cs off with
      | some v => match isI (.e (.x v)) with
        | some (_, k', _) => bif decide (k = k') then .ret (st, .e (.x v)) else .fail
        | none => .fail
      | none => .fail
    | _ => .fail
  | _ => .fail
def xPut (st : AS) (n off : Nat) (v : SV) (r : AV) : VC (AS × AV) := match getB st.hp n with
  | some (.ex cs ty) => match spl cs off [v] with
    | some cs' => bif Nat.ble st.lo n then .ret ({ st with hp := setB st.hp n (.ex cs' ty) }, r) else .fail
    | none => .fail
  | _ => .fail
def xStore : FC := fun _ st args => match args with
  | [.e (.x (.p n off)), v] => match isI v, v with
    | some (_, _, _), .e (.x u) => match getB st.hp n with
      | some (.ex cs _) => bif Nat.blt off (lenN cs) then xPut st n off (dlS u) (.t []) else .fail
      | _ => .fail
    | _, _ => .fail
  | _ => .fail
/-- an int, as it is known -/
def sumL (hd : Hid) (b : Bool) (k : IntKind) (x y : Int) : SV := match b with
  | true => .li k (k.wrap (x + y))
  | false => .c (.int k (hI hd fun _ => k.wrap (x + y)))
def xAdd (k : IntKind) : FC := fun hd st args => match args with
  | [.e (.x (.p n off)), v] => match getB st.hp n with
    | some (.ex cs _) => match nthS cs off with
      | some u => match isI (.e (.x u)), isI v with
        | some (b1, k1, x), some (b2, k2, y) => bif decide (k = k1) && decide (k = k2) then xPut st n off (sumL hd (b1 && b2) k x y) (.e (.x (sumL hd (b1 && b2) k x y))) else .fail
        | _, _ => .fail
      | none => .fail
    | _ => .fail
  | _ => .fail
def xCas (k : IntKind) : FC := fun _ st args => match args with
  | [.e (.x (.p n off)), .e (.x (.li k1 o)), .e (.x (.li k2 y))] => match getB st.hp n with
    | some (.ex cs _) => match nthS cs off with
      | some (.li k3 x) => bif decide (k = k1) && decide (k = k2) && decide (k = k3) then (bif decide (x = o) then xPut st n off (.li k y) (.e (.x (.lb true))) else .ret (st, .e (.x (.lb false)))) else .fail
      | _ => .fail
    | _ => .fail
  | _ => .fail

section
variable {P : Program} {f : Nat}

theorem nthS_eq : ∀ (l : List SV) (n : Nat), nthS l n = l[n]?
  | [], _ => by simp [nthS]
  | x :: _, 0 => rfl
  | x :: l, n + 1 => by simp [nthS, nthS_eq l n]
theorem Kn.unfrozen {b : Nat × Nat} {cs : List Value} {ty : TypeId} {w : World} (h : Kn b cs ty w) (off : Nat) : w.frozen? ⟨b.1, off, none⟩ = false := by
  obtain ⟨tail, h, _⟩ := h
  simp [World.frozen?, h]

theorem xMark0_ok {m : Mark} (h : XF P f (fun _ => do mark m; pure Extern.Race.none_)) : XcOk P f xMark0 := by
  obtain ⟨fn, h1, h2, h3, h4, h5⟩ := h.out
  intro hd st args K hK hwf hargs w0 M β w hS
  unfold xMark0 at hK
  split at hK
  · exact ⟨w, β, st, .t [], by simpa [AV.val_t, EV.vals] using run_call_mark0 h1 h2 h3 h4 m h5 w, hK, Agree.rfl _ _, Nat.le_refl _, rfl, fun v hv => absurd hv (by simp), hwf, hS⟩
  · exact False.elim hK
theorem xMark1_ok {m : Addr → Mark} (h : XF P f (Extern.Race.marked m)) : XcOk P f xMark1 := by
  obtain ⟨fn, h1, h2, h3, h4, h5⟩ := h.out
  intro hd st args K hK hwf hargs w0 M β w hS
  unfold xMark1 at hK
  split at hK
  · rename_i n off
    exact ⟨w, β, st, .t [], by simpa [AV.val_t, EV.vals, AV.val_e, EV.val_x, SV.val] using run_call_marked h1 h2 h3 h4 m h5 ⟨(β n).1, off, none⟩ w, hK, Agree.rfl _ _, Nat.le_refl _, rfl, fun v hv => absurd hv (by simp), hwf, hS⟩
  · exact False.elim hK
theorem xLoad_ok {k : IntKind} (h : XF P f (Extern.Atomic.loadT (.int k))) : XcOk P f (xLoad k) := by
  obtain ⟨fn, h1, h2, h3, h4, h5⟩ := h.out
  intro hd st args K hK hwf hargs w0 M β w hS
  unfold xLoad at hK
  split at hK
  · rename_i n off
    split at hK
    · rename_i cs ty hb
      split at hK
      · rename_i v hv
        split at hK
        · rename_i bb k' x hi
          cases hk : decide (k = k') with
          | false => rw [hk] at hK; exact False.elim hK
          | true =>
            rw [hk] at hK
            have hk := of_decide_eq_true hk
            subst hk
            have hiv := isI_val hi β
            simp only at hiv
            rw [nthS_eq] at hv
            have hm := getB_mem hb
            have hc := (hS.has _ hm).cell (i := off) (v := v.val β) (by simp [Blk.vals, SV.vals_eq, hv])
            have hiv' : v.val β = .int k x := hiv
            rw [hiv'] at hc
            refine ⟨w, β, st, .e (.x v), ?_, hK, Agree.rfl _ _, Nat.le_refl _, rfl, ?_, hwf, hS⟩
            · rw [AV.val_e, EV.val_x, hiv']
              simpa [AV.val_e, EV.val_x, SV.val] using run_call_load h1 h2 h3 h4 k h5 hc
            · exact SV.bds_iff.1 (hwf.hp _ hm).2 v (List.mem_of_getElem? hv)
        · exact False.elim hK
      · exact False.elim hK
    · exact False.elim hK
  · exact False.elim hK

theorem setCell_store {w w' : World} {a : Addr} {v u : Value} (hc : w.cell? a = some u) (hz : w.frozen? a = false) (h1 : v.oneCell' = true) (h : (storeCells a [v]).run P w = .ok () w') : w' = w.setCell a v := by
  have : (storeCells a [v]).run P w = .ok () (w.setCell a v) := by
    simp [storeCells, Addr.add, run_store P w a v _ h1, hc, hz]
  rw [h] at this
  cases this; rfl
/-- one cell is written -/
theorem xPut_ok (P : Program) {st : AS} {n off : Nat} {v : SV} {r : AV} {K : AS × AV → Prop} (h : (xPut st n off v r).holds K) (hwf : WfM st) (hn : n < st.nx) (hv : v.bd st.nx) (_hr : r.bd st.nx) (h1 : ∀ β, (v.val β).oneCell' = true) {w0 w : World} {M : List Nat} {β : Nat → Nat × Nat} (hS : Mm w0 M β st w) :
    ∃ st', K (st', r) ∧ st'.nx = st.nx ∧ st'.lo = st.lo ∧ WfM st' ∧ Mm w0 M β st' (w.setCell ⟨(β n).1, off, none⟩ (v.val β)) := by
  unfold xPut at h
  split at h
  · rename_i cs ty hb
    split at h
    · rename_i cs' hc
      cases hlo : Nat.ble st.lo n with
      | false => rw [hlo] at h; exact False.elim h
      | true =>
        rw [hlo] at h
        have hlo := Nat.le_of_ble_eq_true hlo
        obtain ⟨e1, e2⟩ := spl_eq hc
        simp only [List.length_cons, List.length_nil, Nat.zero_add] at e1 e2
        have hm := getB_mem hb
        have hk := hS.has _ hm
        have hB' : (Blk.ex cs' ty).bd st.nx := SV.bds_iff.2 (spl_bd hc (SV.bds_iff.1 (hwf.hp _ hm).2) (by simpa using hv))
        have hlen : (SV.vals β cs).length ≤ (β n).2 := by
          obtain ⟨tail, _, t2⟩ := hk
          have : (Blk.ex cs ty).vals β = SV.vals β cs := rfl
          rw [this] at t2; simp only at t2; omega
        rw [vals_length] at hlen
        obtain ⟨w', ob, r1, r2, r3, r4, r5, r6⟩ := hk.store (P := P) (off := off) (vs := [v.val β]) (by simp only [List.length_cons, List.length_nil]; omega) (by simp only [Blk.vals, vals_length]; omega) (by simpa using h1 β)
        have hcell : ∃ u, w.cell? ⟨(β n).1, off, none⟩ = some u := by
          have hlt : off < cs.length := by omega
          exact ⟨_, hk.cell (i := off) (v := (cs[off]).val β) (by simp [Blk.vals, SV.vals_eq, hlt])⟩
        obtain ⟨u, hcell⟩ := hcell
        have hw := setCell_store hcell (hk.unfrozen off) (h1 β) r1
        subst hw
        refine ⟨_, h, rfl, rfl, hwf.set hn hB', ?_⟩
        refine hS.set hwf.hp hwf.nd hb hlo r2 r3 r4 r5 ?_
        have : (Blk.ex cs' ty).vals β = (SV.vals β cs).take off ++ [v.val β] ++ (SV.vals β cs).drop (off + 1) := by
          simp only [Blk.vals, e1, vals_append, vals_take, vals_drop]
          simp [SV.vals]
        rw [this]
        simpa [Blk.vals, Blk.ty] using r6
    · exact False.elim h
  · exact False.elim h
theorem isI_one {v : SV} {q : Bool × IntKind × Int} (h : isI (.e (.x v)) = some q) (β : Nat → Nat × Nat) : v.val β = .int q.2.1 q.2.2 := by
  have := isI_val h β
  simpa [AV.val_e, EV.val_x] using this
theorem isI_bd {v : SV} {q : Bool × IntKind × Int} (h : isI (.e (.x v)) = some q) (n : Nat) : v.bd n := by
  unfold isI at h
  split at h
  · rename_i e; cases e; simp [SV.bd]
  · rename_i e; cases e; simp [SV.bd]
  · cases h

theorem xStore_ok (h : XF P f Extern.Atomic.storeT) : XcOk P f xStore := by
  obtain ⟨fn, h1, h2, h3, h4, h5⟩ := h.out
  intro hd st args K hK hwf hargs w0 M β w hS
  unfold xStore at hK
  split at hK
  · rename_i n off v
    split at hK
    · rename_i b k y u hi
      split at hK
      · rename_i cs ty hb
        cases hlt : Nat.blt off (lenN cs) with
        | false => rw [hlt] at hK; exact False.elim hK
        | true =>
          rw [hlt] at hK
          have hlt : off < cs.length := by rw [← lenN_eq]; exact cast Nat.blt_eq hlt
          have hm := getB_mem hb
          have hk := hS.has _ hm
          have hc := hk.cell (i := off) (v := (cs[off]).val β) (by simp [Blk.vals, SV.vals_eq, hlt])
          have hu : ∀ β, (dlS u).val β = .int k y := fun β => by rw [dlS_val]; exact isI_one hi β
          obtain ⟨st', g1, g2, g3, g4, g5⟩ := xPut_ok (P := P) hK hwf (hwf.hp _ hm).1 (dlS_bd (isI_bd hi _)) (fun v hv => absurd hv (by simp)) (fun β => by rw [hu]; rfl) hS
          rw [hu] at g5
          refine ⟨_, β, st', .t [], ?_, g1, Agree.rfl _ _, by rw [g2]; exact Nat.le_refl _, g3, fun v hv => absurd hv (by simp), g4, g5⟩
          have := run_call_store h1 h2 h3 h4 h5 (k := k) (y := y) hc (hk.unfrozen off)
          have e2 := isI_one hi β
          simpa [AV.val_t, EV.vals, AV.val_e, EV.val_x, SV.val, e2] using this
      · exact False.elim hK
    · exact False.elim hK
  · exact False.elim hK
theorem sumL_val (hd : Hid) (b : Bool) (k : IntKind) (x y : Int) (β : Nat → Nat × Nat) : (sumL hd b k x y).val β = .int k (k.wrap (x + y)) := by
  cases b <;> simp [sumL, SV.val, hI_eq]
theorem sumL_bd (hd : Hid) (b : Bool) (k : IntKind) (x y : Int) (n : Nat) : (sumL hd b k x y).bd n := by
  cases b <;> simp [sumL, SV.bd]
theorem xAdd_ok {k : IntKind} (h : XF P f (Extern.Atomic.update (Op.intArith .add) k true)) : XcOk P f (xAdd k) := by
  obtain ⟨fn, h1, h2, h3, h4, h5⟩ := h.out
  intro hd st args K hK hwf hargs w0 M β w hS
  unfold xAdd at hK
  split at hK
  · rename_i n off v
    split at hK
    · rename_i cs ty hb
      split at hK
      · rename_i u hu
        split at hK
        · rename_i b1 k1 x b2 k2 y hi1 hi2
          cases hk12 : (decide (k = k1) && decide (k = k2)) with
          | false => rw [hk12] at hK; exact False.elim hK
          | true =>
            rw [hk12] at hK
            simp only [Bool.and_eq_true, decide_eq_true_eq] at hk12
            obtain ⟨rfl, rfl⟩ := hk12
            rw [nthS_eq] at hu
            have hm := getB_mem hb
            have hk := hS.has _ hm
            have hc := hk.cell (i := off) (v := u.val β) (by simp [Blk.vals, SV.vals_eq, hu])
            have e1 := isI_one hi1 β
            have e2 := isI_val hi2 β
            simp only at e1 e2
            rw [e1] at hc
            obtain ⟨st', g1, g2, g3, g4, g5⟩ := xPut_ok (P := P) hK hwf (hwf.hp _ hm).1 (sumL_bd ..) (sumL_bd ..) (fun β => by rw [sumL_val]; rfl) hS
            rw [sumL_val] at g5
            refine ⟨_, β, st', .e (.x (sumL hd (b1 && b2) k x y)), ?_, g1, Agree.rfl _ _, by rw [g2]; exact Nat.le_refl _, g3, by rw [g2]; exact sumL_bd .., g4, g5⟩
            have := run_call_add h1 h2 h3 h4 k h5 (y := y) (s := k.wrap (x + y)) hc (hk.unfrozen off) (by simp [Op.intArith])
            rw [AV.val_e, EV.val_x, sumL_val]
            simpa [AV.val_e, EV.val_x, SV.val, e2] using this
        · exact False.elim hK
      · exact False.elim hK
    · exact False.elim hK
  · exact False.elim hK
theorem xCas_ok {k : IntKind} (h : XF P f (Extern.Atomic.casT (.int k))) : XcOk P f (xCas k) := by
  obtain ⟨fn, h1, h2, h3, h4, h5⟩ := h.out
  intro hd st args K hK hwf hargs w0 M β w hS
  unfold xCas at hK
  split at hK
  · rename_i n off k1 o k2 y
    split at hK
    · rename_i cs ty hb
      split at hK
      · rename_i k3 x hu
        cases hkk : (decide (k = k1) && decide (k = k2) && decide (k = k3)) with
        | false => rw [hkk] at hK; exact False.elim hK
        | true =>
          rw [hkk] at hK
          simp only [Bool.and_eq_true, decide_eq_true_eq] at hkk
          obtain ⟨⟨rfl, rfl⟩, rfl⟩ := hkk
          rw [nthS_eq] at hu
          have hm := getB_mem hb
          have hk := hS.has _ hm
          have hc := hk.cell (i := off) (v := (SV.li k x).val β) (by simp [Blk.vals, SV.vals_eq, hu])
          simp only [SV.val] at hc
          simp only [cond_true] at hK
          cases hxo : decide (x = o) with
          | true =>
            rw [hxo] at hK
            have hxo := of_decide_eq_true hxo
            subst hxo
            obtain ⟨st', g1, g2, g3, g4, g5⟩ := xPut_ok (P := P) hK hwf (hwf.hp _ hm).1 (by simp [SV.bd]) (by simp [AV.bd, EV.bd, SV.bd]) (fun β => by simp [SV.val, Value.oneCell']) hS
            refine ⟨_, β, st', _, ?_, g1, Agree.rfl _ _, by rw [g2]; exact Nat.le_refl _, g3, by simp [AV.bd, EV.bd, SV.bd], g4, g5⟩
            have := run_call_cas_hit h1 h2 h3 h4 k h5 (y := y) hc (hk.unfrozen off)
            simpa [AV.val_e, EV.val_x, SV.val] using this
          | false =>
            rw [hxo] at hK
            have hxo := of_decide_eq_false hxo
            refine ⟨w, β, st, .e (.x (.lb false)), ?_, hK, Agree.rfl _ _, Nat.le_refl _, rfl, by simp [AV.bd, EV.bd, SV.bd], hwf, hS⟩
            have := run_call_cas_miss h1 h2 h3 h4 k h5 (y := y) hc (hk.unfrozen off) hxo
            simpa [AV.val_e, EV.val_x, SV.val] using this
      · exact False.elim hK
    · exact False.elim hK
  · exact False.elim hK
end

/-! ### Tables -/
def ZrOk (P : Program) (t : Nat) (q : Ty) : Prop := ∀ cs, q.zr = some cs → cs.length = q.sz ∧ ∀ w, ∃ v, (zeroValue t).run P w = .ok v w ∧ v.cells = cs.toArray
def PlOk (P : Program) (t : Nat) (q : Ty) : Prop := ∀ pl, q.pl = some pl → ∃ fs, P.underlying t = some (.struct fs) ∧ ∀ w, (fs.mapM fun f => do pure (f.offset, ← sizeOf f.type) : Sem (Array (Nat × Nat))).run P w = .ok pl.toArray w
def EqOk (P : Program) (t : Nat) (q : Ty) : Prop := ∀ zs, q.eq = some zs → EqTy P t zs
theorem tabOk_of {P : Program} {tb : Tab} (h : (tb ()).all (tyB P) = true) (he : LT.Each (fun t q => ZrOk P t q ∧ PlOk P t q ∧ EqOk P t q) (tb ())) : TabOk P tb :=
  TabOk.of h (fun p hp => (LT.each_mem he p hp).1) (fun p hp => (LT.each_mem he p hp).2.1) (fun p hp => (LT.each_mem he p hp).2.2)
theorem fns_ok' {P : Program} {fns : LT FnE} (h : LT.Each (fun i F => P.funcs[i]? = some F.fn ∧ fnB F = true) fns) : ∀ i F, fns.look i = some F → FnOk P i F := by
  intro i F hl
  obtain ⟨g1, g2⟩ := LT.each_mem h _ (LT.look_mem hl)
  unfold fnB at g2
  simp only [Bool.and_eq_true, beq_iff_eq] at g2
  refine ⟨g1, g2.1, ?_⟩
  have := g2.2
  split at this
  · rename_i c hc; exact ⟨c, hc, this⟩
  · cases this
/-! ### Structs of two ints, compared -/
theorem sameKL_two {xs : List Value} (h : sameKL [.int .i64 0, .int .i64 0] xs = true) : ∃ a b, xs = [.int .i64 a, .int .i64 b] := by
  match xs, h with
  | [x, y], h =>
    cases x <;> cases y <;> simp [sameKL, sameK] at h
    obtain ⟨rfl, rfl⟩ := h
    exact ⟨_, _, rfl⟩
  | [], h => simp [sameKL] at h
  | [_], h => simp [sameKL] at h
  | _ :: _ :: _ :: _, h => simp [sameKL] at h
theorem eqFields_two {P : Program} {w : World} {f g : Field} {a b c d : Int} {n : Nat} (hf : f.name ≠ "_") (hg : g.name ≠ "_") (h0 : P.underlying f.type = some (.int .i64)) (h1 : P.underlying g.type = some (.int .i64))
    (p1 : ∀ (x y : Value) w, (part f.type #[x, y] f.offset).run P w = .ok x w) (p2 : ∀ (x y : Value) w, (part g.type #[x, y] g.offset).run P w = .ok y w) :
    (Op.eqFields (n + 1) #[.int .i64 a, .int .i64 b] #[.int .i64 c, .int .i64 d] [f, g]).run P w = .ok (a == c && b == d) w := by
  simp only [Op.eqFields, hf, hg, ne_eq, not_false_eq_true, if_true, Sem.run_bind, p1, Result.andThen_ok, run_equalIn_int w n f.type .i64 .i64 a c h0]
  cases a == c with
  | false => simp
  | true =>
    simp [p2, run_equalIn_int w n g.type .i64 .i64 b d h1, Result.andThen]
    by_cases e : b = d <;> simp [e]
theorem eqTy_two {P : Program} {t : TypeId} {f g : Field} (hgd : P.eqGuardType P.depth t = false) (hu : P.underlying t = some (.struct (P.fieldsOf t))) (hs : P.stoodInHeld t = false) (hl : (P.fieldsOf t).toList = [f, g])
    (hf : f.name ≠ "_") (hg : g.name ≠ "_") (h0 : P.underlying f.type = some (.int .i64)) (h1 : P.underlying g.type = some (.int .i64))
    (p1 : ∀ (x y : Value) w, (part f.type #[x, y] f.offset).run P w = .ok x w) (p2 : ∀ (x y : Value) w, (part g.type #[x, y] g.offset).run P w = .ok y w) : EqTy P t [.int .i64 0, .int .i64 0] := by
  refine ⟨hgd, ?_⟩
  intro xs ys w hx hy
  obtain ⟨a, b, rfl⟩ := sameKL_two hx
  obtain ⟨c, d, rfl⟩ := sameKL_two hy
  have g1 := run_equalIn_agg (P := P) w 9999 t #[.int .i64 a, .int .i64 b] #[.int .i64 c, .int .i64 d] hu hs
  have g2 := eqFields_two (P := P) (w := w) (a := a) (b := b) (c := c) (d := d) (n := 9998) hf hg h0 h1 p1 p2
  rw [hl] at g1
  simp only [cEqL, cEq, Bool.and_true]
  exact g1.trans g2
/-- externs, by number -/
def lookX : List (Nat × FC) → Nat → Option FC
  | [], _ => none
  | q :: l, n => bif Nat.beq q.1 n then some q.2 else lookX l n
theorem lookX_ok {P : Program} : ∀ {l : List (Nat × FC)}, (∀ q ∈ l, XcOk P q.1 q.2) → ∀ i C, lookX l i = some C → XcOk P i C
  | [], _, _, _, h => by simp [lookX] at h
  | q :: l, hl, i, C, h => by
    unfold lookX at h
    cases e : Nat.beq q.1 i with
    | true =>
      rw [e] at h; cases h
      rw [← Nat.eq_of_beq_eq_true e]; exact hl q (by simp)
    | false => rw [e] at h; exact lookX_ok (fun q hq => hl q (List.mem_cons_of_mem _ hq)) i C h
end Go.Fe
