/- The writing operations are right. -/
import Derived.Test.YtfplfbaebiaanaaGreatFe5
noncomputable section
namespace Go.Fe
open Go.RowKit Go.Reg Go.Sort Go.Sy

section
variable {P : Program} {tb : Tab} {E : Env} {hd : Hid} {st : AS} {K : AS → Prop} {o : Oper}

theorem vals_take (β : Nat → Nat × Nat) (l : List SV) (n : Nat) : SV.vals β (l.take n) = (SV.vals β l).take n := by simp [SV.vals_eq, List.map_take]
theorem vals_drop (β : Nat → Nat × Nat) (l : List SV) (n : Nat) : SV.vals β (l.drop n) = (SV.vals β l).drop n := by simp [SV.vals_eq, List.map_drop]
theorem vals_append (β : Nat → Nat × Nat) (l r : List SV) : SV.vals β (l ++ r) = SV.vals β l ++ SV.vals β r := by simp [SV.vals_eq]
theorem vals_length (β : Nat → Nat × Nat) (l : List SV) : (SV.vals β l).length = l.length := by simp [SV.vals_eq]

theorem cell_heap {w w' : World} (h : w'.heap = w.heap) (a : Addr) : w'.cell? a = w.cell? a := by simp only [World.cell?, h]

/-- cells from 'off' on, read as a slice's first ones -/
theorem firstCells_row {w : World} {b : Nat} {off len cap n m : Nat} {cs : List Value} (h : ∀ j v, cs[j]? = some v → w.cell? ⟨b, j, none⟩ = some v) (hn : off + n * m ≤ cs.length) :
    (Builtin.firstCells m n (.slice (some ⟨b, off, none⟩) len cap)).run P w = .ok ((cs.drop off).take (n * m)).toArray w := by
  refine run_firstCells_some w m n ⟨b, off, none⟩ len cap _ (by simp; omega) fun j v hj => ?_
  rw [addr_add]
  have hlt := (List.getElem?_eq_some_iff.1 hj).1
  simp only [List.length_take, List.length_drop] at hlt
  rw [List.getElem?_take_of_lt (by omega), List.getElem?_drop] at hj
  exact h _ _ hj

/-- what a slice holds, as a run finds it -/
structure ScIs (P : Program) (w : World) (m : Nat) (v : Value) (news : List Value) (n : Nat) : Prop where
  len : ∀ w', w'.heap = w.heap → (Builtin.lenOf v).run P w' = .ok n w'
  size : news.length = n * m
  cells : ∀ w', w'.heap = w.heap → ∀ n', n' ≤ n → (Builtin.firstCells m n' v).run P w' = .ok (news.take (n' * m)).toArray w'

theorem srcOf_ex {m : Nat} {x : AV} {cs : List SV} {n : Nat} (h : srcOf hd st m x = some (.ex cs n)) (hwf : WfM st) :
    (∀ s ∈ cs, SV.bd st.nx s) ∧ ∀ w0 M β w, Mm w0 M β st w → ScIs P w m (x.val β) (SV.vals β cs) n := by
  unfold srcOf at h
  split at h
  · rename_i k off len cp
    split at h
    · rename_i cs0 ty hb
      split at h
      · rename_i r hr
        simp only [Option.some.injEq, Sc.ex.injEq] at h
        obtain ⟨rfl, rfl⟩ := h
        obtain ⟨e1, e2⟩ := takeN_eq hr
        rw [dropN_eq] at e1 e2
        have hm := getB_mem hb
        have hl : off + len * m ≤ cs0.length ∨ len * m = 0 := by
          simp at e2; omega
        refine ⟨fun s hs => SV.bds_iff.1 (hwf.hp _ hm).2 s (by rw [e1] at hs; exact List.mem_of_mem_drop (List.mem_of_mem_take hs)), fun w0 M β w hS => ?_⟩
        have hk := hS.has _ hm
        refine ⟨fun w' hw' => by simp [AV.val_e, EV.val_x, SV.val, Builtin.lenOf], by rw [vals_length, e1]; simp at e2 ⊢; omega, fun w' hw' n' hn' => ?_⟩
        have hc : ∀ j v, (SV.vals β cs0)[j]? = some v → w'.cell? ⟨(β k).1, j, none⟩ = some v := fun j v hj => by
          rw [cell_heap hw']; exact hk.cell hj
        have hle : n' * m ≤ len * m := Nat.mul_le_mul_right _ hn'
        simp only [AV.val_e, EV.val_x, SV.val]
        by_cases h0 : n' * m = 0
        · simp [Builtin.firstCells, h0]
          rfl
        · have := firstCells_row (P := P) (w := w') (b := (β k).1) (off := off) (len := len) (cap := cp.val (β k).2 off) (n := n') (m := m) hc (by rw [vals_length]; omega)
          rw [this, e1, vals_take, vals_drop, List.take_take, Nat.min_eq_left hle]
      · cases h
    · cases h
  · cases h
    refine ⟨by simp, fun w0 M β w hS => ⟨fun w' hw' => by simp [AV.val_e, EV.val_x, SV.val, Builtin.lenOf], by simp [SV.vals], fun w' hw' n' hn' => ?_⟩⟩
    simp [AV.val_e, EV.val_x, SV.val, Builtin.firstCells, SV.vals]
  · split at h <;> cases h
  · cases h
  · cases h

theorem mcell_cell {m : Mem} {w : World} {a : Addr} {v : Value} (hm : ∀ k o, m k = some o → w.heap[k]? = some o) (h : mcell m a = some v) : w.cell? a = some v := by
  unfold mcell at h
  split at h
  · rename_i c t f hk
    simp only [World.cell?, hm _ _ hk]; exact h
  · cases h

theorem srcOf_sy {m : Nat} {x : AV} {ob : Prop} {l : List Value} {n : Nat} (h : srcOf hd st m x = some (.sy ob l n)) (hob : ob) :
    (∀ v ∈ l, v.oneCell' = true) ∧ ∀ w0 M β w, Mm w0 M β st w → ScIs P w m (x.val β) l n := by
  unfold srcOf at h
  split at h
  · split at h
    · split at h <;> cases h
    · cases h
  · cases h
  · rename_i k off len cp
    split at h
    · rename_i l0 ty hb
      simp only [Option.some.injEq, Sc.sy.injEq] at h
      obtain ⟨rfl, rfl, rfl⟩ := h
      obtain ⟨h1, h2⟩ := hob
      simp only [Hid.ok]
      have hm := getB_mem hb
      refine ⟨fun v hv => h2.out v (List.mem_of_mem_drop (List.mem_of_mem_take hv)), fun w0 M β w hS => ?_⟩
      have hk := hS.has _ hm
      refine ⟨fun w' hw' => by simp [AV.val_e, EV.val_x, SV.val, Builtin.lenOf], by simp; omega, fun w' hw' n' hn' => ?_⟩
      have hle : n' * m ≤ len * m := Nat.mul_le_mul_right _ hn'
      have hc : ∀ j v, l0[j]? = some v → w'.cell? ⟨(β k).1, j, none⟩ = some v := fun j v hj => by
        rw [cell_heap hw']; exact hk.cell hj
      simp only [AV.val_e, EV.val_x, SV.val]
      rw [firstCells_row (P := P) hc (by omega), List.take_take, Nat.min_eq_left hle]
    · cases h
  · rename_i p len cp _
    simp only [Option.some.injEq, Sc.sy.injEq] at h
    obtain ⟨rfl, rfl, rfl⟩ := h
    simp only [Hid.ok]
    have hv : ∀ j, j < len * m → ∃ v, mSrc st.mem p j = some v ∧ v.oneCell' = true := hob.out
    refine ⟨fun v hv' => ?_, fun w0 M β w hS => ?_⟩
    · unfold rowV at hv'
      obtain ⟨j, hj, rfl⟩ := List.mem_map.1 hv'
      obtain ⟨v, e1, e2⟩ := hv j (List.mem_range.1 hj)
      rw [e1]; exact e2
    · refine ⟨fun w' hw' => by simp [AV.val_e, EV.val_x, SV.val, Builtin.lenOf], by simp [rowV], fun w' hw' n' hn' => ?_⟩
      have hle : n' * m ≤ len * m := Nat.mul_le_mul_right _ hn'
      simp only [AV.val_e, EV.val_x, SV.val]
      by_cases h0 : n' * m = 0
      · cases p with
        | none => simp [Builtin.firstCells, h0]
        | some a => simp [Builtin.firstCells, h0]; rfl
      · have hp := hob.sm (by omega)
        have hs := hob.spot
        have key : p = some ⟨(spA p).block, (spA p).off, none⟩ := by rw [← hs]; exact hp
        have key2 : Builtin.firstCells m n' (.slice p len cp) = Builtin.firstCells m n' (.slice (some ⟨(spA p).block, (spA p).off, none⟩) len cp) := by rw [← key]
        rw [key2]
        refine run_firstCells_some w' m n' _ len cp _ (by simp [rowV, Nat.min_eq_left hn']) fun j v hj => ?_
        have hlt := (List.getElem?_eq_some_iff.1 hj).1
        simp only [List.length_take] at hlt
        rw [List.getElem?_take_of_lt (by omega)] at hj
        simp only [rowV, List.getElem?_map, Option.map_eq_some_iff] at hj
        obtain ⟨i, hi, hj⟩ := hj
        obtain ⟨hil, hi⟩ := List.getElem?_eq_some_iff.1 hi
        simp only [List.getElem_range] at hi
        subst hi
        obtain ⟨u, e1, e2⟩ := hv j (by omega)
        rw [e1] at hj
        simp only [Option.getD_some] at hj
        subst hj
        rw [addr_add, cell_heap hw']
        exact mcell_cell (fun k o hk => (hS.frz k o hk).1) e1
  · cases h

/-- the operation is a call of 'append' -/
theorem exec_append {c : Call} (ho : o.op = .call c) (hc : c.callee = .builtin .append) {x y : Operand} {t t2 : TypeId} (ha : c.args.toList = [x, y]) (ht : c.argTypes.toList = [t, t2]) {w0 w w' : World} {M : List Nat} {β : Nat → Nat × Nat} {a : Act} (hI : Is w0 M β st a w) {r : Value}
    (h : ∀ ty, (Builtin.append_ #[t, t2] ty #[(st.ev x).val β, (st.ev y).val β]).run P w = .ok r w') : (execOp a.eval o).run P w = .ok (.value r) w' := by
  have e2 := args_val hI c.args
  rw [ha] at e2
  simp only [evs, List.map_cons, List.map_nil] at e2
  have e3 : c.argTypes = #[t, t2] := by apply Array.ext'; rw [ht]
  unfold execOp; rw [ho]
  simp only [resolve, hc, e2, e3, invoke, builtin, Sem.run_bind, Sem.run_pure, Result.andThen_ok, h]
theorem exec_copy {c : Call} (ho : o.op = .call c) (hc : c.callee = .builtin .copy) {x y : Operand} {t t2 : TypeId} (ha : c.args.toList = [x, y]) (ht : c.argTypes.toList = [t, t2]) {w0 w w' : World} {M : List Nat} {β : Nat → Nat × Nat} {a : Act} (hI : Is w0 M β st a w) {r : Value}
    (h : ∀ ty, (Builtin.copy_ #[t, t2] ty #[(st.ev x).val β, (st.ev y).val β]).run P w = .ok r w') : (execOp a.eval o).run P w = .ok (.value r) w' := by
  have e2 := args_val hI c.args
  rw [ha] at e2
  simp only [evs, List.map_cons, List.map_nil] at e2
  have e3 : c.argTypes = #[t, t2] := by apply Array.ext'; rw [ht]
  unfold execOp; rw [ho]
  simp only [resolve, hc, e2, e3, invoke, builtin, Sem.run_bind, Sem.run_pure, Result.andThen_ok, h]

/-- the slices' types of an append -/
structure ApTy (P : Program) (t t2 e m bt : Nat) (zs : List Value) : Prop where
  t1 : P.underlying t = some (.slice e)
  t2' : ∃ d, P.underlying t2 = some d ∧ ∀ k, d ≠ .int k
  sz : szOf P e = some m
  bts : byOf P e = some bt
  m0 : 0 < m
  b0 : 0 < bt
  z : ∀ w, ∃ v, (zeroValue e).run P w = .ok v w ∧ v.cells.size = m

/-- a new row: laid under the next name -/
theorem ap_new {t t2 e m bt : Nat} {zs : List Value} (ty : ApTy P t t2 e m bt zs) {w0 w : World} {M : List Nat} {β : Nat → Nat × Nat} {st1 : AS} (hS : Mm w0 M β st1 w) (hwf : WfM st1) {base : Option Addr} {len cap n : Nat} {x : Value} {olds news : List Value}
    (hx : ScIs P w m x news n) (ho : ∀ w', w'.heap = w.heap → (Builtin.firstCells m len (.slice base len cap)).run P w' = .ok olds.toArray w') (hol : olds.length = len * m)
    (hno : ¬ len + n ≤ cap) (hbig : (len + n) * bt ≤ 140737488355328) {B : Blk} (hB : B.bd st1.nx) (hBv : B.vals β = olds ++ news) (hBt : B.ty = e) :
    ∃ β' w' tot, (∀ t', (Builtin.append_ #[t, t2] t' #[.slice base len cap, x]).run P w = .ok (.slice (some ⟨(β' st1.nx).1, 0, none⟩) (len + n) (((β' st1.nx).2 - 0) / m)) w') ∧ Agree st1.nx β β' ∧ Mm w0 M β' (st1.new B) w' ∧ β' st1.nx = (w.heap.size, tot) := by
  obtain ⟨d2, hu2, hd2⟩ := ty.t2'
  have key : ∀ t', ∃ w' tot, (Builtin.append_ #[t, t2] t' #[.slice base len cap, x]).run P w = .ok (.slice (some ⟨w.heap.size, 0, none⟩) (len + n) tot) w' ∧ Below w.heap.size w w' ∧ len + n ≤ tot ∧ Kn (w.heap.size, tot * m) (olds ++ news) e w' := fun t' =>
    run_append_new (P := P) (ty := t') ty.t1 hu2 hd2 ty.sz ty.bts ty.b0 ty.z hx.len (fun w' hw' => by have := hx.cells w' hw' n (Nat.le_refl _); rwa [List.take_of_length_le (by rw [hx.size]; exact Nat.le_refl _)] at this) ho hno hbig hol hx.size
  obtain ⟨w', tot, r1, r2, r3, r4⟩ := key 0
  have hty : ∀ t', (Builtin.append_ #[t, t2] t' #[.slice base len cap, x]) = (Builtin.append_ #[t, t2] 0 #[.slice base len cap, x]) := fun t' => rfl
  have hdiv : tot * m / m = tot := Nat.mul_div_cancel _ ty.m0
  refine ⟨fun k => if k = st1.nx then (w.heap.size, tot * m) else β k, w', tot * m, fun t' => ?_, fun k hk => by simp [Nat.ne_of_lt hk], ?_, by simp⟩
  · rw [hty, r1]; simp [hdiv]
  · exact hS.new hwf.hp hB (Nat.le_refl _) r2 (by rw [hBv, hBt]; exact r4)

/-- what is appended where it may fit or not: what was there goes under a new name -/
theorem ap_grow {t t2 e m bt : Nat} {zs : List Value} (ty : ApTy P t t2 e m bt zs) {w0 w : World} {M : List Nat} {β : Nat → Nat × Nat} (hS : Mm w0 M β st w) (hwf : WfM st) {n0 : Nat} {B0 : Blk} (hb : getB st.hp n0 = some B0) (hlo : st.lo ≤ n0) (hBt0 : B0.ty = e) {len n : Nat} {x : Value} {news : List Value}
    (hx : ScIs P w m x news n) (h1 : ∀ v ∈ news, v.oneCell' = true) (hle : len * m ≤ (B0.vals β).length) (hbig : (len + n) * bt ≤ 140737488355328) {B : Blk} (hB : B.bd st.nx) (hBv : B.vals β = (B0.vals β).take (len * m) ++ news) (hBt : B.ty = e) :
    ∃ β' w', (∀ t', (Builtin.append_ #[t, t2] t' #[.slice (some ⟨(β n0).1, 0, none⟩) len (((β n0).2 - 0) / m), x]).run P w = .ok (.slice (some ⟨(β' st.nx).1, 0, none⟩) (len + n) (((β' st.nx).2 - 0) / m)) w') ∧ Agree st.nx β β' ∧
      Mm w0 M β' (AS.new { st with hp := delB st.hp n0 } B) w' := by
  have hm := getB_mem hb
  have hk := hS.has _ hm
  have hn0 := (hwf.hp _ hm).1
  have hsub : ∀ q ∈ delB st.hp n0, q ∈ st.hp := fun q hq => (delB_sub _ _).subset hq
  have hS1 : Mm w0 M β { st with hp := delB st.hp n0 } w := hS.sub hsub (fun _ _ h => h) (Nat.le_refl _)
  have hwf1 : WfM { st with hp := delB st.hp n0 } := hwf.sub (delB_sub _ _) rfl
  by_cases hfit : len + n ≤ ((β n0).2 - 0) / m
  · obtain ⟨d2, hu2, hd2⟩ := ty.t2'
    have htot : (len + n) * m ≤ (β n0).2 := by
      rw [Nat.le_div_iff_mul_le ty.m0] at hfit; omega
    have hmul : (len + n) * m = len * m + n * m := Nat.add_mul _ _ _
    obtain ⟨w', ob, r1, r2, r3, r4, r5, r6⟩ := hk.store (P := P) (off := len * m) (vs := news) (by rw [hx.size]; simp only; omega) hle h1
    have hcell : (Builtin.firstCells m n x).run P w = .ok news.toArray w := by
      have := hx.cells w rfl n (Nat.le_refl _)
      rwa [List.take_of_length_le (by rw [hx.size]; exact Nat.le_refl _)] at this
    refine ⟨fun k => if k = st.nx then β n0 else β k, w', fun t' => ?_, fun k hk => by simp [Nat.ne_of_lt hk], ?_⟩
    · simp only [if_true]
      exact run_append_room (P := P) (ty := t') ty.t1 hu2 hd2 ty.sz (hx.len w rfl) hcell hfit (fun a ha => by cases ha; rw [addr_add]; simpa using r1) (fun h => by cases h)
    · have hset := hS.set hwf.hp hwf.nd hb hlo (B' := .sy (((B0.vals β).take (len * m) ++ news ++ (B0.vals β).drop (len * m + news.length))) B0.ty) r2 r3 r4 r5 (by simpa [Blk.vals, Blk.ty] using r6)
      have hag : Agree st.nx β (fun k => if k = st.nx then β n0 else β k) := fun k hk => by simp [Nat.ne_of_lt hk]
      have hne : ∀ q ∈ delB st.hp n0, q.1 ≠ n0 := fun q hq => delB_ne hwf.nd hq
      have hset' : ∀ q ∈ delB st.hp n0, q ∈ (setB st.hp n0 (.sy (((B0.vals β).take (len * m) ++ news ++ (B0.vals β).drop (len * m + news.length))) B0.ty)) := by
        intro q hq
        have : ∀ (l : List (Nat × Blk)) (B' : Blk) (q : Nat × Blk), q ∈ delB l n0 → q.1 ≠ n0 → q ∈ setB l n0 B' := by
          intro l B' q
          induction l with
          | nil => intro h; simp [delB] at h
          | cons x l ih =>
            obtain ⟨k, b⟩ := x
            intro h hn
            unfold delB at h
            unfold setB
            cases e : Nat.beq k n0 with
            | true => rw [e] at h; exact List.mem_cons_of_mem _ h
            | false =>
              rw [e] at h
              rcases List.mem_cons.1 h with rfl | h
              · exact List.mem_cons_self
              · exact List.mem_cons_of_mem _ (ih h hn)
        exact this _ _ _ hq (hne q hq)
      have hS2 : Mm w0 M β { st with hp := delB st.hp n0 } w' := hset.sub hset' (fun _ _ h => h) (Nat.le_refl _)
      have hS3 := hS2.agree hwf1.hp hag
      refine ⟨hS3.os, hS3.tape, hS3.output, hS3.size, hS3.keep, fun p hp q hq hn => ?_, fun q hq hl => ?_, fun q hq => ?_, fun k o ho => ?_⟩
      · simp only [AS.new, List.mem_cons] at hp hq
        rcases hp with rfl | hp <;> rcases hq with rfl | hq
        · exact absurd rfl hn
        · simp only [if_true, if_neg (Nat.ne_of_lt (hwf.hp q (hsub q hq)).1)]
          exact hS.apart _ hm q (hsub q hq) (Ne.symm (hne q hq))
        · simp only [if_true, if_neg (Nat.ne_of_lt (hwf.hp p (hsub p hp)).1)]
          exact hS.apart p (hsub p hp) _ hm (hne p hp)
        · exact hS3.apart p hp q hq hn
      · simp only [AS.new, List.mem_cons] at hq
        rcases hq with rfl | hq
        · simp only [if_true]; exact hS.base _ hm hlo
        · exact hS3.base q hq hl
      · simp only [AS.new, List.mem_cons] at hq
        rcases hq with rfl | hq
        · simp only [if_true]
          rw [Blk.vals_agree hag hB, hBv, hBt]
          obtain ⟨tail, t1, t2⟩ := r6
          refine ⟨(B0.vals β).drop (len * m + news.length) ++ tail, ?_, ?_⟩
          · simp only at t1
            rw [t1, hBt0]
            simp [List.append_assoc]
          · simp at t2 ⊢; omega
        · exact hS3.has q hq
      · obtain ⟨g1, g2⟩ := hS3.frz k o ho
        refine ⟨g1, fun q hq hl => ?_⟩
        simp only [AS.new, List.mem_cons] at hq
        rcases hq with rfl | hq
        · simp only [if_true]
          exact (hS.frz k o ho).2 _ hm hlo
        · exact g2 q hq hl
  · obtain ⟨β', w', tot, g1, g2, g3, _⟩ := ap_new ty hS1 hwf1 (base := some ⟨(β n0).1, 0, none⟩) (len := len) (cap := ((β n0).2 - 0) / m) (olds := (B0.vals β).take (len * m)) hx
      (fun w' hw' => by
        have := firstCells_row (P := P) (w := w') (b := (β n0).1) (off := 0) (len := len) (cap := ((β n0).2 - 0) / m) (n := len) (m := m) (cs := B0.vals β) (fun j v hj => by rw [cell_heap hw']; exact hk.cell hj) (by omega)
        simpa using this) (by simp; omega) hfit hbig hB hBv hBt
    exact ⟨β', w', g1, g2, g3⟩
end
end Go.Fe
