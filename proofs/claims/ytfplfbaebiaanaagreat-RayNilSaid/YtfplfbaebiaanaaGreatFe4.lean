/- Memory: laws on runs that write and make it. -/
import Derived.Test.YtfplfbaebiaanaaGreatFe3
import Derived.Laws.Append
noncomputable section
namespace Go.Fe
open Go.RowKit Go.Reg Go.Sort Go.Sy

section
variable {P : Program} {w : World}

/-- a store into a row -/
theorem run_storeCells {b off : Nat} {arr vs : List Value} {ty : TypeId} (h : w.heap[b]? = some (.cells arr.toArray ty (0, 0))) (hfit : off + vs.length ≤ arr.length) (h1 : ∀ v ∈ vs, v.oneCell' = true) :
    ∃ w', (storeCells ⟨b, off, none⟩ vs).run P w = .ok () w' ∧ w'.heap = w.heap.setIfInBounds b (.cells (arr.take off ++ vs ++ arr.drop (off + vs.length)).toArray ty (0, 0)) ∧ w'.os = w.os ∧ w'.tape = w.tape ∧ w'.output = w.output := by
  have hst := run_storeCells_at P b off ty vs 0 arr.toArray w h (by simpa using hfit) h1
  simp only [Nat.add_zero] at hst
  refine ⟨_, hst, ?_, rfl, rfl, rfl⟩
  have hlt := (Array.getElem?_eq_some_iff.1 h).1
  simp only [World.setRow]
  apply Array.ext_getElem?
  intro i
  by_cases hi : b = i
  · subst hi
    simp only [Array.getElem?_modify, if_true, h, Option.map_some, Array.getElem?_setIfInBounds_self_of_lt hlt]
  · rw [Array.getElem?_setIfInBounds_ne hi, Array.getElem?_modify, if_neg hi]

/-- the same, of a block that is known at its head -/
theorem Kn.store {b : Nat × Nat} {cs vs : List Value} {ty : TypeId} (h : Kn b cs ty w) {off : Nat} (hfit : off + vs.length ≤ b.2) (ho : off ≤ cs.length) (h1 : ∀ v ∈ vs, v.oneCell' = true) :
    ∃ w' ob, (storeCells ⟨b.1, off, none⟩ vs).run P w = .ok () w' ∧ w'.heap = w.heap.setIfInBounds b.1 ob ∧ w'.os = w.os ∧ w'.tape = w.tape ∧ w'.output = w.output ∧ Kn b (cs.take off ++ vs ++ cs.drop (off + vs.length)) ty w' := by
  have hlt := h.lt
  obtain ⟨tail, t1, t2⟩ := h
  obtain ⟨w', r1, r2, r3, r4, r5⟩ := run_storeCells (P := P) t1 (off := off) (vs := vs) (by simp; omega) h1
  refine ⟨w', _, r1, r2, r3, r4, r5, tail.drop (off + vs.length - cs.length), ?_, ?_⟩
  · rw [r2, Array.getElem?_setIfInBounds_self_of_lt hlt]
    congr 3
    rw [List.take_append_of_le_length ho, List.drop_append]
    simp
  · simp; omega

theorem zeroCells_size (z : Array Value) (n : Nat) : (Builtin.zeroCells z n).size = n * z.size := by simp [Builtin.zeroCells]

/-- 'append' where it fits -/
theorem run_append_room {t t2 ty e : TypeId} {m : Nat} {d2 : TypeDesc} (hu : P.underlying t = some (.slice e)) (hu2 : P.underlying t2 = some d2) (hd2 : ∀ k, d2 ≠ .int k) (hm : szOf P e = some m) {x : Value} {n : Nat} {news : List Value} {base : Option Addr} {len cap : Nat}
    (hn : (Builtin.lenOf x).run P w = .ok n w) (hc : (Builtin.firstCells m n x).run P w = .ok news.toArray w) (hfit : len + n ≤ cap) {w' : World} (hs : ∀ a, base = some a → (storeCells (a.add (len * m)) news).run P w = .ok () w') (h0 : base = none → w' = w) :
    (Builtin.append_ #[t, t2] ty #[.slice base len cap, x]).run P w = .ok (.slice base (len + n) cap) w' := by
  have hz : (match d2 with | .int _ => true | _ => false) = false := by cases d2 <;> first | rfl | exact absurd rfl (hd2 _)
  unfold Builtin.append_
  simp only [List.getElem?_toArray, List.getElem?_cons_zero, List.getElem?_cons_succ, Sem.run_bind, run_underlying hu, Result.andThen_ok, Sy.run_sizeOf hm, run_underlying hu2, Sem.run_pure, Bool.false_eq_true, if_false, hn, hfit, if_true, Bool.not_false, hc]
  cases base with
  | none =>
    have := h0 rfl; subst this
    rfl
  | some a =>
    have := hs a rfl
    simp only [Sem.run_bind, this, Result.andThen_ok, Sem.run_pure]

/-- 'append' where it does not fit: a new row of whatever size -/
theorem run_append_new {t t2 ty e : TypeId} {m bts : Nat} {d2 : TypeDesc} (hu : P.underlying t = some (.slice e)) (hu2 : P.underlying t2 = some d2) (hd2 : ∀ k, d2 ≠ .int k) (hm : szOf P e = some m) (hb : byOf P e = some bts) (hb0 : 0 < bts)
    (hz : ∀ w, ∃ v, (zeroValue e).run P w = .ok v w ∧ v.cells.size = m) {x : Value} {n : Nat} {olds news : List Value} {base : Option Addr} {len cap : Nat}
    (hn : ∀ w' , w'.heap = w.heap → (Builtin.lenOf x).run P w' = .ok n w') (hc : ∀ w', w'.heap = w.heap → (Builtin.firstCells m n x).run P w' = .ok news.toArray w') (ho : ∀ w', w'.heap = w.heap → (Builtin.firstCells m len (.slice base len cap)).run P w' = .ok olds.toArray w')
    (hno : ¬ len + n ≤ cap) (hbig : (len + n) * bts ≤ 140737488355328) (hol : olds.length = len * m) (hnl : news.length = n * m) :
    ∃ w' tot, (Builtin.append_ #[t, t2] ty #[.slice base len cap, x]).run P w = .ok (.slice (some ⟨w.heap.size, 0, none⟩) (len + n) (tot)) w' ∧ Below w.heap.size w w' ∧ len + n ≤ tot ∧ Kn (w.heap.size, tot * m) (olds ++ news) e w' := by
  have hz0 : (match d2 with | .int _ => true | _ => false) = false := by cases d2 <;> first | rfl | exact absurd rfl (hd2 _)
  obtain ⟨i, hi, hib⟩ : ∃ i, P.info? e = some i ∧ i.bytes = bts := by
    unfold byOf at hb
    exact Option.map_eq_some_iff.1 hb
  have h48 : ¬ (281474976710656 < Builtin.nextslicecap (len + n) cap * bts) := by have := growslice_fits (need := len + n) (old := cap) (bytes := bts) (by omega) hbig; omega
  have hcut : ∀ t, len + n ≤ (Question.appendCap (len + n) cap e).cut t := fun t => by simp [Question.cut]
  generalize hT : (Question.appendCap (len + n) cap e).cut (w.tape w.drawn (.appendCap (len + n) cap e)) = T
  have hT' : len + n ≤ T := by rw [← hT]; exact hcut _
  obtain ⟨zv, hz1, hz2⟩ := hz w.drew
  have hti : ∀ w, (typeInfo e).run P w = .ok i w := fun w => by simp [typeInfo, hi]
  refine ⟨w.drew.alloc (.cells (olds.toArray ++ news.toArray ++ Builtin.zeroCells zv.cells (T - (len + n))) e), T, ?_, ?_, hT', ?_⟩
  · unfold Builtin.append_
    have e1 : ((if ((len + n : Nat) : Int) > IntKind.i64.max ∧ (false = true ∨ i.bytes = 0) then runtimePanic (.error "growslice: len out of range") else pure PUnit.unit : Sem PUnit)) = pure PUnit.unit := by
      rw [if_neg (by rintro ⟨_, h | h⟩; cases h; omega)]
    simp only [List.getElem?_toArray, List.getElem?_cons_zero, List.getElem?_cons_succ, Sem.run_bind, run_underlying hu, Result.andThen_ok, Sy.run_sizeOf hm, run_underlying hu2, Sem.run_pure, Bool.false_eq_true, if_false, hn w rfl, hno, Bool.not_false, if_true, hti, false_or]
    have c1 : ¬ (((len + n : Nat) : Int) > IntKind.i64.max ∧ i.bytes = 0) := by rintro ⟨_, h⟩; omega
    have c2 : ¬ (Builtin.nextslicecap (len + n) cap * i.bytes > 2 ^ 48) := by
      rw [hib]
      have : (2 : Nat) ^ 48 = 281474976710656 := by decide
      omega
    simp only [c1, c2, hti, if_false, Sem.run_bind, Sem.run_pure, Result.andThen_ok, run_choose_drew, Question.forced, Bool.false_eq_true, hT, run_askRoom, ho w.drew rfl, hc w.drew rfl, hz1]
    simp only [newRow, newObj, Sem.run_bind, Sem.run_pure]
    rfl
  · exact (⟨rfl, rfl, rfl, Nat.le_refl _, fun _ _ => rfl⟩ : Below w.heap.size w w.drew).alloc (Nat.le_refl _) _
  · refine ⟨(Builtin.zeroCells zv.cells (T - (len + n))).toList, ?_, ?_⟩
    · have := heap_alloc_new w.drew (.cells (olds.toArray ++ news.toArray ++ Builtin.zeroCells zv.cells (T - (len + n))) e)
      rw [show w.drew.heap.size = w.heap.size from rfl] at this
      rw [this]
      congr 2
      apply Array.ext'
      simp
    · have hzc := zeroCells_size zv.cells (T - (len + n))
      simp only [List.length_append, hol, hnl, Array.length_toList, hzc, hz2]
      rw [← Nat.add_mul, ← Nat.add_mul]
      congr 1
      omega
end
end Go.Fe
