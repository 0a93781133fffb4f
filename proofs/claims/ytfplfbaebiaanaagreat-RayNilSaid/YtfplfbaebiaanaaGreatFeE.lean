/- Functions: each may stand in its callers' text. -/
import Derived.Test.YtfplfbaebiaanaaGreatFeD
noncomputable section
namespace Go.Fe
open Go.RowKit Go.Reg Go.Sort Go.Sy

/-- a function of the program; its regions' plans; its loops' invariants -/
structure FnE where
  fn : Func
  rg : LT Pl
  /-- it writes nothing but its own blocks, and gives no name back -/
  pu : Bool
  inv : Nat → Option LInv := fun _ => none

def repU : Nat → List AV
  | 0 => []
  | n + 1 => und :: repU n
def padU : List AV → Nat → List AV
  | [], n => repU n
  | v :: l, 0 => v :: l
  | v :: l, n + 1 => v :: padU l n
def lenA : List AV → Nat
  | [] => 0
  | _ :: l => lenA l + 1
theorem repU_eq : ∀ n, repU n = List.replicate n und
  | 0 => rfl
  | n + 1 => by simp [repU, repU_eq n, List.replicate_succ]
theorem padU_eq : ∀ (l : List AV) (n : Nat), padU l n = l ++ List.replicate (n - l.length) und
  | [], n => by simp [padU, repU_eq]
  | v :: l, 0 => by simp [padU]
  | v :: l, n + 1 => by simp [padU, padU_eq l n]
theorem lenA_eq : ∀ l, lenA l = l.length
  | [] => rfl
  | _ :: l => by simp [lenA, lenA_eq l]

def resE (hd : Hid) (tb : Tab) (st : AS) : ResultVar → VC EV
  | .tmp t => match getL und st.tm t with
    | .e v => .ret v
    | .t _ => .fail
  | .cell p ty => (pLoad hd tb st ty (getL und st.tm p)).bind fun v => match v with
    | .e v => .ret v
    | .t _ => .fail
def resL (hd : Hid) (tb : Tab) (st : AS) : List ResultVar → VC (List EV)
  | [] => .ret []
  | r :: l => (resE hd tb st r).bind fun v => (resL hd tb st l).bind fun vs => .ret (v :: vs)
def resV (hd : Hid) (tb : Tab) (st : AS) (l : List ResultVar) : VC AV := (resL hd tb st l).bind fun vs => match vs with
  | [v] => .ret (.e v)
  | vs => .ret (.t vs)
/-- the calls that were put off -/
def dfV (hd : Hid) (E : Env) : List (Nat × List AV) → AS → VC AS
  | [], st => .ret { st with df := [] }
  | (i, args) :: l, st => match E.D i with
    | some C => (C hd st args).bind fun r => dfV hd E l { r.1 with tm := st.tm, df := l }
    | none => .fail
def frV (st : AS) (args : List AV) (n : Nat) : AS := { st with tm := padU args n, df := [] }
def fnV (tb : Tab) (E : Env) (fuel : Nat) (F : FnE) : FC := fun hd st args => match F.fn.body with
  | none => .fail
  | some c => bif Nat.ble (lenA args) F.fn.ntmps then (cU hd tb E F.rg F.inv fuel c (frV st args F.fn.ntmps)).bind fun r => match r with
    | (.exit _, _) => .fail
    | (_, s) => (dfV hd E s.df s).bind fun s => (resV hd tb s F.fn.results.toList).bind fun v => .ret (s, v) else .fail
/-- the same, for a function that puts no call off -/
def fnD (tb : Tab) (E : Env) (fuel : Nat) (F : FnE) : FC := fun hd st args => match F.fn.body with
  | none => .fail
  | some c => bif Nat.ble (lenA args) F.fn.ntmps then (cU hd tb E F.rg F.inv fuel c (frV st args F.fn.ntmps)).bind fun r => match r with
    | (.exit _, _) => .fail
    | (_, s) => match s.df with
      | [] => (resV hd tb s F.fn.results.toList).bind fun v => .ret (s, v)
      | _ => .fail else .fail

section
variable {P : Program} {tb : Tab} {E : Env} {hd : Hid}

def resS (tmps : Array Value) : ResultVar → Sem Value
  | .tmp t => pure (tmps.getD t undef)
  | .cell a t => do loadVar t (← asAddr (tmps.getD a undef))
theorem results_eq (fn : Func) (tmps : Array Value) : results fn tmps = (do
    let vs ← fn.results.mapM (resS tmps)
    pure (if h : vs.size = 1 then vs[0] else .tuple vs)) := rfl

theorem loadAt_ptr {t : TypeId} {v u : Value} {w : World} (h : (Instr.loadAt t v).run P w = .ok u w) (hv : ∃ a, v = .pointer (some a)) : ((do loadVar t (← asAddr v)) : Sem Value).run P w = .ok u w := by
  obtain ⟨a, rfl⟩ := hv
  simp only [Instr.loadAt, Instr.sureAddr, Sem.run_bind, Sem.run_pure, Result.andThen_ok] at h
  simp only [asAddr, Sem.run_bind, Sem.run_pure, Result.andThen_ok]
  exact h
theorem pLoad_ptr {t : TypeId} {v u : Value} {w : World} (h : (Instr.loadAt t v).run P w = .ok u w) : ∃ a, v = .pointer (some a) := by
  unfold Instr.loadAt Instr.sureAddr at h
  cases v with
  | pointer p =>
    cases p with
    | some a => exact ⟨a, rfl⟩
    | none => simp [Sem.run_bind, Result.andThen] at h
  | _ => simp [Sem.run_bind, stuck, Result.andThen] at h

theorem resE_ok (ok : TabOk P tb) {st : AS} {r : ResultVar} {K : EV → Prop} (hwf : Wf st) (h : (resE hd tb st r).holds K) : ∃ v, K v ∧ v.bd st.nx ∧ ∀ w0 M β a w, Is w0 M β st a w → (resS a.tmps r).run P w = .ok (v.val β) w := by
  cases r with
  | tmp t =>
    simp only [resE] at h
    split at h
    · rename_i v e
      have hb := hwf.ev (.tmp t)
      simp only [AS.ev, e] at hb
      refine ⟨v, h, hb, fun w0 M β a w hI => ?_⟩
      have he := hI.eval (.tmp t)
      simp only [Act.eval, AS.ev, e] at he
      simp only [resS, Sem.run_pure, he]; rfl
    · exact False.elim h
  | cell p ty =>
    simp only [resE] at h
    obtain ⟨v, hK, hb, hr⟩ := pLoad_ok ok hwf.toWfM (VC.holds_bind h)
    cases v with
    | t l => exact False.elim hK
    | e v =>
      refine ⟨v, hK, hb, fun w0 M β a w hI => ?_⟩
      have he := hI.eval (.tmp p)
      simp only [Act.eval, AS.ev] at he
      have h1 := hr w0 M β w hI.mem
      simp only [resS, he]
      exact loadAt_ptr h1 (pLoad_ptr h1)
theorem resL_ok (ok : TabOk P tb) {st : AS} (hwf : Wf st) : ∀ {l : List ResultVar} {K : List EV → Prop}, (resL hd tb st l).holds K → ∃ vs, K vs ∧ (∀ v ∈ vs, EV.bd st.nx v) ∧ ∀ w0 M β a w, Is w0 M β st a w → (l.mapM (resS a.tmps)).run P w = .ok (vs.map (EV.val β)) w
  | [], K, h => ⟨[], h, by simp, fun _ _ _ _ _ _ => rfl⟩
  | r :: l, K, h => by
    obtain ⟨v, h1, b1, r1⟩ := resE_ok ok hwf (VC.holds_bind h)
    obtain ⟨vs, h2, b2, r2⟩ := resL_ok ok hwf (VC.holds_bind h1)
    refine ⟨v :: vs, h2, fun u hu => ?_, fun w0 M β a w hI => ?_⟩
    · rcases List.mem_cons.1 hu with rfl | hu
      · exact b1
      · exact b2 u hu
    · simp only [List.mapM_cons, Sem.run_bind, List.map_cons, r1 w0 M β a w hI, r2 w0 M β a w hI, Result.andThen_ok, Sem.run_pure]
theorem resV_ok (ok : TabOk P tb) {st : AS} (hwf : Wf st) {fn : Func} {K : AV → Prop} (h : (resV hd tb st fn.results.toList).holds K) : ∃ v, K v ∧ v.bd st.nx ∧ ∀ w0 M β a w, Is w0 M β st a w → (results fn a.tmps).run P w = .ok (v.val β) w := by
  obtain ⟨vs, hK, hb, hr⟩ := resL_ok ok hwf (VC.holds_bind h)
  split at hK
  · rename_i v
    refine ⟨_, hK, hb v (by simp), fun w0 M β a w hI => ?_⟩
    have := hr w0 M β a w hI
    rw [results_eq, Array.mapM_eq_mapM_toList]
    simp [this, AV.val_e]
  · rename_i hne
    refine ⟨_, hK, hb, fun w0 M β a w hI => ?_⟩
    have := hr w0 M β a w hI
    have h1 : vs.length ≠ 1 := fun e => by
      match vs, e with
      | [u], _ => exact hne u rfl
    rw [results_eq, Array.mapM_eq_mapM_toList]
    simp [this, h1, AV.val_t, EV.vals_eq]

theorem leaves_sound (eok : EOk P E) {w0 : World} {M : List Nat} {fn : Func} {tmps : Array Value} {R : Ending → World → Prop} : ∀ {l : List (Nat × List AV)} {st : AS} {K : AS → Prop} {β : Nat → Nat × Nat} {w : World}, st.df = l → Is w0 M β st { tmps := tmps, defers := dfs β l } w → (dfV hd E l st).holds K →
    (∀ s' β' w', K s' → Agree st.nx β β' → st.nx ≤ s'.nx → s'.lo = st.lo → Is w0 M β' s' { tmps := tmps, defers := [] } w' → ∃ v, (results fn tmps).run P w' = .ok v w' ∧ R (.returned v) w') → Leaves P fn tmps R (dfs β l) .returning w
  | [], st, K, β, w, hdf, hI, h, hk => by
    have hI' : Is w0 M β { st with df := [] } { tmps := tmps, defers := [] } w := ⟨hI.tm, rfl, hI.mem.of_eq rfl rfl rfl, ⟨⟨hI.wf.hp, hI.wf.nd⟩, hI.wf.tm, fun _ h => absurd h (by simp)⟩⟩
    exact hk _ β w h (Agree.rfl _ _) (Nat.le_refl _) rfl hI'
  | (i, args) :: l, st, K, β, w, hdf, hI, h, hk => by
    simp only [dfV] at h
    split at h
    · rename_i C hC
      have hargs : ∀ v ∈ args, AV.bd st.nx v := hI.wf.dfb (i, args) (by rw [hdf]; simp)
      have hcall := eok.d _ _ hC hd st args _ (VC.holds_bind h) hI.wf.toWfM hargs w0 M β w hI.mem
      have hl : ∀ q ∈ l, ∀ v ∈ q.2, AV.bd st.nx v := fun q hq => hI.wf.dfb q (by rw [hdf]; exact List.mem_cons_of_mem _ hq)
      refine ⟨by simp, .func i, #[], i, (args.map (AV.val β)).toArray, rfl, ?_, hcall.mono fun e u' w' he => ?_⟩
      · simp only [invoke]
        rw [eok.db _ _ hC]
        simp
      · obtain ⟨rfl, β', st', v, hK, rfl, ha, hn, hlo, hv, hm, hS⟩ := he
        have hI' : Is w0 M β' { st' with tm := st.tm, df := l } { tmps := tmps, defers := dfs β' l } w' := by
          refine ⟨?_, rfl, hS.of_eq rfl rfl rfl, ⟨⟨hm.hp, hm.nd⟩, fun u hu => (hI.wf.tm u hu).mono hn, fun q hq v hv => (hl q hq v hv).mono hn⟩⟩
          have := hI.tm
          simp only at this ⊢
          rw [this]
          congr 1
          exact List.map_congr_left fun u hu => (AV.val_agree ha (hI.wf.tm u hu)).symm
        have := leaves_sound eok rfl hI' hK fun s' β'' w'' h1 ag n1 l1 hI'' => hk s' β'' w'' h1 (ha.trans ag hn) (Nat.le_trans hn n1) (l1.trans hlo) hI''
        rw [dfs_agree ha hl] at this
        exact this
    · exact False.elim h

theorem frV_is {st : AS} {args : List AV} {n : Nat} (hwf : WfM st) (hargs : ∀ v ∈ args, AV.bd st.nx v) {w0 w : World} {M : List Nat} {β : Nat → Nat × Nat} (hS : Mm w0 M β st w) :
    Is w0 M β (frV st args n) { tmps := (args.map (AV.val β)).toArray ++ Array.replicate (n - (args.map (AV.val β)).toArray.size) undef, defers := [] } w := by
  refine ⟨?_, rfl, hS.of_eq rfl rfl rfl, ⟨⟨hwf.hp, hwf.nd⟩, fun v hv => ?_, fun _ h => absurd h (by simp [frV])⟩⟩
  · apply Array.ext'
    simp [frV, padU_eq, und_val]
  · simp only [frV, padU_eq, List.mem_append, List.mem_replicate] at hv
    rcases hv with hv | ⟨_, rfl⟩
    · exact hargs v hv
    · exact und_bd _

/-- a function's entry is right -/
structure FnOk (P : Program) (i : Nat) (F : FnE) : Prop where
  fn : P.funcs[i]? = some F.fn
  name : (F.fn.name == "runtime.NumGoroutine") = false
  body : ∃ c, F.fn.body = some c ∧ rgB F.rg F.fn.ntmps c = true
theorem FnOk.bodied {i : Nat} {F : FnE} (h : FnOk P i F) : Bodied P i := by
  intro args w
  obtain ⟨c, hc, _⟩ := h.body
  have h1 := h.fn
  have h2 := h.name
  unfold callFunc
  simp only [Sem.run_bind]
  have : (program).run P w = .ok P w := rfl
  rw [this]
  simp only [Result.andThen_ok, h1, h2, Bool.false_eq_true, if_false, hc, Option.isNone_some, Sem.run_pure]

theorem fnV_ok (ok : TabOk P tb) (eok : EOk P E) (hm : P.follows .mixedOrders = true) {fuel i : Nat} {F : FnE} (hF : FnOk P i F) : FcOk P i (fnV tb E fuel F) := by
  intro hd st args K h hwf hargs w0 M β w hS
  obtain ⟨c, hc, hB⟩ := hF.body
  unfold fnV at h
  rw [hc] at h
  cases hle : Nat.ble (lenA args) F.fn.ntmps with
  | false => rw [hle] at h; exact False.elim h
  | true =>
    rw [hle] at h
    simp only [cond_true] at h
    have hle := Nat.le_of_ble_eq_true hle
    rw [lenA_eq] at hle
    refine calls_of_wp_defers hF.fn hc ?_
    have hlen : (frV st args F.fn.ntmps).tm.length = F.fn.ntmps := by simp [frV, padU_eq]; omega
    refine code_sound ok eok hm c _ _ hB hlen (VC.holds_bind h) w0 M β _ w _ (frV_is hwf hargs hS) fun x s β' a' w' h1 ag n1 l1 t1 hI' => ?_
    have post : ((dfV hd E s.df s).bind fun s => (resV hd tb s F.fn.results.toList).bind fun v => VC.ret (s, v)).holds K → Leaves P F.fn a'.tmps (fun e w' => ∃ β' st' v, K (st', v) ∧ e = .returned (v.val β') ∧ Agree st.nx β β' ∧ st.nx ≤ st'.nx ∧ st'.lo = st.lo ∧ v.bd st'.nx ∧ WfM st' ∧ Mm w0 M β' st' w') a'.defers .returning w' := by
      intro h1
      rw [hI'.df]
      refine leaves_sound eok rfl ⟨hI'.tm, rfl, hI'.mem, hI'.wf⟩ (VC.holds_bind h1) fun s' β'' w'' h2 ag2 n2 l2 hI'' => ?_
      obtain ⟨v, hK, hb, hr⟩ := resV_ok ok hI''.wf (VC.holds_bind h2)
      exact ⟨_, hr w0 M β'' { tmps := a'.tmps, defers := [] } w'' hI'', β'', s', v, hK, rfl, ag.trans ag2 n1, Nat.le_trans n1 n2, l2.trans l1, hb, hI''.wf.toWfM, hI''.mem⟩
    cases x with
    | exit i => exact h1.elim
    | normal => exact post h1
    | ret => exact post h1
theorem fnD_ok (ok : TabOk P tb) (eok : EOk P E) (hm : P.follows .mixedOrders = true) {fuel i : Nat} {F : FnE} (hF : FnOk P i F) : FdOk P i (fnD tb E fuel F) := by
  intro hd st args K h hwf hargs w0 M β w hS
  obtain ⟨c, hc, hB⟩ := hF.body
  unfold fnD at h
  rw [hc] at h
  cases hle : Nat.ble (lenA args) F.fn.ntmps with
  | false => rw [hle] at h; exact False.elim h
  | true =>
    rw [hle] at h
    simp only [cond_true] at h
    have hle := Nat.le_of_ble_eq_true hle
    rw [lenA_eq] at hle
    refine callsD_of_wp hF.fn hc ?_
    have hlen : (frV st args F.fn.ntmps).tm.length = F.fn.ntmps := by simp [frV, padU_eq]; omega
    refine code_sound ok eok hm c _ _ hB hlen (VC.holds_bind h) w0 M β _ w _ (frV_is hwf hargs hS) fun x s β' a' w' h1 ag n1 l1 t1 hI' => ?_
    have post : (match s.df with
      | [] => (resV hd tb s F.fn.results.toList).bind fun v => .ret (s, v)
      | _ => VC.fail).holds K → a'.defers = [] ∧ ∃ u, (results F.fn a'.tmps).run P w' = .ok u w' ∧ ∃ β' st' v, K (st', v) ∧ Ending.returned u = .returned (v.val β') ∧ Agree st.nx β β' ∧ st.nx ≤ st'.nx ∧ st'.lo = st.lo ∧ v.bd st'.nx ∧ WfM st' ∧ Mm w0 M β' st' w' := by
      intro h1
      split at h1
      · rename_i hdf
        obtain ⟨v, hK, hb, hr⟩ := resV_ok ok hI'.wf (VC.holds_bind h1)
        exact ⟨by rw [hI'.df, hdf]; rfl, _, hr w0 M β' _ w' hI', β', s, v, hK, rfl, ag, n1, l1, hb, hI'.wf.toWfM, hI'.mem⟩
      · exact False.elim h1
    cases x with
    | exit i => exact h1.elim
    | normal => exact post h1
    | ret => exact post h1

/-! ### A function that writes nothing -/
/-- with one outcome only -/
def VC.lin {α : Type} : VC α → VC α
  | .ret a => .ret a
  | .ob p k => .ob p k.lin
  | .br b k => .br b fun b' => (k b').lin
  | _ => .fail
theorem VC.lin_out {α : Type} {K : α → Prop} : ∀ {t : VC α}, t.lin.holds K → ∃ a, K a ∧ t.holds (· = a)
  | .ret a, h => ⟨a, h, rfl⟩
  | .ob p k, h => by
    obtain ⟨a, h1, h2⟩ := VC.lin_out (t := k) h.2
    exact ⟨a, h1, h.1, h2⟩
  | .br b k, h => by
    obtain ⟨a, h1, h2⟩ := VC.lin_out (t := k b) h.out
    exact ⟨a, h1, ⟨h2⟩⟩
  | .fail, h => False.elim h
  | .all _ _, h => False.elim h
  | .imp _ _, h => False.elim h
def pcOf (C : FC) : PC := fun hd st args => (C hd { st with lo := st.nx, tm := [], df := [] } args).lin.bind fun r => bif nmA 0 r.2 then .ret r.2 else .fail
theorem pcOf_ok {i : Nat} {C : FC} (hC : FcOk P i C) : PcOk P i (pcOf C) := by
  intro hd st args K h hwf hargs
  obtain ⟨⟨s, v⟩, h1, h2⟩ := VC.lin_out (VC.holds_bind h)
  cases hn : nmA 0 v with
  | false => rw [hn] at h1; exact False.elim h1
  | true =>
    rw [hn] at h1
    have hb := nmA_bd hn
    refine ⟨v, h1, hb, fun w0 M β w hS => ?_⟩
    have hS' : Mm w [] β { st with lo := st.nx, tm := [], df := [] } w := by
      refine ⟨rfl, rfl, rfl, Nat.le_refl _, fun _ _ _ => rfl, hS.apart, fun q hq hl => ?_, hS.has, fun k o ho => ⟨(hS.frz k o ho).1, fun q hq hl => ?_⟩⟩
      · have := (hwf.hp q hq).1; simp only at hl; omega
      · have := (hwf.hp q hq).1; simp only at hl; omega
    refine (hC hd _ args _ h2 ⟨hwf.hp, hwf.nd⟩ hargs w [] β w hS').mono fun e w' ⟨β', st', u, hK, he, ha, hn, hl, hv, hm, hS2⟩ => ?_
    simp only [Prod.mk.injEq] at hK
    obtain ⟨rfl, rfl⟩ := hK
    refine ⟨by rw [he, AV.val_agree (n := 0) (fun k hk => absurd hk (by omega)) hb], ?_⟩
    exact ⟨hS2.os, hS2.tape, hS2.output, hS2.size, fun k hk => hS2.keep k hk (by simp)⟩

/-! ### All functions -/
structure Kit where
  tb : Tab
  fns : LT FnE
  G : Nat → Option PC := fun _ => none
  O : Nat → Option FC := fun _ => none
  X : Nat → Option FC := fun _ => none
def Kit.env (kt : Kit) (fuel : Nat) : Nat → Env
  | 0 => { Γ := kt.G, Δ := kt.O, Ξ := kt.X, D := fun _ => none }
  | n + 1 => ⟨(fun i => match kt.G i with
      | some C => some C
      | none => match kt.fns.look i with
        | some F => bif F.pu then some (pcOf (fnV kt.tb (kt.env fuel n) fuel F)) else none
        | none => none), (fun i => match kt.O i with
      | some C => some C
      | none => match kt.G i with
        | some _ => none
        | none => match kt.fns.look i with
          | some F => bif F.pu then none else some (fnV kt.tb (kt.env fuel n) fuel F)
          | none => none), kt.X, (fun i => match kt.fns.look i with
      | some F => some (fnD kt.tb (kt.env fuel n) fuel F)
      | none => none)⟩
structure KitOk (P : Program) (kt : Kit) : Prop where
  tb : TabOk P kt.tb
  mixed : P.follows .mixedOrders = true
  fns : ∀ i F, kt.fns.look i = some F → FnOk P i F
  G : GOk P kt.G
  O : ∀ i C, kt.O i = some C → FcOk P i C
  Ob : ∀ i C, kt.O i = some C → Bodied P i
  X : ∀ i C, kt.X i = some C → XcOk P i C
theorem Kit.env_ok {kt : Kit} (h : KitOk P kt) (fuel : Nat) : ∀ n, EOk P (kt.env fuel n)
  | 0 => ⟨h.G, h.O, h.Ob, h.X, fun _ _ h => (by simp [Kit.env] at h), fun _ _ h => (by simp [Kit.env] at h)⟩
  | n + 1 => by
    have ih := Kit.env_ok h fuel n
    have hG : ∀ i C, (kt.env fuel (n + 1)).Γ i = some C → PcOk P i C ∧ Bodied P i := fun i C hC => by
      simp only [Kit.env] at hC
      split at hC
      · rename_i C' e; cases hC; exact ⟨h.G.ok _ _ e, h.G.bd _ _ e⟩
      · split at hC
        · rename_i F hF
          cases hp : F.pu with
          | true => rw [hp] at hC; cases hC; exact ⟨pcOf_ok (fnV_ok h.tb ih h.mixed (h.fns _ _ hF)), (h.fns _ _ hF).bodied⟩
          | false => rw [hp] at hC; cases hC
        · cases hC
    have hD : ∀ i C, (kt.env fuel (n + 1)).Δ i = some C → FcOk P i C ∧ Bodied P i := fun i C hC => by
      simp only [Kit.env] at hC
      split at hC
      · rename_i C' e; cases hC; exact ⟨h.O _ _ e, h.Ob _ _ e⟩
      · split at hC
        · cases hC
        · split at hC
          · rename_i F hF
            cases hp : F.pu with
            | true => rw [hp] at hC; cases hC
            | false => rw [hp] at hC; cases hC; exact ⟨fnV_ok h.tb ih h.mixed (h.fns _ _ hF), (h.fns _ _ hF).bodied⟩
          · cases hC
    refine ⟨⟨fun i C hC => (hG i C hC).1, fun i C hC => (hG i C hC).2⟩, fun i C hC => (hD i C hC).1, fun i C hC => (hD i C hC).2, h.X, fun i C hC => ?_, fun i C hC => ?_⟩
    · simp only [Kit.env] at hC
      split at hC
      · rename_i F hF; cases hC; exact fnD_ok h.tb ih h.mixed (h.fns _ _ hF)
      · cases hC
    · simp only [Kit.env] at hC
      split at hC
      · rename_i F hF; exact (h.fns _ _ hF).bodied
      · cases hC

/-- the tree of functions, entry by entry -/
def LT.Each {α : Type} (f : Nat → α → Prop) : LT α → Prop
  | .l => True
  | .n k v a b => f k v ∧ LT.Each f a ∧ LT.Each f b
theorem LT.each_mem {α : Type} {f : Nat → α → Prop} : ∀ {t : LT α}, LT.Each f t → ∀ p ∈ t.list, f p.1 p.2
  | .l, _, p, hp => by simp [LT.list] at hp
  | .n k v a b, h, p, hp => by
    simp only [LT.list, List.mem_append, List.mem_cons] at hp
    rcases hp with hp | rfl | hp
    · exact LT.each_mem h.2.1 p hp
    · exact h.1
    · exact LT.each_mem h.2.2 p hp
def fnB (F : FnE) : Bool := (F.fn.name == "runtime.NumGoroutine") == false && match F.fn.body with
  | some c => rgB F.rg F.fn.ntmps c
  | none => false
theorem fns_ok {fns : LT FnE} (h1 : LT.Each (fun i F => P.funcs[i]? = some F.fn) fns) (h2 : fns.all (fun _ F => fnB F) = true) : ∀ i F, fns.look i = some F → FnOk P i F := by
  intro i F h
  have g1 := LT.each_mem h1 _ (LT.look_mem h)
  have g2 := LT.all_look h2 h
  unfold fnB at g2
  simp only [Bool.and_eq_true, beq_iff_eq] at g2
  refine ⟨g1, g2.1, ?_⟩
  have := g2.2
  split at this
  · rename_i c hc; exact ⟨c, hc, this⟩
  · cases this

/-! ### A run that decides everything itself -/
def VC.out {α : Type} : VC α → Option α
  | .ret a => some a
  | .br b k => (k b).out
  | _ => none
theorem VC.out_holds {α : Type} {a : α} : ∀ {t : VC α}, t.out = some a → t.holds (· = a)
  | .ret _, h => by cases h; rfl
  | .br b k, h => ⟨VC.out_holds (t := k b) h⟩
  | .fail, h => by cases h
  | .ob _ _, h => by cases h
  | .all _ _, h => by cases h
  | .imp _ _, h => by cases h
end
end Go.Fe
