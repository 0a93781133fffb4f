/- A region that draws its order: one that may write comes up; the theorem. -/
import Derived.Test.YtfplfbaebiaanaaGreatFeB
noncomputable section
namespace Go.Fe
open Go.RowKit Go.Reg Go.Sort Go.Sy

section
variable {P : Program} {ops : Array Oper} {tb : Tab} {E : Env} {hd : Hid}
variable {w0 : World} {M : List Nat} {tm0 : List AV} {nx0 : Nat} {β0 : Nat → Nat × Nat} {lo0 : Nat} {dn pend : List Nat} {gU : List (Nat × Nat)} {lim : Nat} {s : AS} {listed : Array Bool} {β : Nat → Nat × Nat} {a : Act} {w : World}

theorem rch_lt (rg : RgOk ops tm0.length) {i j : Nat} (h : Rch ops i j) : j < i := by
  induction h with
  | one ho he hb => exact rg.back _ _ ho _ he hb
  | step ho he hb _ ih => exact Nat.lt_trans ih (rg.back _ _ ho _ he hb)

theorem cst_hps (s : AS) (o : Oper) : ∀ q ∈ (cst s o).hp, q ∈ s.hp := cst_hp s o
/-- what is reckoned again has the value that it had -/
theorem reV_out (ok : TabOk P tb) (gok : GOk P E.Γ) {s t : AS} (hwf : Wf { t with tm := s.tm }) {Kv : VC AS} {K : AS → Prop} : ∀ {l : List Nat}, (reV hd tb E.Γ ops.toList s t Kv l).holds K →
    (∀ i ∈ l, ∃ o v, ops[i]? = some o ∧ Calm P ops o (cst { t with tm := s.tm } o) v ∧ ∀ d, o.dst = some d → Veq (getL und s.tm d) v) ∧ Kv.holds K
  | [], h => ⟨by simp, h⟩
  | i :: r, h => by
    unfold reV at h
    split at h
    · exact False.elim h
    rename_i o ho'
    have ho : ops[i]? = some o := by rw [nthO'_eq] at ho'; simpa using ho'
    split at h
    · rename_i d hg hdd
      obtain ⟨v, k1, k2, k3⟩ := pv_sound ok gok (VC.holds_bind h) (cst_wf o hwf)
      have hv : v = getL und s.tm d ∧ (reV hd tb E.Γ ops.toList s t Kv r).holds K := by
        cases e : avB v (getL und s.tm d) with
        | true => rw [e] at k1; exact ⟨avB_eq e, k1⟩
        | false => rw [e] at k1; exact k1
      obtain ⟨r1, r2⟩ := reV_out ok gok hwf hv.2
      refine ⟨fun j hj => ?_, r2⟩
      rcases List.mem_cons.1 hj with rfl | hj
      · refine ⟨o, v, ho, ⟨cst_wf o hwf, k2, .inl fun w0 M β a w hI => ⟨by simp [Region.wanted, hg], k3 w0 M β a w hI⟩⟩, fun d' hd' => ?_⟩
        rw [hdd] at hd'
        cases hd'
        rw [hv.1]; exact Veq.rfl _
      · exact r1 j hj
    · exact False.elim h

/-- one that may write comes up -/
theorem DI.step_bar (ok : TabOk P tb) (eok : EOk P E) (rg : RgOk ops tm0.length) (h : DI P ops w0 M tm0 nx0 β0 lo0 dn pend [] s.nx s listed β a w) {b : Nat} {ap : List Nat} (hbd : b ∉ dn) (hok : okC ops (masks ops.toList []) dn b = true)
    (hg : atB (fun o => o.guard.isNone) ops b = true) (hcl : (dn.all fun i => atB fOp ops i || rB (masks ops.toList []) b i || ap.contains i) = true) (hap : (ap.all fun i => apC ops (masks ops.toList []) dn i) = true)
    (hr : b ∈ Region.ready .any ops listed) {K : AS → Prop} (hv : (barV hd tb E ops.toList s b ap).holds K) {Q : Exit → Act → World → Prop} (_hQ : ∀ c a w, ¬ Q (.panic c) a w) {next : Act → World → Prop}
    (hk : ∀ s' β' a' w', K s' → DI P ops w0 M tm0 nx0 β0 lo0 (dn ++ [b]) pend [] s'.nx s' (listed.setIfInBounds b true) β' a' w' → next a' w') : wpOp P ops Q b next a w := by
  unfold barV at hv
  split at hv
  · exact False.elim hv
  rename_i o ho'
  have ho : ops[b]? = some o := by rw [nthO'_eq] at ho'; simpa using ho'
  have hdo : dstOf ops b = o.dst := dstOf_eq ho
  have hbl : b < ops.size := (Array.getElem?_eq_some_iff.1 ho).1
  have hgn : o.guard = none := by unfold atB at hg; rw [ho] at hg; simpa using hg
  · have hv : (sv hd tb E s o).holds fun t => (reV hd tb E.Γ ops.toList s t (.ret { t with tm := match o.dst with | some d => setL s.tm d (getL und t.tm d) | none => s.tm }) ap).holds K ∧ t.df = [] := VC.holds_mono (fun t ht => by
      split at ht
      · rename_i e; exact ⟨ht, e⟩
      · exact ht.elim) (VC.holds_bind hv)
    have hlk : Lk ops dn tm0 s s o b := okC_lk rg ho hok h.f0 (fun _ _ => Veq.rfl _)
    obtain ⟨e1, e2⟩ := h.same rg ho hr hlk
    have hIs : Is w0 M β s (frOf β s) w := ⟨rfl, rfl, h.mem.sub (fun q hq => by simpa using hq) (fun _ _ h => h) (Nat.le_refl _), h.wf⟩
    have hw : ∀ a : Act, Region.wanted o (yielded ops a.tmps) = true := fun a => by simp [Region.wanted, hgn]
    -- what is reckoned and has not come up stays as it is
    have hpend : ∀ i ∈ pend, ∀ t : AS, s.nx ≤ t.nx → t.lo = s.lo → (∀ i ∈ ap, ∃ o v, ops[i]? = some o ∧ Calm P ops o (cst { t with tm := s.tm } o) v ∧ ∀ d, o.dst = some d → Veq (getL und s.tm d) v) →
        ∃ o' c v, ops[i]? = some o' ∧ Calm P ops o' c v ∧ (∀ q ∈ c.hp, q ∈ t.hp) ∧ (∀ k ob, c.mem k = some ob → t.mem k = some ob) ∧ s.lo = c.lo ∧ c.nx ≤ t.nx ∧ (∀ d, o'.dst = some d → Veq (getL und s.tm d) v) ∧ Lk ops dn tm0 s c o' i ∧ ∃ c0 : AS, c = cst c0 o' ∧ c0.tm = c.tm := by
      intro i hi t hnx hlo ht
      obtain ⟨o', c, v, g1, g2, g3, g4, g5, g6, g7, g8, c0, g9, g10⟩ := h.prec i hi
      have hcl := List.all_eq_true.1 hcl i (h.pd i hi)
      simp only [Bool.or_eq_true] at hcl
      unfold atB at hcl
      rw [g1] at hcl
      simp only at hcl
      rcases hcl with (hf | hrb) | hc
      · have hc : c = { c0 with hp := [], mem := fun _ => none } := by rw [g9]; unfold cst; rw [hf]; rfl
        refine ⟨o', c, v, g1, g2, ?_, ?_, g5, Nat.le_trans g6 hnx, g7, g8, c0, g9, g10⟩
        · rw [hc]; simp
        · rw [hc]; simp
      · exfalso
        have := h.clo.ready hr (masks_rch hrb)
        have hil : i < ops.size := (Array.getElem?_eq_some_iff.1 g1).1
        exact ((h.cov i hil).1 this).2.1 hi
      · have hia : i ∈ ap := by simpa using hc
        obtain ⟨o2, v2, k1, k2, k3⟩ := ht i hia
        have : o2 = o' := Option.some.inj (k1.symm.trans g1)
        subst this
        refine ⟨o2, cst { t with tm := s.tm } o2, v2, g1, k2, cst_hp _ _, cst_mem _ _, by rw [cst_lo]; exact hlo.symm, by rw [cst_nx]; exact Nat.le_refl _, k3, fun d hd => ?_, { t with tm := s.tm }, rfl, by rw [cst_tm]⟩
        rw [cst_tm]
        rcases g8 d hd with ⟨k, h1, h2, h3, h4⟩ | ⟨h3, h4⟩
        · exact .inl ⟨k, h1, h2, h3, Veq.rfl _⟩
        · refine .inr ⟨h3, h.f0 d fun j hj e => ?_⟩
          have hapc := List.all_eq_true.1 hap i hia
          unfold apC at hapc
          rw [g1] at hapc
          have h5 := List.all_eq_true.1 (List.all_eq_true.1 hapc d hd) j hj
          simp only [e, bne_self_eq_false, Bool.false_or] at h5
          have h6 := rch_lt rg (masks_rch h5)
          rcases h3 j e with h7 | h7
          · have := rch_lt rg h7; omega
          · omega
    -- behind it
    have hafter : ∀ (t : AS) (β' : Nat → Nat × Nat) (a' : Act) (w' : World) (v : Value), ((reV hd tb E.Γ ops.toList s t (.ret { t with tm := match o.dst with | some d => setL s.tm d (getL und t.tm d) | none => s.tm }) ap).holds K ∧ t.df = []) →
        Agree s.nx β β' → s.nx ≤ t.nx → t.lo = s.lo → Is w0 M β' t a' w' → a' = (frOf β s).put o.dst v → next (a.put o.dst v) w' := by
      intro t β' a' w' v hK hag hnx hlo hI ha'
      have hwf2 : Wf { t with tm := s.tm } := ⟨⟨hI.wf.hp, hI.wf.nd⟩, fun u hu => (h.wf.tm u hu).mono hnx, hI.wf.dfb⟩
      obtain ⟨hre, hKf⟩ := reV_out ok eok.g hwf2 hK.1
      have hlen : ∀ d, o.dst = some d → d < s.tm.length := fun d hd => by rw [h.len]; exact rg.dlt b d (hdo.trans hd)
      have htm : ∀ d, getL und (match o.dst with | some d => setL s.tm d (getL und t.tm d) | none => s.tm) d = if o.dst = some d then getL und t.tm d else getL und s.tm d := fun d => by
        cases hd : o.dst with
        | none => simp
        | some d0 =>
          have hl := hlen d0 hd
          by_cases e : d0 = d
          · subst e; simp [setL_eq, getL_eq, hl]
          · simp [setL_eq, getL_eq, e]
      have hslot : ∀ d, o.dst = some d → (getL und t.tm d).val β' = v := fun d hd => by
        have := frOf_getD β' t d
        rw [← this]
        have h2 : a'.tmps.getD d undef = (frOf β' t).tmps.getD d undef := by rw [hI.tm]; rfl
        rw [← h2, ha', hd, getD_put_eq]
        simp [frOf, hlen d hd]
      have hsv : ∀ d, (getL und s.tm d).val β' = (getL und s.tm d).val β := fun d => AV.val_agree hag (h.wf.ev (.tmp d))
      refine hk _ β' _ w' hKf ⟨h.clo.set hr, fun j hj => ?_, fun j hj => List.mem_append_left _ (h.pd j hj), fun q hq => (by cases hq), ?_, by rw [size_put, h.sz], ⟨by rw [defers_put, h.df.1], hK.2⟩, fun d h1 h2 => ?_, fun d hd' => ?_, fun d hd' => ?_, ?_, ?_, fun i hi => ?_, fun q hq => (by cases hq), h.t0, Nat.le_trans h.nl hnx, Nat.le_refl _, fun j hj => ?_, ?_, fun q hq => (by cases hq), .nil, fun q hq => (by cases hq)⟩
      · by_cases hjb : j = b
        · subst hjb
          exact ⟨fun _ => ⟨by simp, fun hp => hbd (h.pd j hp), fun q hq => (by cases hq)⟩, fun _ => getD_set_self (by rw [h.clo.size]; exact hj) _⟩
        · rw [getD_set_ne false (Ne.symm hjb), h.cov j hj]
          simp [hjb]
      · cases hd : o.dst with
        | none => exact h.len
        | some d => simp only [setL_eq, List.length_set]; exact h.len
      · by_cases hd : o.dst = some d
        · rw [hd, getD_put_eq _ _ _ (by rw [h.sz]; exact rg.dlt b d (hdo.trans hd))]
          have := htm d
          rw [if_pos hd] at this
          rw [← hd, this, hslot d hd]
        · rw [getD_put_ne _ _ _ _ hd, htm d, if_neg hd, hsv]
          exact h.fr d h1 (fun q hq => by cases hq)
      · have hne : o.dst ≠ some d := by
          intro e
          rcases hd' with ⟨j, hj, ej⟩ | ⟨q, hq, _⟩
          · exact hbd (rg.dist j b d ej (hdo.trans e) ▸ h.pd j hj)
          · cases hq
        rw [getD_put_ne _ _ _ _ hne]
        have hag0 : (getL und tm0 d).val β' = (getL und tm0 d).val β := AV.val_agree (hag.mono h.nl) (h.t0 d)
        rw [hag0]
        refine h.fp d ?_
        rcases hd' with hj | ⟨q, hq, _⟩
        · exact .inl hj
        · cases hq
      · have hne : o.dst ≠ some d := by
          have := hd' b (by simp)
          rwa [hdo] at this
        rw [htm d, if_neg hne]
        exact h.f0 d fun k hk => hd' k (List.mem_append_left _ hk)
      · refine ⟨⟨hI.wf.hp, hI.wf.nd⟩, fun u hu => ?_, hI.wf.dfb⟩
        cases hd : o.dst with
        | none => rw [hd] at hu; exact (h.wf.tm u hu).mono hnx
        | some d =>
          rw [hd] at hu
          simp only [setL_eq] at hu
          rcases List.mem_or_eq_of_mem_set hu with hu | rfl
          · exact (h.wf.tm u hu).mono hnx
          · exact hI.wf.ev (.tmp d)
      · exact hI.mem.sub (fun q hq => by simpa using hq) (fun _ _ h => h) (Nat.le_refl _)
      · obtain ⟨o', c, v', g1, g2, g3, g4, g5, g6, g7, g8, g9⟩ := hpend i hi t hnx hlo hre
        have hold : ∀ d k, k ∈ dn → dstOf ops k = some d → Veq (getL und s.tm d) (getL und (match o.dst with | some d => setL s.tm d (getL und t.tm d) | none => s.tm) d) := fun d k hk e => by
          have hne : o.dst ≠ some d := fun e' => hbd (rg.dist b k d (hdo.trans e') e ▸ hk)
          rw [htm d, if_neg hne]; exact Veq.rfl _
        refine ⟨o', c, v', g1, g2, g3, g4, hlo.trans g5, g6, fun d hd => (hold d i (h.pd i hi) ((dstOf_eq g1).trans hd)).symm.trans (g7 d hd), g8.mono (fun k hk => List.mem_append_left _ hk) hold, g9⟩
      · rw [hag j (Nat.lt_of_lt_of_le hj h.nl)]; exact h.ag j hj
      · exact hlo.trans h.lo
    have hsv := sv_sound (hd := hd) ok eok h.wf hv
    let Q2 : Exit → Act → World → Prop := fun e a1 w1 => match e with
      | .normal => a1.defers = [] ∧ ∀ v, a1 = (frOf β s).put o.dst v → next (a.put o.dst v) w1
      | _ => False
    have hrun := hsv w0 M β (frOf β s) w ops Q2 [] hIs (hw _) (fun t β' a' w' hK hag hnx hlo _ hI => ⟨by rw [hI.df, hK.2]; rfl, fun v hv => hafter t β' a' w' v hK hag hnx hlo hI hv⟩)
    unfold wpList at hrun
    rw [if_pos (hw _)] at hrun
    unfold wpOp
    simp only [ho]
    rw [if_pos (hw _)]
    left
    rcases hrun with hrun | ⟨_, _, _, hlets⟩
    · unfold Oper.wp at hrun ⊢
      rw [e1]
      generalize (execOp (frOf β s).eval o).run P w = res at hrun
      cases res with
      | ok nx wx =>
        cases nx <;> simp only [Oper.upon] at hrun ⊢
        case value u => exact hrun.2 u rfl
        case skip => exact hrun.2 undef rfl
        case defer dd =>
          have := hrun.1
          rw [defers_put] at this
          cases this
        case enter f args =>
          refine hrun.mono fun e w'' he => ?_
          cases e with
          | returned u => exact he.2 u rfl
          | panicked c => exact he.elim
          | outgrown =>
            obtain ⟨_, _, hh⟩ := he
            exact hh.elim
        case row row args => exact hrun.mono fun u w'' he => he.2 u rfl
      | halt x wx =>
        cases x <;> simp only [Oper.upon] at hrun ⊢
        case panic u => exact hrun.elim
    · exact hlets.elim

/-- a stage of the plan: what has been reckoned, what is still to be shown -/
def Stg (P : Program) (ops : Array Oper) (hd : Hid) (tb : Tab) (E : Env) (K : AS → Prop) (w0 : World) (M : List Nat) (tm0 : List AV) (nx0 : Nat) (β0 : Nat → Nat × Nat) (lo0 : Nat) (listed : Array Bool) (β : Nat → Nat × Nat) (a : Act) (w : World) : Prop :=
  ∃ dn pend gU lim s pl, DI P ops w0 M tm0 nx0 β0 lo0 dn pend gU lim s listed β a w ∧ (vcD hd tb E ops.toList pl s).holds K ∧ plB ops (masks ops.toList []) dn pl = true ∧ ∀ i ∈ pl.all, ∀ q ∈ gU, Rch ops i q.1

theorem plB_all {ms : List Nat} : ∀ {pl : Pl} {dn : List Nat}, plB ops ms dn pl = true → ∀ i, i < ops.size → i ∈ dn ∨ i ∈ pl.all
  | .fin cs, dn, h, i, hi => by
    simp only [plB, Bool.and_eq_true] at h
    have := List.all_eq_true.1 h.2 i (List.mem_range.2 hi)
    simpa [Pl.all] using this
  | .as cs g r, dn, h, i, hi => by
    simp only [plB, Bool.and_eq_true] at h
    have := plB_all h.2 i hi
    simp only [Pl.all, List.mem_append] at this ⊢
    rcases this with ((h1 | h1) | h1) | h1
    · exact .inl h1
    · exact .inr (.inl h1)
    · exact .inr (.inr (.inl h1))
    · exact .inr (.inr (.inr h1))
  | .bar cs b ap r, dn, h, i, hi => by
    simp only [plB, Bool.and_eq_true] at h
    have := plB_all h.2 i hi
    simp only [Pl.all, List.mem_append, List.mem_cons, List.not_mem_nil, or_false] at this ⊢
    rcases this with ((h1 | h1) | h1) | h1
    · exact .inl h1
    · exact .inr (.inl h1)
    · exact .inr (.inr (.inl h1))
    · exact .inr (.inr (.inr h1))

theorem mem_lt_of_ready {i : Nat} (h : i ∈ Region.ready .any ops listed) : i < ops.size := by
  obtain ⟨_, o, ho, _⟩ := mem_ready.1 h
  exact (Array.getElem?_eq_some_iff.1 ho).1

theorem drawn_main (ok : TabOk P tb) (eok : EOk P E) (rg : RgOk ops tm0.length) {K : AS → Prop} {Q : Exit → Act → World → Prop} (hQ : ∀ c a w, ¬ Q (.panic c) a w)
    (hfin : ∀ s β a w, K s → Is w0 M β s a w → Agree nx0 β0 β → nx0 ≤ s.nx → s.lo = lo0 → s.tm.length = tm0.length → s.df = [] → Q .normal a w) :
    ∀ (c : Nat) (listed : Array Bool) (β : Nat → Nat × Nat) (a : Act) (w : World), Stg P ops hd tb E K w0 M tm0 nx0 β0 lo0 listed β a w → (List.range ops.size).countP (fun i => !listed.getD i false) = c → wpAny P .any ops Q c listed a w := by
  intro c
  induction c with
  | zero =>
    intro listed β a w ⟨dn, pend, gU, lim, s, pl, hD, hv, hB, hgr⟩ hc
    have hall : ∀ i, i < ops.size → listed.getD i false = true := fun i hi => by
      have := List.countP_eq_zero.1 hc i (List.mem_range.2 hi)
      simpa using this
    have hready : Region.ready .any ops listed = [] := by
      rcases List.eq_nil_or_concat (Region.ready .any ops listed) with h | ⟨l, i, h⟩
      · exact h
      · exfalso
        have hi : i ∈ Region.ready .any ops listed := by rw [h]; simp
        have h1 := hall i (mem_lt_of_ready hi)
        have h2 := getD_both (mem_ready.1 hi).1
        rw [h1] at h2; cases h2
    refine ⟨hready, ?_⟩
    have hpe : pend = [] := by
      cases pend with
      | nil => rfl
      | cons i r =>
        have hil : i < ops.size := by
          obtain ⟨o, _, _, h1, _⟩ := hD.prec i List.mem_cons_self
          exact (Array.getElem?_eq_some_iff.1 h1).1
        exact absurd List.mem_cons_self ((hD.cov i hil).1 (hall i hil)).2.1
    have hge : gU = [] := by
      cases gU with
      | nil => rfl
      | cons q r =>
        obtain ⟨o, _, _, _, _, h1, _⟩ := hD.arec q List.mem_cons_self
        have hil : q.1 < ops.size := (Array.getElem?_eq_some_iff.1 h1).1
        exact absurd rfl (((hD.cov q.1 hil).1 (hall _ hil)).2.2 q List.mem_cons_self)
    subst hpe hge
    have hdn : ∀ i, i < ops.size → i ∈ dn := fun i hi => ((hD.cov i hi).1 (hall i hi)).1
    have hKs : K s := by
      cases pl with
      | fin cs =>
        simp only [plB, Bool.and_eq_true] at hB
        cases cs with
        | nil => exact hv
        | cons i r =>
          have hB1 := hB.1
          simp only [calmB, Bool.and_eq_true, Bool.not_eq_true'] at hB1
          have h1 := hB1.1.2
          unfold okC at h1
          cases e : ops[i]? with
          | none => rw [e] at h1; cases h1
          | some o =>
            have := hdn i (Array.getElem?_eq_some_iff.1 e).1
            have h2 := hB1.1.1
            simp [this] at h2
      | as cs g r =>
        exfalso
        simp only [plB, Bool.and_eq_true] at hB
        obtain ⟨⟨⟨⟨_, h2⟩, h3⟩, _⟩, _⟩ := hB
        cases g with
        | nil => simp at h2
        | cons i g =>
          simp only [grpB, Bool.and_eq_true, Bool.not_eq_true'] at h3
          have h1 := h3.1.1.2
          unfold okC at h1
          cases e : ops[i]? with
          | none => rw [e] at h1; cases h1
          | some o =>
            have := hdn i (Array.getElem?_eq_some_iff.1 e).1
            have h2 := h3.1.1.1.1
            simp [this] at h2
      | bar cs b ap r =>
        exfalso
        simp only [plB, Bool.and_eq_true, Bool.not_eq_true'] at hB
        obtain ⟨⟨⟨⟨⟨⟨⟨_, h2⟩, h3⟩, _⟩, _⟩, _⟩, _⟩, _⟩ := hB
        unfold okC at h3
        cases e : ops[b]? with
        | none => rw [e] at h3; cases h3
        | some o =>
          have := hdn b (Array.getElem?_eq_some_iff.1 e).1
          simp [this] at h2
    refine hfin s β a w hKs ⟨?_, by rw [hD.df.1, hD.df.2]; rfl, hD.mem.sub (fun q hq => by simpa using hq) (fun _ _ h => h) (Nat.le_refl _), hD.wf⟩ hD.ag (Nat.le_trans hD.nl hD.ln) hD.lo hD.len hD.df.2
    refine Array.ext (by rw [hD.sz]; simp [hD.len]) fun i h1 h2 => ?_
    have h3 := hD.fr i (fun _ h => by cases h) (fun _ h => by cases h)
    have h4 := frOf_getD β s i
    simp only [frOf] at h4
    rw [← h4] at h3
    have hi : i < s.tm.length := by simpa using h2
    simpa [h1, hi] using h3
  | succ c ih =>
    intro listed β a w hS hc
    have hpos : 0 < (List.range ops.size).countP (fun i => !listed.getD i false) := by omega
    obtain ⟨i0, hi0, hu0⟩ := List.countP_pos_iff.1 hpos
    have hi0n := List.mem_range.1 hi0
    have hcnt : ∀ i, i < ops.size → listed.size = ops.size → listed.getD i false = false → (List.range ops.size).countP (fun j => !(listed.setIfInBounds i true).getD j false) = c := fun i hi hsz hl => by
      have := count_set ops.size (fun j => !listed.getD j false) (fun j => !(listed.setIfInBounds i true).getD j false) i (by simp [hl])
        (by simp [getD_set_self (show i < listed.size by rw [hsz]; omega)]) (fun j hj => by rw [getD_set_ne false (Ne.symm hj)])
      rw [if_pos hi] at this
      omega
    refine ⟨fun hready => ?_, fun i hi => ?_⟩
    · exfalso
      obtain ⟨dn, pend, gU, lim, s, pl, hD, _⟩ := hS
      have hleast : ∀ k, (∃ i, i < k ∧ i < ops.size ∧ listed.getD i false = false) → ∃ i, i < ops.size ∧ listed.getD i false = false ∧ ∀ j, j < i → listed.getD j false = true := by
        intro k
        induction k with
        | zero => rintro ⟨i, hi, _⟩; omega
        | succ k ihk =>
          rintro ⟨i, hi, hin, hl⟩
          by_cases hk : ∃ j, j < k ∧ j < ops.size ∧ listed.getD j false = false
          · exact ihk hk
          · have : i = k := by
              rcases Nat.lt_or_ge i k with h1 | h1
              · exact absurd ⟨i, h1, hin, hl⟩ hk
              · omega
            subst this
            refine ⟨i, hin, hl, fun j hj => ?_⟩
            cases hb : listed.getD j false with
            | true => rfl
            | false => exact absurd ⟨j, hj, by omega, hb⟩ hk
      obtain ⟨i, hi, hl, hj⟩ := hleast (i0 + 1) ⟨i0, by omega, hi0n, by simpa using hu0⟩
      have : i ∈ Region.ready .any ops listed := mem_ready.2 ⟨getD_in (by rw [hD.clo.size]; exact hi) hl, ops[i], by simp [hi], fun e he hb => hj _ (rg.back i _ (by simp [hi]) e he hb)⟩
      rw [hready] at this; cases this
    · obtain ⟨dn, pend, gU, lim, s, pl, hD, hv, hB, hgr⟩ := hS
      have hil := mem_lt_of_ready hi
      have hun : listed.getD i false = false := getD_both (mem_ready.1 hi).1
      have hcn := hcnt i hil hD.clo.size hun
      by_cases hp : i ∈ pend
      · exact hD.step_pend rg hp hi fun a' w' hD' => ih _ β a' w' ⟨dn, _, gU, lim, s, pl, hD', hv, hB, hgr⟩ hcn
      · by_cases hgm : ∃ q ∈ gU, q.1 = i
        · obtain ⟨q, hq, rfl⟩ := hgm
          exact hD.step_al rg hq hi fun β' a' w' hD' => ih _ β' a' w' ⟨dn, pend, _, lim, s, pl, hD', hv, hB, fun j hj x hx => hgr j hj x (List.mem_filter.1 hx).1⟩ hcn
        · have hid : i ∉ dn := fun hd => by
            have := (hD.cov i hil).2 ⟨hd, hp, fun q hq e => hgm ⟨q, hq, e⟩⟩
            rw [hun] at this; cases this
          have hia : i ∈ pl.all := (plB_all hB i hil).resolve_left hid
          have hge : gU = [] := by
            cases gU with
            | nil => rfl
            | cons q r =>
              exfalso
              have h1 := hD.clo.ready hi (hgr i hia q List.mem_cons_self)
              obtain ⟨o, _, _, _, _, h2, _⟩ := hD.arec q List.mem_cons_self
              have hql : q.1 < ops.size := (Array.getElem?_eq_some_iff.1 h2).1
              exact absurd rfl (((hD.cov q.1 hql).1 h1).2.2 q List.mem_cons_self)
          subst hge
          have hD := hD.lift
          cases pl with
          | fin cs =>
            simp only [plB, Bool.and_eq_true] at hB
            obtain ⟨s', k1, d1⟩ := DI.calms ok eok.g rg hD hB.1 hv
            refine d1.step_pend rg (List.mem_append_right _ hia) hi fun a' w' hD' => ih _ β a' w' ⟨_, _, [], _, s', .fin [], hD', k1, ?_, fun _ h => by cases h⟩ hcn
            simp only [plB, calmB, Bool.true_and, List.append_nil]
            exact hB.2
          | as cs g r =>
            simp only [plB, Bool.and_eq_true] at hB
            obtain ⟨⟨⟨⟨b1, b2⟩, b3⟩, b4⟩, b5⟩ := hB
            obtain ⟨s1, k1, d1⟩ := DI.calms ok eok.g rg hD b1 (VC.holds_bind hv)
            simp only [Pl.all, List.mem_append] at hia
            have hgrp := DI.grp (hd := hd) (gd := []) (gU := []) (t := s1) ok rg d1.wf d1.f0 (by simpa using d1) (fun q hq => by cases hq) (fun j hj => by cases hj) (fun j _ hj => by cases hj) (fun j hj => by cases hj) (fun _ _ => rfl) b3 (VC.holds_bind k1)
            obtain ⟨t', gU', k2, g1, g2, d2⟩ := hgrp
            simp only [List.nil_append] at g1 g2 d2
            have hr' : ∀ j ∈ r.all, ∀ q ∈ gU', Rch ops j q.1 := fun j hj q hq => by
              have h1 := List.all_eq_true.1 b4 j hj
              have h2 := List.all_eq_true.1 h1 q.1 (g1 q hq)
              exact masks_rch h2
            rcases hia with hia | hia | hia
            · exact d2.step_pend rg (List.mem_append_right _ hia) hi fun a' w' hD' => ih _ β a' w' ⟨_, _, gU', _, t', r, hD', k2, by simpa using b5, hr'⟩ hcn
            · obtain ⟨q, hq, rfl⟩ := g2 i hia
              exact d2.step_al rg hq hi fun β' a' w' hD' => ih _ β' a' w' ⟨_, _, _, _, t', r, hD', k2, by simpa using b5, fun j hj x hx => hr' j hj x (List.mem_filter.1 hx).1⟩ hcn
            · exfalso
              cases g with
              | nil => simp at b2
              | cons j g =>
                obtain ⟨q, hq, e⟩ := g2 j List.mem_cons_self
                have h1 := d2.clo.ready hi (hr' i hia q hq)
                obtain ⟨o, _, _, _, _, h2, _⟩ := d2.arec q hq
                have hql : q.1 < ops.size := (Array.getElem?_eq_some_iff.1 h2).1
                exact absurd rfl (((d2.cov q.1 hql).1 h1).2.2 q hq)
          | bar cs b ap r =>
            simp only [plB, Bool.and_eq_true, Bool.not_eq_true'] at hB
            obtain ⟨⟨⟨⟨⟨⟨⟨b1, b2⟩, b3⟩, b4⟩, b5⟩, b6⟩, b7⟩, b8⟩ := hB
            obtain ⟨s1, k1, d1⟩ := DI.calms ok eok.g rg hD b1 (VC.holds_bind hv)
            have hbn : b ∉ dn ++ cs := by simpa using b2
            simp only [Pl.all, List.mem_append, List.mem_cons] at hia
            rcases hia with hia | rfl | hia
            · refine d1.step_pend rg (List.mem_append_right _ hia) hi fun a' w' hD' => ih _ β a' w' ⟨_, _, [], _, s1, .bar [] b ap r, hD', k1, ?_, fun _ _ _ h => by cases h⟩ hcn
              simp only [plB, calmB, Bool.true_and, List.append_nil, Bool.and_eq_true, Bool.not_eq_true']
              exact ⟨⟨⟨⟨⟨⟨b2, b3⟩, b4⟩, b5⟩, b6⟩, b7⟩, b8⟩
            · exact d1.step_bar ok eok rg hbn b3 b4 b5 b6 hi (VC.holds_bind k1) hQ fun s' β' a' w' hK hD' => ih _ β' a' w' ⟨_, _, [], _, s', r, hD', hK, b8, fun _ _ _ h => by cases h⟩ hcn
            · exfalso
              have h1 := List.all_eq_true.1 b7 i hia
              have h2 := d1.clo.ready hi (masks_rch h1)
              unfold atB at b4
              cases e : ops[b]? with
              | none => rw [e] at b4; cases b4
              | some o => exact hbn ((d1.cov b (Array.getElem?_eq_some_iff.1 e).1).1 h2).1

/-- **A region that draws its order** -/
theorem drawn_sound (ok : TabOk P tb) (eok : EOk P E) (hm : P.follows .mixedOrders = true) {id : Nat} {pl : Pl} {st : AS} {K : AS → Prop} (hB : planB ops pl st.tm.length = true) (hwf : Wf st) (hdf : st.df = []) (h : (vcD hd tb E ops.toList pl st).holds K)
    {w0 : World} {M : List Nat} {β : Nat → Nat × Nat} {a : Act} {w : World} {Q : Exit → Act → World → Prop} (hI : Is w0 M β st a w) (hk : ∀ st' β' a' w', K st' → Agree st.nx β β' → st.nx ≤ st'.nx → st'.lo = st.lo → st'.tm.length = st.tm.length → st'.df = [] → Is w0 M β' st' a' w' → Q .normal a' w') : (Code.region id ops true).wp P Q a w := by
  refine Code.wp_mono (Q := fun e a w => e = .normal ∧ Q .normal a w) (fun e a w h => by rw [h.1]; exact h.2) ?_
  simp only [planB, Bool.and_eq_true] at hB
  obtain ⟨⟨h1, h2⟩, h3⟩ := hB
  have hrow : ∀ i o, ops[i]? = some o → (∀ e ∈ o.after, Region.binds .any e = true → e.on < i) ∧ ∀ d, o.dst = some d → d < st.tm.length ∧ ∀ j, j < ops.size → j ≠ i → dstOf ops j ≠ some d := fun i o ho => by
    have := List.all_eq_true.1 h2 i (List.mem_range.2 (Array.getElem?_eq_some_iff.1 ho).1)
    rw [ho] at this
    simp only [Bool.and_eq_true] at this
    refine ⟨fun e he hb => ?_, fun d hd => ?_⟩
    · have := Array.all_eq_true'.1 this.1 e he
      simpa [hb] using this
    · have h4 := this.2
      rw [hd] at h4
      simp only [Bool.and_eq_true, decide_eq_true_eq] at h4
      refine ⟨h4.1, fun j hj hji => ?_⟩
      have := List.all_eq_true.1 h4.2 j (List.mem_range.2 hj)
      simpa [hji] using this
  have rg : RgOk ops st.tm.length := by
    refine ⟨h1, fun i o ho => (hrow i o ho).1, fun i d hd => ?_, fun i j d hd hd' => ?_⟩
    · have hi := dst_lt hd
      have ho : ops[i]? = some ops[i] := by simp [hi]
      exact ((hrow i _ ho).2 d (by rw [← dstOf_eq ho]; exact hd)).1
    · have hi := dst_lt hd
      have hj := dst_lt hd'
      have ho : ops[i]? = some ops[i] := by simp [hi]
      by_cases hij : j = i
      · exact hij.symm
      · exact absurd hd' (((hrow i _ ho).2 d (by rw [← dstOf_eq ho]; exact hd)).2 j hj hij)
  refine wp_region_any hm ?_
  refine drawn_main (hd := hd) (tb := tb) (E := E) (tm0 := st.tm) (nx0 := st.nx) (β0 := β) (lo0 := st.lo) (K := K) ok eok rg (fun c a w h => by cases h.1) (fun s β' a' w' hK hI' hag hn hl hlen hsd => ⟨rfl, hk s β' a' w' hK hag hn hl hlen hsd hI'⟩) ops.size _ β a _ ?_ ?_
  · have hIg : Mm w0 M β st { w with drawn := w.drawn + 1 } := hI.mem.grow ((Below.refl _ w).drew)
    refine ⟨[], [], [], st.nx, st, pl, ⟨⟨by simp, fun j oj _ hl => by rw [getD_replicate_false] at hl; cases hl⟩, fun i hi => ?_, fun _ h => (by cases h), fun _ h => (by cases h), rfl, by rw [hI.tm]; simp, ⟨by rw [hI.df, hdf]; rfl, hdf⟩, fun d _ _ => ?_, fun d hd => ?_, fun d _ => Veq.rfl _, hwf, ?_, fun _ h => (by cases h), fun _ h => (by cases h), fun d => hwf.ev (.tmp d), Nat.le_refl _, Nat.le_refl _, Agree.rfl _ _, rfl, fun _ h => (by cases h), .nil, fun _ h => by cases h⟩, h, h3, fun _ _ _ h => by cases h⟩
    · rw [getD_replicate_false]; simp
    · have := frOf_getD β st d
      rw [← this, hI.tm]; rfl
    · rcases hd with ⟨_, h, _⟩ | ⟨_, h, _⟩ <;> cases h
    · exact hIg.sub (fun q hq => by simpa using hq) (fun _ _ h => h) (Nat.le_refl _)
  · rw [List.countP_eq_length.2]
    · simp
    · intro i _; simp only [getD_replicate_false, Bool.not_false]
end
end Go.Fe
