/- A region that draws its order: the reckoning ahead, and the theorem. -/
import Derived.Test.YtfplfbaebiaanaaGreatFeA
noncomputable section
namespace Go.Fe
open Go.RowKit Go.Reg Go.Sort Go.Sy

section
variable {P : Program} {ops : Array Oper} {tb : Tab} {E : Env} {hd : Hid}
variable {w0 : World} {M : List Nat} {tm0 : List AV} {nx0 : Nat} {β0 : Nat → Nat × Nat} {lo0 : Nat} {dn pend : List Nat} {gU : List (Nat × Nat)} {lim : Nat} {s : AS} {listed : Array Bool} {β : Nat → Nat × Nat} {a : Act} {w : World}

theorem dst_lt {k d : Nat} (h : dstOf ops k = some d) : k < ops.size := by
  unfold dstOf at h
  cases e : ops[k]? with
  | none => rw [e] at h; cases h
  | some x => exact (Array.getElem?_eq_some_iff.1 e).1

/-- what the plan says of what an operation looks at -/
theorem okC_lk (rg : RgOk ops tm0.length) {c : AS} {i : Nat} {o : Oper} (ho : ops[i]? = some o) (hok : okC ops (masks ops.toList []) dn i = true) (f0 : ∀ d, (∀ k ∈ dn, dstOf ops k ≠ some d) → Veq (getL und c.tm d) (getL und tm0 d))
    (hs : ∀ d, (∀ k, dstOf ops k = some d → k ∈ dn) → Veq (getL und c.tm d) (getL und s.tm d)) : Lk ops dn tm0 s c o i := by
  intro d hd
  unfold okC at hok
  rw [ho] at hok
  have hok := List.all_eq_true.1 hok d hd
  by_cases hex : ∃ k, dstOf ops k = some d
  · obtain ⟨k, hk⟩ := hex
    have h1 := List.all_eq_true.1 hok k (List.mem_range.2 (dst_lt hk))
    simp only [hk, bne_self_eq_false, Bool.false_or] at h1
    have huniq : ∀ k', dstOf ops k' = some d → k' = k := fun k' hk' => rg.dist k' k d hk' hk
    cases hc : dn.contains k with
    | true =>
      rw [hc] at h1
      simp only [cond_true] at h1
      have hkd : k ∈ dn := by simpa using hc
      exact .inl ⟨k, hkd, hk, masks_rch h1, hs d fun k' hk' => by rw [huniq k' hk']; exact hkd⟩
    | false =>
      rw [hc] at h1
      simp only [cond_false, Bool.or_eq_true, beq_iff_eq] at h1
      have hkd : k ∉ dn := by simpa using hc
      refine .inr ⟨fun k' hk' => ?_, f0 d fun k' hk' e => hkd (huniq k' e ▸ hk')⟩
      rw [huniq k' hk']
      exact h1.imp masks_rch id
  · exact .inr ⟨fun k hk => absurd ⟨k, hk⟩ hex, f0 d fun k _ e => hex ⟨k, e⟩⟩

theorem Lk.mono {dn' : List Nat} {s' c : AS} {o : Oper} {i : Nat} (h : Lk ops dn tm0 s c o i) (hd : ∀ k ∈ dn, k ∈ dn') (hs : ∀ d k, k ∈ dn → dstOf ops k = some d → Veq (getL und s.tm d) (getL und s'.tm d)) : Lk ops dn' tm0 s' c o i := fun d hdd => by
  rcases h d hdd with ⟨k, h1, h2, h3, h4⟩ | h
  · exact .inl ⟨k, hd k h1, h2, h3, h4.trans (hs d k h1 h2)⟩
  · exact .inr h
theorem PRec.mono {dn' : List Nat} {s' : AS} {lim' i : Nat} (h : PRec P ops dn tm0 s lim i) (hi : i ∈ dn) (hd : ∀ k ∈ dn, k ∈ dn') (hs : ∀ d k, k ∈ dn → dstOf ops k = some d → Veq (getL und s.tm d) (getL und s'.tm d)) (hhp : ∀ q ∈ s.hp, q ∈ s'.hp) (hm : ∀ k ob, s.mem k = some ob → s'.mem k = some ob) (hl : s'.lo = s.lo) (hlim : lim ≤ lim') :
    PRec P ops dn' tm0 s' lim' i := by
  obtain ⟨o, c, v, h1, h2, h3, h4, h5, h6, h7, h8, h9⟩ := h
  exact ⟨o, c, v, h1, h2, fun q hq => hhp q (h3 q hq), fun k ob hk => hm k ob (h4 k ob hk), hl.trans h5, Nat.le_trans h6 hlim, fun d hdd => (hs d i hi ((dstOf_eq h1).trans hdd)).symm.trans (h7 d hdd), h8.mono hd hs, h9⟩

theorem DI.lift (h : DI P ops w0 M tm0 nx0 β0 lo0 dn pend [] lim s listed β a w) : DI P ops w0 M tm0 nx0 β0 lo0 dn pend [] s.nx s listed β a w :=
  ⟨h.clo, h.cov, h.pd, h.gd, h.len, h.sz, h.df, h.fr, h.fp, h.f0, h.wf, h.mem, fun i hi => (h.prec i hi).mono (h.pd i hi) (fun _ h => h) (fun _ _ _ _ => Veq.rfl _) (fun _ h => h) (fun _ _ h => h) rfl h.ln, (fun q hq => (by cases hq)), h.t0, Nat.le_trans h.nl h.ln, Nat.le_refl _, h.ag, h.lo,
   fun q hq => (by cases hq), h.gn, h.gi⟩

/-- a decided Bool, written out -/
theorem DI.lit (h : DI P ops w0 M tm0 nx0 β0 lo0 dn pend [] lim s listed β a w) {d : Nat} {b : Bool} (hb : getL und s.tm d = .e (.x (.c (.bool b)))) : DI P ops w0 M tm0 nx0 β0 lo0 dn pend [] lim (s.put (some d) (.e (.x (.lb b)))) listed β a w := by
  have hv : ∀ k, Veq (getL und s.tm k) (getL und (s.put (some d) (.e (.x (.lb b)))).tm k) := fun k => by
    by_cases hk : d = k
    · subst hk
      by_cases hl : d < s.tm.length
      · rw [getL_put_eq _ _ _ hl, hb]
        intro β; simp [AV.val_e, EV.val_x, SV.val]
      · rw [getL_eq] at hb
        simp [Nat.le_of_not_lt hl, und] at hb
    · rw [getL_put_ne _ _ _ _ (fun e => hk (Option.some.inj e))]; exact Veq.rfl _
  refine ⟨h.clo, h.cov, h.pd, h.gd, by rw [put_len]; exact h.len, h.sz, h.df, fun k h1 h2 => by rw [h.fr k h1 h2]; exact hv k β, h.fp, fun k hk => (hv k).symm.trans (h.f0 k hk), h.wf.put _ (by simp [AV.bd, EV.bd, SV.bd]), h.mem.of_eq rfl rfl rfl,
    fun i hi => (h.prec i hi).mono (h.pd i hi) (fun _ h => h) (fun k _ _ _ => hv k) (fun _ h => h) (fun _ _ h => h) rfl (Nat.le_refl _), fun q hq => (by cases hq), h.t0, h.nl, by rw [put_nx]; exact h.ln, h.ag, h.lo, fun q hq => (by cases hq), h.gn, fun q hq => by cases hq⟩

/-- one quiet operation more is reckoned -/
theorem DI.add (h : DI P ops w0 M tm0 nx0 β0 lo0 dn pend [] s.nx s listed β a w) (rg : RgOk ops tm0.length) {i : Nat} {o : Oper} {v : AV} (ho : ops[i]? = some o) (hid : i ∉ dn) (hok : okC ops (masks ops.toList []) dn i = true) (hc : Calm P ops o (cst s o) v) :
    DI P ops w0 M tm0 nx0 β0 lo0 (dn ++ [i]) (pend ++ [i]) [] s.nx (s.put o.dst v) listed β a w := by
  have hil : i < ops.size := (Array.getElem?_eq_some_iff.1 ho).1
  have hdo : dstOf ops i = o.dst := dstOf_eq ho
  have hun : listed.getD i false = false := by
    cases e : listed.getD i false with
    | false => rfl
    | true => exact absurd ((h.cov i hil).1 e).1 hid
  have hne : ∀ d k, k ∈ dn → dstOf ops k = some d → o.dst ≠ some d := fun d k hk e e' => hid (rg.dist i k d (hdo.trans e') e ▸ hk)
  have hold : ∀ d k, k ∈ dn → dstOf ops k = some d → Veq (getL und s.tm d) (getL und (s.put o.dst v).tm d) := fun d k hk e => by
    rw [getL_put_ne _ _ _ _ (hne d k hk e)]; exact Veq.rfl _
  have hvb : v.bd s.nx := by have := hc.bd; rwa [cst_nx] at this
  refine ⟨h.clo, fun j hj => ?_, fun j hj => ?_, fun q hq => (by cases hq), by rw [put_len]; exact h.len, h.sz, ⟨h.df.1, by rw [put_df]; exact h.df.2⟩, fun d h1 h2 => ?_, fun d hd' => ?_, fun d hd' => ?_, h.wf.put _ hvb, h.mem.of_eq (by rw [put_hp]) (put_mem ..) (put_lo ..), fun j hj => ?_, fun q hq => (by cases hq), h.t0, h.nl, by rw [put_nx]; exact Nat.le_refl _, h.ag, by rw [put_lo]; exact h.lo, fun q hq => (by cases hq), h.gn, fun q hq => by cases hq⟩
  · rw [h.cov j hj]
    by_cases hji : j = i
    · subst hji
      exact ⟨fun g => absurd g.1 hid, fun g => absurd (List.mem_append_right _ List.mem_cons_self) g.2.1⟩
    · simp [hji]
  · rcases List.mem_append.1 hj with hj | hj
    · exact List.mem_append_left _ (h.pd j hj)
    · exact List.mem_append_right _ hj
  · have hdi : o.dst ≠ some d := by
      have := h1 i (List.mem_append_right _ List.mem_cons_self)
      rwa [hdo] at this
    rw [getL_put_ne _ _ _ _ hdi]
    exact h.fr d (fun j hj => h1 j (List.mem_append_left _ hj)) (fun q hq => by cases hq)
  · have key : (∃ j ∈ pend, dstOf ops j = some d) ∨ dstOf ops i = some d := by
      rcases hd' with ⟨j, hj, ej⟩ | ⟨q, hq, _⟩
      · rcases List.mem_append.1 hj with hj | hj
        · exact .inl ⟨j, hj, ej⟩
        · simp at hj; subst hj; exact .inr ej
      · cases hq
    rcases key with hk | hk
    · exact h.fp d (.inl hk)
    · rw [h.fr d (fun j hj e => hid (rg.dist i j d hk e ▸ h.pd j hj)) (fun q hq => by cases hq)]
      exact h.f0 d (fun k hkd e => hid (rg.dist i k d hk e ▸ hkd)) β
  · have hdi : o.dst ≠ some d := by
      have := hd' i (List.mem_append_right _ List.mem_cons_self)
      rwa [hdo] at this
    rw [getL_put_ne _ _ _ _ hdi]
    exact h.f0 d fun k hk => hd' k (List.mem_append_left _ hk)
  · rcases List.mem_append.1 hj with hj | hj
    · exact (h.prec j hj).mono (h.pd j hj) (fun k hk => List.mem_append_left _ hk) hold (by rw [put_hp]; exact fun _ h => h) (by rw [put_mem]; exact fun _ _ h => h) (put_lo ..) (Nat.le_refl _)
    · simp at hj; subst hj
      refine ⟨o, cst s o, v, ho, hc, by rw [put_hp]; exact cst_hp s o, by rw [put_mem]; exact cst_mem s o, by rw [put_lo, cst_lo], by rw [cst_nx]; exact Nat.le_refl _, fun d hdd => ?_, ?_, s, rfl, (cst_tm s o).symm⟩
      · rw [hdd, getL_put_eq _ _ _ (by rw [h.len]; exact rg.dlt j d (hdo.trans hdd))]; exact Veq.rfl _
      · have := okC_lk (s := s.put o.dst v) (c := cst s o) rg ho hok (by rw [cst_tm]; exact h.f0) (fun d hd' => by
          rw [cst_tm]
          by_cases hdd : o.dst = some d
          · exact absurd (hd' j (hdo.trans hdd)) hid
          · rw [getL_put_ne _ _ _ _ hdd]; exact Veq.rfl _)
        exact this.mono (fun k hk => List.mem_append_left _ hk) (fun _ _ _ _ => Veq.rfl _)

theorem DI.calm1 (ok : TabOk P tb) (gok : GOk P E.Γ) (h : DI P ops w0 M tm0 nx0 β0 lo0 dn pend [] s.nx s listed β a w) (rg : RgOk ops tm0.length) {i : Nat} (hid : i ∉ dn) (hok : okC ops (masks ops.toList []) dn i = true) {K : AS → Prop} (hv : (calm1 hd tb E.Γ ops.toList s i).holds K) :
    ∃ s', K s' ∧ DI P ops w0 M tm0 nx0 β0 lo0 (dn ++ [i]) (pend ++ [i]) [] s'.nx s' listed β a w := by
  unfold Fe.calm1 at hv
  split at hv
  · exact False.elim hv
  rename_i o ho'
  have ho : ops[i]? = some o := by rw [nthO'_eq] at ho'; simpa using ho'
  have run : ∀ s1 : AS, DI P ops w0 M tm0 nx0 β0 lo0 dn pend [] s1.nx s1 listed β a w → (∀ w0 M β a w, Is w0 M β (cst s1 o) a w → Region.wanted o (yielded ops a.tmps) = true) → ((pv hd tb E.Γ (cst s1 o) o).bind fun v => VC.ret (s1.put o.dst v)).holds K →
      ∃ s', K s' ∧ DI P ops w0 M tm0 nx0 β0 lo0 (dn ++ [i]) (pend ++ [i]) [] s'.nx s' listed β a w := fun s1 h1 hw hv => by
    obtain ⟨v, k1, k2, k3⟩ := pv_sound ok gok (VC.holds_bind hv) (cst_wf o h1.wf)
    refine ⟨_, k1, ?_⟩
    rw [put_nx]
    exact h1.add rg ho hid hok ⟨cst_wf o h1.wf, k2, .inl fun w0 M β a w hI => ⟨hw w0 M β a w hI, k3 w0 M β a w hI⟩⟩
  have skip : ∀ s1 : AS, DI P ops w0 M tm0 nx0 β0 lo0 dn pend [] s1.nx s1 listed β a w → (∀ w0 M β a w, Is w0 M β (cst s1 o) a w → Region.wanted o (yielded ops a.tmps) = false) → K (s1.put o.dst und) →
      ∃ s', K s' ∧ DI P ops w0 M tm0 nx0 β0 lo0 (dn ++ [i]) (pend ++ [i]) [] s'.nx s' listed β a w := fun s1 h1 hw hv => by
    refine ⟨_, hv, ?_⟩
    rw [put_nx]
    exact h1.add rg ho hid hok ⟨cst_wf o h1.wf, und_bd _, .inr ⟨rfl, hw⟩⟩
  unfold gdV at hv
  split at hv
  · rename_i hg
    exact run s h (fun w0 M β a w _ => by simp [Region.wanted, hg]) hv
  · rename_i j want hg
    split at hv
    · rename_i d x1 x2 x3 x4 x5 hj
      have hy : ∀ {s1 : AS} {w0 M β a w}, Is w0 M β (cst s1 o) a w → yielded ops a.tmps j = boolOf ((getL und s1.tm d).val β) := fun {s1 w0 M β a w} hI => by
        have := yield_of hI hj rfl
        rw [cst_tm] at this
        simpa using this
      split at hv
      · rename_i b hb
        cases hbw : (b == want) with
        | true =>
          rw [hbw] at hv
          refine run s h (fun w0 M β a w hI => ?_) hv
          simp only [Region.wanted, hg, hy hI, hb, AV.val_e, EV.val_x, SV.val, boolOf]
          simpa using hbw
        | false =>
          rw [hbw] at hv
          refine skip s h (fun w0 M β a w hI => ?_) hv
          simp only [Region.wanted, hg, hy hI, hb, AV.val_e, EV.val_x, SV.val, boolOf]
          simpa using hbw
      · rename_i b hb
        have hv := hv.out
        dsimp only at hv
        have h1 := h.lit hb
        have hs1 : getL und (s.put (some d) (.e (.x (.lb b)))).tm d = .e (.x (.lb b)) := by
          refine getL_put_eq _ _ _ ?_
          rcases Nat.lt_or_ge d s.tm.length with hl | hl
          · exact hl
          · rw [getL_eq] at hb; simp [hl, und] at hb
        cases hbw : (b == want) with
        | true =>
          rw [hbw] at hv
          refine run _ h1 (fun w0 M β a w hI => ?_) hv
          simp only [Region.wanted, hg, hy hI, hs1, AV.val_e, EV.val_x, SV.val, boolOf]
          simpa using hbw
        | false =>
          rw [hbw] at hv
          refine skip _ h1 (fun w0 M β a w hI => ?_) hv
          simp only [Region.wanted, hg, hy hI, hs1, AV.val_e, EV.val_x, SV.val, boolOf]
          simpa using hbw
      · rename_i hb
        refine skip s h (fun w0 M β a w hI => ?_) hv
        simp only [Region.wanted, hg, hy hI, hb, AV.val_t, boolOf]
        rfl
      · exact False.elim hv
    · exact False.elim hv

theorem DI.calms (ok : TabOk P tb) (gok : GOk P E.Γ) (rg : RgOk ops tm0.length) {K : AS → Prop} : ∀ {cs : List Nat} {dn pend : List Nat} {s : AS}, DI P ops w0 M tm0 nx0 β0 lo0 dn pend [] s.nx s listed β a w → calmB ops (masks ops.toList []) dn cs = true → (calmV hd tb E.Γ ops.toList cs s).holds K →
    ∃ s', K s' ∧ DI P ops w0 M tm0 nx0 β0 lo0 (dn ++ cs) (pend ++ cs) [] s'.nx s' listed β a w
  | [], dn, pend, s, h, _, hv => ⟨s, hv, by simpa using h⟩
  | i :: r, dn, pend, s, h, hc, hv => by
    simp only [calmB, Bool.and_eq_true, Bool.not_eq_true'] at hc
    obtain ⟨⟨c1, c2⟩, c3⟩ := hc
    obtain ⟨s1, k1, d1⟩ := h.calm1 ok gok rg (by simpa using c1) c2 (VC.holds_bind hv)
    obtain ⟨s2, k2, d2⟩ := DI.calms ok gok rg d1 c3 k1
    exact ⟨s2, k2, by simpa using d2⟩

theorem noN_av {k k' : Nat} (r : AR) (h : k ≠ k') : noN k (r.av k') := fun β β' hb => by rw [AR.av_val, AR.av_val, hb k' (Ne.symm h)]

/-- allocations that do not wait for one another are reckoned -/
theorem DI.grp (ok : TabOk P tb) (rg : RgOk ops tm0.length) {K : AS → Prop} {s0 : AS} (hwf0 : Wf s0) (f00 : ∀ d, (∀ k ∈ dn, dstOf ops k ≠ some d) → Veq (getL und s0.tm d) (getL und tm0 d)) : ∀ {g : List Nat} {gd : List Nat} {gU : List (Nat × Nat)} {t : AS},
    DI P ops w0 M tm0 nx0 β0 lo0 (dn ++ gd) pend gU s0.nx t listed β a w → (∀ q ∈ gU, q.1 ∈ gd) → (∀ i ∈ gd, ∃ q ∈ gU, q.1 = i) → (∀ i ∈ g, i ∉ gd) → (∀ i ∈ gd, i ∉ dn) → (∀ d, (∀ j ∈ gd, dstOf ops j ≠ some d) → getL und t.tm d = getL und s0.tm d) →
    grpB ops (masks ops.toList []) dn g = true → (grpV hd tb ops.toList s0 g t).holds K →
    ∃ t' gU', K t' ∧ (∀ q ∈ gU', q.1 ∈ gd ++ g) ∧ (∀ i ∈ gd ++ g, ∃ q ∈ gU', q.1 = i) ∧ DI P ops w0 M tm0 nx0 β0 lo0 (dn ++ (gd ++ g)) pend gU' s0.nx t' listed β a w
  | [], gd, gU, t, h, hq, hq2, _, _, _, _, hv => ⟨t, gU, hv, by simpa using hq, by simpa using hq2, by simpa using h⟩
  | i :: r, gd, gU, t, h, hq, hq2, hg, hgdn, ht, hc, hv => by
    simp only [grpB, Bool.and_eq_true, Bool.not_eq_true'] at hc
    obtain ⟨⟨⟨⟨c1, c2⟩, c3⟩, c4⟩, c5⟩ := hc
    have hid : i ∉ dn := by simpa using c1
    have hir : i ∉ r := by simpa using c2
    have hig : i ∉ gd := hg i List.mem_cons_self
    unfold atB at c4
    unfold grpV at hv
    split at hv
    · exact False.elim hv
    rename_i o ho'
    have ho : ops[i]? = some o := by rw [nthO'_eq] at ho'; simpa using ho'
    rw [ho] at c4
    simp only [Bool.and_eq_true, Option.isNone_iff_eq_none, Option.isSome_iff_exists] at c4
    obtain ⟨⟨_, hgd⟩, d, hdst⟩ := c4
    have hdo : dstOf ops i = some d := (dstOf_eq ho).trans hdst
    have hil : i < ops.size := (Array.getElem?_eq_some_iff.1 ho).1
    obtain ⟨B, q, k1, k2⟩ := pA_ok (P := P) ok hwf0.ev (VC.holds_bind hv)
    simp only [hdst] at k1
    have hlt : d < t.tm.length := by rw [h.len]; exact rg.dlt i d hdo
    have hidn : i ∉ dn ++ gd := fun hh => (List.mem_append.1 hh).elim hid hig
    have hun : listed.getD i false = false := by
      cases e : listed.getD i false with
      | false => rfl
      | true => exact absurd ((h.cov i hil).1 e).1 hidn
    have hBd : B.bd t.nx := k2.1.mono h.ln
    have hne : ∀ d' k, k ∈ dn ++ gd → dstOf ops k = some d' → d ≠ d' := fun d' k hk e e' => hidn (rg.dist i k d' (by rw [hdo, e']) e ▸ hk)
    have hget : ∀ d', d ≠ d' → getL und (((t.new B).put (some d) (q.av t.nx)).tm) d' = getL und t.tm d' := fun d' hd' =>
      getL_put_ne (t.new B) (some d) _ d' (fun e => hd' (Option.some.inj e))
    have hgets : getL und (((t.new B).put (some d) (q.av t.nx)).tm) d = q.av t.nx := getL_put_eq (t.new B) d _ hlt
    have hnx : ((t.new B).put (some d) (q.av t.nx)).nx = t.nx + 1 := by rw [put_nx]; rfl
    have hhp : ((t.new B).put (some d) (q.av t.nx)).hp = (t.nx, B) :: t.hp := by rw [put_hp]; rfl
    have hold : ∀ d' k, k ∈ dn ++ gd → dstOf ops k = some d' → Veq (getL und t.tm d') (getL und ((t.new B).put (some d) (q.av t.nx)).tm d') := fun d' k hk e => by
      rw [hget d' (hne d' k hk e)]; exact Veq.rfl _
    have hglt : ∀ x ∈ gU, x.2 < t.nx := fun x hx => (h.gl x hx).2
    have hD : DI P ops w0 M tm0 nx0 β0 lo0 (dn ++ (gd ++ [i])) pend (gU ++ [(i, t.nx)]) s0.nx ((t.new B).put (some d) (q.av t.nx)) listed β a w := by
      have hmemg : ∀ x, x ∈ gU ++ [(i, t.nx)] ↔ x ∈ gU ∨ x = (i, t.nx) := fun x => by simp
      have hip : i ∉ pend := fun hp => hidn (h.pd i hp)
      refine ⟨h.clo, fun j hj => ?_, fun j hj => ?_, fun x hx => ?_, by rw [put_len]; exact h.len, h.sz, h.df, fun d' h1 h2 => ?_, fun d' hd' => ?_, fun d' hd' => ?_, ?_, ?_, fun j hj => ?_, fun x hx => ?_, h.t0, h.nl, by rw [hnx]; have := h.ln; omega, h.ag, by rw [put_lo]; exact h.lo, fun x hx => ?_, ?_, fun x hx => ?_⟩
      · rw [h.cov j hj]
        by_cases hji : j = i
        · subst hji
          exact ⟨fun g => absurd g.1 hidn, fun g => absurd rfl (g.2.2 (j, t.nx) ((hmemg _).2 (.inr rfl)))⟩
        · constructor
          · rintro ⟨g1, g2, g3⟩
            refine ⟨by rcases List.mem_append.1 g1 with g1 | g1 <;> simp [g1], g2, fun x hx => ?_⟩
            rcases (hmemg x).1 hx with hx | rfl
            · exact g3 x hx
            · exact Ne.symm hji
          · rintro ⟨g1, g2, g3⟩
            refine ⟨?_, g2, fun x hx => g3 x ((hmemg x).2 (.inl hx))⟩
            simp only [List.mem_append, List.mem_cons, List.not_mem_nil, or_false] at g1 ⊢
            rcases g1 with g1 | g1 | g1
            · exact .inl g1
            · exact .inr g1
            · exact absurd g1 hji
      · have := h.pd j hj
        rcases List.mem_append.1 this with g1 | g1 <;> simp [g1]
      · rcases (hmemg x).1 hx with hx | rfl
        · obtain ⟨g1, g2⟩ := h.gd x hx
          exact ⟨by rcases List.mem_append.1 g1 with g1 | g1 <;> simp [g1], g2⟩
        · exact ⟨by simp, hip⟩
      · have hdd : d ≠ d' := by
          have := h2 (i, t.nx) ((hmemg _).2 (.inr rfl))
          intro e; exact this (by rw [hdo, e])
        rw [hget d' hdd]
        exact h.fr d' h1 fun x hx => h2 x ((hmemg x).2 (.inl hx))
      · have key : ((∃ j ∈ pend, dstOf ops j = some d') ∨ ∃ x ∈ gU, dstOf ops x.1 = some d') ∨ d' = d := by
          rcases hd' with hj | ⟨x, hx, ex⟩
          · exact .inl (.inl hj)
          · rcases (hmemg x).1 hx with hx | rfl
            · exact .inl (.inr ⟨x, hx, ex⟩)
            · right; simp only [hdo] at ex; exact (Option.some.inj ex).symm
        rcases key with hk | rfl
        · exact h.fp d' hk
        · rw [h.fr d' (fun j hj e => hidn (rg.dist i j d' hdo e ▸ h.pd j hj)) (fun x hx e => hidn (rg.dist i x.1 d' hdo e ▸ (h.gd x hx).1))]
          exact h.f0 d' (fun k hkd e => hidn (rg.dist i k d' hdo e ▸ hkd)) β
      · have hdd : d ≠ d' := by
          have := hd' i (by simp)
          intro e; exact this (by rw [hdo, e])
        rw [hget d' hdd]
        refine h.f0 d' fun k hk => hd' k ?_
        rcases List.mem_append.1 hk with g1 | g1 <;> simp [g1]
      · exact (h.wf.new hBd).put _ (by have := q.av_bd t.nx; exact this)
      · refine h.mem.sub (fun b hb => ?_) (by rw [show ({ (t.new B).put (some d) (q.av t.nx) with hp := _ } : AS).mem = t.mem by rw [← put_mem t (some d) (q.av t.nx)]; rfl]; exact fun _ _ h => h) (by rw [show ({ (t.new B).put (some d) (q.av t.nx) with hp := _ } : AS).lo = t.lo by rw [← put_lo t (some d) (q.av t.nx)]; rfl]; exact Nat.le_refl _)
        simp only [List.mem_filter, List.all_eq_true, Bool.not_eq_true', beq_eq_false_iff_ne] at hb ⊢
        obtain ⟨b1, b2⟩ := hb
        rw [hhp] at b1
        rcases List.mem_cons.1 b1 with rfl | b1
        · exact absurd rfl (b2 (i, t.nx) ((hmemg _).2 (.inr rfl)))
        · exact ⟨b1, fun x hx => b2 x ((hmemg x).2 (.inl hx))⟩
      · refine (h.prec j hj).mono (h.pd j hj) (fun k hk => ?_) hold (fun b hb => by rw [hhp]; exact List.mem_cons_of_mem _ hb) (by rw [put_mem]; exact fun _ _ h => h) (by rw [put_lo]; rfl) (Nat.le_refl _)
        rcases List.mem_append.1 hk with g1 | g1 <;> simp [g1]
      · rcases (hmemg x).1 hx with hx | rfl
        · obtain ⟨o', c', B', r', d'', a1, a2, a3, a4, a5, a6, a7, a8⟩ := h.arec x hx
          have hxd := (h.gd x hx).1
          refine ⟨o', c', B', r', d'', a1, a2, a3, a4, a5, ?_, by rw [hhp]; exact List.mem_cons_of_mem _ a7, a8.mono (fun k hk => by rcases List.mem_append.1 hk with g1 | g1 <;> simp [g1]) hold⟩
          rw [hget d'' (hne d'' x.1 hxd ((dstOf_eq a1).trans a3))]; exact a6
        · refine ⟨o, s0, B, q, d, ho, hgd, hdst, k2, Nat.le_refl _, hgets, by rw [hhp]; exact List.mem_cons_self, ?_⟩
          have := okC_lk (s := (t.new B).put (some d) (q.av t.nx)) (c := s0) rg ho c3 f00 (fun d' hd' => by
            have hdd : d ≠ d' := fun e => hid (hd' i (by rw [hdo, e]))
            rw [hget d' hdd, ht d' (fun j hj e => ?_)]
            · exact Veq.rfl _
            · exact hgdn j hj (hd' j e))
          exact this.mono (fun k hk => by simp [hk]) (fun _ _ _ _ => Veq.rfl _)
      · rcases (hmemg x).1 hx with hx | rfl
        · have := h.gl x hx; rw [hnx]; exact ⟨this.1, by omega⟩
        · rw [hnx]; exact ⟨h.ln, by simp⟩
      · refine List.pairwise_append.2 ⟨h.gn, by simp, fun x hx y hy => ?_⟩
        simp at hy; subst hy
        refine ⟨fun e => hidn (by have := (h.gd x hx).1; simp only at e; rw [e] at this; exact this), ?_⟩
        have := hglt x hx
        simp only; omega
      · rcases (hmemg x).1 hx with hx | rfl
        · obtain ⟨g1, g2⟩ := h.gi x hx
          have hlx := hglt x hx
          refine ⟨fun d' hd' => ?_, fun b hb hbn => ?_⟩
          · by_cases hdd : d = d'
            · subst hdd
              rw [hgets]; exact noN_av q (by omega)
            · rw [hget d' hdd]; exact g1 d' hd'
          · rw [hhp] at hb
            rcases List.mem_cons.1 hb with rfl | hb
            · exact noB_bd k2.1 (h.gl x hx).1
            · exact g2 b hb hbn
        · refine ⟨fun d' hd' => ?_, fun b hb hbn => ?_⟩
          · simp only at hd'
            have hdd : d ≠ d' := fun e => hd' (by rw [hdo, e])
            rw [hget d' hdd]
            refine noN_bd (n := t.nx) ?_ (Nat.le_refl _)
            have := h.wf.ev (.tmp d')
            exact this
          · rw [hhp] at hb
            rcases List.mem_cons.1 hb with rfl | hb
            · exact absurd rfl hbn
            · exact noB_bd (h.wf.hp b hb).2 (Nat.le_refl _)
    have hD' : DI P ops w0 M tm0 nx0 β0 lo0 (dn ++ (gd ++ [i])) pend (gU ++ [(i, t.nx)]) s0.nx ((t.new B).put (some d) (q.av t.nx)) listed β a w := hD
    obtain ⟨t', gU', r1, r2, r3, r4⟩ := DI.grp ok rg hwf0 f00 (g := r) (gd := gd ++ [i]) (gU := gU ++ [(i, t.nx)]) hD'
      (fun x hx => by
        rcases List.mem_append.1 hx with hx | hx
        · exact List.mem_append_left _ (hq x hx)
        · simp at hx; subst hx; simp)
      (fun j hj => by
        rcases List.mem_append.1 hj with hj | hj
        · obtain ⟨x, hx, e⟩ := hq2 j hj; exact ⟨x, List.mem_append_left _ hx, e⟩
        · simp at hj; subst hj; exact ⟨(j, t.nx), by simp, rfl⟩)
      (fun j hj hj' => by
        rcases List.mem_append.1 hj' with hj' | hj'
        · exact hg j (List.mem_cons_of_mem _ hj) hj'
        · simp at hj'; subst hj'; exact hir hj)
      (fun j hj => by
        rcases List.mem_append.1 hj with hj | hj
        · exact hgdn j hj
        · simp at hj; subst hj; exact hid)
      (fun d' hd' => by
        have hdd : d ≠ d' := fun e => hd' i (by simp) (by rw [hdo, e])
        rw [hget d' hdd]
        exact ht d' fun j hj => hd' j (List.mem_append_left _ hj))
      c5 k1
    exact ⟨t', gU', r1, by simpa using r2, by simpa using r3, by simpa using r4⟩
end
end Go.Fe
