/- The writing operations are right, one by one; the operations together. -/
import Derived.Test.YtfplfbaebiaanaaGreatFe6
noncomputable section
namespace Go.Fe
open Go.RowKit Go.Reg Go.Sort Go.Sy

section
variable {P : Program} {tb : Tab} {E : Env} {hd : Hid} {st : AS} {K : AS → Prop} {o : Oper}

theorem apTy_of (ok : TabOk P tb) {t t2 e f : TypeId} {q q2 qe : Ty} {zs : List Value} (hq : (tb ()).look t = some q) (hq2 : (tb ()).look t2 = some q2) (he : q.sl = some e) (he2 : q2.sl = some f) (hqe : (tb ()).look e = some qe) (hz : qe.zr = some zs) (h0 : 0 < qe.sz) (h1 : 0 < qe.bt) :
    ApTy P t t2 e qe.sz qe.bt zs :=
  ⟨(ok hq).sl he, ⟨_, (ok hq2).sl he2, fun k h => by cases h⟩, (ok hqe).sz, (ok hqe).bt, h0, h1, fun w => by
    obtain ⟨hl, h⟩ := (ok hqe).zr hz
    obtain ⟨v, e1, e2⟩ := h w
    exact ⟨v, e1, by rw [e2]; simp [hl]⟩⟩
theorem plL_len : ∀ {l : List SV} {r : List Value}, plL l = some r → r.length = l.length
  | [], r, h => by simp [plL] at h; subst h; rfl
  | v :: l, r, h => by
    cases v <;> simp only [plL] at h <;> (try cases h) <;> (
      split at h
      · rename_i q hq
        simp only [Option.some.injEq] at h; subst h
        simp [plL_len hq]
      · cases h)

/-- 'append' to nothing: a new row, or nothing -/
theorem ap_none {t t2 e m bt : Nat} {zs : List Value} (ty : ApTy P t t2 e m bt zs) {w0 w : World} {M : List Nat} {β : Nat → Nat × Nat} (hS : Mm w0 M β st w) (hwf : WfM st) {base : Option Addr} {n : Nat} {x : Value} {news : List Value}
    (hx : ScIs P w m x news n) (hn : n ≠ 0) (hbig : n * bt ≤ 140737488355328) {B : Blk} (hB : B.bd st.nx) (hBv : B.vals β = news) (hBt : B.ty = e) :
    ∃ β' w', (∀ t', (Builtin.append_ #[t, t2] t' #[.slice base 0 0, x]).run P w = .ok (.slice (some ⟨(β' st.nx).1, 0, none⟩) n (((β' st.nx).2 - 0) / m)) w') ∧ Agree st.nx β β' ∧ Mm w0 M β' (st.new B) w' := by
  obtain ⟨β', w', tot, g1, g2, g3, _⟩ := ap_new ty hS hwf (base := base) (len := 0) (cap := 0) (olds := []) hx
    (fun w' hw' => by cases base with
      | none => simp [Builtin.firstCells]
      | some a => simp [Builtin.firstCells]; rfl) (by simp) (by omega) (by simpa using hbig) hB (by simpa using hBv) hBt
  exact ⟨β', w', by simpa using g1, g2, g3⟩
theorem ap_zero {t t2 e m bt : Nat} {zs : List Value} (ty : ApTy P t t2 e m bt zs) {w : World} {base : Option Addr} {x : Value} {news : List Value} (hx : ScIs P w m x news 0) (t' : TypeId) :
    (Builtin.append_ #[t, t2] t' #[.slice base 0 0, x]).run P w = .ok (.slice base 0 0) w := by
  obtain ⟨d2, hu2, hd2⟩ := ty.t2'
  have hl := hx.size
  have h0 : news = [] := List.eq_nil_of_length_eq_zero (by simpa using hl)
  subst h0
  have hc := hx.cells w rfl 0 (Nat.le_refl _)
  exact run_append_room (P := P) (ty := t') ty.t1 hu2 hd2 ty.sz (hx.len w rfl) (by simpa using hc) (Nat.le_refl _) (fun a ha => by simp [storeCells]) (fun _ => rfl)

theorem pAppend_ok (ok : TabOk P tb) (hwf : Wf st) {c : Call} (ho : o.op = .call c) (hc : c.callee = .builtin .append) {x y : Operand} {t t2 : TypeId} (ha : c.args.toList = [x, y]) (ht : c.argTypes.toList = [t, t2])
    (h : (pAppend hd tb st o.dst t t2 (st.ev x) (st.ev y)).holds K) : OTo P o st K := by
  have hbx := hwf.ev x
  unfold pAppend at h
  split at h
  · rename_i q q2 hq hq2
    split at h
    · rename_i e e2 he he2
      split at h
      · rename_i qe hqe
        split at h
        · rename_i zs sc hz hsc
          cases hpos : (Nat.blt 0 qe.sz && Nat.blt 0 qe.bt) with
          | false => rw [hpos] at h; exact False.elim h
          | true =>
            rw [hpos] at h
            simp only [Bool.and_eq_true, cond_true] at hpos h
            have hm0 : 0 < qe.sz := cast Nat.blt_eq hpos.1
            have hb0 : 0 < qe.bt := cast Nat.blt_eq hpos.2
            have ty := apTy_of (P := P) ok hq hq2 he he2 hqe hz hm0 hb0
            split at h
            · rename_i cs n eu
              obtain ⟨hbd, hsrc⟩ := srcOf_ex (P := P) hsc hwf.toWfM
              cases h0 : Nat.beq n 0 with
              | true =>
                rw [h0] at h
                have h0 := Nat.eq_of_beq_eq_true h0
                subst h0
                refine oto_calm hwf (v := .e (.x (.c (.slice none 0 0)))) h (by simp [AV.bd, EV.bd, SV.bd]) fun w0 M β a w hI => calm_of_run ?_
                refine exec_append ho hc ha ht hI fun ty' => ?_
                rw [eu]
                simpa [AV.val_e, EV.val_x, SV.val] using ap_zero ty (hsrc w0 M β w hI.mem) ty'
              | false =>
                rw [h0] at h
                have h0 := Nat.ne_of_beq_eq_false h0
                simp only [cond_false] at h
                cases hf : (fitB n qe.bt && oneL cs) with
                | false => rw [hf] at h; exact False.elim h
                | true =>
                  rw [hf] at h
                  simp only [Bool.and_eq_true, cond_true] at hf h
                  refine oto_val hwf fun w0 M β a w hI => ?_
                  have hB : (Blk.ex cs e).bd st.nx := SV.bds_iff.2 hbd
                  obtain ⟨β', w', g1, g2, g3⟩ := ap_none ty hI.mem hwf.toWfM (base := none) (hsrc w0 M β w hI.mem) h0 (Nat.le_of_ble_eq_true hf.1) hB rfl rfl
                  refine ⟨_, _, β', w', h, exec_append ho hc ha ht hI fun ty' => ?_, g2, Nat.le_succ _, rfl, rfl, by simp [AV.bd, EV.bd, SV.bd, AS.new], hwf.toWfM.new hB, g3, rfl⟩
                  rw [eu]
                  simpa [AV.val_e, EV.val_x, SV.val, Cap.val] using g1 ty'
            · rename_i p len cap cs n _ eu
              obtain ⟨⟨rfl, rfl⟩, h⟩ := h
              obtain ⟨hbd, hsrc⟩ := srcOf_ex (P := P) hsc hwf.toWfM
              cases h0 : Nat.beq n 0 with
              | true =>
                rw [h0] at h
                have h0 := Nat.eq_of_beq_eq_true h0
                subst h0
                refine oto_calm hwf (v := .e (.x (.c (.slice p 0 0)))) h (by simp [AV.bd, EV.bd, SV.bd]) fun w0 M β a w hI => calm_of_run ?_
                refine exec_append ho hc ha ht hI fun ty' => ?_
                rw [eu]
                simpa [AV.val_e, EV.val_x, SV.val] using ap_zero ty (hsrc w0 M β w hI.mem) ty'
              | false =>
                rw [h0] at h
                have h0 := Nat.ne_of_beq_eq_false h0
                simp only [cond_false] at h
                cases hf : (fitB n qe.bt && oneL cs) with
                | false => rw [hf] at h; exact False.elim h
                | true =>
                  rw [hf] at h
                  simp only [Bool.and_eq_true, cond_true] at hf h
                  refine oto_val hwf fun w0 M β a w hI => ?_
                  have hB : (Blk.ex cs e).bd st.nx := SV.bds_iff.2 hbd
                  obtain ⟨β', w', g1, g2, g3⟩ := ap_none ty hI.mem hwf.toWfM (base := p) (hsrc w0 M β w hI.mem) h0 (Nat.le_of_ble_eq_true hf.1) hB rfl rfl
                  refine ⟨_, _, β', w', h, exec_append ho hc ha ht hI fun ty' => ?_, g2, Nat.le_succ _, rfl, rfl, by simp [AV.bd, EV.bd, SV.bd, AS.new], hwf.toWfM.new hB, g3, rfl⟩
                  rw [eu]
                  simpa [AV.val_e, EV.val_x, SV.val, Cap.val] using g1 ty'
            · rename_i p len cap ob l n eu
              obtain ⟨hob, ⟨rfl, rfl⟩, hfit, h⟩ := h
              obtain ⟨hone, hsrc⟩ := srcOf_sy (P := P) hsc hob
              have h := h.out
              rw [hB_eq] at h
              by_cases h0 : n = 0
              · subst h0
                simp only [decide_true] at h
                refine oto_calm hwf (v := .e (.x (.c (.slice p 0 0)))) h (by simp [AV.bd, EV.bd, SV.bd]) fun w0 M β a w hI => calm_of_run ?_
                refine exec_append ho hc ha ht hI fun ty' => ?_
                rw [eu]
                simpa [AV.val_e, EV.val_x, SV.val] using ap_zero ty (hsrc w0 M β w hI.mem) ty'
              · simp only [h0, decide_false] at h
                refine oto_val hwf fun w0 M β a w hI => ?_
                have hB : (Blk.sy l e).bd st.nx := trivial
                obtain ⟨β', w', g1, g2, g3⟩ := ap_none ty hI.mem hwf.toWfM (base := p) (hsrc w0 M β w hI.mem) h0 hfit.out hB rfl rfl
                refine ⟨_, _, β', w', h, exec_append ho hc ha ht hI fun ty' => ?_, g2, Nat.le_succ _, rfl, rfl, by simp [AV.bd, EV.bd, SV.bd, AS.new], hwf.toWfM.new hB, g3, rfl⟩
                rw [eu]
                simpa [AV.val_e, EV.val_x, SV.val, Cap.val] using g1 ty'
            · rename_i n0 off len cap cs n eu
              obtain ⟨hbd, hsrc⟩ := srcOf_ex (P := P) hsc hwf.toWfM
              rw [eu] at hbx
              simp only [AV.bd, EV.bd, SV.bd] at hbx
              split at h
              · rename_i old ty0 hb
                have hmem := getB_mem hb
                cases hone : oneL cs with
                | false => rw [hone] at h; exact False.elim h
                | true =>
                  rw [hone] at h
                  simp only [cond_true] at h
                  cases hfit : Nat.ble (len + n) cap with
                  | true =>
                    rw [hfit] at h
                    simp only [cond_true] at h
                    have hfit := Nat.le_of_ble_eq_true hfit
                    split at h
                    · rename_i r hr
                      cases hlo : Nat.ble st.lo n0 with
                      | false => rw [hlo] at h; exact False.elim h
                      | true =>
                        rw [hlo] at h
                        have hlo := Nat.le_of_ble_eq_true hlo
                        obtain ⟨e1, e2'⟩ := spl_eq hr
                        refine oto_val hwf fun w0 M β a w hI => ?_
                        have hx := hsrc w0 M β w hI.mem
                        have hk := hI.mem.has _ hmem
                        have hkv : (Blk.ex old ty0).vals β = SV.vals β old := rfl
                        have hlen : (SV.vals β cs).length = cs.length := vals_length _ _
                        have htot : (SV.vals β old).length ≤ (β n0).2 := by
                          obtain ⟨tail, _, t2⟩ := hk
                          rw [hkv] at t2; simp only at t2; omega
                        obtain ⟨w', ob, r1, r2, r3, r4, r5, r6⟩ := hk.store (P := P) (off := off + len * qe.sz) (vs := SV.vals β cs) (by rw [hlen]; rw [vals_length] at htot; simp only; omega) (by rw [hkv, vals_length]; omega) (oneL_all β hone)
                        obtain ⟨d2, hu2, hd2⟩ := ty.t2'
                        have hcell := hx.cells w rfl n (Nat.le_refl _)
                        rw [List.take_of_length_le (by rw [hx.size]; exact Nat.le_refl _)] at hcell
                        have hB' : (Blk.ex r ty0).bd st.nx := SV.bds_iff.2 (spl_bd hr (SV.bds_iff.1 (hwf.hp _ hmem).2) hbd)
                        refine ⟨{ st with hp := setB st.hp n0 (.ex r ty0) }, _, β, w', h, exec_append ho hc ha ht hI fun ty' => ?_, Agree.rfl _ _, Nat.le_refl _, rfl, rfl, by simpa [AV.bd, EV.bd, SV.bd] using hbx, hwf.toWfM.set hbx hB', ?_, rfl⟩
                        · rw [eu]
                          simp only [AV.val_e, EV.val_x, SV.val, Cap.val]
                          exact run_append_room (P := P) (ty := ty') ty.t1 hu2 hd2 ty.sz (hx.len w rfl) hcell hfit (fun a ha => by cases ha; rw [addr_add]; exact r1) (fun h => by cases h)
                        · refine hI.mem.set hwf.hp hwf.nd hb hlo r2 r3 r4 r5 ?_
                          have : (Blk.ex r ty0).vals β = (SV.vals β old).take (off + len * qe.sz) ++ SV.vals β cs ++ (SV.vals β old).drop (off + len * qe.sz + (SV.vals β cs).length) := by
                            simp only [Blk.vals, e1, vals_append, vals_take, vals_drop, vals_length]
                          rw [this]; exact r6
                    · exact False.elim h
                  | false =>
                    rw [hfit] at h
                    simp only [cond_false] at h
                    have hfit : ¬ len + n ≤ cap := fun hle => by rw [Nat.ble_eq_true_of_le hle] at hfit; cases hfit
                    split at h
                    · rename_i r hr
                      obtain ⟨e1, e2'⟩ := takeN_eq hr
                      rw [dropN_eq] at e1 e2'
                      cases hf : fitB (len + n) qe.bt with
                      | false => rw [hf] at h; exact False.elim h
                      | true =>
                        rw [hf] at h
                        refine oto_val hwf fun w0 M β a w hI => ?_
                        have hx := hsrc w0 M β w hI.mem
                        have hk := hI.mem.has _ hmem
                        have hbr : ∀ s ∈ r, SV.bd st.nx s := fun s hs => SV.bds_iff.1 (hwf.hp _ hmem).2 s (by rw [e1] at hs; exact List.mem_of_mem_drop (List.mem_of_mem_take hs))
                        have hB : (Blk.ex (r ++ cs) e).bd st.nx := SV.bds_iff.2 fun s hs => by
                          rcases List.mem_append.1 hs with hs | hs
                          · exact hbr s hs
                          · exact hbd s hs
                        have hlr : r.length = len * qe.sz := by rw [e1]; simp at e2' ⊢; omega
                        obtain ⟨β', w', tot, g1, g2, g3, _⟩ := ap_new ty hI.mem hwf.toWfM (base := some ⟨(β n0).1, off, none⟩) (len := len) (cap := cap) (olds := SV.vals β r) hx
                          (fun w' hw' => by
                            by_cases h0 : len * qe.sz = 0
                            · have hr0 : r = [] := List.eq_nil_of_length_eq_zero (by omega)
                              subst hr0
                              simp [Builtin.firstCells, h0, SV.vals]; rfl
                            · have := firstCells_row (P := P) (w := w') (b := (β n0).1) (off := off) (len := len) (cap := cap) (n := len) (m := qe.sz) (cs := SV.vals β old) (fun j v hj => by rw [cell_heap hw']; exact hk.cell hj) (by rw [vals_length]; simp at e2'; omega)
                              rw [this, e1, vals_take, vals_drop]) (by rw [vals_length, hlr]) hfit (Nat.le_of_ble_eq_true hf) hB (by simp [Blk.vals, vals_append]) rfl
                        refine ⟨_, _, β', w', h, exec_append ho hc ha ht hI fun ty' => ?_, g2, Nat.le_succ _, rfl, rfl, by simp [AV.bd, EV.bd, SV.bd, AS.new], hwf.toWfM.new hB, g3, rfl⟩
                        rw [eu]
                        simpa [AV.val_e, EV.val_x, SV.val, Cap.val] using g1 ty'
                    · exact False.elim h
              · exact False.elim h
            · rename_i n0 len m cs n eu
              obtain ⟨hbd, hsrc⟩ := srcOf_ex (P := P) hsc hwf.toWfM
              split at h
              · rename_i old ty0 hb
                have hmem := getB_mem hb
                split at h
                · rename_i r hr
                  obtain ⟨e1, e2'⟩ := takeN_eq hr
                  cases hf : (Nat.beq m qe.sz && Nat.beq ty0 e && fitB (len + n) qe.bt && oneL cs && Nat.ble st.lo n0) with
                  | false => rw [hf] at h; exact False.elim h
                  | true =>
                    rw [hf] at h
                    simp only [Bool.and_eq_true, cond_true] at hf h
                    obtain ⟨⟨⟨⟨f1, f2⟩, f3⟩, f4⟩, f5⟩ := hf
                    have f1 := Nat.eq_of_beq_eq_true f1
                    subst f1
                    refine oto_val hwf fun w0 M β a w hI => ?_
                    have hbr : ∀ s ∈ r, SV.bd st.nx s := fun s hs => SV.bds_iff.1 (hwf.hp _ hmem).2 s (by rw [e1] at hs; exact List.mem_of_mem_take hs)
                    have hB : (Blk.ex (r ++ cs) e).bd st.nx := SV.bds_iff.2 fun s hs => by
                      rcases List.mem_append.1 hs with hs | hs
                      · exact hbr s hs
                      · exact hbd s hs
                    obtain ⟨β', w', g1, g2, g3⟩ := ap_grow ty hI.mem hwf.toWfM hb (Nat.le_of_ble_eq_true f5) (Nat.eq_of_beq_eq_true f2) (len := len) (hsrc w0 M β w hI.mem) (oneL_all β f4) (by simp only [Blk.vals, vals_length]; exact e2') (Nat.le_of_ble_eq_true f3) hB (by simp [Blk.vals, vals_append, e1, vals_take]) rfl
                    refine ⟨_, _, β', w', h, exec_append ho hc ha ht hI fun ty' => ?_, g2, Nat.le_succ _, rfl, rfl, by simp [AV.bd, EV.bd, SV.bd, AS.new], WfM.new (st := { st with hp := delB st.hp n0 }) (hwf.toWfM.sub (delB_sub _ _) rfl) hB, g3, rfl⟩
                    rw [eu]
                    simpa [AV.val_e, EV.val_x, SV.val, Cap.val] using g1 ty'
                · exact False.elim h
              · exact False.elim h
            · rename_i n0 len m ob l n eu
              split at h
              · rename_i old ty0 hb
                have hmem := getB_mem hb
                split at h
                · rename_i r hr
                  obtain ⟨e1, e2'⟩ := takeN_eq hr
                  split at h
                  · rename_i vs hvs
                    cases hf : (Nat.beq m qe.sz && Nat.beq ty0 e && Nat.ble st.lo n0) with
                    | false => rw [hf] at h; exact False.elim h
                    | true =>
                      rw [hf] at h
                      obtain ⟨hob, hfit, h⟩ := h
                      simp only [Bool.and_eq_true] at hf
                      obtain ⟨⟨f1, f2⟩, f5⟩ := hf
                      have f1 := Nat.eq_of_beq_eq_true f1
                      subst f1
                      obtain ⟨hone, hsrc⟩ := srcOf_sy (P := P) hsc hob
                      simp only [aNewS, VC.holds, hN_eq, Hid.ok] at h
                      refine oto_val hwf fun w0 M β a w hI => ?_
                      have hB : (Blk.sy (vs ++ l) e).bd st.nx := trivial
                      obtain ⟨β', w', g1, g2, g3⟩ := ap_grow ty hI.mem hwf.toWfM hb (Nat.le_of_ble_eq_true f5) (Nat.eq_of_beq_eq_true f2) (len := len) (hsrc w0 M β w hI.mem) hone (by simp only [Blk.vals, vals_length]; exact e2') hfit.out hB (by simp only [Blk.vals, ← plL_val β hvs, e1, vals_take]) rfl
                      refine ⟨_, _, β', w', h, exec_append ho hc ha ht hI fun ty' => ?_, g2, Nat.le_succ _, rfl, rfl, by simp [AV.bd, EV.bd, SV.bd, AS.new], WfM.new (st := { st with hp := delB st.hp n0 }) (hwf.toWfM.sub (delB_sub _ _) rfl) hB, g3, rfl⟩
                      rw [eu]
                      simpa [AV.val_e, EV.val_x, SV.val, Cap.val] using g1 ty'
                  · exact False.elim h
                · exact False.elim h
              · exact False.elim h
            · rename_i n0 len m eu
              split at h
              · rename_i old ty0 hb
                have hmem := getB_mem hb
                cases hf : (Nat.beq m qe.sz && Nat.beq ty0 e && Nat.ble st.lo n0) with
                | false => rw [hf] at h; exact False.elim h
                | true =>
                  rw [hf] at h
                  simp only [cond_true] at h
                  simp only [Bool.and_eq_true] at hf
                  obtain ⟨⟨f1, f2⟩, f5⟩ := hf
                  have f1 := Nat.eq_of_beq_eq_true f1
                  subst f1
                  split at h
                  · rename_i cs n
                    obtain ⟨hbd, hsrc⟩ := srcOf_ex (P := P) hsc hwf.toWfM
                    split at h
                    · rename_i vs hvs
                      cases hone : oneL cs with
                      | false => rw [hone] at h; exact False.elim h
                      | true =>
                        rw [hone] at h
                        obtain ⟨hle, hfit, h⟩ := h
                        simp only [aNewS, VC.holds, hN_eq, Hid.ok] at h
                        refine oto_val hwf fun w0 M β a w hI => ?_
                        have hB : (Blk.sy (old.take (len * qe.sz) ++ vs) e).bd st.nx := trivial
                        obtain ⟨β', w', g1, g2, g3⟩ := ap_grow ty hI.mem hwf.toWfM hb (Nat.le_of_ble_eq_true f5) (Nat.eq_of_beq_eq_true f2) (len := len) (hsrc w0 M β w hI.mem) (oneL_all β hone) hle hfit.out hB (by simp only [Blk.vals, plL_val β hvs]) rfl
                        refine ⟨_, _, β', w', h, exec_append ho hc ha ht hI fun ty' => ?_, g2, Nat.le_succ _, rfl, rfl, by simp [AV.bd, EV.bd, SV.bd, AS.new], WfM.new (st := { st with hp := delB st.hp n0 }) (hwf.toWfM.sub (delB_sub _ _) rfl) hB, g3, rfl⟩
                        rw [eu]
                        simpa [AV.val_e, EV.val_x, SV.val, Cap.val] using g1 ty'
                    · exact False.elim h
                  · rename_i ob l n
                    obtain ⟨hob, hle, hfit, h⟩ := h
                    obtain ⟨hone, hsrc⟩ := srcOf_sy (P := P) hsc hob
                    simp only [aNewS, VC.holds, hN_eq, Hid.ok] at h
                    refine oto_val hwf fun w0 M β a w hI => ?_
                    have hB : (Blk.sy (old.take (len * qe.sz) ++ l) e).bd st.nx := trivial
                    obtain ⟨β', w', g1, g2, g3⟩ := ap_grow ty hI.mem hwf.toWfM hb (Nat.le_of_ble_eq_true f5) (Nat.eq_of_beq_eq_true f2) (len := len) (hsrc w0 M β w hI.mem) hone hle hfit.out hB rfl rfl
                    refine ⟨_, _, β', w', h, exec_append ho hc ha ht hI fun ty' => ?_, g2, Nat.le_succ _, rfl, rfl, by simp [AV.bd, EV.bd, SV.bd, AS.new], WfM.new (st := { st with hp := delB st.hp n0 }) (hwf.toWfM.sub (delB_sub _ _) rfl) hB, g3, rfl⟩
                    rw [eu]
                    simpa [AV.val_e, EV.val_x, SV.val, Cap.val] using g1 ty'
              · exact False.elim h
            · exact False.elim h
        · exact False.elim h
      · exact False.elim h
    · exact False.elim h
  · exact False.elim h
end
end Go.Fe
