/- make, store, copy, calls; all operations together. -/
import Derived.Test.YtfplfbaebiaanaaGreatFe7
import Derived.Laws.LoneSync
noncomputable section
namespace Go.Fe
open Go.RowKit Go.Reg Go.Sort Go.Sy

section
variable {P : Program} {tb : Tab} {E : Env} {hd : Hid} {st : AS} {K : AS → Prop} {o : Oper}

theorem run_make {t e m bts : Nat} {zs : List Value} {w : World} (hu : P.underlying t = some (.slice e)) (hm : szOf P e = some m) (hb : byOf P e = some bts) (hz : zs.length = m ∧ ∀ w, ∃ v, (zeroValue e).run P w = .ok v w ∧ v.cells = zs.toArray) (h0 : 0 < m)
    {kl kc : IntKind} {l c : Nat} (h1 : l ≤ c) (h2 : c ≤ 9223372036854775807) (h3 : c * bts ≤ 140737488355328) :
    (Instr.makeSlice t (.int kl l) (.int kc c)).run P w = .ok (.slice (some ⟨w.heap.size, 0, none⟩) l c) (w.alloc (.cells ((List.replicate c zs).flatten).toArray e)) := by
  obtain ⟨i, hi, hib⟩ : ∃ i, P.info? e = some i ∧ i.bytes = bts := by
    unfold byOf at hb
    exact Option.map_eq_some_iff.1 hb
  have hti : ∀ w, (typeInfo e).run P w = .ok i w := fun w => by simp [typeInfo, hi]
  have wl : IntKind.i64.wrap (l : Int) = l := Go.IntWalk.i64_in _ (by omega)
  have wc : IntKind.i64.wrap (c : Int) = c := Go.IntWalk.i64_in _ (by omega)
  have p48 : (2 : Int) ^ 48 = 281474976710656 := by decide
  have hmul : (bts : Int) * (c : Int) ≤ 140737488355328 := by
    have : ((c * bts : Nat) : Int) ≤ 140737488355328 := by omega
    rw [Int.natCast_mul, Int.mul_comm] at this
    exact this
  have c1 : ¬ ((c : Int) < 0) := by omega
  have c2 : ¬ ((bts : Int) * (c : Int) > 2 ^ 48) := by rw [p48]; omega
  have c3 : ¬ ((l : Int) < 0) := by omega
  have c4 : ¬ ((l : Int) > (c : Int)) := by omega
  obtain ⟨v, z1, z2⟩ := hz.2 w
  unfold Instr.makeSlice
  simp only [Sem.run_bind, run_underlying hu, Result.andThen_ok, asInt, asIntOf, Sem.run_pure, hti, hib, wl, wc, c1, c2, c3, c4, decide_false, Bool.false_or, Bool.or_self, Bool.false_eq_true, if_false, run_askRoom, Sy.run_sizeOf hm, Int.toNat_natCast]
  by_cases hc : c = 0
  · subst hc
    simp only [Nat.zero_mul, if_true, Sem.run_pure, Result.andThen_ok, newRow, newObj, Sem.run_bind]
    rw [show Array.range 0 = (#[] : Array Nat) from rfl]
    simp only [Array.map_empty, List.replicate_zero, List.flatten_nil]
    rfl
  · have hn : ¬ (c * m = 0) := by
      intro e
      rcases Nat.mul_eq_zero.1 e with e | e <;> omega
    simp only [hn, if_false, Sem.run_bind, z1, Result.andThen_ok, Sem.run_pure, newRow, newObj, z2]
    have := rep_cells zs (by omega) c
    rw [hz.1] at this
    rw [this]
    rfl

theorem isI_ofNat {v : AV} {b : Bool} {k : IntKind} {n : Int} (h : isI v = some (b, k, n)) (hn : 0 ≤ n) (β : Nat → Nat × Nat) : v.val β = .int k (n.toNat : Int) := by
  rw [isI_val h β]; simp only; rw [Int.toNat_of_nonneg hn]

/-- the frame's slots are as the state says -/
def FrIs (β : Nat → Nat × Nat) (st : AS) (ρ : Operand → Value) : Prop := ∀ x, ρ x = (st.ev x).val β
/-- an allocation: its block, its value; whatever the world -/
def AlOk (P : Program) (o : Oper) (st : AS) (B : Blk) (r : AR) : Prop := B.bd st.nx ∧ ∀ β ρ w, FrIs β st ρ → (execOp ρ o).run P w = .ok (.value (r.mk w.heap.size)) (w.alloc (.cells (B.vals β).toArray B.ty))
theorem pMake_ok (ok : TabOk P tb) {t : TypeId} {x y : Operand} {K : Blk × AR → Prop} (ho : o.op = .makeSlice t x y) (h : (pMake hd tb t (st.ev x) (st.ev y)).holds K) : ∃ B r, K (B, r) ∧ AlOk P o st B r := by
  unfold pMake at h
  split at h
  · rename_i q hq
    split at h
    · rename_i e he
      split at h
      · rename_i qe hqe
        split at h
        · rename_i zs hz
          have hu := (ok hq).sl he
          have hzr := (ok hqe).zr hz
          split at h
          · rename_i l c hl hc
            cases hf : (Nat.ble l c && Nat.ble (qe.bt * c) 140737488355328 && Nat.ble c 9223372036854775807 && Nat.blt 0 qe.sz) with
            | false => rw [hf] at h; exact False.elim h
            | true =>
              rw [hf] at h
              simp only [Bool.and_eq_true, cond_true] at hf h
              obtain ⟨⟨⟨f1, f2⟩, f3⟩, f4⟩ := hf
              have f1 := Nat.le_of_ble_eq_true f1
              have f2 := Nat.le_of_ble_eq_true f2
              have f3 := Nat.le_of_ble_eq_true f3
              have f4 : 0 < qe.sz := cast Nat.blt_eq f4
              refine ⟨_, _, h, SV.bds_iff.2 (repL_bd (cL_bd _ _) _), fun β ρ w hρ => ?_⟩
              obtain ⟨kl, el⟩ := natOf_val hl β
              obtain ⟨kc, ec⟩ := natOf_val hc β
              have hrun := run_make (P := P) (w := w) hu (ok hqe).sz (ok hqe).bt hzr f4 (kl := kl) (kc := kc) f1 f3 (by rw [Nat.mul_comm]; exact f2)
              unfold execOp; rw [ho]
              simp only [hρ x, hρ y, el, ec]
              rw [run_v hrun]
              simp [AR.mk, Blk.vals, repL_val, Blk.ty]
          · split at h
            · rename_i bl kl l bc kc c hl hc
              cases hf : Nat.blt 0 qe.sz with
              | false => rw [hf] at h; exact False.elim h
              | true =>
                rw [hf] at h
                obtain ⟨⟨f1, f2, f3⟩, hfit, h⟩ := h
                simp only [VC.holds, hN_eq, Hid.ok] at h
                have f4 : 0 < qe.sz := cast Nat.blt_eq hf
                refine ⟨_, _, h, trivial, fun β ρ w hρ => ?_⟩
                have hrun := run_make (P := P) (w := w) hu (ok hqe).sz (ok hqe).bt hzr f4 (kl := kl) (kc := kc) (l := l.toNat) (c := c.toNat) (by omega) (by omega) hfit.out
                unfold execOp; rw [ho]
                simp only [hρ x, hρ y, isI_ofNat hl f1 β, isI_ofNat hc (by omega) β]
                rw [run_v hrun]
                simp [AR.mk, Blk.vals, Blk.ty]
            · exact False.elim h
        · exact False.elim h
      · exact False.elim h
    · exact False.elim h
  · exact False.elim h

theorem pA_ok (ok : TabOk P tb) (hev : ∀ x, (st.ev x).bd st.nx) {K : Blk × AR → Prop} (h : (pA hd tb st o).holds K) : ∃ B r, K (B, r) ∧ AlOk P o st B r := by
  unfold pA at h
  split at h
  case h_1 t ho =>
    split at h
    · rename_i q hq
      split at h
      · rename_i zs hz
        refine ⟨_, _, h, SV.bds_iff.2 (cL_bd _ _), fun β ρ w hρ => ?_⟩
        obtain ⟨zv, z1, z2⟩ := ((ok hq).zr hz).2 w
        unfold execOp; rw [ho]
        simp only [Instr.alloc, Sem.run_bind, z1, Result.andThen_ok, newVar, newRow, newObj, z2]
        simp [AR.mk, Blk.vals, cL_val, Blk.ty]
        rfl
      · exact False.elim h
    · exact False.elim h
  case h_2 t x ho =>
    split at h
    · rename_i cs hc
      refine ⟨_, _, h, SV.bds_iff.2 (cellsOf_bd hc (hev x)), fun β ρ w hρ => ?_⟩
      have hcv := cellsOf_val hc β
      unfold execOp; rw [ho]
      simp only [Instr.box, Sem.run_bind, newVar, newRow, newObj, hρ x, hcv]
      simp [AR.mk, Blk.vals, Blk.ty]
      rfl
    · exact False.elim h
  case h_3 t len ps ho =>
    split at h
    · rename_i q hq
      split at h
      · rename_i e he
        split at h
        · rename_i qe hqe
          split at h
          · rename_i zs hz
            split at h
            · rename_i cs hf
              cases hc : (Nat.ble (len * qe.sz) 16777216 && Nat.blt 0 (len * qe.sz)) with
              | false =>
                rw [hc] at h
                simp only [cond_false] at h
                split at h
                · rename_i hps
                  refine ⟨_, _, h, by simp [Blk.bd, SV.bds], fun β ρ w hρ => ?_⟩
                  have hps' : ps = #[] := by apply Array.ext'; simpa using hps
                  subst hps'
                  have hu := (ok hq).sl he
                  have hsz := (ok hqe).sz
                  unfold execOp; rw [ho]
                  simp only [Instr.buildSlice, Sem.run_bind, run_underlying hu, Result.andThen_ok, Sy.run_sizeOf hsz, Nat.zero_mul]
                  have hr0 : (Array.range 0).map (fun x : Nat => (default : Value)) = #[] := by simp
                  simp [Instr.fill, AR.mk, Blk.vals, Blk.ty, SV.vals, newRow, newObj, hr0]
                  rfl
                · exact False.elim h
              | true =>
                rw [hc] at h
                simp only [Bool.and_eq_true] at hc
                have c1 := Nat.le_of_ble_eq_true hc.1
                have c3 : 0 < len * qe.sz := cast Nat.blt_eq hc.2
                refine ⟨_, _, h, SV.bds_iff.2 (fillS_bd hev hf (repL_bd (cL_bd _ _) _)), fun β ρ w hρ => ?_⟩
                obtain ⟨hzl, hzz⟩ := (ok hqe).zr hz
                obtain ⟨zv, hzr, hzc⟩ := hzz w
                have hu := (ok hq).sl he
                have hsz := (ok hqe).sz
                have hs := fillS_spec (ρ := ρ) hρ hf
                have hz0 : 0 < zs.length := by
                  rcases Nat.eq_zero_or_pos zs.length with h0 | h0
                  · rw [← hzl, h0] at c3; simp at c3
                  · exact h0
                rw [repL_val, ← rep_cells zs hz0 len, hzl] at hs
                have hn0 : ¬ (len * qe.sz = 0) := by omega
                have hn1 : ¬ (len * qe.sz > 2 ^ 24) := by
                  have : (2 : Nat) ^ 24 = 16777216 := by decide
                  omega
                unfold execOp; rw [ho]
                simp only [Instr.buildSlice, Sem.run_bind, run_underlying hu, Result.andThen_ok, Sy.run_sizeOf hsz, hn0, hn1, if_false, hzr, hzc, Sem.run_pure, Array.toList_map, hs, newRow, newObj]
                simp [AR.mk, Blk.vals, Blk.ty]
                rfl
            · exact False.elim h
          · exact False.elim h
        · exact False.elim h
      · exact False.elim h
    · exact False.elim h
  case h_4 t x y ho => exact pMake_ok ok ho h
  case h_5 => exact False.elim h

theorem run_storeAt {t : TypeId} {q : Ty} (ok : TyOk P t q) {w w' : World} {b off : Nat} {v : Value} {vs : List Value} (hv : v.cells = vs.toArray) (hl : vs.length = q.sz) (h : (storeCells ⟨b, off, none⟩ vs).run P w = .ok () w') :
    (Instr.storeAt t (.pointer (some ⟨b, off, none⟩)) v).run P w = .ok () w' := by
  simp [Instr.storeAt, Instr.sureAddr, storeVar, Sy.run_sizeOf ok.sz, hv, hl, h]

theorem updL_len {l vs : List Value} {off : Nat} (h : off + vs.length ≤ l.length) : (updL l off vs).length = l.length := by simp [updL]; omega

theorem pStore_ok (ok : TabOk P tb) (hwf : Wf st) {t : TypeId} {x y : Operand} (ho : o.op = .store t x y) (h : (pStore hd tb st o.dst t (st.ev x) (st.ev y)).holds K) : OTo P o st K := by
  have hbx := hwf.ev x
  unfold pStore at h
  split at h
  · rename_i q vs hq hvs
    cases hf : (Nat.beq (lenN vs) q.sz && oneL vs) with
    | false => rw [hf] at h; exact False.elim h
    | true =>
      rw [hf] at h
      simp only [Bool.and_eq_true, cond_true] at hf h
      have c1 := Nat.eq_of_beq_eq_true hf.1
      rw [lenN_eq] at c1
      have hvb := cellsOf_bd hvs (hwf.ev y)
      have hexec : ∀ {w0 w w' : World} {M : List Nat} {β : Nat → Nat × Nat} {a : Act} {n off : Nat}, Is w0 M β st a w → (st.ev x).val β = .pointer (some ⟨(β n).1, off, none⟩) → (storeCells ⟨(β n).1, off, none⟩ (SV.vals β vs)).run P w = .ok () w' → (execOp a.eval o).run P w = .ok .skip w' := by
        intro w0 w w' M β a n off hI hx hs
        have := run_storeAt (P := P) (ok hq) (cellsOf_val hvs β) (by rw [vals_length, c1]) hs
        unfold execOp; rw [ho]
        simp only [hI.eval, hx, Sem.run_bind, this, Result.andThen_ok, Sem.run_pure]
      split at h
      · rename_i n off ex
        rw [ex] at hbx
        simp only [AV.bd, EV.bd, SV.bd] at hbx
        split at h
        · rename_i cs ty hb
          have hmem := getB_mem hb
          split at h
          · rename_i r hr
            cases hlo : Nat.ble st.lo n with
            | false => rw [hlo] at h; exact False.elim h
            | true =>
              rw [hlo] at h
              have hlo := Nat.le_of_ble_eq_true hlo
              obtain ⟨e1, e2⟩ := spl_eq hr
              have hB' : (Blk.ex r ty).bd st.nx := SV.bds_iff.2 (spl_bd hr (SV.bds_iff.1 (hwf.hp _ hmem).2) hvb)
              refine oto_skip hwf fun w0 M β a w hI => ?_
              have hk := hI.mem.has _ hmem
              have hkv : (Blk.ex cs ty).vals β = SV.vals β cs := rfl
              have htot : (SV.vals β cs).length ≤ (β n).2 := by
                obtain ⟨tail, _, t2⟩ := hk
                rw [hkv] at t2; simp only at t2; omega
              obtain ⟨w', ob, r1, r2, r3, r4, r5, r6⟩ := hk.store (P := P) (off := off) (vs := SV.vals β vs) (by rw [vals_length] at htot ⊢; simp only; omega) (by rw [hkv, vals_length]; omega) (oneL_all β hf.2)
              refine ⟨{ st with hp := setB st.hp n (.ex r ty) }, w', h, hexec hI (by rw [ex]; simp [AV.val_e, EV.val_x, SV.val]) r1, rfl, rfl, rfl, hwf.toWfM.set hbx hB', ?_, rfl⟩
              refine hI.mem.set hwf.hp hwf.nd hb hlo r2 r3 r4 r5 ?_
              have : (Blk.ex r ty).vals β = (SV.vals β cs).take off ++ SV.vals β vs ++ (SV.vals β cs).drop (off + (SV.vals β vs).length) := by
                simp only [Blk.vals, e1, vals_append, vals_take, vals_drop, vals_length]
              rw [this]; exact r6
          · exact False.elim h
        · exact False.elim h
      · rename_i n off ex
        rw [ex] at hbx
        simp only [AV.bd, EV.bd, SV.bd] at hbx
        split at h
        · rename_i l ty us hb hus
          have hmem := getB_mem hb
          cases hlo : Nat.ble st.lo n with
          | false => rw [hlo] at h; exact False.elim h
          | true =>
            rw [hlo] at h
            obtain ⟨hle, h⟩ := h
            simp only [VC.holds, Hid.ok] at h
            have hlo := Nat.le_of_ble_eq_true hlo
            refine oto_skip hwf fun w0 M β a w hI => ?_
            have hk := hI.mem.has _ hmem
            have hkv : (Blk.sy l ty).vals β = l := rfl
            have htot : l.length ≤ (β n).2 := by
              obtain ⟨tail, _, t2⟩ := hk
              rw [hkv] at t2; simp only at t2; omega
            have hul : (SV.vals β vs).length = q.sz := by rw [vals_length, c1]
            have huv : SV.vals β vs = us := plL_val β hus
            obtain ⟨w', ob, r1, r2, r3, r4, r5, r6⟩ := hk.store (P := P) (off := off) (vs := SV.vals β vs) (by rw [hul]; simp only; omega) (by rw [hkv]; omega) (oneL_all β hf.2)
            refine ⟨_, w', h, hexec hI (by rw [ex]; simp [AV.val_e, EV.val_x, SV.val]) r1, rfl, rfl, rfl, hwf.toWfM.set hbx trivial, ?_, rfl⟩
            refine hI.mem.set hwf.hp hwf.nd hb hlo r2 r3 r4 r5 ?_
            rw [huv] at r6
            exact r6
        · exact False.elim h
      · exact False.elim h
  · exact False.elim h

theorem run_copy {t e m : Nat} {w w' : World} {ty t2 : TypeId} (hu : P.underlying t = some (.slice e)) (hm : szOf P e = some m) {x : Value} {news : List Value} {n : Nat} (hx : ScIs P w m x news n) {b off len cap : Nat}
    (hs : (storeCells ⟨b, off, none⟩ (news.take (min n len * m))).run P w = .ok () w') : (Builtin.copy_ #[t, t2] ty #[.slice (some ⟨b, off, none⟩) len cap, x]).run P w = .ok (.int .i64 (min n len : Nat)) w' := by
  have hc := hx.cells w rfl (min n len) (Nat.min_le_left _ _)
  unfold Builtin.copy_
  simp only [List.getElem?_toArray, List.getElem?_cons_zero, List.getElem?_cons_succ, Sem.run_bind, run_underlying hu, Result.andThen_ok, hx.len w rfl, Sy.run_sizeOf hm]
  have e : Nat.min n len = min n len := rfl
  simp only [e, hc, Result.andThen_ok, hs, Sem.run_pure, goInt]

theorem pCopy_ok (ok : TabOk P tb) (hwf : Wf st) {c : Call} (ho : o.op = .call c) (hc : c.callee = .builtin .copy) {x y : Operand} {t t2 : TypeId} (ha : c.args.toList = [x, y]) (ht : c.argTypes.toList = [t, t2])
    (h : (pCopy hd tb st o.dst t (st.ev x) (st.ev y)).holds K) : OTo P o st K := by
  have hbx := hwf.ev x
  unfold pCopy at h
  split at h
  · rename_i q hq
    split at h
    · rename_i e he
      split at h
      · rename_i qe hqe
        have hu := (ok hq).sl he
        have hsz := (ok hqe).sz
        split at h
        · rename_i sc hsc
          split at h
          · rename_i n0 off len cap eu
            rw [eu] at hbx
            simp only [AV.bd, EV.bd, SV.bd] at hbx
            split at h
            · rename_i old ty0 cs n hb
              have hmem := getB_mem hb
              obtain ⟨hbd, hsrc⟩ := srcOf_ex (P := P) hsc hwf.toWfM
              have hmin : (bif Nat.ble n len then n else len) = min n len := by
                cases hh : Nat.ble n len with
                | true => have := Nat.le_of_ble_eq_true hh; simp; omega
                | false =>
                  have : ¬ n ≤ len := fun hle => by rw [Nat.ble_eq_true_of_le hle] at hh; cases hh
                  simp; omega
              rw [hmin] at h
              split at h
              · rename_i r hr
                obtain ⟨e1, e2⟩ := takeN_eq hr
                split at h
                · rename_i r' hr'
                  obtain ⟨d1, d2⟩ := spl_eq hr'
                  cases hf : (Nat.ble st.lo n0 && oneL r) with
                  | false => rw [hf] at h; exact False.elim h
                  | true =>
                    rw [hf] at h
                    simp only [Bool.and_eq_true] at hf
                    have hbr : ∀ s ∈ r, SV.bd st.nx s := fun s hs => hbd s (by rw [e1] at hs; exact List.mem_of_mem_take hs)
                    have hB' : (Blk.ex r' ty0).bd st.nx := SV.bds_iff.2 (spl_bd hr' (SV.bds_iff.1 (hwf.hp _ hmem).2) hbr)
                    refine oto_val hwf fun w0 M β a w hI => ?_
                    have hk := hI.mem.has _ hmem
                    have hkv : (Blk.ex old ty0).vals β = SV.vals β old := rfl
                    have htot : (SV.vals β old).length ≤ (β n0).2 := by
                      obtain ⟨tail, _, t2⟩ := hk
                      rw [hkv] at t2; simp only at t2; omega
                    obtain ⟨w', ob, r1, r2, r3, r4, r5, r6⟩ := hk.store (P := P) (off := off) (vs := SV.vals β r) (by rw [vals_length] at htot ⊢; simp only; omega) (by rw [hkv, vals_length]; omega) (oneL_all β hf.2)
                    refine ⟨{ st with hp := setB st.hp n0 (.ex r' ty0) }, _, β, w', h, exec_copy ho hc ha ht hI fun ty' => ?_, Agree.rfl _ _, Nat.le_refl _, rfl, rfl, by simp [AV.bd, EV.bd, SV.bd], hwf.toWfM.set hbx hB', ?_, rfl⟩
                    · rw [eu]
                      simp only [AV.val_e, EV.val_x, SV.val]
                      have := run_copy (P := P) (t2 := t2) (ty := ty') hu hsz (hsrc w0 M β w hI.mem) (b := (β n0).1) (off := off) (len := len) (cap := cap.val (β n0).2 off) (by rw [← vals_take, ← e1]; exact r1)
                      exact this
                    · refine hI.mem.set hwf.hp hwf.nd hb (Nat.le_of_ble_eq_true hf.1) r2 r3 r4 r5 ?_
                      have : (Blk.ex r' ty0).vals β = (SV.vals β old).take off ++ SV.vals β r ++ (SV.vals β old).drop (off + (SV.vals β r).length) := by
                        simp only [Blk.vals, d1, vals_append, vals_take, vals_drop, vals_length]
                      rw [this]; exact r6
                · exact False.elim h
              · exact False.elim h
            · exact False.elim h
          · rename_i n0 off len cap eu
            rw [eu] at hbx
            simp only [AV.bd, EV.bd, SV.bd] at hbx
            split at h
            · rename_i old ty0 hb
              have hmem := getB_mem hb
              cases hlo : Nat.ble st.lo n0 with
              | false => rw [hlo] at h; exact False.elim h
              | true =>
                rw [hlo] at h
                simp only [cond_true] at h
                have hlo := Nat.le_of_ble_eq_true hlo
                have key : ∀ (news : List Value) (n : Nat), (∀ v ∈ news, v.oneCell' = true) → (∀ w0 M β w, Mm w0 M β st w → ScIs P w qe.sz ((st.ev y).val β) news n) → off + len * qe.sz ≤ old.length →
                    K (AS.put { st with hp := setB st.hp n0 (.sy (updL old off (news.take (min n len * qe.sz))) ty0) } o.dst (.e (.x (.c (.int .i64 (Int.ofNat (min n len))))))) → OTo P o st K := by
                  intro news n hone hsrc hle hK
                  refine oto_val hwf fun w0 M β a w hI => ?_
                  have hk := hI.mem.has _ hmem
                  have hkv : (Blk.sy old ty0).vals β = old := rfl
                  have htot : old.length ≤ (β n0).2 := by
                    obtain ⟨tail, _, t2⟩ := hk
                    rw [hkv] at t2; simp only at t2; omega
                  have hx := hsrc w0 M β w hI.mem
                  have hmm : min n len * qe.sz ≤ len * qe.sz := Nat.mul_le_mul_right _ (Nat.min_le_right _ _)
                  have htl : (news.take (min n len * qe.sz)).length ≤ len * qe.sz := by rw [List.length_take]; omega
                  obtain ⟨w', ob, r1, r2, r3, r4, r5, r6⟩ := hk.store (P := P) (off := off) (vs := news.take (min n len * qe.sz)) (by simp only; omega) (by rw [hkv]; omega) (fun v hv => hone v (List.mem_of_mem_take hv))
                  refine ⟨_, _, β, w', hK, exec_copy ho hc ha ht hI fun ty' => ?_, Agree.rfl _ _, Nat.le_refl _, rfl, rfl, by simp [AV.bd, EV.bd, SV.bd], hwf.toWfM.set hbx trivial, ?_, rfl⟩
                  · rw [eu]
                    simp only [AV.val_e, EV.val_x, SV.val]
                    exact run_copy (P := P) (t2 := t2) (ty := ty') hu hsz hx r1
                  · exact hI.mem.set hwf.hp hwf.nd hb hlo r2 r3 r4 r5 (by simpa [Blk.vals, Blk.ty, updL] using r6)
                split at h
                · rename_i cs n
                  obtain ⟨hbd, hsrc⟩ := srcOf_ex (P := P) hsc hwf.toWfM
                  split at h
                  · rename_i vs hvs
                    cases hone : oneL cs with
                    | false => rw [hone] at h; exact False.elim h
                    | true =>
                      rw [hone] at h
                      obtain ⟨hle, h⟩ := h
                      simp only [VC.holds, hI_eq, Hid.ok] at h
                      exact key vs n (fun v hv => oneL_all (fun _ => (0, 0)) hone v (by rw [plL_val _ hvs]; exact hv)) (fun w0 M β w hS => by rw [← plL_val β hvs]; exact hsrc w0 M β w hS) hle h
                  · exact False.elim h
                · rename_i ob l n
                  obtain ⟨hob, hle, h⟩ := h
                  obtain ⟨hone, hsrc⟩ := srcOf_sy (P := P) hsc hob
                  simp only [VC.holds, hI_eq, Hid.ok] at h
                  exact key l n hone hsrc hle h
            · exact False.elim h
          · exact False.elim h
        · exact False.elim h
      · exact False.elim h
    · exact False.elim h
  · exact False.elim h

theorem fnOf_runX {v : AV} {i : Nat} {first cs : List AV} (h : fnOf v = some (i, first, cs)) (β : Nat → Nat × Nat) (args : Array Value) (w : World) :
    ((do let d ← Deferred.ofValue (v.val β) args; invoke d.target d.args : Sem Next)).run P w = (callFunc i (((first.map (AV.val β)).toArray ++ args) ++ (cs.map (AV.val β)).toArray)).run P w := by
  unfold fnOf at h
  split at h
  · cases h
    simp only [AV.val_e, EV.val_x, SV.val, Deferred.ofValue, Sem.run_bind, Sem.run_pure, Result.andThen_ok, invoke]
    simp [capA_val]
  · cases h
    simp only [AV.val_e, EV.val_x, SV.val, Deferred.ofValue, Sem.run_bind, Sem.run_pure, Result.andThen_ok, invoke]
    simp [AV.val_e, EV.val_g]
  · cases h
    simp only [AV.val_e, EV.val_x, SV.val, Deferred.ofValue, Sem.run_bind, Sem.run_pure, Result.andThen_ok, invoke]
    simp [SV.vals, AV.val_e, EV.val_x]
  · cases h
theorem exec_callX {c : Call} {f : Operand} (hc : c.callee = .value f) (ho : o.op = .call c) {i : Nat} {first cs : List AV} (h : fnOf (st.ev f) = some (i, first, cs)) {w0 w : World} {M : List Nat} {β : Nat → Nat × Nat} {a : Act} (hI : Is w0 M β st a w) :
    (execOp a.eval o).run P w = (callFunc i ((first ++ evs st c.args.toList ++ cs).map (AV.val β)).toArray).run P w := by
  have := fnOf_runX (P := P) h β (c.args.map a.eval) w
  unfold execOp; rw [ho]
  simp only [resolve, hc, hI.eval f]
  rw [this]
  congr 2
  apply Array.ext'
  simp [args_val hI, List.map_append]
theorem exec_defer {c : Call} {f : Operand} (hc : c.callee = .value f) (ho : o.op = .defer c) {i : Nat} {first : List AV} (h : fnOf (st.ev f) = some (i, first, [])) {w0 w : World} {M : List Nat} {β : Nat → Nat × Nat} {a : Act} (hI : Is w0 M β st a w) :
    (execOp a.eval o).run P w = .ok (.defer { target := .fn (.func i) #[], args := ((first ++ evs st c.args.toList).map (AV.val β)).toArray }) w := by
  have ea : c.args.map a.eval = ((evs st c.args.toList).map (AV.val β)).toArray := by
    apply Array.ext'
    simp [args_val hI]
  unfold execOp; rw [ho]
  simp only [resolve, hc, hI.eval f, ea]
  unfold fnOf at h
  split at h
  · rename_i i' cs' hv
    simp only [Option.some.injEq, Prod.mk.injEq] at h
    obtain ⟨rfl, rfl, h⟩ := h
    have : cs' = [] := by
      cases cs' with
      | nil => rfl
      | cons q l => obtain ⟨n, o⟩ := q; simp [fnOf.capA] at h
    subst this
    rw [hv]
    simp [AV.val_e, EV.val_x, SV.val, Deferred.ofValue]
  · rename_i hv
    simp only [Option.some.injEq, Prod.mk.injEq] at h
    obtain ⟨rfl, rfl, _⟩ := h
    rw [hv]
    simp [AV.val_e, EV.val_x, SV.val, Deferred.ofValue, EV.val_g]
  · rename_i hv
    simp only [Option.some.injEq, Prod.mk.injEq] at h
    obtain ⟨rfl, rfl, _⟩ := h
    rw [hv]
    simp [AV.val_e, EV.val_x, SV.val, Deferred.ofValue, SV.vals]
  · cases h

/-- a caller's frame, after a call -/
theorem fr_back {w0 w w' : World} {M : List Nat} {β β' : Nat → Nat × Nat} {st' : AS} {a : Act} (hI : Is w0 M β st a w) (ha : Agree st.nx β β') (hn : st.nx ≤ st'.nx) (hm : WfM st') (hS : Mm w0 M β' st' w') : Is w0 M β' { st' with tm := st.tm, df := st.df } a w' := by
  refine ⟨?_, by rw [hI.df]; exact (dfs_agree ha hI.wf.dfb).symm, hS.of_eq rfl rfl rfl, ⟨⟨hm.hp, hm.nd⟩, fun u hu => (hI.wf.tm u hu).mono hn, fun q hq v hv => (hI.wf.dfb q hq v hv).mono hn⟩⟩
  rw [hI.tm]
  congr 1
  exact List.map_congr_left fun u hu => (AV.val_agree ha (hI.wf.tm u hu)).symm
theorem fCall_ok (hwf : Wf st) {i : Nat} {C : FC} (hC : FcOk P i C) {args : List AV} (hargs : ∀ v ∈ args, AV.bd st.nx v) (h : (fCall hd C st o.dst args).holds K)
    (hrun : ∀ w0 M β a w, Is w0 M β st a w → (execOp a.eval o).run P w = .ok (.enter i (args.map (AV.val β)).toArray) w) : OTo P o st K := by
  have h := VC.holds_bind h
  intro w0 M β a w ops Q rest hI hw hk
  have hcall := hC hd st args _ h hwf.toWfM hargs w0 M β w hI.mem
  unfold wpList
  rw [if_pos hw]
  left
  unfold Oper.wp
  rw [hrun w0 M β a w hI]
  refine hcall.mono fun e w' ⟨β', st', v, hK, he, ha, hn, hl, hv, hm, hS⟩ => ?_
  subst he
  exact hk _ β' _ w' hK ha (by rw [put_nx]; exact hn) (by rw [put_lo]; exact hl) (put_len ..) ((fr_back hI ha hn hm hS).put (hS.of_eq rfl rfl rfl) o.dst hv)

/-- a call of the model's own -/
theorem xCall_ok (hwf : Wf st) {i : Nat} {C : FC} (hC : XcOk P i C) {args : List AV} (hargs : ∀ v ∈ args, AV.bd st.nx v) (h : (fCall hd C st o.dst args).holds K)
    (hrun : ∀ w0 M β a w, Is w0 M β st a w → (execOp a.eval o).run P w = (callFunc i (args.map (AV.val β)).toArray).run P w) : OTo P o st K := by
  have h := VC.holds_bind h
  intro w0 M β a w ops Q rest hI hw hk
  obtain ⟨w', β', st', v, hr, hK, ha, hn, hl, hv, hm, hS⟩ := hC hd st args _ h hwf.toWfM hargs w0 M β w hI.mem
  refine Sy.wpList_val hw ((hrun w0 M β a w hI).trans hr) ?_
  exact hk _ β' _ w' hK ha (by rw [put_nx]; exact hn) (by rw [put_lo]; exact hl) (put_len ..) ((fr_back hI ha hn hm hS).put (hS.of_eq rfl rfl rfl) o.dst hv)

theorem pv_oto (ok : TabOk P tb) (gok : GOk P E.Γ) (hwf : Wf st) (h : ((pv hd tb E.Γ st o).bind fun v => VC.ret (st.put o.dst v)).holds K) : OTo P o st K := by
  have h := VC.holds_bind h
  obtain ⟨v, h1, h2, h3⟩ := pv_sound ok gok h hwf
  exact oto_calm hwf h1 h2 h3

theorem pUnsafe_ok (ok : TabOk P tb) (hwf : Wf st) {src dst : TypeId} {x : Operand} (ho : o.op = .convert src dst x) (hup : P.underlying dst = some .unsafePointer) (h : (pUnsafe tb st o.dst src (st.ev x)).holds K) : OTo P o st K := by
  have hbx := hwf.ev x
  unfold pUnsafe at h
  split at h
  · rename_i q n off hq ex
    split at h
    · rename_i cs ty hb
      cases hf : (Nat.beq q.kd 5 && Nat.blt off (lenN cs)) with
      | false => rw [hf] at h; exact False.elim h
      | true =>
        rw [hf] at h
        simp only [Bool.and_eq_true, cond_true] at hf h
        obtain ⟨e, hs, hz⟩ := (ok hq).np (Nat.eq_of_beq_eq_true hf.1)
        have hlt : off < cs.length := by rw [← lenN_eq]; exact cast Nat.blt_eq hf.2
        refine oto_calm hwf h hbx fun w0 M β a w hI => calm_of_run ?_
        have hk := hI.mem.has _ (getB_mem hb)
        have hc := hk.cell (i := off) (v := (cs[off]).val β) (by simp [Blk.vals, SV.vals_eq, hlt])
        have hr := run_convert_to_unsafe (P := P) hs hup hz hc
        unfold execOp; rw [ho]
        simp only [hI.eval, ex, AV.val_e, EV.val_x, SV.val]
        exact run_v hr
    · exact False.elim h
  · exact False.elim h

theorem sv_sound (ok : TabOk P tb) (eok : EOk P E) (hwf : Wf st) (h : (sv hd tb E st o).holds K) : OTo P o st K := by
  unfold sv at h
  cases hA : isA o with
  | true =>
    rw [hA] at h
    simp only [cond_true] at h
    obtain ⟨B, r, hK, hB, hrun⟩ := pA_ok (P := P) ok hwf.ev (VC.holds_bind h)
    refine oto_val hwf fun w0 M β a w hI => ?_
    have hk : Kn (w.heap.size, (B.vals β).length) (B.vals β) B.ty (w.alloc (.cells (B.vals β).toArray B.ty)) := Kn.full (heap_alloc_new _ _)
    refine ⟨_, r.av st.nx, _, _, hK, ?_, fun k hk => by simp [Nat.ne_of_lt hk], Nat.le_succ _, rfl, rfl, r.av_bd _, hwf.toWfM.new hB, hI.mem.new hwf.hp hB (Nat.le_refl _) ((Below.refl _ _).alloc (Nat.le_refl _) _) hk, rfl⟩
    rw [hrun β a.eval w hI.eval, AR.av_val]
    simp
  | false =>
    rw [hA] at h
    simp only [cond_false] at h
    split at h
    case h_1 t x y ho => exact pStore_ok ok hwf ho h
    case h_2 c ho =>
      split at h
      · rename_i f hcal
        split at h
        · rename_i i first cs hfn
          obtain ⟨hb1, hb2⟩ := fnOf_bd hfn (hwf.ev f)
          have hargs : ∀ v ∈ first ++ evs st c.args.toList ++ cs, AV.bd st.nx v := fun v hv => by
            rcases List.mem_append.1 hv with hv | hv
            · rcases List.mem_append.1 hv with hv | hv
              · exact hb1 v hv
              · exact evs_bd hwf _ v hv
            · exact hb2 v hv
          split at h
          · rename_i C hC
            exact fCall_ok hwf (eok.ok _ _ hC) hargs h fun w0 M β a w hI => exec_call hcal ho hfn (eok.bd _ _ hC) hI
          · split at h
            · rename_i C hC
              have h := VC.holds_bind h
              obtain ⟨v, hK, hvb, hcall⟩ := eok.g.ok _ _ hC _ _ _ _ h hwf.toWfM hargs
              refine oto_calm hwf hK (hvb.mono (Nat.zero_le _)) fun w0 M β a w hI => ?_
              unfold calmAt
              rw [exec_call hcal ho hfn (eok.g.bd _ _ hC) hI]
              exact ⟨rfl, hcall w0 M β w hI.mem⟩
            · split at h
              · rename_i C hC
                exact xCall_ok hwf (eok.x _ _ hC) hargs h fun w0 M β a w hI => exec_callX hcal ho hfn hI
              · exact False.elim h
        · exact False.elim h
      · rename_i hcal
        split at h
        · rename_i x y t t2 ha ht
          exact pAppend_ok ok hwf ho hcal ha ht h
        · exact False.elim h
      · rename_i hcal
        split at h
        · rename_i x y t t2 ha ht
          exact pCopy_ok ok hwf ho hcal ha ht h
        · exact False.elim h
      · exact pv_oto ok eok.g hwf h
    case h_3 c ho =>
      split at h
      · rename_i f hcal
        split at h
        · rename_i i first hfn
          obtain ⟨hb1, hb2⟩ := fnOf_bd hfn (hwf.ev f)
          intro w0 M β a w ops Q rest hI hw hk
          unfold wpList
          rw [if_pos hw]
          left
          unfold Oper.wp
          rw [exec_defer hcal ho hfn hI]
          have hI1 : Is w0 M β { st with df := (i, first ++ evs st c.args.toList) :: st.df } { a with defers := { target := .fn (.func i) #[], args := ((first ++ evs st c.args.toList).map (AV.val β)).toArray } :: a.defers } w := by
            refine ⟨hI.tm, ?_, hI.mem.of_eq rfl rfl rfl, ⟨⟨hI.wf.hp, hI.wf.nd⟩, hI.wf.tm, fun q hq v hv => ?_⟩⟩
            · simp only [hI.df]; rfl
            · rcases List.mem_cons.1 hq with rfl | hq
              · rcases List.mem_append.1 hv with hv | hv
                · exact hb1 v hv
                · exact evs_bd hwf _ v hv
              · exact hI.wf.dfb q hq v hv
          have h2 := hI1.put hI1.mem o.dst (v := und) (und_bd _)
          rw [und_val] at h2
          exact hk _ β _ w h (Agree.rfl _ _) (by rw [put_nx]; exact Nat.le_refl _) (by rw [put_lo]) (put_len ..) h2
        · exact False.elim h
      · exact False.elim h
    case h_4 src dst x ho =>
      split at h
      · rename_i q hq
        cases hk : Nat.beq q.kd 4 with
        | false => rw [hk] at h; exact pv_oto ok eok.g hwf h
        | true =>
          rw [hk] at h
          exact pUnsafe_ok ok hwf ho ((ok hq).up (Nat.eq_of_beq_eq_true hk)) h
      · exact pv_oto ok eok.g hwf h
    case h_5 => exact pv_oto ok eok.g hwf h
end
end Go.Fe
