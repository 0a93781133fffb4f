/- Code. -/
import Derived.Test.YtfplfbaebiaanaaGreatFeC
import Derived.LoopN
noncomputable section
namespace Go.Fe
open Go.RowKit Go.Reg Go.Sort Go.Sy

inductive AX | normal | exit (id : Nat) | ret
def AX.to : AX → Exit
  | .normal => .normal
  | .exit id => .exit id
  | .ret => .ret

def seqV (hd : Hid) (tb : Tab) (E : Env) (all : List Oper) : List Oper → AS → VC AS
  | [], st => .ret st
  | o :: l, st => (gdV all st o fun s => sv hd tb E s o).bind fun s => seqV hd tb E all l s
def regV (hd : Hid) (tb : Tab) (E : Env) (rg : LT Pl) (id : Nat) (ops : Array Oper) (draw : Bool) (st : AS) : VC AS := match draw with
  | false => seqV hd tb E ops.toList ops.toList st
  | true => match rg.look id, st.df with
    | some pl, [] => vcD hd tb E ops.toList pl st
    | _, _ => .fail
def roundsV (f : AS → VC (AX × AS)) : Nat → AS → VC (AX × AS)
  | 0, _ => .fail
  | n + 1, st => (f st).bind fun r => match r with
    | (.normal, s) => roundsV f n s
    | (.exit i, s) => .ret (.exit i, s)
    | (.ret, s) => .ret (.ret, s)

/-! ### Frames forget the names from k on -/
/-- a value without a name from k on -/
def nmC (k : Nat) : List (Nat × Nat) → Bool
  | [] => true
  | q :: l => Nat.blt q.1 k && nmC k l
mutual
def nmS (k : Nat) : SV → Bool
  | .c _ => true
  | .li _ _ => true
  | .lb _ => true
  | .p n _ => Nat.blt n k
  | .s n _ _ _ => Nat.blt n k
  | .q n _ => Nat.blt n k
  | .z n _ _ _ => Nat.blt n k
  | .f _ cs => nmC k cs
  | .mb _ _ r => nmSL k r
def nmSL (k : Nat) : List SV → Bool
  | [] => true
  | v :: l => nmS k v && nmSL k l
end
def nmE (k : Nat) : EV → Bool
  | .x v => nmS k v
  | .g l => nmSL k l
def nmEL (k : Nat) : List EV → Bool
  | [] => true
  | v :: l => nmE k v && nmEL k l
def nmA (k : Nat) : AV → Bool
  | .e v => nmE k v
  | .t l => nmEL k l
theorem nmC_bd {k : Nat} : ∀ {l : List (Nat × Nat)}, nmC k l = true → ∀ q ∈ l, q.1 < k
  | [], _, q, hq => absurd hq (by simp)
  | x :: l, h, q, hq => by
    simp only [nmC, Bool.and_eq_true] at h
    rcases List.mem_cons.1 hq with rfl | hq
    · exact cast Nat.blt_eq h.1
    · exact nmC_bd h.2 q hq
mutual
theorem nmS_bd {k : Nat} : ∀ {v : SV}, nmS k v = true → v.bd k
  | .c _, _ => by simp [SV.bd]
  | .li _ _, _ => by simp [SV.bd]
  | .lb _, _ => by simp [SV.bd]
  | .p _ _, h => by simp only [nmS] at h; simp only [SV.bd]; exact cast Nat.blt_eq h
  | .s _ _ _ _, h => by simp only [nmS] at h; simp only [SV.bd]; exact cast Nat.blt_eq h
  | .q _ _, h => by simp only [nmS] at h; simp only [SV.bd]; exact cast Nat.blt_eq h
  | .z _ _ _ _, h => by simp only [nmS] at h; simp only [SV.bd]; exact cast Nat.blt_eq h
  | .f _ cs, h => by simp only [nmS] at h; simp only [SV.bd]; exact nmC_bd h
  | .mb _ _ r, h => by simp only [nmS] at h; simp only [SV.bd]; exact nmSL_bd h
theorem nmSL_bd {k : Nat} : ∀ {l : List SV}, nmSL k l = true → SV.bds k l
  | [], _ => by simp [SV.bds]
  | x :: l, h => by
    simp only [nmSL, Bool.and_eq_true] at h
    simp only [SV.bds]
    exact ⟨nmS_bd h.1, nmSL_bd h.2⟩
end
theorem nmE_bd {k : Nat} : ∀ {v : EV}, nmE k v = true → v.bd k
  | .x _, h => nmS_bd h
  | .g _, h => SV.bds_iff.1 (nmSL_bd h)
theorem nmEL_bd {k : Nat} : ∀ {l : List EV}, nmEL k l = true → ∀ v ∈ l, EV.bd k v
  | [], _, v, hv => absurd hv (by simp)
  | x :: l, h, v, hv => by
    simp only [nmEL, Bool.and_eq_true] at h
    rcases List.mem_cons.1 hv with rfl | hv
    · exact nmE_bd h.1
    · exact nmEL_bd h.2 v hv
theorem nmA_bd {k : Nat} : ∀ {v : AV}, nmA k v = true → v.bd k
  | .e _, h => nmE_bd h
  | .t _, h => nmEL_bd h
/-- literals are values like others -/
def dlS : SV → SV
  | .li k n => .c (.int k n)
  | .lb b => .c (.bool b)
  | v => v
def dlL : List SV → List SV
  | [] => []
  | v :: l => dlS v :: dlL l
def dlE : EV → EV
  | .x v => .x (dlS v)
  | .g l => .g (dlL l)
def dlEL : List EV → List EV
  | [] => []
  | v :: l => dlE v :: dlEL l
def dlA : AV → AV
  | .e v => .e (dlE v)
  | .t l => .t (dlEL l)
theorem dlS_val (β : Nat → Nat × Nat) (v : SV) : (dlS v).val β = v.val β := by cases v <;> simp [dlS, SV.val]
theorem dlL_val (β : Nat → Nat × Nat) : ∀ l : List SV, SV.vals β (dlL l) = SV.vals β l
  | [] => rfl
  | v :: l => by simp only [dlL, SV.vals, dlS_val, dlL_val β l]
theorem dlE_val (β : Nat → Nat × Nat) (v : EV) : (dlE v).val β = v.val β := by
  cases v with
  | x v => exact dlS_val β v
  | g l => simp only [dlE, EV.val, dlL_val]
theorem dlEL_val (β : Nat → Nat × Nat) : ∀ l : List EV, EV.vals β (dlEL l) = EV.vals β l
  | [] => rfl
  | v :: l => by simp only [dlEL, EV.vals, dlE_val, dlEL_val β l]
theorem dlA_val (β : Nat → Nat × Nat) (v : AV) : (dlA v).val β = v.val β := by
  cases v with
  | e v => exact dlE_val β v
  | t l => simp only [dlA, AV.val, dlEL_val]
theorem dlS_bd {n : Nat} {v : SV} (h : v.bd n) : (dlS v).bd n := by cases v <;> first | exact h | simp [dlS, SV.bd]
theorem dlL_bd {n : Nat} : ∀ {l : List SV}, (∀ v ∈ l, SV.bd n v) → ∀ v ∈ dlL l, SV.bd n v
  | [], _, v, hv => absurd hv (by simp [dlL])
  | x :: l, h, v, hv => by
    rcases List.mem_cons.1 hv with rfl | hv
    · exact dlS_bd (h x List.mem_cons_self)
    · exact dlL_bd (fun v hv => h v (List.mem_cons_of_mem _ hv)) v hv
theorem dlE_bd {n : Nat} {v : EV} (h : v.bd n) : (dlE v).bd n := by
  cases v with
  | x v => exact dlS_bd h
  | g l => exact dlL_bd h
theorem dlEL_bd {n : Nat} : ∀ {l : List EV}, (∀ v ∈ l, EV.bd n v) → ∀ v ∈ dlEL l, EV.bd n v
  | [], _, v, hv => absurd hv (by simp [dlEL])
  | x :: l, h, v, hv => by
    rcases List.mem_cons.1 hv with rfl | hv
    · exact dlE_bd (h x List.mem_cons_self)
    · exact dlEL_bd (fun v hv => h v (List.mem_cons_of_mem _ hv)) v hv
theorem dlA_bd {n : Nat} {v : AV} (h : v.bd n) : (dlA v).bd n := by
  cases v with
  | e v => exact dlE_bd h
  | t l => exact dlEL_bd h
/-- what held a name from k on holds some value -/
def gcT (k : Nat) (js : Nat → Value) : Nat → List AV → List AV
  | _, [] => []
  | i, v :: l => (bif nmA k v then dlA v else .e (.x (.c (js i)))) :: gcT k js (i + 1) l
def nmB (k : Nat) : Blk → Bool
  | .ex cs _ => nmSL k cs
  | .sy _ _ => true
def gcH (k : Nat) : List (Nat × Blk) → List (Nat × Blk)
  | [] => []
  | (n, b) :: l => bif Nat.blt n k && nmB k b then (n, b) :: gcH k l else gcH k l
def gcS (k : Nat) (js : Nat → Value) (st : AS) : AS := { st with tm := gcT k js 0 st.tm, hp := gcH k st.hp, nx := k, df := [] }
theorem gcT_val {k : Nat} {β : Nat → Nat × Nat} : ∀ (l : List AV) (i : Nat) (js : Nat → Value), (∀ j v, l[j]? = some v → js (i + j) = v.val β) → (gcT k js i l).map (AV.val β) = l.map (AV.val β)
  | [], _, _, _ => rfl
  | v :: l, i, js, h => by
    simp only [gcT, List.map_cons]
    have h0 := h 0 v rfl
    rw [gcT_val l (i + 1) js (fun j u hu => by rw [show i + 1 + j = i + (j + 1) by omega]; exact h (j + 1) u (by simpa using hu))]
    congr 1
    cases nmA k v with
    | true => exact dlA_val β v
    | false => exact h0
theorem gcT_bd {k : Nat} {js : Nat → Value} : ∀ (l : List AV) (i : Nat), ∀ v ∈ gcT k js i l, AV.bd k v
  | [], _, v, hv => absurd hv (by simp [gcT])
  | x :: l, i, v, hv => by
    simp only [gcT] at hv
    rcases List.mem_cons.1 hv with rfl | hv
    · cases e : nmA k x with
      | true => exact dlA_bd (nmA_bd e)
      | false => simp [AV.bd, EV.bd, SV.bd]
    · exact gcT_bd l (i + 1) v hv
theorem gcT_len (k : Nat) (js : Nat → Value) : ∀ (l : List AV) (i : Nat), (gcT k js i l).length = l.length
  | [], _ => rfl
  | x :: l, i => by simp [gcT, gcT_len k js l (i + 1)]
theorem gcH_sub (k : Nat) : ∀ l : List (Nat × Blk), (gcH k l).Sublist l
  | [] => .slnil
  | (n, b) :: l => by
    unfold gcH
    cases (Nat.blt n k && nmB k b) with
    | true => exact (gcH_sub k l).cons_cons _
    | false => exact (gcH_sub k l).cons _
theorem nmB_bd {k : Nat} {b : Blk} (h : nmB k b = true) : b.bd k := by
  cases b with
  | ex cs ty => exact nmSL_bd h
  | sy l ty => exact trivial
theorem gcH_bd {k : Nat} : ∀ (l : List (Nat × Blk)), ∀ q ∈ gcH k l, q.1 < k ∧ q.2.bd k
  | [], q, hq => absurd hq (by simp [gcH])
  | (n, b) :: l, q, hq => by
    unfold gcH at hq
    cases e : (Nat.blt n k && nmB k b) with
    | true =>
      rw [e] at hq
      simp only [Bool.and_eq_true] at e
      rcases List.mem_cons.1 hq with rfl | hq
      · exact ⟨cast Nat.blt_eq e.1, nmB_bd e.2⟩
      · exact gcH_bd l q hq
    | false => rw [e] at hq; exact gcH_bd l q hq
theorem Is.gc {w0 w : World} {M : List Nat} {β : Nat → Nat × Nat} {st : AS} {a : Act} (h : Is w0 M β st a w) (hdf : st.df = []) (k : Nat) : Is w0 M β (gcS k (fun i => a.tmps.getD i undef) st) a w := by
  refine ⟨?_, by rw [h.df, hdf]; rfl, ?_, ⟨⟨gcH_bd _, h.wf.nd.sublist (gcH_sub _ _)⟩, gcT_bd _ _, fun _ hq => absurd hq (by simp [gcS])⟩⟩
  · show a.tmps = ((gcT k (fun i => a.tmps.getD i undef) 0 st.tm).map (AV.val β)).toArray
    rw [gcT_val st.tm 0 _ (fun j v hv => by rw [h.tm]; simp [hv]), h.tm]
  · exact h.mem.sub (fun q hq => (gcH_sub k st.hp).subset hq) (fun _ _ h => h) (Nat.le_refl _)

/-! ### Loops -/
/-- another round -/
inductive Nxt (I : Nat → AS → Prop) (k n : Nat) (st : AS) : Prop
  | mk (h : ∀ js, ∃ m, m < n ∧ I m (gcS k js st))
theorem Nxt.out {I : Nat → AS → Prop} {k n : Nat} {st : AS} (h : Nxt I k n st) : ∀ js, ∃ m, m < n ∧ I m (gcS k js st) := by
  cases h with
  | mk h => exact h
/-- a loop's invariant: of the state ahead of it, a number that bounds the rounds still to come, the state -/
abbrev LInv := AS → Nat → AS → Prop
structure Fst (I : Nat → AS → Prop) (k lo len : Nat) (st : AS) : Prop where
  out : ∀ js, ∃ n, I n (gcS k js st)
  inv : ∀ n s, I n s → s.nx = k ∧ s.lo = lo ∧ s.tm.length = len ∧ s.df = []
/-- one state that the invariant allows -/
structure At (I : Nat → AS → Prop) where
  n : Nat
  s : AS
  ok : I n s
def loopV (I : LInv) (f : AS → VC (AX × AS)) (st : AS) : VC (AX × AS) :=
  .ob (st.df = []) (.ob (Fst (I st) st.nx st.lo st.tm.length st) (.all (At (I st)) fun q => (f q.s).bind fun r => match r with
    | (.normal, s) => .ob (s.df = [] ∧ Nxt (I st) st.nx q.n s) (.all Empty fun e => nomatch e)
    | (.exit i, s) => .ret (.exit i, s)
    | (.ret, s) => .ret (.ret, s)))
def lkey : Code → Nat
  | .region id _ _ => id
  | .seq a _ => lkey a
  | .block _ c => lkey c
  | .loop c => lkey c
  | .cond _ a _ => lkey a
  | _ => 0

def cU (hd : Hid) (tb : Tab) (E : Env) (rg : LT Pl) (inv : Nat → Option LInv) (fuel : Nat) : Code → AS → VC (AX × AS)
  | .skip, st => .ret (.normal, st)
  | .region id ops draw, st => (regV hd tb E rg id ops draw st).bind fun s => .ret (.normal, s)
  | .seq a b, st => (cU hd tb E rg inv fuel a st).bind fun r => match r with
    | (.normal, s) => cU hd tb E rg inv fuel b s
    | (.exit i, s) => .ret (.exit i, s)
    | (.ret, s) => .ret (.ret, s)
  | .cond c a b, st => match st.ev c with
    | .e (.x (.lb true)) => cU hd tb E rg inv fuel a st
    | .e (.x (.lb false)) => cU hd tb E rg inv fuel b st
    | .e (.x (.c (.bool v))) => .br v fun v' => match v' with
      | true => cU hd tb E rg inv fuel a st
      | false => cU hd tb E rg inv fuel b st
    | _ => .fail
  | .block id c, st => (cU hd tb E rg inv fuel c st).bind fun r => match r with
    | (.normal, s) => .ret (.normal, s)
    | (.exit i, s) => bif Nat.beq i id then .ret (.normal, s) else .ret (.exit i, s)
    | (.ret, s) => .ret (.ret, s)
  | .loop c, st => match inv (lkey c) with
    | some I => loopV I (fun st => cU hd tb E rg inv fuel c st) st
    | none => roundsV (fun st => cU hd tb E rg inv fuel c st) fuel st
  | .exit id, st => .ret (.exit id, st)
  | .label _, st => .ret (.normal, st)
  | .ret, st => .ret (.ret, st)
  | _, _ => .fail
/-- each region that draws its order has a plan -/
def rgB (rg : LT Pl) (len : Nat) : Code → Bool
  | .region id ops true => match rg.look id with
    | some pl => planB ops pl len
    | none => false
  | .seq a b => rgB rg len a && rgB rg len b
  | .cond _ a b => rgB rg len a && rgB rg len b
  | .block _ c => rgB rg len c
  | .loop c => rgB rg len c
  | _ => true

section
variable {P : Program} {tb : Tab} {E : Env} {hd : Hid} {rg : LT Pl} {inv : Nat → Option LInv} {len : Nat}

/-- code that begins in st ends in a state that K holds of -/
def CTo (wpc : (Exit → Act → World → Prop) → Act → World → Prop) (st : AS) (K : AX × AS → Prop) : Prop :=
  ∀ (w0 : World) (M : List Nat) (β : Nat → Nat × Nat) (a : Act) (w : World) (Q : Exit → Act → World → Prop), Is w0 M β st a w →
    (∀ x st' β' a' w', K (x, st') → Agree st.nx β β' → st.nx ≤ st'.nx → st'.lo = st.lo → st'.tm.length = st.tm.length → Is w0 M β' st' a' w' → Q x.to a' w') → wpc Q a w

theorem Is.lit {w0 w : World} {M : List Nat} {β : Nat → Nat × Nat} {st : AS} {a : Act} (h : Is w0 M β st a w) {d : Nat} {b : Bool} (hb : getL und st.tm d = .e (.x (.c (.bool b)))) : Is w0 M β (st.put (some d) (.e (.x (.lb b)))) a w := by
  refine ⟨?_, h.df, h.mem.of_eq rfl rfl rfl, h.wf.put _ (by simp [AV.bd, EV.bd, SV.bd])⟩
  rw [h.tm]
  congr 1
  simp only [AS.put, setL_eq, List.map_set]
  apply List.ext_getElem?
  intro i
  by_cases hi : d = i
  · subst hi
    rw [getL_eq] at hb
    by_cases hl : d < st.tm.length
    · have hg : st.tm[d] = .e (.x (.c (.bool b))) := by simpa [hl] using hb
      simp [hl, hg, AV.val_e, EV.val_x, SV.val]
    · simp [Nat.le_of_not_lt hl]
  · rw [List.getElem?_set_ne hi]

theorem seq_sound (ok : TabOk P tb) (eok : EOk P E) {all : List Oper} {w0 : World} {M : List Nat} {Q : Exit → Act → World → Prop} : ∀ {l : List Oper} {st : AS} {K : AS → Prop}, (seqV hd tb E all l st).holds K → ∀ {β : Nat → Nat × Nat} {a : Act} {w : World}, Is w0 M β st a w →
    (∀ st' β' a' w', K st' → Agree st.nx β β' → st.nx ≤ st'.nx → st'.lo = st.lo → st'.tm.length = st.tm.length → Is w0 M β' st' a' w' → Q .normal a' w') → wpList P all.toArray Q l a w
  | [], st, K, h, β, a, w, hI, hk => wpList_nil (hk st β a w h (Agree.rfl _ _) (Nat.le_refl _) rfl rfl hI)
  | o :: l, st, K, h, β, a, w, hI, hk => by
    have h := VC.holds_bind h
    -- it is wanted, in a state like st
    have run : ∀ s1 : AS, s1.nx = st.nx → s1.lo = st.lo → s1.tm.length = st.tm.length → Is w0 M β s1 a w → Region.wanted o (yielded all.toArray a.tmps) = true → (sv hd tb E s1 o).holds (fun s => (seqV hd tb E all l s).holds K) → wpList P all.toArray Q (o :: l) a w := by
      intro s1 e1 e2 e3 hI1 hw hv
      refine sv_sound ok eok hI1.wf hv w0 M β a w all.toArray Q l hI1 hw fun s2 β2 a2 w2 h2 ag n2 l2 t2 hI2 => ?_
      refine seq_sound ok eok h2 hI2 fun s3 β3 a3 w3 h3 ag3 n3 l3 t3 hI3 => hk s3 β3 a3 w3 h3 ?_ (by omega) (by omega) (by omega) hI3
      exact (Agree.trans (by rw [e1] at ag; exact ag) ag3 (by omega))
    have skip : ∀ s1 : AS, s1.nx = st.nx → s1.lo = st.lo → s1.tm.length = st.tm.length → Is w0 M β s1 a w → Region.wanted o (yielded all.toArray a.tmps) = false → (seqV hd tb E all l (s1.put o.dst und)).holds K → wpList P all.toArray Q (o :: l) a w := by
      intro s1 e1 e2 e3 hI1 hw hv
      unfold wpList
      rw [hw]
      simp only [Bool.false_eq_true, if_false]
      have hI2 := hI1.put hI1.mem o.dst (v := und) (und_bd _)
      rw [und_val] at hI2
      refine seq_sound ok eok hv hI2 fun s3 β3 a3 w3 h3 ag3 n3 l3 t3 hI3 => ?_
      rw [put_nx] at ag3 n3
      rw [put_lo] at l3
      rw [put_len] at t3
      exact hk s3 β3 a3 w3 h3 (by rw [← e1]; exact ag3) (by omega) (by omega) (by omega) hI3
    unfold gdV at h
    split at h
    · rename_i hg
      exact run st rfl rfl rfl hI (by simp [Region.wanted, hg]) h
    · rename_i j want hg
      split at h
      · rename_i d x1 x2 x3 x4 x5 hj
        have hy := yield_of hI hj rfl
        split at h
        · rename_i b hb
          cases hbw : (b == want) with
          | true =>
            rw [hbw] at h
            refine run st rfl rfl rfl hI ?_ h
            simp only [Region.wanted, hg, hy, hb, AV.val_e, EV.val_x, SV.val, boolOf]
            simpa using hbw
          | false =>
            rw [hbw] at h
            refine skip st rfl rfl rfl hI ?_ h
            simp only [Region.wanted, hg, hy, hb, AV.val_e, EV.val_x, SV.val, boolOf]
            simpa using hbw
        · rename_i b hb
          have h := h.out
          dsimp only at h
          have hI1 := hI.lit hb
          cases hbw : (b == want) with
          | true =>
            rw [hbw] at h
            refine run (st.put (some d) (.e (.x (.lb b)))) rfl rfl (put_len ..) hI1 ?_ h
            simp only [Region.wanted, hg, hy, hb, AV.val_e, EV.val_x, SV.val, boolOf]
            simpa using hbw
          | false =>
            rw [hbw] at h
            refine skip (st.put (some d) (.e (.x (.lb b)))) rfl rfl (put_len ..) hI1 ?_ h
            simp only [Region.wanted, hg, hy, hb, AV.val_e, EV.val_x, SV.val, boolOf]
            simpa using hbw
        · rename_i hb
          refine skip st rfl rfl rfl hI ?_ h
          simp only [Region.wanted, hg, hy, hb, AV.val_t, boolOf]
          rfl
        · exact False.elim h
      · exact False.elim h

theorem reg_sound (ok : TabOk P tb) (eok : EOk P E) (hm : P.follows .mixedOrders = true) {id : Nat} {ops : Array Oper} {draw : Bool} {st : AS} {K : AX × AS → Prop} (hB : rgB rg st.tm.length (.region id ops draw) = true) (h : (regV hd tb E rg id ops draw st).holds fun s => K (.normal, s)) :
    CTo (fun Q a w => (Code.region id ops draw).wp P Q a w) st K := by
  intro w0 M β a w Q hI hk
  cases draw with
  | false =>
    simp only [regV] at h
    have eops : ops = ops.toList.toArray := by simp
    have := seq_sound (Q := Q) ok eok h hI fun st' β' a' w' h1 ag n1 l1 t1 hI' => hk .normal st' β' a' w' h1 ag n1 l1 t1 hI'
    rw [eops]
    exact wp_region_lit this
  | true =>
    simp only [rgB] at hB
    simp only [regV] at h
    split at h
    · rename_i pl hpl hdf
      rw [hpl] at hB
      exact drawn_sound ok eok hm hB hI.wf hdf h hI fun st' β' a' w' h1 ag n1 l1 t1 _ hI' => hk .normal st' β' a' w' h1 ag n1 l1 t1 hI'
    · exact False.elim h

theorem rounds_sound {c : Code} {f : AS → VC (AX × AS)} (hf : ∀ st K, st.tm.length = len → (f st).holds K → CTo (fun Q a w => c.wp P Q a w) st K) :
    ∀ (n : Nat) (st : AS) (K : AX × AS → Prop), st.tm.length = len → (roundsV f n st).holds K → CTo (fun Q a w => Code.rounds P c Q n a w) st K
  | 0, _, _, _, h => h.elim
  | n + 1, st, K, hl, h => by
    intro w0 M β a w Q hI hk
    show Code.rounds P c Q (n + 1) a w
    rw [rounds_succ]
    refine hf _ _ hl (VC.holds_bind h) w0 M β a w _ hI fun x s1 β' a' w' h1 ag n1 l1 t1 hI' => ?_
    cases x with
    | normal => exact rounds_sound hf n s1 K (t1.trans hl) h1 w0 M β' a' w' Q hI' fun y s2 β'' a'' w'' h2 ag' n2 l2 t2 hI'' => hk y s2 β'' a'' w'' h2 (ag.trans ag' n1) (Nat.le_trans n1 n2) (l2.trans l1) (t2.trans t1) hI''
    | exit i => exact hk _ s1 β' a' w' h1 ag n1 l1 t1 hI'
    | ret => exact hk _ s1 β' a' w' h1 ag n1 l1 t1 hI'

theorem least_of {p : Nat → Prop} : ∀ n, p n → ∃ n, p n ∧ ∀ m, p m → n ≤ m := by
  intro n
  induction n using Nat.strongRecOn with
  | _ n ih =>
    intro h
    by_cases hl : ∃ m, m < n ∧ p m
    · obtain ⟨m, hm, hp⟩ := hl
      exact ih m hm hp
    · exact ⟨n, h, fun m hm => Nat.le_of_not_lt fun hlt => hl ⟨m, hlt, hm⟩⟩
theorem least_ex {p : Nat → Prop} (h : ∃ n, p n) : ∃ n, p n ∧ ∀ m, p m → n ≤ m := h.elim fun n hn => least_of n hn
open Classical in
/-- an invariant that a number bounds -/
theorem wp_loop_inv {c : Code} {Q : Exit → Act → World → Prop} {a : Act} {w : World} (R : Nat → Act → World → Prop) {n : Nat} (h0 : R n a w)
    (round : ∀ n a w, R n a w → c.wp P (Exit.then (fun a' w' => ∃ m, m < n ∧ R m a' w') Q) a w) : (Code.loop c).wp P Q a w := by
  refine wp_loop (fun a w => ∃ n, R n a w) (fun a w => if h : ∃ n, R n a w then Classical.choose (least_ex h) else 0) ⟨n, h0⟩ fun a w h => ?_
  have hs := Classical.choose_spec (least_ex h)
  refine Code.wp_mono (fun e a' w' he => ?_) (round _ a w hs.1)
  cases e with
  | normal =>
    obtain ⟨m, hm, hR⟩ := he
    have h' : ∃ n, R n a' w' := ⟨m, hR⟩
    refine ⟨h', ?_⟩
    rw [dif_pos h, dif_pos h']
    exact Nat.lt_of_le_of_lt ((Classical.choose_spec (least_ex h')).2 m hR) hm
  | exit _ => exact he
  | goto _ => exact he
  | ret => exact he
  | panic _ => exact he
  | outgrown => exact he

theorem loop_sound {c : Code} {f : AS → VC (AX × AS)} (hf : ∀ st K, st.tm.length = len → (f st).holds K → CTo (fun Q a w => c.wp P Q a w) st K) {I : LInv} {st : AS} {K : AX × AS → Prop} (hl : st.tm.length = len) (h : (loopV I f st).holds K) : CTo (fun Q a w => (Code.loop c).wp P Q a w) st K := by
  intro w0 M β a w Q hS hk
  obtain ⟨hdf, ⟨h0, hinv⟩, h⟩ := h
  obtain ⟨n, hn⟩ := h0 fun i => a.tmps.getD i undef
  refine wp_loop_inv (fun n a w => ∃ s β', I st n s ∧ Agree st.nx β β' ∧ Is w0 M β' s a w) (n := n) ⟨_, β, hn, fun _ _ => rfl, hS.gc hdf st.nx⟩ fun n a w ⟨s, β1, hI, ag1, hS⟩ => ?_
  obtain ⟨e1, e2, e3, e4⟩ := hinv n s hI
  refine hf _ _ (e3.trans hl) (VC.holds_bind (h ⟨n, s, hI⟩)) w0 M β1 a w _ hS fun x s1 β' a' w' h1 ag n1 l1 t1 hI' => ?_
  rw [e1] at ag n1
  cases x with
  | normal =>
    obtain ⟨⟨hd1, hnx⟩, _⟩ := h1
    obtain ⟨m, hm, h2⟩ := hnx.out fun i => a'.tmps.getD i undef
    exact ⟨m, hm, _, β', h2, ag1.trans ag (Nat.le_refl _), hI'.gc hd1 st.nx⟩
  | exit i => exact hk _ s1 β' a' w' h1 (ag1.trans ag (Nat.le_refl _)) n1 (l1.trans e2) (t1.trans e3) hI'
  | ret => exact hk _ s1 β' a' w' h1 (ag1.trans ag (Nat.le_refl _)) n1 (l1.trans e2) (t1.trans e3) hI'

theorem code_sound (ok : TabOk P tb) (eok : EOk P E) (hm : P.follows .mixedOrders = true) {fuel : Nat} : ∀ (c : Code) (st : AS) (K : AX × AS → Prop), rgB rg len c = true → st.tm.length = len → (cU hd tb E rg inv fuel c st).holds K →
    CTo (fun Q a w => c.wp P Q a w) st K
  | .skip, st, K, _, _, h => fun w0 M β a w Q hI hk => wp_skip (hk .normal st β a w h (Agree.rfl _ _) (Nat.le_refl _) rfl rfl hI)
  | .region id ops draw, st, K, hB, hl, h => reg_sound ok eok hm (by rw [hl]; exact hB) (VC.holds_bind h)
  | .seq c d, st, K, hB, hl, h => fun w0 M β a w Q hI hk => wp_seq (by
    simp only [rgB, Bool.and_eq_true] at hB
    refine code_sound ok eok hm c st _ hB.1 hl (VC.holds_bind h) w0 M β a w _ hI fun x s1 β' a' w' h1 ag n1 l1 t1 hI' => ?_
    cases x with
    | normal => exact code_sound ok eok hm d s1 _ hB.2 (t1.trans hl) h1 w0 M β' a' w' Q hI' fun y s2 β'' a'' w'' h2 ag' n2 l2 t2 hI'' => hk y s2 β'' a'' w'' h2 (ag.trans ag' n1) (Nat.le_trans n1 n2) (l2.trans l1) (t2.trans t1) hI''
    | exit i => exact hk _ s1 β' a' w' h1 ag n1 l1 t1 hI'
    | ret => exact hk _ s1 β' a' w' h1 ag n1 l1 t1 hI')
  | .cond c d e, st, K, hB, hl, h => fun w0 M β a w Q hI hk => by
    simp only [rgB, Bool.and_eq_true] at hB
    unfold cU at h
    split at h
    · rename_i hv
      exact wp_cond_true (by rw [hI.eval, hv]; simp [AV.val_e, EV.val_x, SV.val]) (code_sound ok eok hm d st K hB.1 hl h w0 M β a w Q hI hk)
    · rename_i hv
      exact wp_cond_false (by rw [hI.eval, hv]; simp [AV.val_e, EV.val_x, SV.val]) (code_sound ok eok hm e st K hB.2 hl h w0 M β a w Q hI hk)
    · rename_i v hv
      have h := h.out
      cases v with
      | true => exact wp_cond_true (by rw [hI.eval, hv]; simp [AV.val_e, EV.val_x, SV.val]) (code_sound ok eok hm d st K hB.1 hl h w0 M β a w Q hI hk)
      | false => exact wp_cond_false (by rw [hI.eval, hv]; simp [AV.val_e, EV.val_x, SV.val]) (code_sound ok eok hm e st K hB.2 hl h w0 M β a w Q hI hk)
    · exact False.elim h
  | .block id c, st, K, hB, hl, h => fun w0 M β a w Q hI hk => wp_block (by
    refine code_sound ok eok hm c st _ hB hl (VC.holds_bind h) w0 M β a w _ hI fun x s1 β' a' w' h1 ag n1 l1 t1 hI' => ?_
    cases x with
    | normal => exact hk _ s1 β' a' w' h1 ag n1 l1 t1 hI'
    | exit i =>
      simp only at h1
      cases e : Nat.beq i id with
      | true =>
        rw [e] at h1
        have e := Nat.eq_of_beq_eq_true e
        simp only [AX.to, Exit.inBlock, e, if_true]
        exact hk .normal s1 β' a' w' h1 ag n1 l1 t1 hI'
      | false =>
        rw [e] at h1
        have e : i ≠ id := fun h => by rw [h] at e; simp at e
        simp only [AX.to, Exit.inBlock, e, if_false]
        exact hk (.exit i) s1 β' a' w' h1 ag n1 l1 t1 hI'
    | ret => exact hk _ s1 β' a' w' h1 ag n1 l1 t1 hI')
  | .loop c, st, K, hB, hl, h => fun w0 M β a w Q hI hk => by
    unfold cU at h
    split at h
    · exact loop_sound (P := P) (c := c) (fun st K hl h => code_sound ok eok hm c st K hB hl h) hl h w0 M β a w Q hI hk
    · exact wp_loop_rounds fuel (rounds_sound (P := P) (c := c) (fun st K hl h => code_sound ok eok hm c st K hB hl h) fuel st K hl h w0 M β a w Q hI hk)
  | .exit id, st, K, _, _, h => fun w0 M β a w Q hI hk => wp_exit (hk (.exit id) st β a w h (Agree.rfl _ _) (Nat.le_refl _) rfl rfl hI)
  | .label _, st, K, _, _, h => fun w0 M β a w Q hI hk => wp_label (hk .normal st β a w h (Agree.rfl _ _) (Nat.le_refl _) rfl rfl hI)
  | .ret, st, K, _, _, h => fun w0 M β a w Q hI hk => wp_ret (hk .ret st β a w h (Agree.rfl _ _) (Nat.le_refl _) rfl rfl hI)
  | .rangeFunc .., _, _, _, _, h => False.elim h
  | .scope _, _, _, _, _, h => False.elim h
  | .goto _, _, _, _, _, h => False.elim h
  | .refuse _, _, _, _, _, h => False.elim h
end
end Go.Fe
