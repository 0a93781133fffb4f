/- Operations that write or make memory. -/
import Derived.Test.YtfplfbaebiaanaaGreatFe4
import Derived.Defers
noncomputable section
namespace Go.Fe
open Go.RowKit Go.Reg Go.Sort Go.Sy

/-- a contract of a callee that may write into named blocks, make some, and turn what is known of memory -/
abbrev FC := Hid → AS → List AV → VC (AS × AV)
def FcOk (P : Program) (f : FuncId) (C : FC) : Prop := ∀ hd st args K, (C hd st args).holds K → WfM st → (∀ v ∈ args, AV.bd st.nx v) → ∀ w0 M β w, Mm w0 M β st w →
  Calls P f (args.map (AV.val β)).toArray w fun e w' => ∃ β' st' v, K (st', v) ∧ e = .returned (v.val β') ∧ Agree st.nx β β' ∧ st.nx ≤ st'.nx ∧ st'.lo = st.lo ∧ v.bd st'.nx ∧ WfM st' ∧ Mm w0 M β' st' w'
/-- the same, as a call that was put off -/
def FdOk (P : Program) (f : FuncId) (C : FC) : Prop := ∀ hd st args K, (C hd st args).holds K → WfM st → (∀ v ∈ args, AV.bd st.nx v) → ∀ w0 M β w, Mm w0 M β st w →
  CallsD P f (args.map (AV.val β)).toArray .returning w fun e u w' => u = .returning ∧ ∃ β' st' v, K (st', v) ∧ e = .returned (v.val β') ∧ Agree st.nx β β' ∧ st.nx ≤ st'.nx ∧ st'.lo = st.lo ∧ v.bd st'.nx ∧ WfM st' ∧ Mm w0 M β' st' w'
/-- the same, of a function of the model's own -/
def XcOk (P : Program) (f : FuncId) (C : FC) : Prop := ∀ hd st args K, (C hd st args).holds K → WfM st → (∀ v ∈ args, AV.bd st.nx v) → ∀ w0 M β w, Mm w0 M β st w →
  ∃ w' β' st' v, (callFunc f (args.map (AV.val β)).toArray).run P w = .ok (.value (v.val β')) w' ∧ K (st', v) ∧ Agree st.nx β β' ∧ st.nx ≤ st'.nx ∧ st'.lo = st.lo ∧ v.bd st'.nx ∧ WfM st' ∧ Mm w0 M β' st' w'
/-- the callees: those that write nothing, those that may, the model's own, those that are put off -/
structure Env where
  Γ : Nat → Option PC
  Δ : Nat → Option FC
  Ξ : Nat → Option FC
  D : Nat → Option FC
structure EOk (P : Program) (E : Env) : Prop where
  g : GOk P E.Γ
  ok : ∀ i C, E.Δ i = some C → FcOk P i C
  bd : ∀ i C, E.Δ i = some C → Bodied P i
  x : ∀ i C, E.Ξ i = some C → XcOk P i C
  d : ∀ i C, E.D i = some C → FdOk P i C
  db : ∀ i C, E.D i = some C → Bodied P i

def repL : List SV → Nat → List SV
  | _, 0 => []
  | l, n + 1 => l ++ repL l n
/-- cells of values that are one cell each -/
structure AllOne (l : List Value) : Prop where
  out : ∀ v ∈ l, v.oneCell' = true
def oneL : List SV → Bool
  | [] => true
  | .c v :: l => v.oneCell' && oneL l
  | _ :: l => oneL l
/-- a row that stays: so many cells, of one each -/
structure RowOk (p : Option Addr) (s : Src) (n : Nat) : Prop where
  spot : (spA p).spot = none
  sm : 0 < n → p = some (spA p)
  out : ∀ j, j < n → ∃ v, s j = some v ∧ v.oneCell' = true
def rowV (s : Src) (n : Nat) : List Value := (List.range n).map fun j => (s j).getD undef
/-- what a slice holds: cells told one by one, or a list of values; how many elements -/
inductive Sc
  | ex (cs : List SV) (n : Nat)
  | sy (ob : Prop) (l : List Value) (n : Nat)
def srcOf (hd : Hid) (st : AS) (m : Nat) (v : AV) : Option Sc := match v with
  | .e (.x (.s n off len _)) => match getB st.hp n with
    | some (.ex cs _) => match takeN (len * m) (dropN off cs) with
      | some r => some (.ex r len)
      | none => none
    | _ => none
  | .e (.x (.c (.slice none 0 0))) => some (.ex [] 0)
  | .e (.x (.z n off len _)) => match getB st.hp n with
    | some (.sy l _) => some (.sy (off + len * m ≤ l.length ∧ AllOne l) (hd.f (List Value) fun _ => (l.drop off).take (len * m)) len)
    | _ => none
  | .e (.x (.c (.slice p len _))) => some (.sy (RowOk p (mSrc st.mem p) (len * m)) (hd.f (List Value) fun _ => rowV (mSrc st.mem p) (len * m)) len)
  | _ => none
def updL (l : List Value) (off : Nat) (vs : List Value) : List Value := l.take off ++ vs ++ l.drop (off + vs.length)

def aNew (st : AS) (d : Option Tmp) (m e len : Nat) (cs : List SV) : VC AS := .ret ((st.new (.ex cs e)).put d (.e (.x (.s st.nx 0 len (.full m)))))
def aNewS (st : AS) (d : Option Tmp) (m e : Nat) (len : Nat) (l : List Value) : VC AS := .ret ((st.new (.sy l e)).put d (.e (.x (.z st.nx 0 len (.full m)))))
def fitB (len bt : Nat) : Bool := Nat.ble (len * bt) 140737488355328
structure Fit (len bt : Nat) : Prop where
  out : len * bt ≤ 140737488355328
def pAppend (hd : Hid) (tb : Tab) (st : AS) (d : Option Tmp) (t t2 : TypeId) (u x : AV) : VC AS :=
  match (tb ()).look t, (tb ()).look t2 with
  | some q, some q2 => match q.sl, q2.sl with
    | some e, some _ => match (tb ()).look e with
      | some qe => match qe.zr, srcOf hd st qe.sz x with
        | some _, some sc => bif Nat.blt 0 qe.sz && Nat.blt 0 qe.bt then (match u, sc with
          | .e (.x (.c (.slice none 0 0))), .ex cs n => bif Nat.beq n 0 then .ret (st.put d (.e (.x (.c (.slice none 0 0))))) else bif fitB n qe.bt && oneL cs then aNew st d qe.sz e n cs else .fail
          | .e (.x (.c (.slice p len cap))), .ex cs n => .ob (len = 0 ∧ cap = 0) (bif Nat.beq n 0 then .ret (st.put d (.e (.x (.c (.slice p 0 0))))) else bif fitB n qe.bt && oneL cs then aNew st d qe.sz e n cs else .fail)
          | .e (.x (.c (.slice p len cap))), .sy ob l n => .ob ob (.ob (len = 0 ∧ cap = 0) (.ob (Fit n qe.bt) (.br (hB hd fun _ => decide (n = 0)) fun
            | true => .ret (st.put d (.e (.x (.c (.slice p 0 0)))))
            | false => aNewS st d qe.sz e n l)))
          | .e (.x (.s n0 off len (.k cap))), .ex cs n => match getB st.hp n0 with
            | some (.ex old ty) => bif oneL cs then (bif Nat.ble (len + n) cap then (match spl old (off + len * qe.sz) cs with
                | some r => bif Nat.ble st.lo n0 then .ret ({ st with hp := setB st.hp n0 (.ex r ty) }.put d (.e (.x (.s n0 off (len + n) (.k cap))))) else .fail
                | none => .fail) else (match takeN (len * qe.sz) (dropN off old) with
                | some r => bif fitB (len + n) qe.bt then aNew st d qe.sz e (len + n) (r ++ cs) else .fail
                | none => .fail)) else .fail
            | _ => .fail
          | .e (.x (.s n0 0 len (.full m))), .ex cs n => match getB st.hp n0 with
            | some (.ex old ty) => match takeN (len * m) old with
              | some r => bif Nat.beq m qe.sz && Nat.beq ty e && fitB (len + n) qe.bt && oneL cs && Nat.ble st.lo n0 then aNew { st with hp := delB st.hp n0 } d m e (len + n) (r ++ cs) else .fail
              | none => .fail
            | _ => .fail
          | .e (.x (.s n0 0 len (.full m))), .sy ob l n => match getB st.hp n0 with
            | some (.ex old ty) => match takeN (len * m) old with
              | some r => match plL r with
                | some vs => bif Nat.beq m qe.sz && Nat.beq ty e && Nat.ble st.lo n0 then .ob ob (.ob (Fit (len + n) qe.bt) (aNewS { st with hp := delB st.hp n0 } d m e (hN hd fun _ => len + n) (hd.f (List Value) fun _ => vs ++ l))) else .fail
                | none => .fail
              | none => .fail
            | _ => .fail
          | .e (.x (.z n0 0 len (.full m))), sc => match getB st.hp n0 with
            | some (.sy old ty) => bif Nat.beq m qe.sz && Nat.beq ty e && Nat.ble st.lo n0 then (match sc with
              | .ex cs n => match plL cs with
                | some vs => bif oneL cs then .ob (len * m ≤ old.length) (.ob (Fit (len + n) qe.bt) (aNewS { st with hp := delB st.hp n0 } d m e (hN hd fun _ => len + n) (hd.f (List Value) fun _ => old.take (len * m) ++ vs))) else .fail
                | none => .fail
              | .sy ob l n => .ob ob (.ob (len * m ≤ old.length) (.ob (Fit (len + n) qe.bt) (aNewS { st with hp := delB st.hp n0 } d m e (hN hd fun _ => len + n) (hd.f (List Value) fun _ => old.take (len * m) ++ l))))) else .fail
            | _ => .fail
          | _, _ => .fail) else .fail
        | _, _ => .fail
      | none => .fail
    | _, _ => .fail
  | _, _ => .fail

def pStore (hd : Hid) (tb : Tab) (st : AS) (d : Option Tmp) (t : TypeId) (u v : AV) : VC AS :=
  match (tb ()).look t, cellsOf v with
  | some q, some vs => bif Nat.beq (lenN vs) q.sz && oneL vs then (match u with
    | .e (.x (.p n off)) => match getB st.hp n with
      | some (.ex cs ty) => match spl cs off vs with
        | some r => bif Nat.ble st.lo n then .ret ({ st with hp := setB st.hp n (.ex r ty) }.put d und) else .fail
        | none => .fail
      | _ => .fail
    | .e (.x (.q n off)) => match getB st.hp n, plL vs with
      | some (.sy l ty), some us => bif Nat.ble st.lo n then .ob (off + q.sz ≤ l.length) (.ret ({ st with hp := setB st.hp n (.sy (hd.f (List Value) fun _ => updL l off us) ty) }.put d und)) else .fail
      | _, _ => .fail
    | _ => .fail) else .fail
  | _, _ => .fail
def pCopy (hd : Hid) (tb : Tab) (st : AS) (d : Option Tmp) (t : TypeId) (u x : AV) : VC AS :=
  match (tb ()).look t with
  | some q => match q.sl with
    | some e => match (tb ()).look e with
      | some qe => match srcOf hd st qe.sz x with
        | some sc => match u with
          | .e (.x (.s n0 off len _)) => match getB st.hp n0, sc with
            | some (.ex old ty), .ex cs n => match takeN ((bif Nat.ble n len then n else len) * qe.sz) cs with
              | some r => match spl old off r with
                | some r' => bif Nat.ble st.lo n0 && oneL r then .ret ({ st with hp := setB st.hp n0 (.ex r' ty) }.put d (.e (.x (.li .i64 (.ofNat (bif Nat.ble n len then n else len)))))) else .fail
                | none => .fail
              | none => .fail
            | _, _ => .fail
          | .e (.x (.z n0 off len _)) => match getB st.hp n0 with
            | some (.sy old ty) => bif Nat.ble st.lo n0 then (match sc with
              | .ex cs n => match plL cs with
                | some vs => bif oneL cs then .ob (off + len * qe.sz ≤ old.length) (.ret ({ st with hp := setB st.hp n0 (.sy (hd.f (List Value) fun _ => updL old off (vs.take (min n len * qe.sz))) ty) }.put d (.e (.x (.c (.int .i64 (hI hd fun _ => .ofNat (min n len)))))))) else .fail
                | none => .fail
              | .sy ob l n => .ob ob (.ob (off + len * qe.sz ≤ old.length) (.ret ({ st with hp := setB st.hp n0 (.sy (hd.f (List Value) fun _ => updL old off (l.take (min n len * qe.sz))) ty) }.put d (.e (.x (.c (.int .i64 (hI hd fun _ => .ofNat (min n len)))))))))) else .fail
            | _ => .fail
          | _ => .fail
        | none => .fail
      | none => .fail
    | none => .fail
  | none => .fail
/-- a call, by its contract: the frame stays -/
def fCall (hd : Hid) (C : FC) (st : AS) (d : Option Tmp) (args : List AV) : VC AS :=
  (C hd st args).bind fun r => .ret ({ r.1 with tm := st.tm, df := st.df }.put d r.2)
/-- what an allocation hands back: the block's address, a slice of it -/
inductive AR
  | p
  | s (len cap : Nat)
  | z (len cap : Nat)
def AR.av (n : Nat) : AR → AV
  | .p => .e (.x (.p n 0))
  | .s len cap => .e (.x (.s n 0 len (.k cap)))
  | .z len cap => .e (.x (.z n 0 len (.k cap)))
def AR.mk (b : Nat) : AR → Value
  | .p => .pointer (some ⟨b, 0, none⟩)
  | .s len cap => .slice (some ⟨b, 0, none⟩) len cap
  | .z len cap => .slice (some ⟨b, 0, none⟩) len cap
theorem AR.av_val (β : Nat → Nat × Nat) (n : Nat) (r : AR) : (r.av n).val β = r.mk (β n).1 := by cases r <;> simp [AR.av, AR.mk, AV.val_e, EV.val_x, SV.val, Cap.val]
theorem AR.av_bd (n : Nat) (r : AR) : (r.av n).bd (n + 1) := by cases r <;> simp [AR.av, AV.bd, EV.bd, SV.bd]
def pMake (hd : Hid) (tb : Tab) (t : TypeId) (u v : AV) : VC (Blk × AR) :=
  match (tb ()).look t with
  | some q => match q.sl with
    | some e => match (tb ()).look e with
      | some qe => match qe.zr with
        | some zs => match natOf u, natOf v with
          | some l, some c => bif Nat.ble l c && Nat.ble (qe.bt * c) 140737488355328 && Nat.ble c 9223372036854775807 && Nat.blt 0 qe.sz then
              .ret (.ex (repL (cL zs) c) e, .s l c) else .fail
          | _, _ => match isI u, isI v with
            | some (_, _, l), some (_, _, c) => bif Nat.blt 0 qe.sz then .ob (0 ≤ l ∧ l ≤ c ∧ c ≤ 9223372036854775807) (.ob (Fit c.toNat qe.bt)
                (.ret (.sy (hd.f (List Value) fun _ => (List.replicate c.toNat zs).flatten) e, .z (hN hd fun _ => l.toNat) (hN hd fun _ => c.toNat)))) else .fail
            | _, _ => .fail
        | none => .fail
      | none => .fail
    | none => .fail
  | none => .fail
/-- an allocation -/
def pA (hd : Hid) (tb : Tab) (st : AS) (o : Oper) : VC (Blk × AR) :=
  match o.op with
  | .alloc t => match (tb ()).look t with
    | some q => match q.zr with
      | some zs => .ret (.ex (cL zs) t, .p)
      | none => .fail
    | none => .fail
  | .box t x => match cellsOf (st.ev x) with
    | some cs => .ret (.ex cs t, .p)
    | none => .fail
  | .buildSlice t len ps => match (tb ()).look t with
    | some q => match q.sl with
      | some e => match (tb ()).look e with
        | some qe => match qe.zr with
          | some zs => match fillS (fun i => some (i * qe.sz, qe.sz)) st (repL (cL zs) len) ps.toList with
            | some cs => bif Nat.ble (len * qe.sz) 16777216 && Nat.blt 0 (len * qe.sz) then .ret (.ex cs e, .s len len) else (match len, ps.toList with
              | 0, [] => .ret (.ex [] e, .s 0 0)
              | _, _ => .fail)
            | none => .fail
          | none => .fail
        | none => .fail
      | none => .fail
    | none => .fail
  | .makeSlice t l c => pMake hd tb t (st.ev l) (st.ev c)
  | _ => .fail
def isA (o : Oper) : Bool := match o.op with
  | .alloc _ => true
  | .box _ _ => true
  | .buildSlice _ _ _ => true
  | .makeSlice _ _ _ => true
  | _ => false
/-- a cell address turned to the pointer type that has no element: the same address -/
def pUnsafe (tb : Tab) (st : AS) (d : Option Tmp) (src : TypeId) (v : AV) : VC AS := match (tb ()).look src, v with
  | some q, .e (.x (.p n off)) => match getB st.hp n with
    | some (.ex cs _) => bif Nat.beq q.kd 5 && Nat.blt off (lenN cs) then .ret (st.put d v) else .fail
    | _ => .fail
  | _, _ => .fail
def sv (hd : Hid) (tb : Tab) (E : Env) (st : AS) (o : Oper) : VC AS :=
  bif isA o then (pA hd tb st o).bind (fun r => .ret ((st.new r.1).put o.dst (r.2.av st.nx))) else
  match o.op with
  | .store t x y => pStore hd tb st o.dst t (st.ev x) (st.ev y)
  | .call c => match c.callee with
    | .value f => match fnOf (st.ev f) with
      | some (i, first, cs) => match E.Δ i with
        | some C => fCall hd C st o.dst (first ++ evs st c.args.toList ++ cs)
        | none => match E.Γ i with
          | some C => (C hd st (first ++ evs st c.args.toList ++ cs)).bind fun v => .ret (st.put o.dst v)
          | none => match E.Ξ i with
            | some C => fCall hd C st o.dst (first ++ evs st c.args.toList ++ cs)
            | none => .fail
      | none => .fail
    | .builtin .append => match c.args.toList, c.argTypes.toList with
      | [x, y], [t, t2] => pAppend hd tb st o.dst t t2 (st.ev x) (st.ev y)
      | _, _ => .fail
    | .builtin .copy => match c.args.toList, c.argTypes.toList with
      | [x, y], [t, _] => pCopy hd tb st o.dst t (st.ev x) (st.ev y)
      | _, _ => .fail
    | _ => (pv hd tb E.Γ st o).bind fun v => .ret (st.put o.dst v)
  | .defer c => match c.callee with
    | .value f => match fnOf (st.ev f) with
      | some (i, first, []) => .ret ({ st with df := (i, first ++ evs st c.args.toList) :: st.df }.put o.dst und)
      | _ => .fail
    | _ => .fail
  | .convert src dst x => match (tb ()).look dst with
    | some q => bif Nat.beq q.kd 4 then pUnsafe tb st o.dst src (st.ev x) else (pv hd tb E.Γ st o).bind fun v => .ret (st.put o.dst v)
    | none => (pv hd tb E.Γ st o).bind fun v => .ret (st.put o.dst v)
  | _ => (pv hd tb E.Γ st o).bind fun v => .ret (st.put o.dst v)

/-! ### They are right -/
section
variable {P : Program} {tb : Tab} {E : Env} {hd : Hid} {st : AS} {K : AS → Prop} {o : Oper}

/-- one operation leads on to states in K -/
def OTo (P : Program) (o : Oper) (st : AS) (K : AS → Prop) : Prop :=
  ∀ (w0 : World) (M : List Nat) (β : Nat → Nat × Nat) (a : Act) (w : World) (ops : Array Oper) (Q : Exit → Act → World → Prop) (rest : List Oper), Is w0 M β st a w → Region.wanted o (yielded ops a.tmps) = true →
    (∀ st' β' a' w', K st' → Agree st.nx β β' → st.nx ≤ st'.nx → st'.lo = st.lo → st'.tm.length = st.tm.length → Is w0 M β' st' a' w' → wpList P ops Q rest a' w') → wpList P ops Q (o :: rest) a w

theorem oto_val (hwf : Wf st) (h : ∀ w0 M β a w, Is w0 M β st a w → ∃ st1 v β' w', K (st1.put o.dst v) ∧ (execOp a.eval o).run P w = .ok (.value (v.val β')) w' ∧ Agree st.nx β β' ∧ st.nx ≤ st1.nx ∧ st1.tm = st.tm ∧ st1.lo = st.lo ∧ v.bd st1.nx ∧ WfM st1 ∧ Mm w0 M β' st1 w' ∧ st1.df = st.df) : OTo P o st K := by
  intro w0 M β a w ops Q rest hI hw hk
  obtain ⟨st1, v, β', w', hK, hrun, ha, hn, ht, hl, hv, hm, hS, hdf⟩ := h w0 M β a w hI
  have hI1 : Is w0 M β' st1 a w' := by
    refine ⟨?_, by rw [hI.df, hdf, dfs_agree ha hwf.dfb], hS, hm, fun u hu => ?_, fun q hq v hv => by rw [hdf] at hq; exact (hwf.dfb q hq v hv).mono hn⟩
    · rw [hI.tm, ht]
      congr 1
      exact List.map_congr_left fun u hu => (AV.val_agree ha (hwf.tm u hu)).symm
    · rw [ht] at hu; exact (hwf.tm u hu).mono hn
  refine Sy.wpList_val hw hrun ?_
  exact hk _ _ _ _ hK ha (by rw [put_nx]; exact hn) (by rw [put_lo]; exact hl) (by rw [put_len, ht]) (hI1.put hS o.dst hv)
theorem oto_skip (hwf : Wf st) (h : ∀ w0 M β a w, Is w0 M β st a w → ∃ st1 w', K (st1.put o.dst und) ∧ (execOp a.eval o).run P w = .ok .skip w' ∧ st.nx = st1.nx ∧ st1.tm = st.tm ∧ st1.lo = st.lo ∧ WfM st1 ∧ Mm w0 M β st1 w' ∧ st1.df = st.df) : OTo P o st K := by
  intro w0 M β a w ops Q rest hI hw hk
  obtain ⟨st1, w', hK, hrun, hn, ht, hl, hm, hS, hdf⟩ := h w0 M β a w hI
  have hI1 : Is w0 M β st1 a w' := ⟨by rw [hI.tm, ht], by rw [hI.df, hdf], hS, hm, fun u hu => by rw [ht] at hu; rw [← hn]; exact hwf.tm u hu, fun q hq v hv => by rw [hdf] at hq; rw [← hn]; exact hwf.dfb q hq v hv⟩
  refine Sy.wpList_skip hw hrun ?_
  have := hI1.put hS o.dst (v := und) (und_bd _)
  rw [und_val] at this
  exact hk _ _ _ _ hK (Agree.rfl _ _) (by rw [put_nx]; omega) (by rw [put_lo]; exact hl) (by rw [put_len, ht]) this

theorem oto_calm (_hwf : Wf st) {v : AV} (hK : K (st.put o.dst v)) (hv : v.bd st.nx) (h : ∀ w0 M β a w, Is w0 M β st a w → calmAt P o a w (v.val β)) : OTo P o st K := by
  intro w0 M β a w ops Q rest hI hw hk
  have h1 := h w0 M β a w hI
  have next : ∀ w', Below w.heap.size w w' → wpList P ops Q rest (a.put o.dst (v.val β)) w' := fun w' hb =>
    hk _ β _ _ hK (Agree.rfl _ _) (by rw [put_nx]; exact Nat.le_refl _) (by rw [put_lo]) (put_len ..) (hI.put (hI.mem.grow hb) o.dst hv)
  unfold calmAt at h1
  unfold wpList
  rw [if_pos hw]
  left
  unfold Oper.wp
  generalize (execOp a.eval o).run P w = r at h1
  cases r with
  | ok nx wx =>
    cases nx <;> simp only [calmUpon] at h1 <;> simp only [Oper.upon]
    case value u =>
      obtain ⟨e1, e2⟩ := h1
      rw [e1, e2]
      exact next _ (Below.refl _ _)
    case skip =>
      obtain ⟨e1, e2⟩ := h1
      rw [e1, ← e2]
      exact next _ (Below.refl _ _)
    case enter f args =>
      obtain ⟨e1, hcc⟩ := h1
      rw [e1]
      exact hcc.mono fun e w'' ⟨he, hw''⟩ => by subst he; exact next _ hw''
  | halt x wx => simp only [calmUpon] at h1

theorem repL_eq (l : List SV) : ∀ n, repL l n = (List.replicate n l).flatten
  | 0 => by simp [repL]
  | n + 1 => by simp [repL, repL_eq l n, List.replicate_succ]
theorem repL_bd {l : List SV} {k : Nat} (h : ∀ s ∈ l, SV.bd k s) : ∀ n, ∀ s ∈ repL l n, SV.bd k s
  | 0, s, hs => by simp [repL] at hs
  | n + 1, s, hs => by
    rcases List.mem_append.1 hs with hs | hs
    · exact h s hs
    · exact repL_bd h n s hs
theorem repL_val (β : Nat → Nat × Nat) (zs : List Value) (n : Nat) : SV.vals β (repL (cL zs) n) = (List.replicate n zs).flatten := by
  rw [SV.vals_eq, repL_eq, List.map_flatten, List.map_replicate, ← SV.vals_eq, cL_val]
theorem rep_list (zs : List Value) (hz : 0 < zs.length) : ∀ n : Nat, ((List.range (n * zs.length)).map fun i => zs.toArray[i % zs.toArray.size]!) = (List.replicate n zs).flatten
  | 0 => by simp
  | n + 1 => by
    rw [show (n + 1) * zs.length = zs.length + n * zs.length by rw [Nat.add_mul]; omega, List.range_add, List.map_append, List.replicate_succ, List.flatten_cons, ← rep_list zs hz n]
    congr 1
    · apply List.ext_getElem
      · simp
      · intro i h1 h2
        have hi : i < zs.length := by simpa using h1
        simp [Nat.mod_eq_of_lt hi, hi]
    · rw [List.map_map]
      exact List.map_congr_left fun j _ => by simp [Nat.add_mod_left]
theorem rep_cells (zs : List Value) (hz : 0 < zs.length) (n : Nat) : ((Array.range (n * zs.length)).map fun i => zs.toArray[i % zs.toArray.size]!) = ((List.replicate n zs).flatten).toArray := by
  apply Array.ext'
  rw [← rep_list zs hz n]
  simp [Array.toList_range]
theorem oneL_all {vs : List SV} (β : Nat → Nat × Nat) : oneL vs = true → ∀ c ∈ SV.vals β vs, c.oneCell' = true := by
  induction vs with
  | nil => intro _ c hc; simp [SV.vals] at hc
  | cons v vs ih =>
    intro h c hc
    simp only [SV.vals, List.mem_cons] at hc
    cases v with
    | c u =>
      simp only [oneL, Bool.and_eq_true] at h
      rcases hc with rfl | hc
      · simpa [SV.val] using h.1
      · exact ih h.2 c hc
    | _ =>
      simp only [oneL] at h
      rcases hc with rfl | hc
      · simp [SV.val, Value.oneCell']
      · exact ih h c hc
end
end Go.Fe
