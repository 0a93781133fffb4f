/- Operations that write nothing: their values. -/
import Derived.Test.YtfplfbaebiaanaaGreatFe2
import Derived.Laws.Cover3
noncomputable section
namespace Go.Fe
open Go.RowKit Go.Reg Go.Sort Go.Sy

/-- a contract of a callee that leaves memory alone but for new blocks -/
abbrev PC := Hid → AS → List AV → VC AV
def PcOk (P : Program) (f : FuncId) (C : PC) : Prop := ∀ hd st args K, (C hd st args).holds K → WfM st → (∀ v ∈ args, AV.bd st.nx v) → ∃ v, K v ∧ v.bd 0 ∧
  ∀ w0 M β w, Mm w0 M β st w → Calls P f (args.map (AV.val β)).toArray w fun e w' => e = .returned (v.val β) ∧ Below w.heap.size w w'
/-- the calls that the program does not make itself: a function with a body of its own -/
def Bodied (P : Program) (f : FuncId) : Prop := ∀ args w, (callFunc f args).run P w = .ok (.enter f args) w
def lookC {α : Type 1} : List (Nat × α) → Nat → Option α
  | [], _ => none
  | q :: l, n => bif Nat.beq q.1 n then some q.2 else lookC l n
theorem lookC_mem {α : Type 1} : ∀ {l : List (Nat × α)} {n : Nat} {a : α}, lookC l n = some a → (n, a) ∈ l
  | [], _, _, h => by simp [lookC] at h
  | q :: l, n, a, h => by
    unfold lookC at h
    cases e : Nat.beq q.1 n with
    | true => rw [e] at h; simp at h; subst h; rw [← Nat.eq_of_beq_eq_true e]; exact List.mem_cons_self
    | false => rw [e] at h; exact List.mem_cons_of_mem _ (lookC_mem h)
structure GOk (P : Program) (Γ : Nat → Option PC) : Prop where
  ok : ∀ i C, Γ i = some C → PcOk P i C
  bd : ∀ i C, Γ i = some C → Bodied P i

/-! ### The operations -/
def pLoad (hd : Hid) (tb : Tab) (st : AS) (t : TypeId) (v : AV) : VC AV :=
  match (tb ()).look t with
  | none => .fail
  | some q => match v with
    | .e (.x (.p n off)) => match getB st.hp n with
      | some (.ex cs _) => match readE q cs off with
        | some r => .ret (.e r)
        | none => .fail
      | _ => .fail
    | .e (.x (.q n off)) => match getB st.hp n, q.zr with
      | some (.sy l _), some zs => match readE q (rdL hd (lSrc l off) 0 zs) 0 with
        | some r => .ob (SrcOk (lSrc l off) zs) (.ret (.e r))
        | none => .fail
      | _, _ => .fail
    | .e (.x (.c (.pointer p))) => match q.zr with
      | some zs => match readE q (rdL hd (mSrc st.mem p) 0 zs) 0 with
        | some r => .ob (OldOk st.mem p zs) (.ret (.e r))
        | none => .fail
      | none => .fail
    | _ => .fail
def pNil (v : AV) : VC AV := match v with
  | .e (.x (.p _ _)) => .ret v
  | .e (.x (.q _ _)) => .ret v
  | .e (.x (.f _ _)) => .ret v
  | .e (.x (.mb _ _ _)) => .ret v
  | .e (.x (.c (.pointer p))) => .ob (IsSm p) (.ret v)
  | _ => .fail
def pEq (hd : Hid) (tb : Tab) (q : Bool) (t : TypeId) (u v : AV) : VC AV :=
  match (tb ()).look t with
  | none => .fail
  | some qt => match u with
    | .e (.g l) => match v with
      | .e (.g l') => match qt.eq, plL l, plL l' with
        | some zs, some xs, some ys => bif sameKL zs xs && sameKL zs ys then (match litL l && litL l' with
            | true => .ret (.e (.x (.lb (cEqL xs ys == q))))
            | false => cB (hB hd fun _ => cEqL xs ys == q)) else .fail
        | _, _, _ => .fail
      | _ => .fail
    | .e (.x (.c (.pointer p))) => match v with
      | .e (.x (.c (.pointer none))) => bif Nat.beq qt.kd 2 then (match p with
          | none => .ret (.e (.x (.lb q)))
          | some _ => cB (hB hd fun _ => p.isNone == q)) else .fail
      | _ => .fail
    | .e (.x (.p _ _)) => match v with
      | .e (.x (.c (.pointer none))) => bif Nat.beq qt.kd 2 then .ret (.e (.x (.lb (!q)))) else .fail
      | _ => .fail
    | .e (.x (.s _ _ _ _)) => match v with
      | .e (.x (.c (.slice none 0 0))) => match qt.sl with
        | some _ => .ret (.e (.x (.lb (!q))))
        | none => .fail
      | _ => .fail
    | .e (.x (.z _ _ _ _)) => match v with
      | .e (.x (.c (.slice none 0 0))) => match qt.sl with
        | some _ => .ret (.e (.x (.lb (!q))))
        | none => .fail
      | _ => .fail
    | .e (.x (.c (.slice p _ _))) => match v with
      | .e (.x (.c (.slice none 0 0))) => match qt.sl with
        | some _ => match p with
          | none => .ret (.e (.x (.lb q)))
          | some _ => cB (hB hd fun _ => p.isNone == q)
        | none => .fail
      | _ => .fail
    | .e (.x (.lb x)) => match v with
      | .e (.x (.lb y)) => bif Nat.beq qt.kd 1 then .ret (.e (.x (.lb ((x == y) == q)))) else .fail
      | _ => match isB v with
        | some y => bif Nat.beq qt.kd 1 then cB (hB hd fun _ => (x == y) == q) else .fail
        | _ => .fail
    | _ => match isB u, isB v with
      | some x, some y => bif Nat.beq qt.kd 1 then cB (hB hd fun _ => (x == y) == q) else .fail
      | _, _ => .fail
def pBin (hd : Hid) (tb : Tab) (op : BinOp) (t : TypeId) (u v : AV) : VC AV :=
  match isI u with
  | some (l1, k, m) => match isI v with
    | some (l2, k', n) => binI hd l1 l2 op k k' m n
    | none => .fail
  | none => match isEq op with
    | some q => pEq hd tb q t u v
    | none => .fail
def pUn (hd : Hid) (op : UnOp) (v : AV) : VC AV := match op with
  | .not => match v with
    | .e (.x (.lb b)) => .ret (.e (.x (.lb !b)))
    | .e (.x (.c (.bool b))) => cB (hB hd fun _ => !b)
    | _ => .fail
  | .neg => match isI v with
    | some (true, k, n) => .ret (.e (.x (.li k (k.wrap (0 - n)))))
    | some (false, k, n) => sumI hd k fun _ => 0 - n
    | none => .fail
  | .xor => match isI v with
    | some (true, k, n) => .ret (.e (.x (.li k (bitI .xor k (if k.signed then -1 else k.max) n))))
    | some (false, k, n) => cI k (hI hd fun _ => bitI .xor k (if k.signed then -1 else k.max) n)
    | none => .fail
  | _ => .fail
def pConv (hd : Hid) (tb : Tab) (src dst : TypeId) (v : AV) : VC AV :=
  match (tb ()).look src, (tb ()).look dst with
  | some q, some q' => match q.ik, q'.ik, isI v with
    | some _, some k, some (true, _, n) => .ret (.e (.x (.li k (k.wrap n))))
    | some k0, some k, some (false, _, n) => match k0.signed || k.signed with
      | true => .ob (InR k n) (cI k n)
      | false => cI k (hI hd fun _ => k.wrap n)
    | _, _, _ => .fail
  | _, _ => .fail
def pFieldA (hd : Hid) (tb : Tab) (t : TypeId) (v : AV) (f : Nat) : VC AV :=
  match (tb ()).look t with
  | none => .fail
  | some q => match nthP q.fo f with
    | none => .fail
    | some (fo, ft) => match (tb ()).look ft with
      | none => .fail
      | some q' => bif Nat.beq q'.sz 0 then .fail else match v with
        | .e (.x (.p n off)) => .ret (.e (.x (.p n (off + fo))))
        | .e (.x (.q n off)) => .ret (.e (.x (.q n (hN hd fun _ => off + fo))))
        | .e (.x (.c (.pointer p))) => .ob (IsSm p) (.ret (.e (.x (.c (.pointer (adr hd p fun _ => fo))))))
        | _ => .fail
def pField (tb : Tab) (t : TypeId) (v : AV) (f : Nat) : VC AV :=
  match (tb ()).look t with
  | none => .fail
  | some q => match nthP q.fo f, v with
    | some (fo, ft), .e (.g l) => match (tb ()).look ft with
      | some q' => match readE q' l fo with
        | some r => .ret (.e r)
        | none => .fail
      | none => .fail
    | _, _ => .fail
def pIndexA (hd : Hid) (tb : Tab) (t : TypeId) (v i : AV) : VC AV :=
  match (tb ()).look t, isI i with
  | some q, some (_, _, x) => match v with
    | .e (.x (.p n off)) => match q.ar, natOf i with
      | some (len, e), some k => match (tb ()).look e with
        | some q' => bif Nat.blt k len then .ret (.e (.x (.p n (off + k * q'.sz)))) else .fail
        | none => .fail
      | _, _ => .fail
    | .e (.x (.s n off len _)) => match q.sl, natOf i with
      | some e, some k => match (tb ()).look e with
        | some q' => bif Nat.blt k len then .ret (.e (.x (.p n (off + k * q'.sz)))) else .fail
        | none => .fail
      | _, _ => .fail
    | .e (.x (.q n off)) => match q.ar with
      | some (len, e) => match (tb ()).look e with
        | some q' => .ob (IxIn x len) (.ret (.e (.x (.q n (hN hd fun _ => off + x.toNat * q'.sz)))))
        | none => .fail
      | none => .fail
    | .e (.x (.z n off len _)) => match q.sl with
      | some e => match (tb ()).look e with
        | some q' => .ob (IxIn x len) (.ret (.e (.x (.q n (hN hd fun _ => off + x.toNat * q'.sz)))))
        | none => .fail
      | none => .fail
    | .e (.x (.c (.slice p len _))) => match q.sl with
      | some e => match (tb ()).look e with
        | some q' => .ob (IsSm p) (.ob (IxIn x len) (.ret (.e (.x (.c (.pointer (adr hd p fun _ => x.toNat * q'.sz)))))))
        | none => .fail
      | none => .fail
    | .e (.x (.c (.pointer p))) => match q.ar with
      | some (len, e) => match (tb ()).look e with
        | some q' => .ob (IsSm p) (.ob (IxIn x len) (.ret (.e (.x (.c (.pointer (adr hd p fun _ => x.toNat * q'.sz)))))))
        | none => .fail
      | none => .fail
    | _ => .fail
  | _, _ => .fail
/-- one of a list's values, at a place that is not known -/
def selV (hd : Hid) (k : IntKind) (l : List SV) (x : Int) : SV := .c (.int k (hI hd fun _ => match l[x.toNat]? with
  | some (.c (.int _ n)) => n
  | some (.li _ n) => n
  | _ => 0))
def allInts (k : IntKind) : List SV → Bool
  | [] => true
  | .c (.int k' _) :: l => decide (k = k') && allInts k l
  | .li k' _ :: l => decide (k = k') && allInts k l
  | _ :: _ => false
def pIndex (hd : Hid) (tb : Tab) (t : TypeId) (v i : AV) : VC AV :=
  match (tb ()).look t with
  | none => .fail
  | some q => match v, q.ar with
    | .e (.g l), some (len, e) => match (tb ()).look e with
      | some q' => match natOf i with
        | some k => match readE q' l (k * q'.sz) with
          | some r => bif Nat.blt k len then .ret (.e r) else .fail
          | none => .fail
        | none => match isI i, q'.ik with
          | some (_, _, x), some k => bif Nat.beq q'.sz 1 && allInts k l && Nat.beq (lenN l) len && !q'.ag then .ob (IxIn x len) (.ret (.e (.x (selV hd k l x)))) else .fail
          | _, _ => .fail
      | none => .fail
    | _, _ => .fail
def pSlice (hd : Hid) (tb : Tab) (st : AS) (t : TypeId) (v : AV) (lo hi mx : Option Operand) : VC AV :=
  match (tb ()).look t with
  | none => .fail
  | some q => match v with
    | .e (.x (.p n off)) => match q.ar, optN st lo, optN st hi, optN st mx with
      | some (len, e), some l, some h, some m => match (tb ()).look e with
        | some q' => bif okMx h m && slNb m len && slNb h (orN m len) && slNb l (orN h len) then
            .ret (.e (.x (.s n (bif Nat.beq (orN m len) (orN l 0) then off else off + orN l 0 * q'.sz) (orN h len - orN l 0) (.k (orN m len - orN l 0))))) else .fail
        | none => .fail
      | _, _, _, _ => .fail
    | .e (.x (.s n off len (.k cap))) => match q.sl, optN st lo, optN st hi, optN st mx with
      | some e, some l, some h, some m => match (tb ()).look e with
        | some q' => bif okMx h m && slNb m cap && slNb h (orN m cap) && slNb l (orN h len) then
            .ret (.e (.x (.s n (bif Nat.beq (orN m cap) (orN l 0) then off else off + orN l 0 * q'.sz) (orN h len - orN l 0) (.k (orN m cap - orN l 0))))) else .fail
        | none => .fail
      | _, _, _, _ => .fail
    | .e (.x (.s n off len (.full sz))) => match q.sl, optN st lo, optN st hi, mx with
      | some e, some l, some h, none => match (tb ()).look e, getB st.hp n with
        | some q', some (.ex cs _) => bif Nat.beq q'.sz sz && Nat.blt 0 sz && slNb h len && slNb l (orN h len) && Nat.blt (orN l 0) len && Nat.ble (off + len * sz) (lenN cs) then
            .ret (.e (.x (.s n (off + orN l 0 * sz) (orN h len - orN l 0) (.full sz)))) else .fail
        | _, _ => .fail
      | _, _, _, _ => .fail
    | .e (.x (.z n off len (.k cap))) => match q.sl, optI st lo, optI st hi, optI st mx with
      | some e, some l, some h, some m => match (tb ()).look e with
        | some q' => bif okMx h m then .ob (slOb m cap) (.ob (slOb h (orI m cap)) (.ob (slOb l (orI h len))
            (.ret (.e (.x (.z n (hN hd fun _ => if (orI m cap).toNat = (orI l 0).toNat then off else off + (orI l 0).toNat * q'.sz) (hN hd fun _ => (orI h len).toNat - (orI l 0).toNat) (.k (hN hd fun _ => (orI m cap).toNat - (orI l 0).toNat)))))))) else .fail
        | none => .fail
      | _, _, _, _ => .fail
    | .e (.x (.z n off len (.full sz))) => match q.sl, optI st lo, optI st hi, mx with
      | some e, some l, some h, none => match (tb ()).look e, getB st.hp n with
        | some q', some (.sy cs _) => bif Nat.beq q'.sz sz && Nat.blt 0 sz then .ob (slOb h len) (.ob (slOb l (orI h len)) (.ob (IxIn (orI l 0) len) (.ob (off + len * sz ≤ cs.length)
            (.ret (.e (.x (.z n (hN hd fun _ => off + (orI l 0).toNat * sz) (hN hd fun _ => (orI h len).toNat - (orI l 0).toNat) (.full sz)))))))) else .fail
        | _, _ => .fail
      | _, _, _, _ => .fail
    | .e (.x (.c (.slice p len cap))) => match q.sl, optI st lo, optI st hi, optI st mx with
      | some e, some l, some h, some m => match (tb ()).look e with
        | some q' => bif okMx h m then .ob (slOb m cap) (.ob (slOb h (orI m cap)) (.ob (slOb l (orI h len))
            (.ret (.e (.x (.c (.slice (hd.f (Option Addr) fun _ => if (orI m cap).toNat = (orI l 0).toNat then p else p.map (·.add ((orI l 0).toNat * q'.sz))) (hN hd fun _ => (orI h len).toNat - (orI l 0).toNat) (hN hd fun _ => (orI m cap).toNat - (orI l 0).toNat)))))))) else .fail
        | none => .fail
      | _, _, _, _ => .fail
    | _ => .fail
def nthE : List EV → Nat → Option EV
  | [], _ => none
  | x :: _, 0 => some x
  | _ :: l, n + 1 => nthE l n
def pExtract (v : AV) (i : Nat) : VC AV := match v with
  | .t l => match nthE l i with
    | some r => .ret (.e r)
    | none => .fail
  | _ => .fail
def pBuild (tb : Tab) (st : AS) (t : TypeId) (ps : List (Nat × Operand)) : VC AV :=
  match (tb ()).look t with
  | none => .fail
  | some q => match q.zr with
    | none => .fail
    | some zs => match q.pl, q.ar with
      | some pl, _ => match fillS (nthP pl) st (cL zs) ps with
        | some cs => .ret (.e (.g cs))
        | none => .fail
      | none, some (_, e) => match (tb ()).look e with
        | some q' => match fillS (fun i => some (i * q'.sz, q'.sz)) st (cL zs) ps with
          | some cs => .ret (.e (.g cs))
          | none => .fail
        | none => .fail
      | none, none => .fail
def pFunc (st : AS) (fn : Fn) (first cs : List Operand) : VC AV := match fn with
  | .func fid => match first, cs with
    | [], cs => match capOf (evs st cs) with
      | some l => .ret (.e (.x (.f fid l)))
      | none => .fail
    | [x], [] => match st.ev x with
      | .e (.g l) => .ret (.e (.x (.mb fid false l)))
      | .e (.x v) => .ret (.e (.x (.mb fid true [v])))
      | _ => .fail
    | _, _ => .fail
  | _ => .fail
def pLen (v : AV) : Option AV := match v with
  | .e (.x (.s _ _ len _)) => some (.e (.x (.li .i64 (.ofNat len))))
  | .e (.x (.z _ _ len _)) => some (.e (.x (.c (.int .i64 (.ofNat len)))))
  | .e (.x (.c (.slice none 0 _))) => some (.e (.x (.li .i64 (.ofNat 0))))
  | .e (.x (.c (.slice _ len _))) => some (.e (.x (.c (.int .i64 (.ofNat len)))))
  | _ => none
def pBuiltin (hd : Hid) (tb : Tab) (st : AS) (b : Builtin) (args : List Operand) (ts : List TypeId) : VC AV := match b with
  | .len => match evs st args, ts with
    | [v], [t] => match (tb ()).look t with
      | some q => match q.sl, pLen v with
        | some _, some r => .ret r
        | _, _ => .fail
      | none => .fail
    | _, _ => .fail
  | .min => match evs st args with
    | v :: l => match isI v with
      | some (b, k, m) => minL hd k false b m l
      | none => .fail
    | [] => .fail
  | .max => match evs st args with
    | v :: l => match isI v with
      | some (b, k, m) => minL hd k true b m l
      | none => .fail
    | [] => .fail
  | _ => .fail
/-- a function value: the function, what stands ahead of its arguments, what it has captured -/
def fnOf : AV → Option (Nat × List AV × List AV)
  | .e (.x (.f i cs)) => some (i, [], capA cs)
  | .e (.x (.mb i false r)) => some (i, [.e (.g r)], [])
  | .e (.x (.mb i true [v])) => some (i, [.e (.x v)], [])
  | _ => none
where
  capA : List (Nat × Nat) → List AV
    | [] => []
    | (n, o) :: l => .e (.x (.p n o)) :: capA l
def pCall (hd : Hid) (Γ : Nat → Option PC) (st : AS) (f : AV) (args : List Operand) : VC AV := match fnOf f with
  | some (i, first, cs) => match Γ i with
    | some C => C hd st (first ++ evs st args ++ cs)
    | none => .fail
  | none => .fail
def pv (hd : Hid) (tb : Tab) (Γ : Nat → Option PC) (st : AS) (o : Oper) : VC AV :=
  match o.op with
  | .move x => .ret (st.ev x)
  | .assign x => .ret (st.ev x)
  | .pick c a b => match st.ev c with
    | .e (.x (.lb true)) => .ret (st.ev a)
    | .e (.x (.lb false)) => .ret (st.ev b)
    | _ => .fail
  | .load t x => pLoad hd tb st t (st.ev x)
  | .nilCheck x => pNil (st.ev x)
  | .binOp op t x y _ => pBin hd tb op t (st.ev x) (st.ev y)
  | .unOp op _ x => pUn hd op (st.ev x)
  | .convert src dst x => pConv hd tb src dst (st.ev x)
  | .fieldAddr t x f => pFieldA hd tb t (st.ev x) f
  | .field t x f => pField tb t (st.ev x) f
  | .indexAddr t x i => pIndexA hd tb t (st.ev x) (st.ev i)
  | .index t x i => pIndex hd tb t (st.ev x) (st.ev i)
  | .slice t x lo hi mx => pSlice hd tb st t (st.ev x) lo hi mx
  | .extract x i => pExtract (st.ev x) i
  | .build t ps => pBuild tb st t ps.toList
  | .makeFunc fn first cs => pFunc st fn first.toList cs.toList
  | .call c => match c.callee with
    | .value f => pCall hd Γ st (st.ev f) c.args.toList
    | .builtin b => pBuiltin hd tb st b c.args.toList c.argTypes.toList
    | _ => .fail
  | _ => .fail

/-! ### They are right -/
section
variable {P : Program} {tb : Tab} {Γ : Nat → Option PC} {hd : Hid} {st : AS} {K : AV → Prop}

theorem readE_reads' {t : Nat} {q : Ty} (ok : TyOk P t q) {cs : List SV} {off : Nat} {v : EV} (h : readE q cs off = some v) (β : Nat → Nat × Nat) (w : World) (b o : Nat)
    (hc : ∀ i c, (SV.vals β cs).toArray[off + i]? = some c → w.cell? ⟨b, o + i, none⟩ = some c) : (Instr.loadAt t (.pointer (some ⟨b, o, none⟩))).run P w = .ok (v.val β) w := by
  have := readE_reads ok h β
  unfold Reads at this
  exact this w b o hc
/-- a run on the values that the names stand for -/
def Gives (P : Program) (st : AS) (K : AV → Prop) (s : (Nat → Nat × Nat) → Sem Value) : Prop :=
  ∃ v, K v ∧ v.bd st.nx ∧ ∀ w0 M β w, Mm w0 M β st w → (s β).run P w = .ok (v.val β) w

theorem pLoad_ok (ok : TabOk P tb) (hwf : WfM st) {t : TypeId} {v : AV} (h : (pLoad hd tb st t v).holds K) : Gives P st K fun β => Instr.loadAt t (v.val β) := by
  unfold pLoad at h
  split at h
  · exact False.elim h
  rename_i q hq
  have ht := ok hq
  split at h
  · rename_i n off
    split at h
    · rename_i cs ty hb
      split at h
      · rename_i r hr
        have hm := getB_mem hb
        refine ⟨_, h, readE_bd hr (SV.bds_iff.1 (hwf.hp _ hm).2), fun w0 M β w hS => ?_⟩
        have := readE_reads' ht hr β w (β n).1 off fun i c hc => (hS.has _ hm).cell (by simpa [Blk.vals] using hc)
        simpa only [AV.val_e, EV.val_x, EV.val_g, SV.val] using this
      · exact False.elim h
    · exact False.elim h
  · rename_i n off
    split at h
    · rename_i l ty zs hb hz
      split at h
      · rename_i r hr
        obtain ⟨ho, h⟩ := h
        have hm := getB_mem hb
        refine ⟨_, h, readE_bd hr (rdL_bd _ _ _ _ _), fun w0 M β w hS => ?_⟩
        have := readE_reads' ht hr β w (β n).1 off fun i c hc => by
          simp only [Nat.zero_add, List.getElem?_toArray, rdL_val, Option.map_eq_some_iff] at hc
          obtain ⟨z, hz, rfl⟩ := hc
          exact (hS.has _ hm).cell (ho.cell i z hz)
        simpa only [AV.val_e, EV.val_x, EV.val_g, SV.val] using this
      · exact False.elim h
    · exact False.elim h
  · rename_i p
    split at h
    · rename_i zs hz
      split at h
      · rename_i r hr
        obtain ⟨ho, h⟩ := h
        refine ⟨_, h, readE_bd hr (rdL_bd _ _ _ _ _), fun w0 M β w hS => ?_⟩
        obtain ⟨hp, h1, h3⟩ := ho
        have key : p = some ⟨(spA p).block, (spA p).off, none⟩ := by rw [← h1]; exact hp
        have := readE_reads' ht hr β w (spA p).block (spA p).off fun i c hc => by
          simp only [Nat.zero_add, List.getElem?_toArray, rdL_val, Option.map_eq_some_iff] at hc
          obtain ⟨z, hz, rfl⟩ := hc
          have hc := h3.cell i z hz
          unfold mSrc mcell at hc
          split at hc
          · rename_i c0 t0 f0 hm
            have := (hS.frz _ _ hm).1
            simp only [World.cell?, this]; exact hc
          · cases hc
        rw [← key] at this
        simpa only [AV.val_e, EV.val_x, EV.val_g, SV.val] using this
      · exact False.elim h
    · exact False.elim h
  · exact False.elim h

/-- a run that looks at no memory -/
def Gives0 (P : Program) (n : Nat) (K : AV → Prop) (s : (Nat → Nat × Nat) → Sem Value) : Prop :=
  ∃ v, K v ∧ v.bd n ∧ ∀ β w, (s β).run P w = .ok (v.val β) w
theorem Gives0.of {s : (Nat → Nat × Nat) → Sem Value} (h : Gives0 P st.nx K s) : Gives P st K s :=
  let ⟨v, h1, h2, h3⟩ := h; ⟨v, h1, h2, fun _ _ β w _ => h3 β w⟩

theorem cI_holds {k : IntKind} {n : Int} : (cI k n).holds K = K (.e (.x (.c (.int k n)))) := rfl
theorem cB_holds {b : Bool} : (cB b).holds K = K (.e (.x (.c (.bool b)))) := rfl

theorem guard_bool {op : BinOp} {t : TypeId} {x y : Operand} (b c : Bool) (w : World) : (eqGuard op t x y (.bool b) (.bool c)).run P w = .ok () w := by
  unfold eqGuard
  split <;> rfl
theorem guard_ptr {op : BinOp} {t : TypeId} {x y : Operand} (b c : Option Addr) (w : World) : (eqGuard op t x y (.pointer b) (.pointer c)).run P w = .ok () w := by
  unfold eqGuard
  split <;> rfl
theorem guard_slice {op : BinOp} {t : TypeId} {x y : Operand} (b c : Option Addr) (l k l' k' : Nat) (w : World) : (eqGuard op t x y (.slice b l k) (.slice c l' k')).run P w = .ok () w := by
  unfold eqGuard
  split <;> rfl
theorem guard_int {op : BinOp} {t : TypeId} {x y : Operand} (k k' : IntKind) (m n : Int) (w : World) : (eqGuard op t x y (.int k m) (.int k' n)).run P w = .ok () w := by
  unfold eqGuard
  split <;> rfl
theorem eq_run {op : BinOp} {q : Bool} (hq : isEq op = some q) {t : TypeId} {x y : Operand} {u v : Value} {r : Bool} {w : World} (hg : (eqGuard op t x y u v).run P w = .ok () w) (hr : (Op.equal t u v).run P w = .ok r w)
    (hn : (∃ l l', u = .agg l ∧ v = .agg l') ∨ (∃ a, u = .pointer a ∧ v = .pointer none) ∨ (∃ a b, u = .bool a ∧ v = .bool b) ∨ (∃ a l c, u = .slice a l c ∧ v = .slice none 0 0)) :
    (do eqGuard op t x y u v; binOp op t u v : Sem Value).run P w = .ok (.bool (r == q)) w := by
  simp only [Sem.run_bind, hg, Result.andThen_ok]
  rcases hn with ⟨l, l', rfl, rfl⟩ | ⟨a, rfl, rfl⟩ | ⟨a, b, rfl, rfl⟩ | ⟨a, l, c, rfl, rfl⟩ <;>
    (cases op <;> simp [isEq] at hq <;> subst hq <;> simp [binOp, hr])
theorem pEq_ok (ok : TabOk P tb) {op : BinOp} {q : Bool} (hq : isEq op = some q) {t : TypeId} {u v : AV} {x y : Operand} {n : Nat} (h : (pEq hd tb q t u v).holds K) :
    Gives0 P n K fun β => (do eqGuard op t x y (u.val β) (v.val β); binOp op t (u.val β) (v.val β) : Sem Value) := by
  unfold pEq at h
  split at h
  · exact False.elim h
  rename_i qt hz
  split at h
  · rename_i l
    split at h
    · rename_i l'
      split at h
      · rename_i zs xs ys he hx hy
        obtain ⟨hg, hr⟩ := (ok hz).eq he
        cases hs : (sameKL zs xs && sameKL zs ys) with
        | false => rw [hs] at h; exact False.elim h
        | true =>
          rw [hs] at h
          simp only [Bool.and_eq_true] at hs
          have hrun : ∀ β w, (do eqGuard op t x y ((AV.e (.g l)).val β) ((AV.e (.g l')).val β); binOp op t ((AV.e (.g l)).val β) ((AV.e (.g l')).val β) : Sem Value).run P w = .ok (.bool (cEqL xs ys == q)) w := by
            intro β w
            have hg' : (eqGuard op t x y (.agg xs.toArray) (.agg ys.toArray)).run P w = .ok () w := by
              unfold eqGuard
              cases op <;> simp [isEq] at hq <;> simp [hg]
            have := eq_run hq hg' (hr xs ys w hs.1 hs.2) (.inl ⟨_, _, rfl, rfl⟩)
            simpa only [AV.val_e, EV.val_x, EV.val_g, plL_val β hx, plL_val β hy] using this
          simp only [cond_true] at h
          split at h
          · exact ⟨_, h, by simp [AV.bd, EV.bd, SV.bd], fun β w => by dsimp only; rw [hrun]; simp [AV.val_e, EV.val_x, SV.val]⟩
          · simp only [cB_holds, hB_eq] at h
            exact ⟨_, h, by simp [AV.bd, EV.bd, SV.bd], fun β w => by dsimp only; rw [hrun]; simp [AV.val_e, EV.val_x, SV.val]⟩
      · exact False.elim h
    · exact False.elim h
  · rename_i p
    split at h
    · cases hk : Nat.beq qt.kd 2 with
      | false => rw [hk] at h; exact False.elim h
      | true =>
        rw [hk] at h
        obtain ⟨e, hu⟩ := (ok hz).pt (Nat.eq_of_beq_eq_true hk)
        have hrun : ∀ β w, (do eqGuard op t x y ((AV.e (.x (.c (.pointer p)))).val β) ((AV.e (.x (.c (.pointer none)))).val β); binOp op t ((AV.e (.x (.c (.pointer p)))).val β) ((AV.e (.x (.c (.pointer none)))).val β) : Sem Value).run P w = .ok (.bool (p.isNone == q)) w := by
          intro β w
          have := eq_run hq (guard_ptr p none w) (run_equal_nil hu p w) (.inr (.inl ⟨_, rfl, rfl⟩)) (x := x) (y := y)
          simpa only [AV.val_e, EV.val_x, EV.val_g, SV.val] using this
        simp only [cond_true] at h
        split at h
        · refine ⟨_, h, by simp [AV.bd, EV.bd, SV.bd], fun β w => ?_⟩
          dsimp only
          rw [hrun]; simp [AV.val_e, EV.val_x, SV.val]
        · simp only [cB_holds, hB_eq] at h
          exact ⟨_, h, by simp [AV.bd, EV.bd, SV.bd], fun β w => by dsimp only; rw [hrun]; simp [AV.val_e, EV.val_x, SV.val]⟩
    · exact False.elim h
  · rename_i a off
    split at h
    · cases hk : Nat.beq qt.kd 2 with
      | false => rw [hk] at h; exact False.elim h
      | true =>
        rw [hk] at h
        obtain ⟨e, hu⟩ := (ok hz).pt (Nat.eq_of_beq_eq_true hk)
        refine ⟨_, h, by simp [AV.bd, EV.bd, SV.bd], fun β w => ?_⟩
        have := eq_run hq (guard_ptr (some ⟨(β a).1, off, none⟩) none w) (run_equal_nil hu (some ⟨(β a).1, off, none⟩) w) (.inr (.inl ⟨_, rfl, rfl⟩)) (x := x) (y := y)
        cases q <;> simpa [AV.val_e, EV.val_x, EV.val_g, SV.val] using this
    · exact False.elim h
  · rename_i a off len cp
    split at h
    · split at h
      · rename_i e he
        have hu := (ok hz).sl he
        refine ⟨_, h, by simp [AV.bd, EV.bd, SV.bd], fun β w => ?_⟩
        have := eq_run hq (guard_slice (some ⟨(β a).1, off, none⟩) none len (cp.val (β a).2 off) 0 0 w) (run_equal_slice_nil w t e (some ⟨(β a).1, off, none⟩) len (cp.val (β a).2 off) hu) (.inr (.inr (.inr ⟨_, _, _, rfl, rfl⟩))) (x := x) (y := y)
        cases q <;> simpa [AV.val_e, EV.val_x, EV.val_g, SV.val] using this
      · exact False.elim h
    · exact False.elim h
  · rename_i a off len cp
    split at h
    · split at h
      · rename_i e he
        have hu := (ok hz).sl he
        refine ⟨_, h, by simp [AV.bd, EV.bd, SV.bd], fun β w => ?_⟩
        have := eq_run hq (guard_slice (some ⟨(β a).1, off, none⟩) none len (cp.val (β a).2 off) 0 0 w) (run_equal_slice_nil w t e (some ⟨(β a).1, off, none⟩) len (cp.val (β a).2 off) hu) (.inr (.inr (.inr ⟨_, _, _, rfl, rfl⟩))) (x := x) (y := y)
        cases q <;> simpa [AV.val_e, EV.val_x, EV.val_g, SV.val] using this
      · exact False.elim h
    · exact False.elim h
  · rename_i p len cp
    split at h
    · split at h
      · rename_i e he
        have hu := (ok hz).sl he
        have hrun := fun w => eq_run hq (guard_slice p none len cp 0 0 w) (run_equal_slice_nil w t e p len cp hu) (.inr (.inr (.inr ⟨_, _, _, rfl, rfl⟩))) (x := x) (y := y)
        split at h
        · refine ⟨_, h, by simp [AV.bd, EV.bd, SV.bd], fun β w => ?_⟩
          have := hrun w
          cases q <;> simpa [AV.val_e, EV.val_x, EV.val_g, SV.val] using this
        · simp only [cB_holds, hB_eq] at h
          refine ⟨_, h, by simp [AV.bd, EV.bd, SV.bd], fun β w => ?_⟩
          have := hrun w
          simpa [AV.val_e, EV.val_x, EV.val_g, SV.val] using this
      · exact False.elim h
    · exact False.elim h
  · rename_i a
    split at h
    · rename_i b
      cases hk : Nat.beq qt.kd 1 with
      | false => rw [hk] at h; exact False.elim h
      | true =>
        rw [hk] at h
        have hu := (ok hz).bo (Nat.eq_of_beq_eq_true hk)
        refine ⟨_, h, by simp [AV.bd, EV.bd, SV.bd], fun β w => ?_⟩
        have := eq_run hq (guard_bool a b w) (run_equal_bool hu a b w) (.inr (.inr (.inl ⟨_, _, rfl, rfl⟩))) (x := x) (y := y)
        simpa [AV.val_e, EV.val_x, EV.val_g, SV.val] using this
    · split at h
      · rename_i b hb
        cases hk : Nat.beq qt.kd 1 with
        | false => rw [hk] at h; exact False.elim h
        | true =>
          rw [hk] at h
          have hu := (ok hz).bo (Nat.eq_of_beq_eq_true hk)
          simp only [cond_true, cB_holds, hB_eq] at h
          refine ⟨_, h, by simp [AV.bd, EV.bd, SV.bd], fun β w => ?_⟩
          have := eq_run hq (guard_bool a b w) (run_equal_bool hu a b w) (.inr (.inr (.inl ⟨_, _, rfl, rfl⟩))) (x := x) (y := y)
          have e2 := isB_val hb β
          dsimp only
          rw [e2]
          simpa [AV.val_e, EV.val_x, EV.val_g, SV.val] using this
      · exact False.elim h
  · split at h
    · rename_i a b ha hb
      cases hk : Nat.beq qt.kd 1 with
      | false => rw [hk] at h; exact False.elim h
      | true =>
        rw [hk] at h
        have hu := (ok hz).bo (Nat.eq_of_beq_eq_true hk)
        simp only [cond_true, cB_holds, hB_eq] at h
        refine ⟨_, h, by simp [AV.bd, EV.bd, SV.bd], fun β w => ?_⟩
        have := eq_run hq (guard_bool a b w) (run_equal_bool hu a b w) (.inr (.inr (.inl ⟨_, _, rfl, rfl⟩))) (x := x) (y := y)
        have e1 := isB_val ha β
        have e2 := isB_val hb β
        dsimp only
        rw [e1, e2, this]
        simp [AV.val_e, EV.val_x, SV.val]
    · exact False.elim h
theorem pBin_ok (ok : TabOk P tb) {op : BinOp} {t : TypeId} {u v : AV} {x y : Operand} {n : Nat} (h : (pBin hd tb op t u v).holds K) :
    Gives0 P n K fun β => (do eqGuard op t x y (u.val β) (v.val β); binOp op t (u.val β) (v.val β) : Sem Value) := by
  unfold pBin at h
  split at h
  · rename_i l1 k m hu
    split at h
    · rename_i l2 k' m' hv
      obtain ⟨r, h1, hb, h2⟩ := binI_run (P := P) t h
      refine ⟨_, h1, SV.bd.mono (Nat.zero_le _) hb, fun β w => ?_⟩
      have e1 := isI_val hu β
      have e2 := isI_val hv β
      dsimp only at e1 e2 ⊢
      rw [e1, e2]
      simp only [Sem.run_bind, guard_int, Result.andThen_ok, h2 β w, AV.val_e, EV.val_x]
    · exact False.elim h
  · split at h
    · rename_i q hq
      exact pEq_ok ok hq h
    · exact False.elim h

theorem pUn_ok {op : UnOp} {v : AV} {n : Nat} (h : (pUn hd op v).holds K) : Gives0 P n K fun β => Op.unary op (v.val β) := by
  unfold pUn at h
  split at h
  · split at h
    · exact ⟨_, h, by simp [AV.bd, EV.bd, SV.bd], fun β w => by simp [AV.val_e, EV.val_x, SV.val, Op.unary]⟩
    · simp only [cB_holds, hB_eq] at h
      exact ⟨_, h, by simp [AV.bd, EV.bd, SV.bd], fun β w => by simp [AV.val_e, EV.val_x, SV.val, Op.unary]⟩
    · exact False.elim h
  · split at h
    · rename_i k m hv
      exact ⟨_, h, by simp [AV.bd, EV.bd, SV.bd], fun β w => by have e := isI_val hv β; dsimp only at e ⊢; rw [e]; simp [AV.val_e, EV.val_x, SV.val, Op.unary, Op.intArith]⟩
    · rename_i k m hv
      exact ⟨_, sumI_run h, by simp [AV.bd, EV.bd, SV.bd], fun β w => by have e := isI_val hv β; dsimp only at e ⊢; rw [e]; simp [AV.val_e, EV.val_x, SV.val, Op.unary, Op.intArith]⟩
    · exact False.elim h
  · split at h
    · rename_i k m hv
      exact ⟨_, h, by simp [AV.bd, EV.bd, SV.bd], fun β w => by have e := isI_val hv β; dsimp only at e ⊢; rw [e]; simp [AV.val_e, EV.val_x, SV.val, Op.unary, Op.intBits, bitI]⟩
    · rename_i k m hv
      simp only [cI_holds, hI_eq] at h
      exact ⟨_, h, by simp [AV.bd, EV.bd, SV.bd], fun β w => by have e := isI_val hv β; dsimp only at e ⊢; rw [e]; simp [AV.val_e, EV.val_x, SV.val, Op.unary, Op.intBits, bitI]⟩
    · exact False.elim h
  · exact False.elim h

theorem pConv_ok (ok : TabOk P tb) {src dst : TypeId} {v : AV} {n : Nat} (h : (pConv hd tb src dst v).holds K) : Gives0 P n K fun β => convert src dst (v.val β) := by
  unfold pConv at h
  split at h
  · rename_i q q' hq hq'
    split at h
    · rename_i k0 k k1 m h0 h1 hv
      refine ⟨_, h, by simp [AV.bd, EV.bd, SV.bd], fun β w => ?_⟩
      have e := isI_val hv β
      dsimp only at e ⊢
      rw [e]
      simp [convert, run_underlying ((ok hq).ik h0), run_underlying ((ok hq').ik h1), Conv.intToInt, AV.val_e, EV.val_x, SV.val]
    · rename_i k0 k k1 m h0 h1 hv
      have hrun : ∀ β w, (convert src dst (v.val β)).run P w = .ok (.int k (k.wrap m)) w := fun β w => by
        have e := isI_val hv β
        dsimp only at e
        rw [e]
        simp [convert, run_underlying ((ok hq).ik h0), run_underlying ((ok hq').ik h1), Conv.intToInt]
      split at h
      · obtain ⟨hr, h⟩ := h
        refine ⟨_, h, by simp [AV.bd, EV.bd, SV.bd], fun β w => ?_⟩
        rw [hrun, hr.out]; simp [AV.val_e, EV.val_x, SV.val]
      · simp only [cI_holds, hI_eq] at h
        exact ⟨_, h, by simp [AV.bd, EV.bd, SV.bd], fun β w => by rw [hrun]; simp [AV.val_e, EV.val_x, SV.val]⟩
    · exact False.elim h
  · exact False.elim h

theorem fieldOf_spec {t f o y : Nat} (h : fieldOf P t f = some (o, y)) : ∃ fs fld, P.underlying t = some (.struct fs) ∧ fs[f]? = some fld ∧ fld.offset = o ∧ fld.type = y := by
  unfold fieldOf at h
  split at h
  · rename_i fs e
    simp only [Option.map_eq_some_iff, Prod.mk.injEq] at h
    obtain ⟨fld, h1, h2, h3⟩ := h
    exact ⟨fs, fld, e, h1, h2, h3⟩
  · simp at h

theorem pFieldA_ok (ok : TabOk P tb) {t : TypeId} {v : AV} {f n : Nat} (hv : v.bd n) (h : (pFieldA hd tb t v f).holds K) : Gives0 P n K fun β => Instr.fieldAt t (v.val β) f := by
  unfold pFieldA at h
  split at h
  · exact False.elim h
  rename_i q hq
  split at h
  · exact False.elim h
  rename_i fo ft hf
  rw [nthP_eq] at hf
  split at h
  · exact False.elim h
  rename_i q' hq'
  obtain ⟨fs, fld, hu, hfl, hoff, hty⟩ := fieldOf_spec ((ok hq).fo hf)
  have hsz := (ok hq').sz
  cases hm : Nat.beq q'.sz 0 with
  | true => rw [hm] at h; exact False.elim h
  | false =>
    rw [hm] at h
    have hm0 : q'.sz ≠ 0 := fun e => by rw [e] at hm; simp at hm
    simp only [cond_false] at h
    split at h
    · refine ⟨_, h, hv, fun β w => ?_⟩
      simp only [AV.val_e, EV.val_x, SV.val, Instr.fieldAt, Instr.sureAddr, fieldPlace, Sem.run_bind, Sem.run_pure, Result.andThen_ok, run_underlying hu, hfl, hty, Sy.run_sizeOf hsz, hm0, if_false, hoff, addr_add]
    · refine ⟨_, h, by simpa [AV.bd, EV.bd, SV.bd] using hv, fun β w => ?_⟩
      simp only [AV.val_e, EV.val_x, SV.val, Instr.fieldAt, Instr.sureAddr, fieldPlace, Sem.run_bind, Sem.run_pure, Result.andThen_ok, run_underlying hu, hfl, hty, Sy.run_sizeOf hsz, hm0, if_false, hoff, addr_add, hN_eq]
    · rename_i p
      obtain ⟨hp, h⟩ := h
      refine ⟨_, h, by simp [AV.bd, EV.bd, SV.bd], fun β w => ?_⟩
      have hp := hp.out
      generalize hx : spA p = ad at hp
      simp only [adr_eq, hx]
      subst hp
      simp only [AV.val_e, EV.val_x, SV.val, Instr.fieldAt, Instr.sureAddr, fieldPlace, Sem.run_bind, Sem.run_pure, Result.andThen_ok, run_underlying hu, hfl, hty, Sy.run_sizeOf hsz, hm0, if_false, hoff]
    · exact False.elim h

theorem pField_ok (ok : TabOk P tb) {t : TypeId} {v : AV} {f n : Nat} (hv : v.bd n) (h : (pField tb t v f).holds K) : Gives0 P n K fun β => Instr.field t (v.val β) f := by
  unfold pField at h
  split at h
  · exact False.elim h
  rename_i q hq
  split at h
  · rename_i fo ft l hf
    rw [nthP_eq] at hf
    split at h
    · rename_i q' hq'
      split at h
      · rename_i r hr
        obtain ⟨fs, fld, hu, hfl, hoff, hty⟩ := fieldOf_spec ((ok hq).fo hf)
        refine ⟨_, h, readE_bd hr hv, fun β w => ?_⟩
        have hp := run_part (ok hq') hr β w
        simp only [AV.val_e, EV.val_g, Instr.field, asAgg, Sem.run_bind, Sem.run_pure, Result.andThen_ok, run_underlying hu, hfl, hty, hoff, hp]
      · exact False.elim h
    · exact False.elim h
  · exact False.elim h

theorem natOf_isI {v : AV} {k : Nat} {q : Bool × IntKind × Int} (h : natOf v = some k) (h' : isI v = some q) : q.2.2 = k := by
  unfold natOf at h
  split at h
  · simp [isI] at h'; subst h'; simp at h; subst h; rfl
  · cases h

theorem pIndexA_ok (ok : TabOk P tb) {t : TypeId} {v i : AV} {n : Nat} (hv : v.bd n) (h : (pIndexA hd tb t v i).holds K) : Gives0 P n K fun β => Instr.indexAt t (v.val β) (i.val β) := by
  unfold pIndexA at h
  split at h
  · rename_i q l0 k0 x hq hi
    have hix := fun β => isI_val hi β
    simp only at hix
    split at h
    · rename_i a off
      split at h
      · rename_i len e k har hn
        split at h
        · rename_i q' hq'
          cases hk : Nat.blt k len with
          | false => rw [hk] at h; exact False.elim h
          | true =>
            rw [hk] at h
            have hlt : k < len := cast Nat.blt_eq hk
            have hxk : x = k := natOf_isI hn hi
            have hlt' : (0 : Int) ≤ (k : Int) ∧ (k : Int) < (len : Int) := ⟨by omega, by omega⟩
            have hu := (ok hq).ar har
            have hsz := (ok hq').sz
            refine ⟨_, h, hv, fun β w => ?_⟩
            simp only [hix β, hxk, AV.val_e, EV.val_x, SV.val, Instr.indexAt, asIntOf, Instr.sureAddr, Sem.run_bind, Sem.run_pure, Result.andThen_ok, run_underlying hu, hlt', and_self, if_true, Sy.run_sizeOf hsz, Int.toNat_natCast, addr_add]
        · exact False.elim h
      · exact False.elim h
    · rename_i a off len cp
      split at h
      · rename_i e k hsl hn
        split at h
        · rename_i q' hq'
          cases hk : Nat.blt k len with
          | false => rw [hk] at h; exact False.elim h
          | true =>
            rw [hk] at h
            have hlt : k < len := cast Nat.blt_eq hk
            have hxk : x = k := natOf_isI hn hi
            have hlt' : (0 : Int) ≤ (k : Int) ∧ (k : Int) < (len : Int) := ⟨by omega, by omega⟩
            have hu := (ok hq).sl hsl
            have hsz := (ok hq').sz
            refine ⟨_, h, by simpa [AV.bd, EV.bd, SV.bd] using hv, fun β w => ?_⟩
            simp only [hix β, hxk, AV.val_e, EV.val_x, SV.val, Instr.indexAt, asIntOf, Sem.run_bind, Sem.run_pure, Result.andThen_ok, run_underlying hu, hlt', and_self, if_true, Sy.run_sizeOf hsz, Int.toNat_natCast, addr_add]
        · exact False.elim h
      · exact False.elim h
    · rename_i a off
      split at h
      · rename_i len e har
        split at h
        · rename_i q' hq'
          obtain ⟨hx, h⟩ := h
          have hu := (ok hq).ar har
          have hsz := (ok hq').sz
          refine ⟨_, h, by simpa [AV.bd, EV.bd, SV.bd] using hv, fun β w => ?_⟩
          simp only [hix β, AV.val_e, EV.val_x, SV.val, Instr.indexAt, asIntOf, Instr.sureAddr, Sem.run_bind, Sem.run_pure, Result.andThen_ok, run_underlying hu, hx.out, and_self, if_true, Sy.run_sizeOf hsz, addr_add, hN_eq]
        · exact False.elim h
      · exact False.elim h
    · rename_i a off len cp
      split at h
      · rename_i e hsl
        split at h
        · rename_i q' hq'
          obtain ⟨hx, h⟩ := h
          have hu := (ok hq).sl hsl
          have hsz := (ok hq').sz
          refine ⟨_, h, by simpa [AV.bd, EV.bd, SV.bd] using hv, fun β w => ?_⟩
          simp only [hix β, AV.val_e, EV.val_x, SV.val, Instr.indexAt, asIntOf, Sem.run_bind, Sem.run_pure, Result.andThen_ok, run_underlying hu, hx.out, and_self, if_true, Sy.run_sizeOf hsz, addr_add, hN_eq]
        · exact False.elim h
      · exact False.elim h
    · rename_i p len cp
      split at h
      · rename_i e hsl
        split at h
        · rename_i q' hq'
          obtain ⟨hp, hx, h⟩ := h
          have hu := (ok hq).sl hsl
          have hsz := (ok hq').sz
          refine ⟨_, h, by simp [AV.bd, EV.bd, SV.bd], fun β w => ?_⟩
          have hp := hp.out
          generalize hxx : spA p = ad at hp
          simp only [adr_eq, hxx]
          subst hp
          simp only [hix β, AV.val_e, EV.val_x, SV.val, Instr.indexAt, asIntOf, Sem.run_bind, Sem.run_pure, Result.andThen_ok, run_underlying hu, hx.out, and_self, if_true, Sy.run_sizeOf hsz]
        · exact False.elim h
      · exact False.elim h
    · rename_i p
      split at h
      · rename_i len e har
        split at h
        · rename_i q' hq'
          obtain ⟨hp, hx, h⟩ := h
          have hu := (ok hq).ar har
          have hsz := (ok hq').sz
          refine ⟨_, h, by simp [AV.bd, EV.bd, SV.bd], fun β w => ?_⟩
          have hp := hp.out
          generalize hxx : spA p = ad at hp
          simp only [adr_eq, hxx]
          subst hp
          simp only [hix β, AV.val_e, EV.val_x, SV.val, Instr.indexAt, asIntOf, Instr.sureAddr, Sem.run_bind, Sem.run_pure, Result.andThen_ok, run_underlying hu, hx.out, and_self, if_true, Sy.run_sizeOf hsz]
        · exact False.elim h
      · exact False.elim h
    · exact False.elim h
  · exact False.elim h

theorem selV_val {k : IntKind} (β : Nat → Nat × Nat) : ∀ (l : List SV) (x : Nat), allInts k l = true → x < l.length → ((SV.vals β l).toArray)[x]? = some (.int k (match l[x]? with
  | some (.c (.int _ n)) => n
  | some (.li _ n) => n
  | _ => 0))
  | [], x, _, h => by simp at h
  | v :: l, x, ha, h => by
    unfold allInts at ha
    split at ha
    · cases ha; rename_i e; cases e
    · rename_i k' m l' e
      obtain ⟨rfl, rfl⟩ := List.cons.inj e
      simp only [Bool.and_eq_true, decide_eq_true_eq] at ha
      cases x with
      | zero => simp [SV.vals, SV.val, ha.1]
      | succ x => simpa [SV.vals] using selV_val β l x ha.2 (by simpa using h)
    · rename_i k' m l' e
      obtain ⟨rfl, rfl⟩ := List.cons.inj e
      simp only [Bool.and_eq_true, decide_eq_true_eq] at ha
      cases x with
      | zero => simp [SV.vals, SV.val, ha.1]
      | succ x => simpa [SV.vals] using selV_val β l x ha.2 (by simpa using h)
    · cases ha

theorem pIndex_ok (ok : TabOk P tb) {t : TypeId} {v i : AV} {n : Nat} (hv : v.bd n) (h : (pIndex hd tb t v i).holds K) : Gives0 P n K fun β => Instr.index t (v.val β) (i.val β) := by
  unfold pIndex at h
  split at h
  · exact False.elim h
  rename_i q hq
  split at h
  · rename_i l len e har
    split at h
    · rename_i q' hq'
      have hu := (ok hq).ar har
      have hsz := (ok hq').sz
      split at h
      · rename_i k hn
        split at h
        · rename_i r hr
          cases hk : Nat.blt k len with
          | false => rw [hk] at h; exact False.elim h
          | true =>
            rw [hk] at h
            have hlt : k < len := cast Nat.blt_eq hk
            have hlt' : (0 : Int) ≤ (k : Int) ∧ (k : Int) < (len : Int) := ⟨by omega, by omega⟩
            refine ⟨_, h, readE_bd hr hv, fun β w => ?_⟩
            obtain ⟨qk, hqk⟩ := natOf_val hn β
            have hp := run_part (ok hq') hr β w
            simp only [hqk, AV.val_e, EV.val_g, Instr.index, asIntOf, Sem.run_bind, Sem.run_pure, Result.andThen_ok, run_underlying hu, hlt', and_self, if_true, Sy.run_sizeOf hsz, Int.toNat_natCast, hp]
        · exact False.elim h
      · split at h
        · rename_i b k1 x k hi hik
          cases hc : (Nat.beq q'.sz 1 && allInts k l && Nat.beq (lenN l) len && !q'.ag) with
          | false => rw [hc] at h; exact False.elim h
          | true =>
            rw [hc] at h
            obtain ⟨hx, h⟩ := h
            simp only [Bool.and_eq_true, Bool.not_eq_true'] at hc
            obtain ⟨⟨⟨c1, c2⟩, c3⟩, c4⟩ := hc
            have c1 := Nat.eq_of_beq_eq_true c1
            have c3 := Nat.eq_of_beq_eq_true c3
            rw [lenN_eq] at c3
            have hag := (ok hq').ag
            rw [c4] at hag
            refine ⟨_, h, by simp [AV.bd, EV.bd, SV.bd, selV], fun β w => ?_⟩
            have hsel := selV_val (k := k) β l x.toNat c2 (by have := hx.out; omega)
            have hp : (part e (SV.vals β l).toArray (x.toNat * q'.sz)).run P w = .ok ((selV hd k l x).val β) w := by
              simp only [part, Sem.run_bind, run_isAgg hag, Result.andThen_ok, c1, Nat.mul_one, selV, SV.val, hI_eq]
              simp only [hsel]
              simp
            simp only [isI_val hi β, AV.val_e, EV.val_x, EV.val_g, Instr.index, asIntOf, Sem.run_bind, Sem.run_pure, Result.andThen_ok, run_underlying hu, hx.out, and_self, if_true, Sy.run_sizeOf hsz, hp]
        · exact False.elim h
    · exact False.elim h
  · exact False.elim h

theorem cap_full {tot off len m : Nat} (h : off + len * m ≤ tot) (hm : 0 < m) : len ≤ (tot - off) / m := by
  rw [Nat.le_div_iff_mul_le hm]; omega
theorem cap_sub {tot off l m : Nat} (_h : off + l * m ≤ tot) (_hm : 0 < m) : (tot - off) / m - l = (tot - (off + l * m)) / m := by
  rw [Nat.sub_add_eq, Nat.mul_comm l m, Nat.sub_mul_div]

theorem pSlice_ok (ok : TabOk P tb) {t : TypeId} {v : AV} {lo hi mx : Option Operand} (hv : v.bd st.nx) (h : (pSlice hd tb st t v lo hi mx).holds K) :
    ∃ r, K r ∧ r.bd st.nx ∧ ∀ w0 M β w (ρ : Operand → Value), Mm w0 M β st w → (∀ x, ρ x = (st.ev x).val β) → (Instr.sliceAt t (v.val β) (lo.map ρ) (hi.map ρ) (mx.map ρ)).run P w = .ok (r.val β) w := by
  unfold pSlice at h
  split at h
  · exact False.elim h
  rename_i q hq
  split at h
  · rename_i a off
    split at h
    · rename_i len e l hh m har hl hhi hm
      split at h
      · rename_i q' hq'
        cases hc : (okMx hh m && slNb m len && slNb hh (orN m len) && slNb l (orN hh len)) with
        | false => rw [hc] at h; exact False.elim h
        | true =>
          rw [hc] at h
          simp only [Bool.and_eq_true] at hc
          obtain ⟨⟨⟨c0, c1⟩, c2⟩, c3⟩ := hc
          have hu := (ok hq).ar har
          have hsz := (ok hq').sz
          refine ⟨_, h, by simpa [AV.bd, EV.bd, SV.bd] using hv, fun w0 M β w ρ hS hρ => ?_⟩
          have hr : (Instr.sliceBounds false len len (lo.map ρ) (hi.map ρ) (mx.map ρ)).run P w = .ok (orN l 0, orN hh len, orN m len) w := bounds_run hρ hl hhi hm c0 c1 c2 c3 _ _
          simp only [AV.val_e, EV.val_x, SV.val, Cap.val, Instr.sliceAt, Instr.sureAddr, Sem.run_bind, Sem.run_pure, Result.andThen_ok, run_underlying hu, hr, Sy.run_sizeOf hsz, addr_add]
          by_cases hq : orN m len = orN l 0
          · simp [hq]
          · have : Nat.beq (orN m len) (orN l 0) = false := by
              cases e : Nat.beq (orN m len) (orN l 0) with
              | false => rfl
              | true => exact absurd (Nat.eq_of_beq_eq_true e) hq
            simp [hq, this]
      · exact False.elim h
    · exact False.elim h
  · rename_i a off len cp
    split at h
    · rename_i e l hh m hsl hl hhi hm
      split at h
      · rename_i q' hq'
        cases hc : (okMx hh m && slNb m cp && slNb hh (orN m cp) && slNb l (orN hh len)) with
        | false => rw [hc] at h; exact False.elim h
        | true =>
          rw [hc] at h
          simp only [Bool.and_eq_true] at hc
          obtain ⟨⟨⟨c0, c1⟩, c2⟩, c3⟩ := hc
          have hu := (ok hq).sl hsl
          have hsz := (ok hq').sz
          refine ⟨_, h, by simpa [AV.bd, EV.bd, SV.bd] using hv, fun w0 M β w ρ hS hρ => ?_⟩
          have hr : (Instr.sliceBounds true len cp (lo.map ρ) (hi.map ρ) (mx.map ρ)).run P w = .ok (orN l 0, orN hh len, orN m cp) w := bounds_run hρ hl hhi hm c0 c1 c2 c3 _ _
          simp only [AV.val_e, EV.val_x, SV.val, Cap.val, Instr.sliceAt, Instr.slice, Sem.run_bind, Sem.run_pure, Result.andThen_ok, run_underlying hu, hr, Sy.run_sizeOf hsz]
          by_cases hq : orN m cp = orN l 0
          · simp [hq]
          · have : Nat.beq (orN m cp) (orN l 0) = false := by
              cases e : Nat.beq (orN m cp) (orN l 0) with
              | false => rfl
              | true => exact absurd (Nat.eq_of_beq_eq_true e) hq
            simp [hq, this, addr_add]
      · exact False.elim h
    · exact False.elim h
  · rename_i a off len sz
    split at h
    · rename_i e l hh hsl hl hhi
      split at h
      · rename_i q' cs ty hq' hb
        cases hc : (Nat.beq q'.sz sz && Nat.blt 0 sz && slNb hh len && slNb l (orN hh len) && Nat.blt (orN l 0) len && Nat.ble (off + len * sz) (lenN cs)) with
        | false => rw [hc] at h; exact False.elim h
        | true =>
          rw [hc] at h
          simp only [Bool.and_eq_true] at hc
          obtain ⟨⟨⟨⟨⟨c0, c1⟩, c2⟩, c3⟩, c4⟩, c5⟩ := hc
          have c0 := Nat.eq_of_beq_eq_true c0
          have c1 : 0 < sz := cast Nat.blt_eq c1
          have c4 : orN l 0 < len := cast Nat.blt_eq c4
          have c5 := Nat.le_of_ble_eq_true c5
          rw [lenN_eq] at c5
          have hu := (ok hq).sl hsl
          have hsz := (ok hq').sz
          refine ⟨_, h, by simpa [AV.bd, EV.bd, SV.bd] using hv, fun w0 M β w ρ hS hρ => ?_⟩
          obtain ⟨tail, t1, t2⟩ := hS.has _ (getB_mem hb)
          simp only [Blk.vals, SV.vals_eq, List.length_map] at t2
          have htot : off + len * sz ≤ (β a).2 := by omega
          have hcap : len ≤ ((β a).2 - off) / sz := cap_full htot c1
          have c2' : slNb hh (((β a).2 - off) / sz) = true := by
            cases hh with
            | none => rfl
            | some y => exact Nat.ble_eq_true_of_le (Nat.le_trans (Nat.le_of_ble_eq_true c2) hcap)
          have hr : (Instr.sliceBounds true len (((β a).2 - off) / sz) (lo.map ρ) (hi.map ρ) none).run P w = .ok (orN l 0, orN hh len, ((β a).2 - off) / sz) w :=
            bounds_run (mx := none) (m := none) hρ hl hhi rfl (by cases hh <;> rfl) rfl c2' c3 _ _
          have hne : ¬ (((β a).2 - off) / sz = orN l 0) := by omega
          simp only [AV.val_e, EV.val_x, SV.val, Cap.val, Instr.sliceAt, Instr.slice, Sem.run_bind, Sem.run_pure, Result.andThen_ok, run_underlying hu, Option.map_none, hr, Sy.run_sizeOf hsz, hne, if_false, c0]
          have : off + orN l 0 * sz ≤ (β a).2 := Nat.le_trans (Nat.add_le_add_left (Nat.mul_le_mul_right _ (by omega)) _) htot
          rw [cap_sub this c1]
          simp [addr_add]
      · exact False.elim h
    · exact False.elim h
  · rename_i a off len cp
    split at h
    · rename_i e l hh m hsl hl hhi hm
      split at h
      · rename_i q' hq'
        cases hc : okMx hh m with
        | false => rw [hc] at h; exact False.elim h
        | true =>
          rw [hc] at h
          obtain ⟨c1, c2, c3, h⟩ := h
          have hu := (ok hq).sl hsl
          have hsz := (ok hq').sz
          refine ⟨_, h, by simpa [AV.bd, EV.bd, SV.bd] using hv, fun w0 M β w ρ hS hρ => ?_⟩
          have hr : (Instr.sliceBounds true len cp (lo.map ρ) (hi.map ρ) (mx.map ρ)).run P w = .ok ((orI l 0).toNat, (orI hh len).toNat, (orI m cp).toNat) w := boundsI_run hρ hl hhi hm hc c1 c2 c3 _ _
          simp only [AV.val_e, EV.val_x, SV.val, Cap.val, Instr.sliceAt, Instr.slice, Sem.run_bind, Sem.run_pure, Result.andThen_ok, run_underlying hu, hr, Sy.run_sizeOf hsz, hN_eq]
          by_cases hq : (orI m cp).toNat = (orI l 0).toNat
          · simp [hq]
          · simp [hq, addr_add]
      · exact False.elim h
    · exact False.elim h
  · rename_i a off len sz
    split at h
    · rename_i e l hh hsl hl hhi
      split at h
      · rename_i q' cs ty hq' hb
        cases hc : (Nat.beq q'.sz sz && Nat.blt 0 sz) with
        | false => rw [hc] at h; exact False.elim h
        | true =>
          rw [hc] at h
          simp only [Bool.and_eq_true] at hc
          obtain ⟨c0, c1⟩ := hc
          obtain ⟨c2, c3, c4, c5, h⟩ := h
          have c0 := Nat.eq_of_beq_eq_true c0
          have c1 : 0 < sz := cast Nat.blt_eq c1
          have hu := (ok hq).sl hsl
          have hsz := (ok hq').sz
          refine ⟨_, h, by simpa [AV.bd, EV.bd, SV.bd] using hv, fun w0 M β w ρ hS hρ => ?_⟩
          obtain ⟨tail, t1, t2⟩ := hS.has _ (getB_mem hb)
          simp only [Blk.vals] at t2
          have htot : off + len * sz ≤ (β a).2 := by omega
          have hcap : len ≤ ((β a).2 - off) / sz := cap_full htot c1
          have c2' : slOb hh ((((β a).2 - off) / sz : Nat) : Int) := by
            cases hh with
            | none => exact trivial
            | some y => have := SlB.out c2; exact ⟨⟨this.1, by omega⟩⟩
          have hr : (Instr.sliceBounds true len (((β a).2 - off) / sz) (lo.map ρ) (hi.map ρ) none).run P w = .ok ((orI l 0).toNat, (orI hh len).toNat, ((β a).2 - off) / sz) w := by
            have := boundsI_run (P := P) (mx := none) (m := none) hρ hl hhi rfl (len := len) (cap := ((β a).2 - off) / sz) (by cases hh <;> rfl) trivial c2' c3 true w
            rw [show orI none ((((β a).2 - off) / sz : Nat) : Int) = ((((β a).2 - off) / sz : Nat) : Int) from rfl, Int.toNat_natCast] at this
            exact this
          have c4 := c4.out
          have hne : ¬ (((β a).2 - off) / sz = (orI l 0).toNat) := by omega
          simp only [AV.val_e, EV.val_x, SV.val, Cap.val, Instr.sliceAt, Instr.slice, Sem.run_bind, Sem.run_pure, Result.andThen_ok, run_underlying hu, Option.map_none, hr, Sy.run_sizeOf hsz, hne, if_false, c0, hN_eq]
          have : off + (orI l 0).toNat * sz ≤ (β a).2 := Nat.le_trans (Nat.add_le_add_left (Nat.mul_le_mul_right _ (by omega)) _) htot
          rw [cap_sub this c1]
          simp [addr_add]
      · exact False.elim h
    · exact False.elim h
  · rename_i p len cp
    split at h
    · rename_i e l hh m hsl hl hhi hm
      split at h
      · rename_i q' hq'
        cases hc : okMx hh m with
        | false => rw [hc] at h; exact False.elim h
        | true =>
          rw [hc] at h
          obtain ⟨c1, c2, c3, h⟩ := h
          have hu := (ok hq).sl hsl
          have hsz := (ok hq').sz
          refine ⟨_, h, by simp [AV.bd, EV.bd, SV.bd], fun w0 M β w ρ hS hρ => ?_⟩
          have hr : (Instr.sliceBounds true len cp (lo.map ρ) (hi.map ρ) (mx.map ρ)).run P w = .ok ((orI l 0).toNat, (orI hh len).toNat, (orI m cp).toNat) w := boundsI_run hρ hl hhi hm hc c1 c2 c3 _ _
          simp only [AV.val_e, EV.val_x, SV.val, Instr.sliceAt, Instr.slice, Sem.run_bind, Sem.run_pure, Result.andThen_ok, run_underlying hu, hr, Sy.run_sizeOf hsz, hN_eq, Hid.ok]
      · exact False.elim h
    · exact False.elim h
  · exact False.elim h

theorem nthE_eq : ∀ (l : List EV) (n : Nat), nthE l n = l[n]?
  | [], _ => by simp [nthE]
  | x :: _, 0 => rfl
  | x :: l, n + 1 => by simp [nthE, nthE_eq l n]
theorem pExtract_ok {v : AV} {i n : Nat} (hv : v.bd n) (h : (pExtract v i).holds K) : Gives0 P n K fun β => Instr.extract (v.val β) i := by
  unfold pExtract at h
  split at h
  · rename_i l
    split at h
    · rename_i r hr
      rw [nthE_eq] at hr
      refine ⟨_, h, hv r (List.mem_of_getElem? hr), fun β w => ?_⟩
      simp [AV.val_t, AV.val_e, EV.vals_eq, Instr.extract, hr]
    · exact False.elim h
  · exact False.elim h

theorem pBuild_ok (ok : TabOk P tb) (hst : ∀ x, (st.ev x).bd st.nx) {t : TypeId} {ps : List (Nat × Operand)} (h : (pBuild tb st t ps).holds K) :
    ∃ r, K r ∧ r.bd st.nx ∧ ∀ β w (ρ : Operand → Value) (pa : Array (Nat × Value)), (∀ x, ρ x = (st.ev x).val β) → pa.toList = ps.map (fun (i, x) => (i, ρ x)) → (Instr.build t pa).run P w = .ok (r.val β) w := by
  unfold pBuild at h
  split at h
  · exact False.elim h
  rename_i q hq
  split at h
  · exact False.elim h
  rename_i zs hz
  split at h
  · rename_i pl hpl
    split at h
    · rename_i cs hf
      refine ⟨_, h, fillS_bd hst hf (cL_bd _ _), fun β w ρ pa hρ hpa => ?_⟩
      obtain ⟨fs, hu, hpr⟩ := (ok hq).pl hpl
      obtain ⟨zv, hzr, hzc⟩ := ((ok hq).zr hz).2 w
      have hs := fillS_spec hρ hf
      rw [cL_val] at hs
      have hpl' : (fun i => (pl.toArray)[i]?) = nthP pl := by funext i; rw [nthP_eq]; simp
      simp only [Instr.build, Sem.run_bind, hzr, Result.andThen_ok, run_underlying hu, hpr, hzc, hpl', hpa, hs, Sem.run_pure, AV.val_e, EV.val_g]
    · exact False.elim h
  · rename_i e _ har
    split at h
    · rename_i q' hq'
      split at h
      · rename_i cs hf
        refine ⟨_, h, fillS_bd hst hf (cL_bd _ _), fun β w ρ pa hρ hpa => ?_⟩
        have hu := (ok hq).ar har
        have hsz := (ok hq').sz
        obtain ⟨zv, hzr, hzc⟩ := ((ok hq).zr hz).2 w
        have hs := fillS_spec hρ hf
        rw [cL_val] at hs
        simp only [Instr.build, Sem.run_bind, hzr, Result.andThen_ok, run_underlying hu, Sy.run_sizeOf hsz, hzc, hpa, hs, Sem.run_pure, AV.val_e, EV.val_g]
      · exact False.elim h
    · exact False.elim h
  · exact False.elim h

theorem pFunc_ok (hst : ∀ x, (st.ev x).bd st.nx) {fn : Fn} {first cs : List Operand} (h : (pFunc st fn first cs).holds K) :
    ∃ r, K r ∧ r.bd st.nx ∧ ∀ β w (ρ : Operand → Value) (fa ca : Array Value), (∀ x, ρ x = (st.ev x).val β) → fa.toList = first.map ρ → ca.toList = cs.map ρ → (Instr.makeFunc fn fa ca).run P w = .ok (r.val β) w := by
  unfold pFunc at h
  split at h
  · rename_i fid
    split at h
    · split at h
      · rename_i l hc
        have hb : ∀ v ∈ cs.map st.ev, AV.bd st.nx v := fun v hv => by
          obtain ⟨y, _, rfl⟩ := List.mem_map.1 hv
          exact hst y
        rw [evs_eq] at hc
        refine ⟨_, h, by simpa [AV.bd, EV.bd, SV.bd] using capOf_bd hc hb, fun β w ρ fa ca hρ hfa hca => ?_⟩
        have hv := capOf_val β hc
        have e1 : fa = #[] := Array.toList_eq_nil_iff.1 (by simpa using hfa)
        have e2 : ca = (l.map fun q => Value.pointer (some ⟨(β q.1).1, q.2, none⟩)).toArray := by
          apply Array.ext'
          rw [← hv, hca]
          simp only [List.map_map]
          exact List.map_congr_left fun y _ => hρ y
        simp only [e1, e2, Instr.makeFunc, AV.val_e, EV.val_x, SV.val, Sem.run_pure]
      · exact False.elim h
    · rename_i x
      split at h
      · rename_i l e
        have hb := hst x
        rw [e] at hb
        refine ⟨_, h, by simpa [AV.bd, EV.bd, SV.bd, SV.bds_iff] using hb, fun β w ρ fa ca hρ hfa hca => ?_⟩
        have e1 : fa = #[ρ x] := by apply Array.ext'; simpa using hfa
        have e2 : ca = #[] := Array.toList_eq_nil_iff.1 (by simpa using hca)
        simp only [e1, e2, hρ, e, Instr.makeFunc, AV.val_e, EV.val_x, EV.val_g, SV.val, Sem.run_pure]
      · rename_i v e
        have hb := hst x
        rw [e] at hb
        refine ⟨_, h, by simpa [AV.bd, EV.bd, SV.bd, SV.bds] using hb, fun β w ρ fa ca hρ hfa hca => ?_⟩
        have e1 : fa = #[ρ x] := by apply Array.ext'; simpa using hfa
        have e2 : ca = #[] := Array.toList_eq_nil_iff.1 (by simpa using hca)
        simp only [e1, e2, hρ, e, Instr.makeFunc, AV.val_e, EV.val_x, SV.val, SV.vals, Sem.run_pure]
      · exact False.elim h
    · exact False.elim h
  · exact False.elim h

theorem pLen_val {v r : AV} (h : pLen v = some r) (β : Nat → Nat × Nat) : ∃ p n c, v.val β = .slice p n c ∧ r.val β = .int .i64 n ∧ r.bd 0 := by
  unfold pLen at h
  split at h
  · rename_i m off len cp
    cases h; exact ⟨some ⟨(β m).1, off, none⟩, len, cp.val (β m).2 off, by simp [AV.val_e, EV.val_x, SV.val], by simp [AV.val_e, EV.val_x, SV.val], by simp [AV.bd, EV.bd, SV.bd]⟩
  · rename_i m off len cp
    cases h; exact ⟨some ⟨(β m).1, off, none⟩, len, cp.val (β m).2 off, by simp [AV.val_e, EV.val_x, SV.val], by simp [AV.val_e, EV.val_x, SV.val], by simp [AV.bd, EV.bd, SV.bd]⟩
  · rename_i cp
    cases h; exact ⟨none, 0, cp, by simp [AV.val_e, EV.val_x, SV.val], by simp [AV.val_e, EV.val_x, SV.val], by simp [AV.bd, EV.bd, SV.bd]⟩
  · rename_i p len cp _
    cases h; exact ⟨p, len, cp, by simp [AV.val_e, EV.val_x, SV.val], by simp [AV.val_e, EV.val_x, SV.val], by simp [AV.bd, EV.bd, SV.bd]⟩
  · cases h

theorem args_val {β : Nat → Nat × Nat} {a : Act} {w0 w : World} {M : List Nat} (hI : Is w0 M β st a w) (l : Array Operand) : l.map a.eval = ((evs st l.toList).map (AV.val β)).toArray := by
  apply Array.ext'
  rw [evs_eq]
  simp only [Array.toList_map, List.map_map]
  exact List.map_congr_left fun y _ => hI.eval y
theorem calm_of_run {o : Oper} {a : Act} {w : World} {v : Value} (h : (execOp a.eval o).run P w = .ok (.value v) w) : calmAt P o a w v := by
  unfold calmAt; rw [h]; exact ⟨rfl, rfl⟩
theorem run_v {s : Sem Value} {v : Value} {w w' : World} (h : s.run P w = .ok v w') : (do pure (Next.value (← s)) : Sem Next).run P w = .ok (.value v) w' := by
  simp only [Sem.run_bind, h, Result.andThen_ok, Sem.run_pure]

theorem pBuiltin_ok (ok : TabOk P tb) {b : Builtin} {c : Call} {o : Oper} (hb : c.callee = .builtin b) (ho : o.op = .call c) (h : (pBuiltin hd tb st b c.args.toList c.argTypes.toList).holds K) :
    ∃ r, K r ∧ r.bd st.nx ∧ ∀ w0 M β a w, Is w0 M β st a w → calmAt P o a w (r.val β) := by
  unfold pBuiltin at h
  split at h
  · split at h
    · rename_i v t ea et
      split at h
      · rename_i q hq
        split at h
        · rename_i e r hsl hr
          have hu := (ok hq).sl hsl
          refine ⟨_, h, ((pLen_val hr (fun _ => (0, 0))).elim fun _ h => h.elim fun _ h => h.elim fun _ h => h.2.2).mono (Nat.zero_le _), fun w0 M β a w hI => calm_of_run ?_⟩
          obtain ⟨p, n, cp, hv, hrv, _⟩ := pLen_val hr β
          have e2 := args_val hI c.args
          rw [ea] at e2
          simp only [List.map_cons, List.map_nil, hv] at e2
          have e3 : c.argTypes = #[t] := by apply Array.ext'; rw [et]
          unfold execOp; rw [ho]
          simp only [resolve, hb, e2, e3, invoke, builtin, Sem.run_bind, Sem.run_pure, Result.andThen_ok]
          simp [Builtin.len_, run_underlying hu, goInt, hrv]
        · exact False.elim h
      · exact False.elim h
    · exact False.elim h
  · split at h
    · rename_i v l ea
      split at h
      · rename_i bb k m hv
        obtain ⟨s, r, h1, h2, h3, h4⟩ := minL_val (P := P) h
        refine ⟨_, h1, SV.bd.mono (Nat.zero_le _) h2, fun w0 M β a w hI => calm_of_run ?_⟩
        have e2 := args_val hI c.args
        rw [ea] at e2
        simp only [List.map_cons, isI_val hv β] at e2
        have := h4 β w
        unfold execOp; rw [ho]
        simp only [resolve, hb, invoke, builtin, Sem.run_bind, Sem.run_pure, Result.andThen_ok, Builtin.min_, e2]
        simp only [cond_false] at this
        rw [this, AV.val_e, EV.val_x, h3]
        rfl
      · exact False.elim h
    · exact False.elim h
  · split at h
    · rename_i v l ea
      split at h
      · rename_i bb k m hv
        obtain ⟨s, r, h1, h2, h3, h4⟩ := minL_val (P := P) h
        refine ⟨_, h1, SV.bd.mono (Nat.zero_le _) h2, fun w0 M β a w hI => calm_of_run ?_⟩
        have e2 := args_val hI c.args
        rw [ea] at e2
        simp only [List.map_cons, isI_val hv β] at e2
        have := h4 β w
        unfold execOp; rw [ho]
        simp only [resolve, hb, invoke, builtin, Sem.run_bind, Sem.run_pure, Result.andThen_ok, Builtin.max_, e2]
        simp only [cond_true] at this
        rw [this, AV.val_e, EV.val_x, h3]
        rfl
      · exact False.elim h
    · exact False.elim h
  · exact False.elim h

theorem evs_bd (hwf : Wf st) (l : List Operand) : ∀ v ∈ evs st l, AV.bd st.nx v := fun v hv => by
  rw [evs_eq] at hv
  obtain ⟨y, _, rfl⟩ := List.mem_map.1 hv
  exact hwf.ev y

theorem capA_val (β : Nat → Nat × Nat) : ∀ cs : List (Nat × Nat), (fnOf.capA cs).map (AV.val β) = cs.map fun q => Value.pointer (some ⟨(β q.1).1, q.2, none⟩)
  | [] => rfl
  | (n, o) :: l => by simp [fnOf.capA, capA_val β l, AV.val_e, EV.val_x, SV.val]
theorem capA_bd {n : Nat} : ∀ {cs : List (Nat × Nat)}, (∀ q ∈ cs, q.1 < n) → ∀ v ∈ fnOf.capA cs, AV.bd n v
  | [], _, v, hv => by simp [fnOf.capA] at hv
  | (m, o) :: l, h, v, hv => by
    simp only [fnOf.capA, List.mem_cons] at hv
    rcases hv with rfl | hv
    · have := h _ List.mem_cons_self
      simpa [AV.bd, EV.bd, SV.bd] using this
    · exact capA_bd (fun q hq => h q (List.mem_cons_of_mem _ hq)) v hv
theorem fnOf_bd {v : AV} {i : Nat} {first cs : List AV} {n : Nat} (h : fnOf v = some (i, first, cs)) (hb : v.bd n) : (∀ u ∈ first, AV.bd n u) ∧ ∀ u ∈ cs, AV.bd n u := by
  unfold fnOf at h
  split at h
  · cases h; simp only [AV.bd, EV.bd, SV.bd] at hb; exact ⟨by simp, capA_bd hb⟩
  · cases h
    simp only [AV.bd, EV.bd, SV.bd] at hb
    exact ⟨fun u hu => by simp at hu; subst hu; exact SV.bds_iff.1 hb, by simp⟩
  · cases h
    simp only [AV.bd, EV.bd, SV.bd, SV.bds] at hb
    exact ⟨fun u hu => by simp at hu; subst hu; exact hb.1, by simp⟩
  · cases h
theorem fnOf_run {v : AV} {i : Nat} {first cs : List AV} (h : fnOf v = some (i, first, cs)) (β : Nat → Nat × Nat) (hbd : Bodied P i) (args : Array Value) (w : World) :
    ((do let d ← Deferred.ofValue (v.val β) args; invoke d.target d.args : Sem Next)).run P w = .ok (.enter i (((first.map (AV.val β)).toArray ++ args) ++ (cs.map (AV.val β)).toArray)) w := by
  unfold fnOf at h
  split at h
  · cases h
    simp only [AV.val_e, EV.val_x, SV.val, Deferred.ofValue, Sem.run_bind, Sem.run_pure, Result.andThen_ok, invoke]
    rw [hbd]
    simp [capA_val]
  · cases h
    simp only [AV.val_e, EV.val_x, SV.val, Deferred.ofValue, Sem.run_bind, Sem.run_pure, Result.andThen_ok, invoke]
    rw [hbd]
    simp [AV.val_e, EV.val_g]
  · cases h
    simp only [AV.val_e, EV.val_x, SV.val, Deferred.ofValue, Sem.run_bind, Sem.run_pure, Result.andThen_ok, invoke]
    rw [hbd]
    simp [SV.vals, AV.val_e, EV.val_x]
  · cases h

theorem exec_call {o : Oper} {c : Call} {f : Operand} (hc : c.callee = .value f) (ho : o.op = .call c) {i : Nat} {first cs : List AV} (h : fnOf (st.ev f) = some (i, first, cs)) (hbd : Bodied P i) {w0 w : World} {M : List Nat} {β : Nat → Nat × Nat} {a : Act} (hI : Is w0 M β st a w) :
    (execOp a.eval o).run P w = .ok (.enter i ((first ++ evs st c.args.toList ++ cs).map (AV.val β)).toArray) w := by
  have := fnOf_run (P := P) h β hbd (c.args.map a.eval) w
  unfold execOp; rw [ho]
  simp only [resolve, hc, hI.eval f]
  rw [this]
  congr 2
  apply Array.ext'
  simp [args_val hI, List.map_append]

theorem pCall_ok (gok : GOk P Γ) (hwf : Wf st) {c : Call} {o : Oper} {f : Operand} (hcal : c.callee = .value f) (ho : o.op = .call c) (h : (pCall hd Γ st (st.ev f) c.args.toList).holds K) :
    ∃ r, K r ∧ r.bd st.nx ∧ ∀ w0 M β a w, Is w0 M β st a w → calmAt P o a w (r.val β) := by
  unfold pCall at h
  split at h
  · rename_i i first cs hfn
    split at h
    · rename_i C hC
      obtain ⟨hb1, hb2⟩ := fnOf_bd hfn (hwf.ev f)
      have hargs : ∀ v ∈ first ++ evs st c.args.toList ++ cs, AV.bd st.nx v := fun v hv => by
        rcases List.mem_append.1 hv with hv | hv
        · rcases List.mem_append.1 hv with hv | hv
          · exact hb1 v hv
          · exact evs_bd hwf _ v hv
        · exact hb2 v hv
      obtain ⟨v, hK, hvb, hcall⟩ := gok.ok _ _ hC _ _ _ _ h hwf.toWfM hargs
      refine ⟨v, hK, hvb.mono (Nat.zero_le _), fun w0 M β a w hI => ?_⟩
      unfold calmAt
      rw [exec_call hcal ho hfn (gok.bd _ _ hC) hI]
      exact ⟨rfl, hcall w0 M β w hI.mem⟩
    · exact False.elim h
  · exact False.elim h

theorem pNil_ok {x : Operand} {o : Oper} (ho : o.op = .nilCheck x) (hwf : Wf st) (h : (pNil (st.ev x)).holds K) :
    ∃ r, K r ∧ r.bd st.nx ∧ ∀ w0 M β a w, Is w0 M β st a w → calmAt P o a w (r.val β) := by
  have hb := hwf.ev x
  unfold pNil at h
  split at h
  · rename_i n off e
    refine ⟨_, h, hb, fun w0 M β a w hI => calm_of_run ?_⟩
    unfold execOp; rw [ho]; simp only [hI.eval, e, AV.val_e, EV.val_x, SV.val]; rfl
  · rename_i n off e
    refine ⟨_, h, hb, fun w0 M β a w hI => calm_of_run ?_⟩
    unfold execOp; rw [ho]; simp only [hI.eval, e, AV.val_e, EV.val_x, SV.val]; rfl
  · rename_i n off e
    refine ⟨_, h, hb, fun w0 M β a w hI => calm_of_run ?_⟩
    unfold execOp; rw [ho]; simp only [hI.eval, e, AV.val_e, EV.val_x, SV.val]; rfl
  · rename_i n one r e
    refine ⟨_, h, hb, fun w0 M β a w hI => calm_of_run ?_⟩
    unfold execOp; rw [ho]; simp only [hI.eval, e, AV.val_e, EV.val_x, SV.val]; rfl
  · rename_i p e
    obtain ⟨hp, h⟩ := h
    refine ⟨_, h, hb, fun w0 M β a w hI => calm_of_run ?_⟩
    have hp := hp.out
    generalize spA p = ad at hp
    subst hp
    unfold execOp; rw [ho]; simp only [hI.eval, e, AV.val_e, EV.val_x, SV.val]; rfl
  · exact False.elim h

/-- an operation that writes nothing -/
theorem pv_sound (ok : TabOk P tb) (gok : GOk P Γ) {o : Oper} (h : (pv hd tb Γ st o).holds K) (hwf : Wf st) :
    ∃ r, K r ∧ r.bd st.nx ∧ ∀ w0 M β a w, Is w0 M β st a w → calmAt P o a w (r.val β) := by
  unfold pv at h
  split at h
  case h_1 x ho => exact ⟨_, h, hwf.ev x, fun w0 M β a w hI => calm_of_run (by unfold execOp; rw [ho]; simp only [hI.eval]; rfl)⟩
  case h_2 x ho => exact ⟨_, h, hwf.ev x, fun w0 M β a w hI => calm_of_run (by unfold execOp; rw [ho]; simp only [hI.eval]; rfl)⟩
  case h_3 c x y ho =>
    split at h
    · rename_i e
      exact ⟨_, h, hwf.ev x, fun w0 M β a w hI => calm_of_run (by unfold execOp; rw [ho]; simp only [hI.eval, e, AV.val_e, EV.val_x, SV.val]; rfl)⟩
    · rename_i e
      exact ⟨_, h, hwf.ev y, fun w0 M β a w hI => calm_of_run (by unfold execOp; rw [ho]; simp only [hI.eval, e, AV.val_e, EV.val_x, SV.val]; rfl)⟩
    · exact False.elim h
  case h_4 t x ho =>
    obtain ⟨r, h1, h2, h3⟩ := pLoad_ok (P := P) ok hwf.toWfM h
    exact ⟨r, h1, h2, fun w0 M β a w hI => calm_of_run (by unfold execOp; rw [ho]; simp only [hI.eval]; exact run_v (h3 w0 M β w hI.mem))⟩
  case h_5 x ho => exact pNil_ok ho hwf h
  case h_6 op t x y z ho =>
    obtain ⟨r, h1, h2, h3⟩ := pBin_ok (P := P) ok (x := x) (y := y) (n := st.nx) h
    exact ⟨r, h1, h2, fun w0 M β a w hI => calm_of_run (by unfold execOp; rw [ho]; simp only [hI.eval]; exact run_v (h3 β w))⟩
  case h_7 op t x ho =>
    obtain ⟨r, h1, h2, h3⟩ := pUn_ok (P := P) (n := st.nx) h
    exact ⟨r, h1, h2, fun w0 M β a w hI => calm_of_run (by unfold execOp; rw [ho]; simp only [hI.eval]; exact run_v (h3 β w))⟩
  case h_8 src dst x ho =>
    obtain ⟨r, h1, h2, h3⟩ := pConv_ok (P := P) ok (n := st.nx) h
    exact ⟨r, h1, h2, fun w0 M β a w hI => calm_of_run (by unfold execOp; rw [ho]; simp only [hI.eval]; exact run_v (h3 β w))⟩
  case h_9 t x f ho =>
    obtain ⟨r, h1, h2, h3⟩ := pFieldA_ok (P := P) ok (hwf.ev x) h
    exact ⟨r, h1, h2, fun w0 M β a w hI => calm_of_run (by unfold execOp; rw [ho]; simp only [hI.eval]; exact run_v (h3 β w))⟩
  case h_10 t x f ho =>
    obtain ⟨r, h1, h2, h3⟩ := pField_ok (P := P) ok (hwf.ev x) h
    exact ⟨r, h1, h2, fun w0 M β a w hI => calm_of_run (by unfold execOp; rw [ho]; simp only [hI.eval]; exact run_v (h3 β w))⟩
  case h_11 t x i ho =>
    obtain ⟨r, h1, h2, h3⟩ := pIndexA_ok (P := P) ok (hwf.ev x) h
    exact ⟨r, h1, h2, fun w0 M β a w hI => calm_of_run (by unfold execOp; rw [ho]; simp only [hI.eval]; exact run_v (h3 β w))⟩
  case h_12 t x i ho =>
    obtain ⟨r, h1, h2, h3⟩ := pIndex_ok (P := P) ok (hwf.ev x) h
    exact ⟨r, h1, h2, fun w0 M β a w hI => calm_of_run (by unfold execOp; rw [ho]; simp only [hI.eval]; exact run_v (h3 β w))⟩
  case h_13 t x lo hi mx ho =>
    obtain ⟨r, h1, h2, h3⟩ := pSlice_ok (P := P) ok (hwf.ev x) h
    refine ⟨r, h1, h2, fun w0 M β a w hI => calm_of_run ?_⟩
    have := h3 w0 M β w a.eval hI.mem hI.eval
    rw [← hI.eval x] at this
    unfold execOp; rw [ho]; exact run_v this
  case h_14 x i ho =>
    obtain ⟨r, h1, h2, h3⟩ := pExtract_ok (P := P) (hwf.ev x) h
    exact ⟨r, h1, h2, fun w0 M β a w hI => calm_of_run (by unfold execOp; rw [ho]; simp only [hI.eval]; exact run_v (h3 β w))⟩
  case h_15 t ps ho =>
    obtain ⟨r, h1, h2, h3⟩ := pBuild_ok (P := P) ok hwf.ev h
    exact ⟨r, h1, h2, fun w0 M β a w hI => calm_of_run (by unfold execOp; rw [ho]; exact run_v (h3 β w a.eval _ hI.eval (by simp)))⟩
  case h_16 fn first cs ho =>
    obtain ⟨r, h1, h2, h3⟩ := pFunc_ok (P := P) hwf.ev h
    exact ⟨r, h1, h2, fun w0 M β a w hI => calm_of_run (by unfold execOp; rw [ho]; exact run_v (h3 β w a.eval _ _ hI.eval (by simp) (by simp)))⟩
  case h_17 c ho =>
    split at h
    · rename_i f hcal
      exact pCall_ok gok hwf hcal ho h
    · rename_i b hcal
      exact pBuiltin_ok ok hcal ho h
    · exact False.elim h
  case h_18 => exact False.elim h
end
end Go.Fe
