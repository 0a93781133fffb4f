/- A run that decides everything itself, as a contract. -/
import Derived.Test.YtfplfbaebiaanaaGreatFeF
noncomputable section
namespace Go.Fe
open Go.RowKit Go.Reg Go.Sort Go.Sy

/-- the state ahead of everything -/
def st00 : AS := ⟨[], [], 0, 0, fun _ => none, []⟩
def trueB : Option (AS × AV) → Bool
  | some (_, .e (.x (.lb b))) => b
  | some (_, .e (.x (.c (.bool b)))) => b
  | _ => false
theorem trueB_out {t : VC (AS × AV)} (h : trueB t.out = true) : t.holds fun r => ∀ β, r.2.val β = .bool true := by
  unfold trueB at h
  split at h
  · rename_i s b e
    subst h
    exact VC.holds_mono (fun r hr β => by rw [hr]; simp [AV.val_e, EV.val_x, SV.val]) (VC.out_holds e)
  · rename_i s b e
    subst h
    exact VC.holds_mono (fun r hr β => by rw [hr]; simp [AV.val_e, EV.val_x, SV.val]) (VC.out_holds e)
  · cases h
/-- a call whose arguments hold no names, from any world -/
theorem calls_out {P : Program} {f : Nat} {C : FC} (hC : FcOk P f C) {args : List AV} (hb : ∀ v ∈ args, AV.bd 0 v) {K : AS × AV → Prop} (h : (C Hid.bare st00 args).holds K) (β : Nat → Nat × Nat) (w : World) :
    Calls P f (args.map (AV.val β)).toArray w fun e w' => (∃ r β', K r ∧ e = .returned (r.2.val β')) ∧ Below w.heap.size w w' := by
  have hwf : WfM st00 := ⟨by simp [st00], by simp [st00]⟩
  have hS : Mm w [] β st00 w := ⟨rfl, rfl, rfl, Nat.le_refl _, fun _ _ _ => rfl, by simp [st00], by simp [st00], by simp [st00], by simp [st00]⟩
  refine (hC Hid.bare st00 args K h hwf hb w [] β w hS).mono fun e w' ⟨β', st', v, hK, he, _, _, _, _, _, hS'⟩ => ?_
  exact ⟨⟨_, β', hK, he⟩, hS'.os, hS'.tape, hS'.output, hS'.size, fun k hk => hS'.keep k hk (by simp)⟩
theorem calls_true {P : Program} {f : Nat} {C : FC} (hC : FcOk P f C) {args : List AV} (hb : ∀ v ∈ args, AV.bd 0 v) (h : trueB (C Hid.bare st00 args).out = true) (β : Nat → Nat × Nat) (w : World) :
    Calls P f (args.map (AV.val β)).toArray w fun e w' => e = .returned (.bool true) ∧ Below w.heap.size w w' :=
  (calls_out hC hb (trueB_out h) β w).mono fun e w' ⟨⟨r, β', hr, he⟩, hw⟩ => ⟨by rw [he, hr β'], hw⟩
/-- 'true', of no arguments -/
def cTrue : PC := fun _ _ args => match args with
  | [] => .ret (.e (.x (.lb true)))
  | _ => .fail
theorem cTrue_ok {P : Program} {f : Nat} (h : ∀ w, Calls P f #[] w fun e w' => e = .returned (.bool true) ∧ Below w.heap.size w w') : PcOk P f cTrue := by
  intro hd st args K hK hwf hargs
  unfold cTrue at hK
  split at hK
  · refine ⟨_, hK, by simp [AV.bd, EV.bd, SV.bd], fun w0 M β w hS => ?_⟩
    simpa [AV.val_e, EV.val_x, SV.val] using h w
  · exact False.elim hK
/-- contracts of functions that write nothing, by number -/
def lookG : List (Nat × PC) → Nat → Option PC
  | [], _ => none
  | q :: l, n => bif Nat.beq q.1 n then some q.2 else lookG l n
theorem lookG_mem : ∀ {l : List (Nat × PC)} {i : Nat} {C : PC}, lookG l i = some C → (i, C) ∈ l
  | [], _, _, h => by simp [lookG] at h
  | q :: l, i, C, h => by
    unfold lookG at h
    cases e : Nat.beq q.1 i with
    | true =>
      rw [e] at h; cases h
      rw [← Nat.eq_of_beq_eq_true e]; exact List.mem_cons_self
    | false => rw [e] at h; exact List.mem_cons_of_mem _ (lookG_mem h)
theorem lookG_ok {P : Program} {l : List (Nat × PC)} (h : ∀ q ∈ l, PcOk P q.1 q.2 ∧ Bodied P q.1) : GOk P (lookG l) :=
  ⟨fun _ _ hC => (h _ (lookG_mem hC)).1, fun _ _ hC => (h _ (lookG_mem hC)).2⟩
end Go.Fe
