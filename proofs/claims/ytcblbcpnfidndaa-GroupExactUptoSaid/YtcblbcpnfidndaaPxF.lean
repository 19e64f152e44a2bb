/- Code and functions on typed values. -/
import Derived.Test.YtcblbcpnfidndaaPxE
set_option linter.unusedSimpArgs false
set_option linter.unusedVariables false
namespace Go.Abs
open Go

/-! ### Loops without a bound -/

def loopN {A D : Type} (f : A → Option (A ⊕ D)) : Nat → A → Option D
  | 0, _ => none
  | n + 1, a => match f a with
    | some (.inl a') => loopN f n a'
    | some (.inr d) => some d
    | none => none

open Classical in
/-- The result of a loop, however many rounds it takes (the first rounds are computed). -/
noncomputable def loopT {A D : Type} (f : A → Option (A ⊕ D)) (a : A) : Option D :=
  match loopN f 4096 a with
  | some d => some d
  | none => if h : ∃ d, ∃ n, loopN f n a = some d then some h.choose else none

section
variable {A D : Type} {f : A → Option (A ⊕ D)}

theorem loopN_succ : ∀ (n : Nat) (a : A) (d : D), loopN f n a = some d → loopN f (n + 1) a = some d := by
  intro n
  induction n with
  | zero => intro a d h; cases h
  | succ n ih =>
    intro a d h
    rw [loopN] at h ⊢
    split at h
    · rename_i a' e; exact ih a' d h
    · exact h
    · cases h
theorem loopN_le {n m : Nat} (hle : n ≤ m) {a : A} {d : D} (h : loopN f n a = some d) : loopN f m a = some d := by
  induction hle with
  | refl => exact h
  | step _ ih => exact loopN_succ _ _ _ ih

theorem loopN_det {n m : Nat} {a : A} {d e : D} (h : loopN f n a = some d) (h' : loopN f m a = some e) : d = e := by
  have h1 := loopN_le (Nat.le_max_left n m) h
  have h2 := loopN_le (Nat.le_max_right n m) h'
  rw [h1] at h2
  exact Option.some.inj h2

theorem loopT_iff {a : A} {d : D} : loopT f a = some d ↔ ∃ n, loopN f n a = some d := by
  unfold loopT
  split
  · rename_i e he
    exact ⟨fun h => ⟨_, h ▸ he⟩, fun ⟨n, h⟩ => by rw [loopN_det he h]⟩
  constructor
  · intro h
    split at h
    · rename_i hh
      cases h
      exact hh.choose_spec
    · cases h
  · rintro ⟨n, h⟩
    have hh : ∃ d, ∃ n, loopN f n a = some d := ⟨d, n, h⟩
    rw [dif_pos hh]
    obtain ⟨m, hm⟩ := hh.choose_spec
    have h1 := loopN_le (Nat.le_max_left n m) h
    have h2 := loopN_le (Nat.le_max_right n m) hm
    rw [h1] at h2
    exact h2.symm

theorem loopT_inr {a : A} {d : D} (h : f a = some (.inr d)) : loopT f a = some d := loopT_iff.2 ⟨1, by rw [loopN, h]⟩
theorem loopT_inl {a a' : A} (h : f a = some (.inl a')) : loopT f a = loopT f a' := by
  have key : ∀ d, loopT f a = some d ↔ loopT f a' = some d := by
    intro d
    rw [loopT_iff, loopT_iff]
    constructor
    · rintro ⟨n, hn⟩
      cases n with
      | zero => cases hn
      | succ n => rw [loopN, h] at hn; exact ⟨n, hn⟩
    · rintro ⟨n, hn⟩
      exact ⟨n + 1, by rw [loopN, h]; exact hn⟩
  cases h1 : loopT f a' with
  | none =>
    cases h2 : loopT f a with
    | none => rfl
    | some d => rw [(key d).1 h2] at h1; cases h1
  | some d => exact (key d).2 h1
end

/-! ### Ways out -/

def Outs.fit (m : Nat) : (o : Outs) → Ex → SSt → Tr o.den
  | .one e σ, e', s => .when (exEq e e') (Abs.fit m σ s)
  | .more e σ r, e', s => match exEq e e' with
    | true => (Abs.fit m σ s).map .inl
    | false => (Outs.fit m r e' s).map .inr

def Outs.split {α : Type} : (o : Outs) → o.den → (Ex → SSt → Tr α) → Tr α
  | .one e σ, d, k => k e (σ.un d)
  | .more e σ r, d, k => .cs d (fun x => k e (σ.un x)) (fun y => Outs.split r y k)

theorem exEq_spec {a b : Ex} (h : exEq a b = true) : a = b := by
  cases a <;> cases b <;> first | rfl | (cases h; done) | (simp [exEq] at h; rw [h])

theorem Outs.spec {α : Type} {m : Nat} {e : Ex} {s : SSt} {k : Ex → SSt → Tr α} {r : α} : ∀ (o : Outs) (d : o.den), (o.fit m e s).mean = some d → (o.split d k).mean = some r →
    ∃ (σ : Sg) (v : σ.den), (Abs.fit m σ s).mean = some v ∧ (k e (σ.un v)).mean = some r := by
  intro o
  induction o with
  | one e' σ =>
    intro d h1 h2
    obtain ⟨h3, h4⟩ := Tr.mean_when h1
    have := exEq_spec h3
    subst this
    exact ⟨σ, d, h4, h2⟩
  | more e' σ r ih =>
    intro d h1 h2
    simp only [Outs.fit] at h1
    split at h1
    · rename_i h3
      have := exEq_spec h3
      subst this
      obtain ⟨v, h4, rfl⟩ := Tr.mean_map h1
      exact ⟨σ, v, h4, h2⟩
    · obtain ⟨v, h4, rfl⟩ := Tr.mean_map h1
      exact ih v h4 h2

/-! ### Code -/

structure LAn where
  σ : Sg
  outs : Outs

/-- What a table says of a function's code: where paths are joined and in which shape; the shapes of loops; the tables for calls that are looked into. -/
structure FAn where
  reg : Nat → Option Sg := fun _ => none
  seq : Nat → Option (Sg × Option Outs) := fun _ => none
  loop : Nat → Option LAn := fun _ => none
  inl : Nat → Nat → Nat := fun _ _ => 0

noncomputable def execS (E : SEnv) (call : Nat → Nat → FuncId → SCall) (an : FAn) : Code → SSt → Tr (Ex × SSt)
  | .skip, s => .ret (.normal, s)
  | .region id ops draw, s => match an.reg id with
    | none => (runRegionS E (call id) id ops draw s).bind fun s => .ret (.normal, s)
    | some σ => .ask ((runRegionS E (call id) id ops draw s).bind fun s => fit E.keep σ s).mean fun v => .ret (.normal, σ.un v)
  | .seq a b, s => match an.seq (firstId b) with
    | none => (execS E call an a s).bind fun p => match p.1 with
      | .normal => execS E call an b p.2
      | e => .ret (e, p.2)
    | some (σ, none) => .ask ((execS E call an a s).bind fun p => match p.1 with
      | .normal => fit E.keep σ p.2
      | _ => .fail).mean fun v => execS E call an b (σ.un v)
    | some (σ, some o) => .ask ((execS E call an a s).bind fun p => match p.1 with
      | .normal => (fit E.keep σ p.2).bind fun v => .ret (Sum.inl v)
      | e => (o.fit E.keep e p.2).bind fun d => .ret (Sum.inr d)).mean fun r => .cs r (fun v => execS E call an b (σ.un v)) (fun d => o.split d fun e s => .ret (e, s))
  | .cond c a b, s => match evS s.fr c with
    | .bool p => .br p (execS E call an a s) (execS E call an b s)
    | _ => .fail
  | .block id b, s => (execS E call an b s).bind fun p => .ret (leave id p.1, p.2)
  | .scope b, s => execS E call an b s
  | .loop b, s => match an.loop (firstId b) with
    | some la => (fit E.keep la.σ s).bind fun v => .ask (loopT (fun v => ((execS E call an b (la.σ.un v)).bind fun p => match p.1 with
        | .normal => (fit E.keep la.σ p.2).bind fun v => .ret (Sum.inl v)
        | e => (la.outs.fit E.keep e p.2).bind fun d => .ret (Sum.inr d)).mean) v) fun d => la.outs.split d fun e s => .ret (e, s)
    | none => .fail
  | .exit id, s => .ret (.exit id, s)
  | .label _, s => .ret (.normal, s)
  | .ret, s => .ret (.ret, s)
  | _, _ => .fail

theorem Tr.mean_ask {α A : Type} {m : Option A} {k : A → Tr α} {b : α} (h : (Tr.ask m k).mean = some b) : ∃ a, m = some a ∧ (k a).mean = some b := Option.bind_eq_some_iff.1 h

section
variable {E : SEnv} {call : Nat → Nat → FuncId → SCall} {an : FAn}

theorem execS_spec (hm : E.P.follows .mixedOrders = true) (hc : ∀ r i f, CallOK E.P f (call r i f)) : ∀ (c : Code), okCode E.pairs c = true → ∀ (s s' : SSt) (e : Ex), (execS E call an c s).mean = some (e, s') → ∀ ℓ' : Lens, Agr ℓ' s'.hp →
    ∃ ℓ, Agr ℓ s.hp ∧ To E.P E.nt E.keep c (dS ℓ s) e (dS ℓ' s') := by
  have fitted : ∀ {c : Code} {s s1 s' : SSt} {e : Ex} {σ : Sg} {v : σ.den}, (∀ ℓ' : Lens, Agr ℓ' s1.hp → ∃ ℓ, Agr ℓ s.hp ∧ To E.P E.nt E.keep c (dS ℓ s) e (dS ℓ' s1)) → (fit E.keep σ s1).mean = some v → σ.un v = s' →
      ∀ ℓ' : Lens, Agr ℓ' s'.hp → ∃ ℓ, Agr ℓ s.hp ∧ To E.P E.nt E.keep c (dS ℓ s) e (dS ℓ' s') := by
    intro c s s1 s' e σ v h hf hs ℓ' ha
    subst hs
    obtain ⟨l1, a1, w1⟩ := fit_spec (nt := E.nt) hf ha
    obtain ⟨l0, a0, t0⟩ := h l1 a1
    exact ⟨l0, a0, t0.post w1⟩
  intro c
  induction c with
  | skip =>
    intro _ s s' e h ℓ' ha
    have := Tr.mean_ret h
    cases this
    exact ⟨ℓ', ha, To.skip⟩
  | label l =>
    intro _ s s' e h ℓ' ha
    have := Tr.mean_ret h
    cases this
    exact ⟨ℓ', ha, To.label⟩
  | exit id =>
    intro _ s s' e h ℓ' ha
    have := Tr.mean_ret h
    cases this
    exact ⟨ℓ', ha, To.exit⟩
  | ret =>
    intro _ s s' e h ℓ' ha
    have := Tr.mean_ret h
    cases this
    exact ⟨ℓ', ha, To.ret⟩
  | region id ops draw =>
    intro hok s s' e h
    have run : ∀ s1, (runRegionS E (call id) id ops draw s).mean = some s1 → ∀ ℓ' : Lens, Agr ℓ' s1.hp → ∃ ℓ, Agr ℓ s.hp ∧ To E.P E.nt E.keep (.region id ops draw) (dS ℓ s) .normal (dS ℓ' s1) := by
      intro s1 h1 ℓ' ha
      obtain ⟨a1, calls, c1, c2⟩ := runRegionS_spec (ℓ := ℓ') (hc id) h1 ha
      refine ⟨ℓ', a1, ?_⟩
      have := c2 ⟨E.P, E.N, calls, E.nt, E.locs, E.pairs, E.keep⟩ ⟨rfl, rfl, rfl, rfl, rfl, rfl⟩ rfl
      exact To.region (E := ⟨E.P, E.N, calls, E.nt, E.locs, E.pairs, E.keep⟩) c1 hm hok this
    simp only [execS] at h
    split at h
    · obtain ⟨s1, h1, h2⟩ := Tr.mean_bind h
      have := Tr.mean_ret h2
      simp only [Prod.mk.injEq] at this
      obtain ⟨rfl, rfl⟩ := this
      exact run _ h1
    · obtain ⟨v, h1, h2⟩ := Tr.mean_ask h
      have := Tr.mean_ret h2
      cases this
      obtain ⟨s1, h3, h4⟩ := Tr.mean_bind h1
      exact fitted (run s1 h3) h4 rfl
  | seq x y ihx ihy =>
    intro hok s s' e h
    simp only [okCode, Bool.and_eq_true] at hok
    have both : ∀ {s1 : SSt}, (∀ ℓ' : Lens, Agr ℓ' s1.hp → ∃ ℓ, Agr ℓ s.hp ∧ To E.P E.nt E.keep x (dS ℓ s) .normal (dS ℓ' s1)) → (execS E call an y s1).mean = some (e, s') →
        ∀ ℓ' : Lens, Agr ℓ' s'.hp → ∃ ℓ, Agr ℓ s.hp ∧ To E.P E.nt E.keep (.seq x y) (dS ℓ s) e (dS ℓ' s') := by
      intro s1 h1 h2 ℓ' ha
      obtain ⟨l1, a1, t1⟩ := ihy hok.2 s1 s' e h2 ℓ' ha
      obtain ⟨l0, a0, t0⟩ := h1 l1 a1
      exact ⟨l0, a0, t0.seq t1⟩
    have out : ∀ {e1 : Ex} {s1 : SSt}, e1 ≠ .normal → (∀ ℓ' : Lens, Agr ℓ' s1.hp → ∃ ℓ, Agr ℓ s.hp ∧ To E.P E.nt E.keep x (dS ℓ s) e1 (dS ℓ' s1)) →
        ∀ ℓ' : Lens, Agr ℓ' s1.hp → ∃ ℓ, Agr ℓ s.hp ∧ To E.P E.nt E.keep (.seq x y) (dS ℓ s) e1 (dS ℓ' s1) := by
      intro e1 s1 he h1 ℓ' ha
      obtain ⟨l0, a0, t0⟩ := h1 ℓ' ha
      exact ⟨l0, a0, t0.seq_out he⟩
    simp only [execS] at h
    split at h
    · obtain ⟨⟨e1, s1⟩, h1, h2⟩ := Tr.mean_bind h
      cases e1 with
      | normal => exact both (ihx hok.1 s s1 _ h1) h2
      | exit id =>
        have := Tr.mean_ret h2
        cases this
        exact out (fun e => by cases e) (ihx hok.1 s s1 _ h1)
      | ret =>
        have := Tr.mean_ret h2
        cases this
        exact out (fun e => by cases e) (ihx hok.1 s s1 _ h1)
    · obtain ⟨v, h1, h2⟩ := Tr.mean_ask h
      obtain ⟨⟨e1, s1⟩, h3, h4⟩ := Tr.mean_bind h1
      cases e1 with
      | normal => exact both (fitted (ihx hok.1 s s1 _ h3) h4 rfl) h2
      | exit id => exact (Tr.mean_fail h4).elim
      | ret => exact (Tr.mean_fail h4).elim
    · rename_i σ o _
      obtain ⟨rr, h1, h2⟩ := Tr.mean_ask h
      obtain ⟨⟨e1, s1⟩, h3, h4⟩ := Tr.mean_bind h1
      have left : ∀ {e1 : Ex}, e1 ≠ .normal → (execS E call an x s).mean = some (e1, s1) → ((o.fit E.keep e1 s1).bind fun d => .ret (Sum.inr d)).mean = some rr →
          ∀ ℓ' : Lens, Agr ℓ' s'.hp → ∃ ℓ, Agr ℓ s.hp ∧ To E.P E.nt E.keep (.seq x y) (dS ℓ s) e (dS ℓ' s') := by
        intro e1 he h3 h4
        obtain ⟨d, h5, h6⟩ := Tr.mean_bind h4
        have := Tr.mean_ret h6
        subst this
        obtain ⟨σ', v, h7, h8⟩ := Outs.spec o d h5 h2
        have := Tr.mean_ret h8
        cases this
        exact out he (fitted (ihx hok.1 s s1 _ h3) h7 rfl)
      cases e1 with
      | normal =>
        obtain ⟨v, h5, h6⟩ := Tr.mean_bind h4
        have := Tr.mean_ret h6
        subst this
        exact both (fitted (ihx hok.1 s s1 _ h3) h5 rfl) h2
      | exit id => exact left (fun e => by cases e) h3 h4
      | ret => exact left (fun e => by cases e) h3 h4
  | cond c x y ihx ihy =>
    intro hok s s' e h ℓ' ha
    simp only [okCode, Bool.and_eq_true] at hok
    simp only [execS] at h
    split at h
    · rename_i p hp
      have hev : ∀ ℓ, evO (dS ℓ s).fr c = .bool p := fun ℓ => by
        rw [show evO (dS ℓ s).fr c = dV ℓ (evS s.fr c) from (evS_d ℓ s.fr c).symm, hp]; rfl
      cases p with
      | true =>
        obtain ⟨l0, a0, t0⟩ := ihx hok.1 s s' e h ℓ' ha
        exact ⟨l0, a0, To.cond (hev l0) (by simpa using t0)⟩
      | false =>
        obtain ⟨l0, a0, t0⟩ := ihy hok.2 s s' e h ℓ' ha
        exact ⟨l0, a0, To.cond (hev l0) (by simpa using t0)⟩
    · exact (Tr.mean_fail h).elim
  | block id b ih =>
    intro hok s s' e h ℓ' ha
    obtain ⟨⟨e1, s1⟩, h1, h2⟩ := Tr.mean_bind h
    have := Tr.mean_ret h2
    cases this
    obtain ⟨l0, a0, t0⟩ := ih (by simpa [okCode] using hok) s s1 e1 h1 ℓ' ha
    exact ⟨l0, a0, t0.block⟩
  | scope b ih =>
    intro hok s s' e h ℓ' ha
    obtain ⟨l0, a0, t0⟩ := ih (by simpa [okCode] using hok) s s' e h ℓ' ha
    exact ⟨l0, a0, t0.scope⟩
  | loop b ih =>
    intro hok s s' e h
    have hok' : okCode E.pairs b = true := by simpa [okCode] using hok
    simp only [execS] at h
    split at h
    · rename_i la hla
      obtain ⟨v, h1, h2⟩ := Tr.mean_bind h
      obtain ⟨d, h3, h4⟩ := Tr.mean_ask h2
      obtain ⟨n, hn⟩ := loopT_iff.1 h3
      -- the rounds
      have key : ∀ (n : Nat) (v : la.σ.den), loopN (fun v => ((execS E call an b (la.σ.un v)).bind fun p => match p.1 with
          | .normal => (fit E.keep la.σ p.2).bind fun v => .ret (Sum.inl v)
          | e => (la.outs.fit E.keep e p.2).bind fun d => .ret (Sum.inr d)).mean) n v = some d →
          ∀ ℓ' : Lens, Agr ℓ' s'.hp → ∃ ℓ, Agr ℓ (la.σ.un v).hp ∧ Iter E.P E.nt E.keep b (dS ℓ (la.σ.un v)) e (dS ℓ' s') := by
        intro n
        induction n with
        | zero => intro v h; cases h
        | succ n ihn =>
          intro v h ℓ' ha
          rw [loopN] at h
          have left : ∀ {e1 : Ex} {s1 : SSt}, e1 ≠ .normal → (execS E call an b (la.σ.un v)).mean = some (e1, s1) → ((la.outs.fit E.keep e1 s1).bind fun d => .ret (Sum.inr (α := la.σ.den) d)).mean = some (Sum.inr d) →
              ∃ ℓ, Agr ℓ (la.σ.un v).hp ∧ Iter E.P E.nt E.keep b (dS ℓ (la.σ.un v)) e (dS ℓ' s') := by
            intro e1 s1 he h5 h6
            obtain ⟨d', h7, h8⟩ := Tr.mean_bind h6
            have := Tr.mean_ret h8
            cases this
            obtain ⟨σ', v', h9, h10⟩ := Outs.spec la.outs d h7 h4
            have := Tr.mean_ret h10
            cases this
            obtain ⟨l0, a0, t0⟩ := fitted (ih hok' _ s1 _ h5) h9 rfl ℓ' ha
            exact ⟨l0, a0, .out t0 he⟩
          split at h
          · rename_i v' hv'
            obtain ⟨⟨e1, s1⟩, h5, h6⟩ := Tr.mean_bind hv'
            cases e1 with
            | normal =>
              obtain ⟨v2, h7, h8⟩ := Tr.mean_bind h6
              have := Sum.inl.inj (Tr.mean_ret h8)
              subst this
              obtain ⟨l1, a1, t1⟩ := ihn v2 h ℓ' ha
              obtain ⟨l0, a0, t0⟩ := fitted (ih hok' _ s1 _ h5) h7 rfl l1 a1
              exact ⟨l0, a0, .next t0 t1⟩
            | exit id => obtain ⟨_, _, h8⟩ := Tr.mean_bind h6; have := Tr.mean_ret h8; cases this
            | ret => obtain ⟨_, _, h8⟩ := Tr.mean_bind h6; have := Tr.mean_ret h8; cases this
          · rename_i d' hd'
            cases h
            obtain ⟨⟨e1, s1⟩, h5, h6⟩ := Tr.mean_bind hd'
            cases e1 with
            | normal => obtain ⟨_, _, h8⟩ := Tr.mean_bind h6; have := Tr.mean_ret h8; cases this
            | exit id => exact left (fun e => by cases e) h5 h6
            | ret => exact left (fun e => by cases e) h5 h6
          · cases h
      intro ℓ' ha
      obtain ⟨l1, a1, i1⟩ := key n v hn ℓ' ha
      obtain ⟨l0, a0, w0⟩ := fit_spec (nt := E.nt) h1 a1
      exact ⟨l0, a0, (To.loop i1).pre w0⟩
    · exact (Tr.mean_fail h).elim
  | _ =>
    intro _ s s' e h
    exact (Tr.mean_fail h).elim

end
end Go.Abs
