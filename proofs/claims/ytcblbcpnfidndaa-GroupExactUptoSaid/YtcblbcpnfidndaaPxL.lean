/- slices.Clone: the copy of a row, whatever nil is. -/
import Derived.Test.YtcblbcpnfidndaaPxK
set_option linter.unusedSimpArgs false
set_option linter.unusedVariables false
namespace Go.Abs
open Go

def lose : AV → AV
  | .slc _ => .lst 0 [] false
  | v => v
def loseS (s : St) : St := { fr := s.fr.map fun p => (p.1, lose p.2), hp := s.hp }

theorem VW.lose {H : Heap} (x : AV) : VW H H x (lose x) := by
  cases x with
  | slc b =>
    intro Y w ρ v hr hv
    cases hv with
    | pur v x h => cases h with
      | slc a cap => exact .pur _ _ (.lst0 a cap 0 false (fun e => by cases e))
  | _ => exact VW.refl _ _

theorem look_lose (t : Nat) : ∀ fr : Fr, look (fr.map fun p => (p.1, lose p.2)) t = lose (look fr t) := by
  intro fr
  induction fr with
  | nil => rfl
  | cons p r ih =>
    simp only [List.map_cons, look]
    split
    · rfl
    · exact ih

theorem Weak.lose {nt m : Nat} (s : St) : Weak nt m s (loseS s) :=
  Weak.of (HW.refl _) fun t => by
    simp only [loseS, look_lose]
    exact VW.lose _

/-- Code without loops, on abstract values. -/
def execA (E : Env) : Code → St → Option (Ex × St)
  | .skip, s => some (.normal, s)
  | .label _, s => some (.normal, s)
  | .exit i, s => some (.exit i, s)
  | .ret, s => some (.ret, s)
  | .region id ops draw, s => match okCode E.pairs (.region id ops draw) with
    | true => (runRegion E id ops draw s).map fun s => (.normal, s)
    | false => none
  | .seq a b, s => match execA E a s with
    | some (.normal, s1) => execA E b s1
    | some (e, s1) => some (e, s1)
    | none => none
  | .cond o x y, s => match evO s.fr o with
    | .bool true => execA E x (loseS s)
    | .bool false => execA E y (loseS s)
    | _ => none
  | .block id b, s => match execA E b s with
    | some (e, s1) => some (leave id e, s1)
    | none => none
  | _, _ => none

theorem execA_to {E : Env} (hS : ∀ i, Sound E.P (E.call i)) (hm : E.P.follows .mixedOrders = true) : ∀ (c : Code) (s : St) (e : Ex) (s' : St), execA E c s = some (e, s') → To E.P E.nt E.keep c s e s' := by
  intro c
  induction c with
  | skip => intro s e s' h; cases h; exact To.skip
  | label _ => intro s e s' h; cases h; exact To.label
  | exit i => intro s e s' h; cases h; exact To.exit
  | ret => intro s e s' h; cases h; exact To.ret
  | region id ops draw =>
    intro s e s' h
    simp only [execA] at h
    split at h
    · rename_i hok
      obtain ⟨s1, h1, h2⟩ := Option.map_eq_some_iff.1 h
      cases h2
      exact To.region hS hm hok h1
    · cases h
  | seq a b iha ihb =>
    intro s e s' h
    simp only [execA] at h
    split at h
    · rename_i s1 h1
      exact (iha _ _ _ h1).seq (ihb _ _ _ h)
    · rename_i e1 s1 hne h1
      cases h
      exact (iha _ _ _ h1).seq_out (fun he => hne he)
    · cases h
  | cond o x y ihx ihy =>
    intro s e s' h
    simp only [execA] at h
    split at h
    · rename_i hp
      exact To.cond hp ((ihx _ _ _ h).pre (Weak.lose s))
    · rename_i hp
      exact To.cond hp ((ihy _ _ _ h).pre (Weak.lose s))
    · cases h
  | block id b ih =>
    intro s e s' h
    simp only [execA] at h
    split at h
    · rename_i e1 s1 h1
      cases h
      exact To.block (ih _ _ _ h1)
    · cases h
  | _ => intro s e s' h; cases h

theorem To.split {P : Program} {nt keep sz : Nat} {H : Heap} {c : Code} {e : Ex} {s' : St} (hT : ∀ b, To P nt keep c { fr := [(0, .slc b)], hp := H } e s') : To P nt keep c { fr := [(0, .lst sz [] false)], hp := H } e s' := by
  intro Y a w ρ Q hsr hQ
  have h0 := hsr.fr 0
  simp only [look, if_true] at h0
  have hv : ∃ ad cap, a.tmps.getD 0 undef = .slice ad 0 cap := by
    generalize a.tmps.getD 0 undef = v at h0
    cases h0 with
    | pur v x h => cases h with
      | lst0 ad cap sz t ht => exact ⟨_, _, rfl⟩
      | lst b o n cap sz t xs f hn hc ht hsz hx hr => simp only [List.length_nil] at hn; subst hn; exact ⟨_, _, rfl⟩
  obtain ⟨ad, cap, hv⟩ := hv
  refine hT ad.isNone Y a w ρ Q ⟨hsr.1, hsr.2, fun t => ?_, hsr.4⟩ hQ
  simp only [look]
  split
  · rename_i ht
    subst ht
    rw [hv]
    exact .pur _ _ (.slc ad cap)
  · exact .undef _

/-! ### The copy of a row -/

def iC (t : Ty) : Sg := ⟨[0], .dat (.row t) .nil, .nil⟩
def oC (t : Ty) : Sg := ⟨[2], .st (.own t (0, 0)) .nil, .arr t false .nil⟩
/-- The copy, where a length is at most 2^32. -/
def mC (t : Ty) (v : (List t.den × Unit) × Unit) : Option (Unit × (List t.den × Unit)) :=
  bif decide (v.1.1.length ≤ 4294967296) then some ((), (v.1.1, ())) else none
def spC (t : Ty) : Spec := ⟨0, iC t, oC t, mC t⟩
/-- The copy of a row that is not empty. -/
def mP (t : Ty) (v : (List t.den × Unit) × Unit) : Option (Unit × (List t.den × Unit)) :=
  bif decide (0 < v.1.1.length) then (bif decide (([] : List t.den).length + v.1.1.length ≤ 4294967296) then some ((), ([] ++ v.1.1, ())) else none) else none
def spP (t : Ty) : Spec := ⟨0, iC t, oC t, mP t⟩

def noCall : CL := fun _ _ _ => none
theorem noCall_sound (P : Program) : Sound P noCall := fun _ _ _ _ h => by cases h
def envA (P : Program) (N : FuncId → Note) (f : FuncId) (fn : Func) : Env := { P, N, call := fun _ => noCall, nt := fn.ntmps, locs := (N f).locs, pairs := (N f).pairs, keep := 0 }

def target (t : Ty) : St := { fr := [(2, .own (0, 0) t.size 0 0)], hp := [[some ⟨t.size, [], 0, false⟩]] }
def isOwn (n : Nat) : AV → Bool
  | .own g sz off len => decide (g = (0, 0) ∧ sz = n ∧ off = 0 ∧ len = 0)
  | _ => false
def isBlk (n : Nat) : Option Blk → Bool
  | some ⟨sz, [], 0, false⟩ => decide (sz = n)
  | _ => false
def isNilRow : AV → Bool
  | .lst _ [] true => true
  | _ => false
/-- The result of an empty row's copy: nil, or an empty block of its own. -/
def endOK (t : Ty) (s : St) : Bool :=
  (isNilRow (look s.fr 2) && s.hp.isEmpty) || match tidy 0 { fr := [(2, look s.fr 2)], hp := s.hp } with
    | { fr := [(2, x)], hp := [[b]] } => isOwn t.size x && isBlk t.size b
    | _ => false
def emptyOK (P : Program) (N : FuncId → Note) (f : FuncId) (t : Ty) (b : Bool) : Bool :=
  match P.funcs[f]? with
  | some fn => match fn.body with
    | some body => match execA (envA P N f fn) body { fr := [(0, .slc b)], hp := [] } with
      | some (.ret, s) => endOK t s
      | _ => false
    | none => false
  | none => false

theorem Weak.drop {nt : Nat} (s : St) : Weak nt 0 s { fr := [(2, look s.fr 2)], hp := s.hp } :=
  Weak.of (HW.refl _) fun t => by
    simp only [look]
    split
    · rename_i h; subst h; exact VW.refl _ _
    · exact VW.undef

theorem endOK_weak {nt : Nat} {t : Ty} {s : St} (h : endOK t s = true) : Weak nt 0 s (target t) := by
  unfold endOK at h
  rw [Bool.or_eq_true] at h
  rcases h with h | h
  · rw [Bool.and_eq_true] at h
    obtain ⟨h1, h2⟩ := h
    refine (Weak.drop s).trans ?_
    have hp : s.hp = [] := by simpa using h2
    rw [hp]
    refine Weak.of (HW.grow [] t.size) fun k => ?_
    simp only [look, target]
    split
    · generalize look s.fr 2 = x at h1
      unfold isNilRow at h1
      split at h1
      · exact VW.virt
      · cases h1
    · exact VW.undef
  · split at h
    · rename_i x b he
      rw [Bool.and_eq_true] at h
      obtain ⟨h1, h2⟩ := h
      refine (Weak.drop s).trans ?_
      have e1 : target t = tidy 0 { fr := [(2, look s.fr 2)], hp := s.hp } := by
        rw [he]
        unfold isOwn at h1
        unfold isBlk at h2
        split at h1
        · split at h2
          · have h1 := of_decide_eq_true h1
            have h2 := of_decide_eq_true h2
            obtain ⟨rfl, rfl, rfl, rfl⟩ := h1
            subst h2
            rfl
          · cases h2
        · cases h1
      rw [e1]
      exact Weak.tidy _
    · cases h

theorem clone_ok {P : Program} {N : FuncId → Note} {f : FuncId} {t : Ty} (hm : P.follows .mixedOrders = true) (hp : SpecOK P f (spP t)) (h0 : emptyOK P N f t false = true) (h1 : emptyOK P N f t true = true) : SpecOK P f (spC t) := by
  intro fn body hfn hbody v u hv ℓ' ha
  obtain ⟨⟨l, u1⟩, u2⟩ := v
  simp only [spC, mC] at hv
  cases hl : decide (l.length ≤ 4294967296) with
  | false => rw [hl] at hv; cases hv
  | true =>
    rw [hl] at hv
    have hv := Option.some.inj hv
    subst hv
    cases l with
    | cons a r =>
      refine hp fn body hfn hbody ((a :: r, u1), u2) ((), (a :: r, ())) ?_ ℓ' ha
      have hl2 := of_decide_eq_true hl
      simp only [spP, mP]
      simp only [List.length_cons] at hl2 ⊢
      simp only [Nat.zero_lt_succ, decide_true, cond_true, List.length_nil, Nat.zero_add, hl2]
      rfl
    | nil =>
      refine ⟨fun _ => 0, ?_, .ret, .inr rfl, ?_⟩
      · intro g b hg; simp [spC, iC, Sg.un, Bks.un, getS] at hg
      · have ht : dS ℓ' ((spC t).σo.un ((), ([], ()))) = target t := by
          have h2 := ha (0, 0) (.arr t [] (fzOf false)) rfl
          simp only [SB.len, List.length_nil] at h2
          simp only [dS, dF, dH, spC, oC, Sg.un, Sh.un, Bks.un, zipFr, Stt.un, List.map_cons, List.map_nil, target, dV, dA, dC, d1, h2]
          rfl
        have key : ∀ b, To P fn.ntmps 0 body { fr := [(0, .slc b)], hp := [] } .ret (target t) := by
          intro b
          have hb : emptyOK P N f t b = true := by cases b <;> assumption
          simp only [emptyOK, hfn, hbody] at hb
          split at hb
          · rename_i s hs
            exact (execA_to (E := envA P N f fn) (fun _ => noCall_sound P) hm body _ _ _ hs).post (endOK_weak hb)
          · cases hb
        have goal : To P fn.ntmps 0 body { fr := [(0, .lst 0 [] false)], hp := [] } .ret (target t) := To.split key
        rw [← ht] at goal
        exact goal

end Go.Abs
