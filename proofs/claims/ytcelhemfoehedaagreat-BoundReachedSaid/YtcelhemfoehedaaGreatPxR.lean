/- Plain aids: rows, loops. -/
import Derived.Test.YtcelhemfoehedaaGreatPxK
set_option linter.unusedSimpArgs false
set_option linter.unusedVariables false
namespace Go.Plain
open Go Go.Abs

/-- What joins and conditions need. -/
theorem sS : (∀ h : Decidable True, @decide True h = true) ∧ (∀ h : Decidable False, @decide False h = false) ∧ (∀ {α : Type} (a b : α), cond true a b = a) ∧ (∀ {α : Type} (a b : α), cond false a b = b) ∧ (∀ {α β : Type} (a : α) (f : α → Option β), (some a).bind f = f a) ∧ (!true) = false ∧ (!false) = true ∧ (∀ b : Bool, (true && b) = b) ∧ (∀ b : Bool, (b && true) = b) ∧ (∀ b : Bool, (false && b) = false) ∧ (∀ b : Bool, (b && false) = false) ∧ (∀ {α : Type} [BEq α] [LawfulBEq α] (a : α), (a == a) = true) ∧ (∀ {α : Type} [BEq α] [LawfulBEq α] (a : α), (a != a) = false) :=
  ⟨fun _ => decide_true _, fun _ => decide_false _, fun _ _ => rfl, fun _ _ => rfl, fun _ _ => rfl, rfl, rfl, Bool.true_and, Bool.and_true, Bool.false_and, Bool.and_false, fun _ => beq_self_eq_true _, fun _ => bne_self_eq_false _⟩

/-- An element of a row, without the proof that it is one. -/
def rowG {A B : Type} (l : List A) (n : Int) (F : A → Option B) : Option B := bif decide (0 ≤ n) then (l[n.toNat]?).bind F else none

theorem rowAt_G {A B : Type} {l : List A} {n : Int} (F : A → Option B) : Abs.rowAt l n (fun e _ => F e) = rowG l n F := by
  unfold Abs.rowAt rowG
  cases l[n.toNat]? <;> rfl

theorem rowG_nat {A B : Type} {l : List A} {i : Nat} {e : A} (h : l[i]? = some e) (F : A → Option B) : rowG l (i : Int) F = F e := by
  unfold rowG
  rw [show decide (0 ≤ (i : Int)) = true from decide_eq_true (by omega), Int.toNat_natCast, h]; rfl

theorem rowG_int {A B : Type} {l : List A} {n : Int} {e : A} (h0 : 0 ≤ n) (h : l[n.toNat]? = some e) (F : A → Option B) : rowG l n F = F e := by
  unfold rowG
  rw [show decide (0 ≤ n) = true from decide_eq_true h0, h]; rfl

theorem w64_nat {i : Nat} (h : i < 9223372036854775807) : w64 ((i : Int) + 1) = ((i + 1 : Nat) : Int) := by rw [w64_id (by omega) (by omega)]; omega

theorem drop_at {A : Type} {l : List A} {i : Nat} (h : i < l.length) : ∃ e, l[i]? = some e ∧ l.drop i = e :: l.drop (i + 1) :=
  ⟨l[i], List.getElem?_eq_getElem h, List.drop_eq_getElem_cons h⟩

theorem getD_some {A : Type} {l : List A} {i : Nat} (h : i < l.length) : ∃ e, l[i]? = some e := ⟨_, List.getElem?_eq_getElem h⟩

theorem bind_of {A B : Type} {o : Option A} {f : A → Option B} {y : Option B} (x : A) (h : o = some x) (h2 : f x = y) : o.bind f = y := by rw [h]; exact h2

theorem bind_ex {A B : Type} {o : Option A} {f : A → Option B} {P : A → Prop} {Q : B → Prop} (h : ∃ a, o = some a ∧ P a) (h2 : ∀ a, P a → ∃ b, f a = some b ∧ Q b) : ∃ b, o.bind f = some b ∧ Q b := by
  obtain ⟨a, rfl, ha⟩ := h
  exact h2 a ha

def runL {S E B : Type} (step : Nat → S → E → S ⊕ B) (fin : S → B) : Nat → List E → S → B
  | _, [], s => fin s
  | i, e :: r, s => match step i s e with
    | .inl s' => runL step fin (i + 1) r s'
    | .inr b => b

theorem loop_list {A B S E : Type} {f : A → Option (A ⊕ B)} (l : List E) (st : Nat → S → A) (step : Nat → S → E → S ⊕ B) (fin : S → B) (I : Nat → S → Prop)
    (h1 : ∀ i e s, l[i]? = some e → i < l.length → I i s → f (st i s) = some (match step i s e with | .inl s' => .inl (st (i + 1) s') | .inr b => .inr b))
    (hI : ∀ i e s s', l[i]? = some e → I i s → step i s e = .inl s' → I (i + 1) s')
    (h2 : ∀ s, I l.length s → f (st l.length s) = some (.inr (fin s))) :
    ∀ (k i : Nat) (s : S), i + k = l.length → I i s → loopT f (st i s) = some (runL step fin i (l.drop i) s) := by
  intro k
  induction k with
  | zero =>
    intro i s h hi
    obtain rfl : i = l.length := by omega
    rw [List.drop_length]
    exact loopT_inr (h2 s hi)
  | succ k ih =>
    intro i s h hi
    obtain ⟨e, he, hd⟩ := drop_at (l := l) (i := i) (by omega)
    have q := h1 i e s he (by omega) hi
    rw [hd]
    unfold runL
    cases hs : step i s e with
    | inl s' =>
      rw [hs] at q
      simp only
      rw [← ih (i + 1) s' (by omega) (hI i e s s' he hi hs)]
      exact loopT_inl q
    | inr b =>
      rw [hs] at q
      exact loopT_inr q

theorem loop_list0 {A B S E : Type} {f : A → Option (A ⊕ B)} (l : List E) (st : Nat → S → A) (step : Nat → S → E → S ⊕ B) (fin : S → B)
    (h1 : ∀ i e s, l[i]? = some e → i < l.length → f (st i s) = some (match step i s e with | .inl s' => .inl (st (i + 1) s') | .inr b => .inr b))
    (h2 : ∀ s, f (st l.length s) = some (.inr (fin s))) (s : S) : loopT f (st 0 s) = some (runL step fin 0 l s) := by
  have := loop_list l st step fin (fun _ _ => True) (fun i e s he hl _ => h1 i e s he hl) (fun _ _ _ _ _ _ _ => trivial) (fun s _ => h2 s) l.length 0 s (by omega) trivial
  rwa [List.drop_zero] at this

theorem runL_fold {S E B : Type} (g : S → E → S) (fin : S → B) : ∀ (l : List E) (i : Nat) (s : S), runL (fun _ s e => .inl (g s e)) fin i l s = fin (l.foldl g s) := by
  intro l
  induction l with
  | nil => intro i s; rfl
  | cons e r ih => intro i s; exact ih (i + 1) (g s e)

/-- A loop that goes through the whole row. -/
theorem loop_thru {A B E : Type} {f : A → Option (A ⊕ B)} (l : List E) (st : Nat → A) (fin : B)
    (h1 : ∀ i e, l[i]? = some e → i < l.length → f (st i) = some (.inl (st (i + 1)))) (h2 : f (st l.length) = some (.inr fin)) : loopT f (st 0) = some fin := by
  have := loop_list0 (S := Unit) l (fun i _ => st i) (fun _ _ _ => .inl ()) (fun _ => fin) (fun i e _ he hi => h1 i e he hi) (fun _ => h2) ()
  exact this.trans (congrArg some (runL_fold (fun _ _ => ()) (fun _ => fin) l 0 ()))

/-- A loop of a known number of rounds. -/
theorem loop_ind {A B : Type} {f : A → Option (A ⊕ B)} {Q : B → Prop} (I : Nat → A → Prop) (n : Nat)
    (h1 : ∀ i a, i < n → I i a → ∃ a', f a = some (.inl a') ∧ I (i + 1) a') (h2 : ∀ a, I n a → ∃ b, f a = some (.inr b) ∧ Q b) : ∀ a, I 0 a → ∃ b, loopT f a = some b ∧ Q b := by
  have : ∀ (k i : Nat) a, i + k = n → I i a → ∃ b, loopT f a = some b ∧ Q b := by
    intro k
    induction k with
    | zero =>
      intro i a h hi
      obtain rfl : i = n := by omega
      obtain ⟨b, h, hq⟩ := h2 a hi
      exact ⟨b, loopT_inr h, hq⟩
    | succ k ih =>
      intro i a h hi
      obtain ⟨a', h, hi'⟩ := h1 i a (by omega) hi
      obtain ⟨b, hb, hq⟩ := ih (i + 1) a' (by omega) hi'
      exact ⟨b, by rw [← hb]; exact loopT_inl h, hq⟩
  exact fun a h => this n 0 a (by omega) h

theorem lt_t {i n : Nat} (h : i < n) : decide ((i : Int) < (n : Int)) = true := decide_eq_true (by omega)

theorem lt_f (n : Nat) : decide ((n : Int) < (n : Int)) = false := decide_eq_false (by omega)

/-- A loop that ends at the first element of a kind. -/
theorem runL_any {E B : Type} (p : E → Bool) (b : Nat → B) (fin : B) : ∀ (l : List E) (i : Nat), ∃ j, i ≤ j ∧ runL (fun i (_ : Unit) e => bif p e then .inr (b i) else .inl ()) (fun _ => fin) i l () = bif l.any p then b j else fin := by
  intro l
  induction l with
  | nil => intro i; exact ⟨i, Nat.le_refl _, rfl⟩
  | cons e r ih =>
    intro i
    cases h : p e
    · obtain ⟨j, h1, h2⟩ := ih (i + 1)
      refine ⟨j, by omega, ?_⟩
      simp only [runL, h, cond_false, List.any_cons, Bool.false_or]
      exact h2
    · exact ⟨i, Nat.le_refl _, by simp only [runL, h, cond_true, List.any_cons, Bool.true_or]⟩

theorem any_not {E : Type} (p : E → Bool) (l : List E) : (l.any fun e => !p e) = !l.all p := by
  induction l with
  | nil => rfl
  | cons e r ih => rw [List.any_cons, List.all_cons, ih, Bool.not_and]

def okP {E : Type} (bad : Option E → E → Bool) : Option E → List E → Bool
  | _, [] => true
  | p, e :: r => !bad p e && okP bad (some e) r

theorem loop_prev {A B E : Type} {f : A → Option (A ⊕ B)} (l : List E) (st : Nat → A) (bad : Option E → E → Bool) (no yes : B)
    (h1 : ∀ i e, l[i]? = some e → i < l.length → f (st i) = some (bif bad (if i = 0 then none else l[i - 1]?) e then .inr no else .inl (st (i + 1)))) (h2 : f (st l.length) = some (.inr yes)) :
    loopT f (st 0) = some (bif okP bad none l then yes else no) := by
  have key : ∀ (k i : Nat), i + k = l.length → loopT f (st i) = some (bif okP bad (if i = 0 then none else l[i - 1]?) (l.drop i) then yes else no) := by
    intro k
    induction k with
    | zero =>
      intro i h
      obtain rfl : i = l.length := by omega
      rw [List.drop_length]
      exact loopT_inr h2
    | succ k ih =>
      intro i h
      obtain ⟨e, he, hd⟩ := drop_at (l := l) (i := i) (by omega)
      have q := h1 i e he (by omega)
      rw [hd]
      unfold okP
      cases hb : bad (if i = 0 then none else l[i - 1]?) e
      · rw [hb] at q
        have := ih (i + 1) (by omega)
        rw [if_neg (by omega), Nat.add_sub_cancel, he] at this
        rw [Bool.not_false, Bool.true_and, ← this]
        exact loopT_inl q
      · rw [hb] at q
        exact loopT_inr q
  have := key l.length 0 (by omega)
  rw [List.drop_zero] at this
  exact this

theorem prev_case {E : Type} {l : List E} {i : Nat} (hi : i < l.length) : i = 0 ∨ ∃ p, 0 < i ∧ l[i - 1]? = some p ∧ (i ≤ 9223372036854775807 → w64 ((i : Int) - 1) = ((i - 1 : Nat) : Int)) := by
  by_cases h : i = 0
  · exact .inl h
  · obtain ⟨p, hp⟩ := getD_some (l := l) (i := i - 1) (by omega)
    exact .inr ⟨p, by omega, hp, fun hb => by rw [w64_id (by omega) (by omega)]; omega⟩

/-- The first error. -/
def goF {E : Type} (chk : E → Int) : List E → Int
  | [] => 0
  | e :: r => bif chk e != 0 then chk e else goF chk r

theorem loop_first {A B E : Type} {f : A → Option (A ⊕ B)} (l : List E) (st : Nat → A) (chk : E → Int) (no : Int → B) (yes : B)
    (h1 : ∀ i e, l[i]? = some e → i < l.length → f (st i) = some (bif chk e != 0 then .inr (no (chk e)) else .inl (st (i + 1)))) (h2 : f (st l.length) = some (.inr yes)) :
    loopT f (st 0) = some (bif goF chk l != 0 then no (goF chk l) else yes) := by
  have key : ∀ (k i : Nat), i + k = l.length → loopT f (st i) = some (bif goF chk (l.drop i) != 0 then no (goF chk (l.drop i)) else yes) := by
    intro k
    induction k with
    | zero =>
      intro i h
      obtain rfl : i = l.length := by omega
      rw [List.drop_length]
      exact loopT_inr h2
    | succ k ih =>
      intro i h
      obtain ⟨e, he, hd⟩ := drop_at (l := l) (i := i) (by omega)
      have q := h1 i e he (by omega)
      rw [hd]
      unfold goF
      cases hb : (chk e != 0)
      · rw [hb] at q
        rw [cond_false, ← ih (i + 1) (by omega)]
        exact loopT_inl q
      · rw [hb] at q
        rw [cond_true, hb]
        exact loopT_inr q
  have := key l.length 0 (by omega)
  rw [List.drop_zero] at this
  exact this

/-- The first error, with places. -/
def goI {E : Type} (chk : Nat → E → Int) : Nat → List E → Int
  | _, [] => 0
  | i, e :: r => bif chk i e != 0 then chk i e else goI chk (i + 1) r

theorem loop_firstI {A B E : Type} {f : A → Option (A ⊕ B)} (l : List E) (st : Nat → A) (chk : Nat → E → Int) (no : Int → B) (yes : B)
    (h1 : ∀ i e, l[i]? = some e → i < l.length → f (st i) = some (bif chk i e != 0 then .inr (no (chk i e)) else .inl (st (i + 1)))) (h2 : f (st l.length) = some (.inr yes)) :
    loopT f (st 0) = some (bif goI chk 0 l != 0 then no (goI chk 0 l) else yes) := by
  have key : ∀ (k i : Nat), i + k = l.length → loopT f (st i) = some (bif goI chk i (l.drop i) != 0 then no (goI chk i (l.drop i)) else yes) := by
    intro k
    induction k with
    | zero =>
      intro i h
      obtain rfl : i = l.length := by omega
      rw [List.drop_length]
      exact loopT_inr h2
    | succ k ih =>
      intro i h
      obtain ⟨e, he, hd⟩ := drop_at (l := l) (i := i) (by omega)
      have q := h1 i e he (by omega)
      rw [hd]
      unfold goI
      cases hb : (chk i e != 0)
      · rw [hb] at q
        rw [cond_false, ← ih (i + 1) (by omega)]
        exact loopT_inl q
      · rw [hb] at q
        rw [cond_true, hb]
        exact loopT_inr q
  have := key l.length 0 (by omega)
  rw [List.drop_zero] at this
  exact this

theorem goI_zero {E : Type} {chk : Nat → E → Int} : ∀ {l : List E} {i : Nat}, goI chk i l = 0 → ∀ (k : Nat) (e : E), l[k]? = some e → chk (i + k) e = 0
  | [], _, _, k, e, h => by simp at h
  | x :: r, i, h, k, e, he => by
    unfold goI at h
    cases hc : (chk i x != 0)
    · rw [hc] at h
      cases k with
      | zero => simp at he; subst he; simpa using hc
      | succ k =>
        have := goI_zero (i := i + 1) h k e (by simpa using he)
        rwa [show i + 1 + k = i + (k + 1) by omega] at this
    · rw [hc] at h
      simp only [cond_true] at h
      rw [h] at hc
      cases hc

theorem drop_q {A B : Type} {o : Option A} {P : B → Prop} {g : B → A} (h : ∃ r, o = some r ∧ ∃ d, P d ∧ r = g d) : ∃ d, P d ∧ o = some (g d) := by
  obtain ⟨r, h1, d, h2, rfl⟩ := h
  exact ⟨d, h2, h1⟩

theorem drop_e {A : Type} {o : Option A} {x : A} (h : ∃ r, o = some r ∧ r = x) : o = some x := by
  obtain ⟨r, h1, rfl⟩ := h
  exact h1

theorem bind_P {A B : Type} {o : Option A} {f : A → Option B} {y : Option B} (P : A → Prop) (h : ∃ a, o = some a ∧ P a) (h2 : ∀ a, P a → f a = y) : o.bind f = y := by
  obtain ⟨a, rfl, ha⟩ := h
  exact h2 a ha

theorem bind_in {A B C : Type} {o : Option A} {g : A → Option B} {f : B → Option C} {y : Option C} (x : A) (h : o = some x) (h2 : (g x).bind f = y) : (o.bind g).bind f = y := by
  rw [h]
  exact h2

theorem mpGet_put {α : Type} (n k : Int) (x : α) : ∀ l : List (Int × α), mpGet k (mpSet n x l) = if k = n then some x else mpGet k l
  | [] => by
    simp only [mpSet, mpGet]
  | p :: r => by
    simp only [mpSet]
    by_cases h : n = p.1
    · rw [if_pos h]
      simp only [mpGet]
      by_cases hk : k = p.1
      · rw [if_pos hk, if_pos (by omega)]
      · rw [if_neg hk, if_neg (by omega), if_neg hk]
    · rw [if_neg h]
      simp only [mpGet]
      by_cases hk : k = p.1
      · rw [if_pos hk, if_neg (by omega), if_pos hk]
      · rw [if_neg hk, if_neg hk]
        exact mpGet_put n k x r

end Go.Plain
