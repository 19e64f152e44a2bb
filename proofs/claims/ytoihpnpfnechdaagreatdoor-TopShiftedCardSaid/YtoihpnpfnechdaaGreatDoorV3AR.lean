/- Lemmas for the statement of the last text of this claim. -/
import Derived.Test.YtoihpnpfnechdaaGreatDoorV3AQ
set_option linter.unusedSimpArgs false
set_option linter.unusedVariables false
namespace Go.Proofs.YtoihpnpfnechdaaGreatDoor
open Go Go.Abs
/-- What joins and conditions need. -/
theorem sS : (∀ h : Decidable True, @decide True h = true) ∧ (∀ h : Decidable False, @decide False h = false) ∧ (∀ {α : Type} (a b : α), cond true a b = a) ∧ (∀ {α : Type} (a b : α), cond false a b = b) ∧ (∀ {α β : Type} (a : α) (f : α → Option β), (some a).bind f = f a) ∧ (!true) = false ∧ (!false) = true ∧ (∀ b : Bool, (true && b) = b) ∧ (∀ b : Bool, (b && true) = b) ∧ (∀ b : Bool, (false && b) = false) ∧ (∀ b : Bool, (b && false) = false) ∧ (∀ {α : Type} [BEq α] [LawfulBEq α] (a : α), (a == a) = true) ∧ (∀ {α : Type} [BEq α] [LawfulBEq α] (a : α), (a != a) = false) :=
  ⟨fun _ => decide_true _, fun _ => decide_false _, fun _ _ => rfl, fun _ _ => rfl, fun _ _ => rfl, rfl, rfl, Bool.true_and, Bool.and_true, Bool.false_and, Bool.and_false, fun _ => beq_self_eq_true _, fun _ => bne_self_eq_false _⟩

/-- An element of a row, without the proof that it is one. -/
def rowG {A B : Type} (l : List A) (n : Int) (F : A → Option B) : Option B := bif decide (0 ≤ n) then (l[n.toNat]?).bind F else none
theorem rowAt_G {A B : Type} {l : List A} {n : Int} (F : A → Option B) : Abs.rowAt l n (fun e _ => F e) = rowG l n F := by
  unfold Abs.rowAt rowG
  cases l[n.toNat]? <;> rfl
theorem rowG_nat {A B : Type} {l : List A} {i : Nat} {e : A} (h : l[i]? = some e) (F : A → Option B) : rowG l (i : Int) F = F e := by
  unfold rowG
  rw [show decide (0 ≤ (i : Int)) = true from decide_eq_true (by omega), Int.toNat_natCast, h]; rfl
theorem rowG_int {A B : Type} {l : List A} {n : Int} {e : A} (h0 : 0 ≤ n) (h : l[n.toNat]? = some e) (F : A → Option B) : rowG l n F = F e := by
  unfold rowG
  rw [show decide (0 ≤ n) = true from decide_eq_true h0, h]; rfl
theorem w64_nat {i : Nat} (h : i < 9223372036854775807) : w64 ((i : Int) + 1) = ((i + 1 : Nat) : Int) := by rw [w64_id (by omega) (by omega)]; omega

def Ens {A : Type} (o : Option A) (Q : A → Prop) : Prop := ∃ x, o = some x ∧ Q x
theorem ens_some {A : Type} {x : A} {Q : A → Prop} (h : Q x) : Ens (some x) Q := ⟨x, rfl, h⟩
theorem ens_bind {A B : Type} {o : Option A} {f : A → Option B} {Q : B → Prop} (h : Ens o fun x => Ens (f x) Q) : Ens (o.bind f) Q := by
  obtain ⟨x, rfl, y, h1, h2⟩ := h
  exact ⟨y, h1, h2⟩
theorem ens_tail {A : Type} {o : Option A} {R Q : A → Prop} (h : Ens o R) (h2 : ∀ x, R x → Q x) : Ens o Q := by
  obtain ⟨x, rfl, hx⟩ := h
  exact ⟨x, rfl, h2 x hx⟩
theorem ens_ite {A : Type} {P : Prop} [Decidable P] {x y : Option A} {Q : A → Prop} (h1 : P → Ens x Q) (h2 : ¬ P → Ens y Q) : Ens (bif decide P then x else y) Q := by
  by_cases h : P
  · rw [decide_eq_true h]; exact h1 h
  · rw [decide_eq_false h]; exact h2 h
theorem ens_need {A : Type} {P : Prop} [Decidable P] {x : Option A} {Q : A → Prop} (h : P) (h1 : Ens x Q) : Ens (bif decide P then x else none) Q := by
  rw [decide_eq_true h]; exact h1
theorem ens_bif {A : Type} {b : Bool} {x y : Option A} {Q : A → Prop} (h1 : b = true → Ens x Q) (h2 : b = false → Ens y Q) : Ens (bif b then x else y) Q := by
  cases b
  · exact h2 rfl
  · exact h1 rfl
theorem ens_t {A : Type} {x y : Option A} {Q : A → Prop} (h : Ens x Q) : Ens (bif true then x else y) Q := h
theorem ens_f {A : Type} {x y : Option A} {Q : A → Prop} (h : Ens y Q) : Ens (bif false then x else y) Q := h
theorem ens_nt {A : Type} {x y : Option A} {Q : A → Prop} (h : Ens y Q) : Ens (bif !true then x else y) Q := h
theorem ens_row {A B : Type} {l : List A} {i : Int} {F : A → Option B} {Q : B → Prop} (h0 : 0 ≤ i) (h1 : i < l.length) (h : ∀ e, l[i.toNat]? = some e → e ∈ l → Ens (F e) Q) : Ens (Abs.rowAt l i fun e _ => F e) Q := by
  have hl : i.toNat < l.length := by omega
  have he : l[i.toNat]? = some l[i.toNat] := List.getElem?_eq_getElem hl
  have := h _ he (List.getElem_mem hl)
  rw [rowAt_G, rowG_int h0 he]
  exact this
theorem ens_at {A B : Type} {l : List A} {i : Nat} {f : A → Option B} {Q : B → Prop} (h1 : i < l.length) (h : ∀ e, l[i]? = some e → e ∈ l → Ens (f e) Q) : Ens ((l[i]?).bind f) Q := by
  have he : l[i]? = some l[i] := List.getElem?_eq_getElem h1
  rw [he]
  exact h _ he (List.getElem_mem h1)
theorem ens_sum {A B C : Type} {d : A ⊕ B} {f : A → Option C} {g : B → Option C} {Q : C → Prop} (h1 : ∀ a, d = .inl a → Ens (f a) Q) (h2 : ∀ b, d = .inr b → Ens (g b) Q) : Ens (sumE d f g) Q := by
  cases d with
  | inl a => exact h1 a rfl
  | inr b => exact h2 b rfl
/-- A loop: what holds at every round, a number that falls. -/
theorem ens_loop {A B : Type} {f : A → Option (A ⊕ B)} (I : A → Prop) (μ : A → Nat) {Q : B → Prop}
    (h : ∀ a, I a → Ens (f a) fun r => match r with | .inl a' => I a' ∧ μ a' < μ a | .inr b => Q b) : ∀ a, I a → Ens (loopT f a) Q := by
  have key : ∀ (n : Nat) a, μ a ≤ n → I a → Ens (loopT f a) Q := by
    intro n
    induction n with
    | zero =>
      intro a hn hi
      obtain ⟨r, h1, h2⟩ := h a hi
      cases r with
      | inl a' => exact absurd h2.2 (by omega)
      | inr b => exact ⟨b, loopT_inr h1, h2⟩
    | succ n ih =>
      intro a hn hi
      obtain ⟨r, h1, h2⟩ := h a hi
      cases r with
      | inl a' =>
        obtain ⟨b, h3, h4⟩ := ih a' (by omega) h2.1
        exact ⟨b, by rw [← h3]; exact loopT_inl h1, h4⟩
      | inr b => exact ⟨b, loopT_inr h1, h2⟩
  exact fun a hi => key (μ a) a (Nat.le_refl _) hi
/-- A loop whose end is told by a measure, one way out and the other. -/
theorem loop_step {A B : Type} {f : A → Option (A ⊕ B)} {a a' : A} {o : Option B} (h : f a = some (.inl a')) (h2 : loopT f a' = o) : loopT f a = o := by rw [loopT_inl h]; exact h2

/-! ### The dice -/
abbrev Dc := List Int × Int × Unit
def DOK (d : Dc) : Prop := 0 ≤ d.2.1 ∧ d.2.1 ≤ d.1.length ∧ d.1.length ≤ 500

theorem next_e (n : Int) (d : Dc) (hd : DOK d) (h1 : 1 ≤ n) (h2 : n ≤ 100000) : Ens (m24 ((n, ()), ((d, ()), ()))) fun u => DOK u.2.1.1 ∧ 0 ≤ u.1.1 ∧ u.1.1 < n := by
  obtain ⟨l, a, ⟨⟩⟩ := d
  obtain ⟨q1, q2, q3⟩ := hd
  dsimp only at q1 q2 q3
  unfold m24
  dsimp only
  refine ens_bind ?_
  refine ens_ite (fun h => ens_some ?_) (fun h => ens_some ?_)
  · dsimp only
    exact ens_some ⟨⟨q1, q2, q3⟩, by dsimp only; omega, by dsimp only; omega⟩
  · dsimp only
    rw [decide_eq_false (by omega), cond_false]
    refine ens_row q1 (by omega) fun e he hm => ?_
    refine ens_need (by omega) ?_
    have hm1 : -n < e.tmod n := Int.lt_tmod_of_pos e (by omega)
    have hm2 : e.tmod n < n := Int.tmod_lt_of_pos e (by omega)
    have hw : w64 (a + 1) = a + 1 := w64_id (by omega) (by omega)
    refine ens_bind ?_
    refine ens_ite (fun h => ens_some ?_) (fun h => ens_some ?_)
    · refine ens_some ⟨⟨?_, ?_, q3⟩, ?_, ?_⟩
      · dsimp only; omega
      · dsimp only; omega
      · dsimp only; rw [w64_id (by omega) (by omega)]; omega
      · dsimp only; rw [w64_id (by omega) (by omega)]; omega
    · refine ens_some ⟨⟨?_, ?_, q3⟩, ?_, ?_⟩
      · dsimp only; omega
      · dsimp only; omega
      · dsimp only; omega
      · dsimp only; omega

theorem pick_e (l : List Int) (d : Dc) (hd : DOK d) (h1 : l ≠ []) (h2 : l.length ≤ 100) : Ens (m29 ((l, ()), ((d, ()), ()))) fun u => DOK u.2.1.1 ∧ u.1.1 ∈ l := by
  have := List.length_pos_iff.2 h1
  unfold m29
  dsimp only
  refine ens_bind (ens_tail (next_e _ d hd (by omega) (by omega)) ?_)
  rintro ⟨⟨x, ⟨⟩⟩, ⟨⟨d1, ⟨⟩⟩, ⟨⟩⟩⟩ ⟨g1, g2, g3⟩
  exact ens_row g2 (by omega) fun e he hm => ens_some ⟨g1, hm⟩

theorem bool_e (n : Int) (d : Dc) (hd : DOK d) (h1 : 1 ≤ n) (h2 : n ≤ 100000) : Ens (m27 ((n, ()), ((d, ()), ()))) fun u => DOK u.2.1.1 := by
  unfold m27
  dsimp only
  refine ens_bind (ens_tail (next_e _ d hd (by omega) (by omega)) ?_)
  rintro ⟨⟨x, ⟨⟩⟩, ⟨⟨d1, ⟨⟩⟩, ⟨⟩⟩⟩ ⟨g1, g2, g3⟩
  exact ens_some g1

/-- Right windows. -/
abbrev WinT := Int × Int × Unit
def WinsFrom (lo : Int) : List WinT → Prop
  | [] => True
  | w :: r => lo ≤ w.1 ∧ w.1 < w.2.1 ∧ w.2.1 ≤ 604800 ∧ WinsFrom w.2.1 r
def endW (lo : Int) : List WinT → Int
  | [] => lo
  | w :: r => endW w.2.1 r
theorem wins_snoc : ∀ (l : List WinT) (lo : Int) (w : WinT), WinsFrom lo l → endW lo l ≤ w.1 → w.1 < w.2.1 → w.2.1 ≤ 604800 → WinsFrom lo (l ++ [w]) ∧ endW lo (l ++ [w]) = w.2.1
  | [], lo, w, _, h1, h2, h3 => ⟨⟨h1, h2, h3, trivial⟩, rfl⟩
  | x :: r, lo, w, h, h1, h2, h3 => by
    obtain ⟨a, b, c, d⟩ := h
    obtain ⟨e, f⟩ := wins_snoc r x.2.1 w d h1 h2 h3
    exact ⟨⟨a, b, c, e⟩, f⟩

theorem wins_e (d : Dc) (hd : DOK d) : Ens (m28 ((), ((d, ()), ()))) fun u => DOK u.2.1.1 ∧ WinsFrom 0 u.2.2.1 ∧ u.2.2.1.length ≤ 3 := by
  unfold m28
  dsimp only
  refine ens_bind (ens_tail (next_e _ d hd (by omega) (by omega)) ?_)
  rintro ⟨⟨n, ⟨⟩⟩, ⟨⟨d1, ⟨⟩⟩, ⟨⟩⟩⟩ ⟨g1, g2, g3⟩
  dsimp only at g1 g2 g3 ⊢
  refine ens_bind (ens_tail (ens_loop (fun (a : (Int × Int × Unit) × (Dc × Unit) × List WinT × Unit) => DOK a.2.1.1 ∧ 0 ≤ a.1.1 ∧ 0 ≤ a.1.2.1 ∧ a.1.2.1 ≤ 604800 ∧ WinsFrom 0 a.2.2.1 ∧ endW 0 a.2.2.1 = a.1.2.1 ∧ (a.2.2.1.length : Int) + a.1.1 ≤ 3) (fun a => a.1.1.toNat)
    (Q := fun u => DOK u.2.1.1 ∧ WinsFrom 0 u.2.2.1 ∧ u.2.2.1.length ≤ 3) ?_ _ ⟨g1, g2, Int.le_refl _, by dsimp only; omega, trivial, rfl, by simp; omega⟩) ?_)
  · rintro ⟨⟨i, a, ⟨⟩⟩, ⟨⟨d, ⟨⟩⟩, l, ⟨⟩⟩⟩ ⟨q1, q2, q3, q4, q5, q6, q7⟩
    dsimp only at q1 q2 q3 q4 q5 q6 q7
    unfold l28_0_4
    dsimp only
    refine ens_ite (fun h => ?_) (fun h => ?_)
    · refine ens_bind (ens_tail (next_e _ d q1 (by omega) (by omega)) ?_)
      rintro ⟨⟨n1, ⟨⟩⟩, ⟨⟨d1, ⟨⟩⟩, ⟨⟩⟩⟩ ⟨g1, g2, g3⟩
      dsimp only at g1 g2 g3 ⊢
      refine ens_bind (ens_tail (next_e _ d1 g1 (by omega) (by omega)) ?_)
      rintro ⟨⟨n2, ⟨⟩⟩, ⟨⟨d2, ⟨⟩⟩, ⟨⟩⟩⟩ ⟨g4, g5, g6⟩
      dsimp only at g4 g5 g6 ⊢
      refine ens_bind (ens_tail (pick_e _ d2 g4 (by simp) (by simp)) ?_)
      rintro ⟨⟨n3, ⟨⟩⟩, ⟨⟨d3, ⟨⟩⟩, ⟨⟩⟩⟩ ⟨g7, g8⟩
      dsimp only at g7 g8 ⊢
      simp only [List.mem_cons, List.not_mem_nil, or_false] at g8
      have e1 : w64 (w64 (a + w64 (3600 * n1)) + w64 (60 * n2)) = a + 3600 * n1 + 60 * n2 := by
        rw [w64_id (x := 3600 * n1) (by omega) (by omega), w64_id (x := 60 * n2) (by omega) (by omega), w64_id (x := a + 3600 * n1) (by omega) (by omega), w64_id (by omega) (by omega)]
      rw [e1]
      have e2 : w64 (a + 3600 * n1 + 60 * n2 + n3) = a + 3600 * n1 + 60 * n2 + n3 := w64_id (by omega) (by omega)
      rw [e2]
      refine ens_ite (fun h2 => ?_) (fun h2 => ?_)
      · exact ens_some ⟨g7, q5, by dsimp only; omega⟩
      · refine ens_need (by simp; omega) (ens_some ?_)
        obtain ⟨w1, w2⟩ := wins_snoc l 0 (a + 3600 * n1 + 60 * n2, a + 3600 * n1 + 60 * n2 + n3, ()) q5 (by dsimp only; omega) (by dsimp only; omega) (by dsimp only; omega)
        dsimp only
        rw [w64_id (x := i - 1) (by omega) (by omega)]
        exact ⟨⟨g7, by omega, by omega, by omega, w1, w2, by simp; omega⟩, by omega⟩
    · exact ens_some ⟨q1, q5, by dsimp only; omega⟩
  · rintro ⟨⟨⟩, ⟨⟨d, ⟨⟩⟩, l, ⟨⟩⟩⟩ ⟨q1, q2, q3⟩
    exact ens_some ⟨q1, q2, q3⟩

theorem instant_e (d : Dc) (hd : DOK d) : Ens (m12 ((), ((d, ()), ()))) fun u => DOK u.2.1.1 ∧ 1767139199 ≤ u.1.1 ∧ u.1.1 ≤ 1769212799 := by
  unfold m12
  dsimp only
  refine ens_bind (ens_tail (next_e _ d hd (by omega) (by omega)) ?_)
  rintro ⟨⟨n1, ⟨⟩⟩, ⟨⟨d1, ⟨⟩⟩, ⟨⟩⟩⟩ ⟨g1, g2, g3⟩
  dsimp only at g1 g2 g3 ⊢
  have e1 : w64 (1767139200 + w64 (3600 * n1)) = 1767139200 + 3600 * n1 := by rw [w64_id (x := 3600 * n1) (by omega) (by omega), w64_id (by omega) (by omega)]
  rw [e1]
  refine ens_bind (ens_bind (ens_tail (bool_e _ d1 g1 (by omega) (by omega)) ?_))
  rintro ⟨⟨b, ⟨⟩⟩, ⟨⟨d2, ⟨⟩⟩, ⟨⟩⟩⟩ g4
  dsimp only at g4 ⊢
  refine ens_bif (fun _ => ?_) (fun _ => ?_)
  · refine ens_bind (ens_tail (pick_e _ d2 g4 (by simp) (by simp)) ?_)
    rintro ⟨⟨n3, ⟨⟩⟩, ⟨⟨d3, ⟨⟩⟩, ⟨⟩⟩⟩ ⟨g7, g8⟩
    dsimp only at g7 g8 ⊢
    simp only [List.mem_cons, List.not_mem_nil, or_false] at g8
    rw [w64_id (x := 1767139200 + 3600 * n1 + n3) (by omega) (by omega)]
    exact ens_some (ens_some ⟨g7, by dsimp only; omega, by dsimp only; omega⟩)
  · exact ens_some (ens_some ⟨g4, by dsimp only; omega, by dsimp only; omega⟩)
theorem zone_e (nm : ByteArray) (d : Dc) (hd : DOK d) : Ens (m25 ((nm, ()), ((d, ()), ()))) fun u => DOK u.2.1.1 ∧ u.2.2.1.1.1 = nm := by
  unfold m25
  dsimp only
  repeat' first | (with_reducible refine ens_bind ?_) | (with_reducible refine ens_tail (next_e _ _ (by assumption) (by omega) (by omega)) ?_; rintro ⟨⟨_, ⟨⟩⟩, ⟨⟨_, ⟨⟩⟩, ⟨⟩⟩⟩ ⟨hd_, hlo_, hhi_⟩; dsimp only at hd_ hlo_ hhi_; try dsimp only) | (with_reducible refine ens_tail (pick_e _ _ (by assumption) (by simp) (by simp)) ?_; rintro ⟨⟨_, ⟨⟩⟩, ⟨⟨_, ⟨⟩⟩, ⟨⟩⟩⟩ ⟨hd_, hm_⟩; dsimp only at hd_ hm_; simp only [List.mem_cons, List.not_mem_nil, or_false] at hm_; try dsimp only) | (with_reducible refine ens_tail (bool_e _ _ (by assumption) (by omega) (by omega)) ?_; rintro ⟨⟨_, ⟨⟩⟩, ⟨⟨_, ⟨⟩⟩, ⟨⟩⟩⟩ hd_; dsimp only at hd_; try dsimp only) | (with_reducible refine ens_tail (wins_e _ (by assumption)) ?_; rintro ⟨⟨⟩, ⟨⟨_, ⟨⟩⟩, _, ⟨⟩⟩⟩ ⟨hd_, hw_, hl_⟩; dsimp only at hd_ hw_ hl_; try dsimp only) | (with_reducible refine ens_tail (instant_e _ (by assumption)) ?_; rintro ⟨⟨_, ⟨⟩⟩, ⟨⟨_, ⟨⟩⟩, ⟨⟩⟩⟩ ⟨hd_, hlo_, hhi_⟩; dsimp only at hd_ hlo_ hhi_; try dsimp only) | (with_reducible refine ens_ite ?_ ?_ <;> intro _) | (with_reducible refine ens_t ?_) | (with_reducible refine ens_f ?_) | (with_reducible refine ens_bif ?_ ?_ <;> intro _) | (with_reducible refine ens_some ?_; try dsimp only)
  all_goals exact ⟨by assumption, rfl⟩

abbrev YrT := Int × Int × Int × Int × Int × Int × Int × Unit
abbrev ZnT := ByteArray × Int × List YrT × Unit
abbrev PsT := ByteArray × Int × List WinT × Int × Int × Bool × Unit
abbrev CaT := ByteArray × Int × List Int × Unit
abbrev LyT := ByteArray × Int × (Int × Int × Unit) × Int × Int × List Int × List WinT × Int × Int × Unit
abbrev EdT := Int × Int × Int × Int × Int × Unit
abbrev ScT := ByteArray × List LyT × List EdT × Unit
abbrev CfT := List ZnT × List PsT × List CaT × List ScT × Unit

def znames : List ByteArray := [(bs [104, 101, 114, 101]), (bs [116, 104, 101, 114, 101])]
def pnames : List ByteArray := [(bs [97, 100, 97]), (bs [98, 111, 98]), (bs [99, 108, 101, 111]), (bs [100, 97, 110]), (bs [101, 118, 101]), (bs [102, 97, 121]), (bs [103, 117, 115]), (bs [104, 97, 108])]

/-- Zones of the dice. -/
def GZs (l : List ZnT) : Prop := ∀ (i : Nat) (z : ZnT), l[i]? = some z → znames[i]? = some z.1
/-- A person of the dice. -/
structure GP (nz : Nat) (p : PsT) : Prop where
  zone : 0 ≤ p.2.1 ∧ p.2.1 < nz
  quiet : WinsFrom 0 p.2.2.1
  ql : p.2.2.1.length ≤ 3
  week : p.2.2.2.1 = 0 ∨ p.2.2.2.1 = 144000 ∨ p.2.2.2.1 = 360000 ∨ p.2.2.2.1 = 43200
  rest : p.2.2.2.2.1 = 0 ∨ p.2.2.2.2.1 = 39600 ∨ p.2.2.2.2.1 = 86400 ∨ p.2.2.2.2.1 = 3600
def GPs (nz : Nat) (l : List PsT) : Prop := ∀ (i : Nat) (p : PsT), l[i]? = some p → pnames[i]? = some p.1 ∧ GP nz p
def DaysFrom (lo hi : Int) : List Int → Prop
  | [] => lo ≤ hi
  | x :: r => lo < x ∧ DaysFrom x hi r
theorem days_snoc : ∀ (l : List Int) (lo hi x : Int), DaysFrom lo hi l → hi < x → DaysFrom lo x (l ++ [x])
  | [], lo, hi, x, h, h1 => ⟨Int.lt_of_le_of_lt h h1, Int.le_refl _⟩
  | y :: r, lo, hi, x, h, h1 => ⟨h.1, days_snoc r y hi x h.2 h1⟩
/-- A calendar of the dice. -/
structure GC (nz : Nat) (c : CaT) : Prop where
  name : c.1 = bs [100, 97, 121, 115]
  zone : 0 ≤ c.2.1 ∧ c.2.1 < nz
  days : ∃ hi, hi ≤ 20490 ∧ DaysFrom 20454 hi c.2.2.1
  len : c.2.2.1.length ≤ 3

theorem at_snoc {A : Type} {l : List A} {x y : A} {i : Nat} (h : (l ++ [x])[i]? = some y) : l[i]? = some y ∨ (i = l.length ∧ y = x) := by
  rcases Nat.lt_or_ge i l.length with h1 | h1
  · rw [List.getElem?_append_left h1] at h; exact .inl h
  · rw [List.getElem?_append_right h1] at h
    right
    have : i - l.length = 0 := by
      have := (List.getElem?_eq_some_iff.1 h).1
      simp at this; omega
    rw [this] at h
    exact ⟨by omega, by simpa using h.symm⟩

set_option maxHeartbeats 1000000 in
theorem staff_e (d : Dc) (hd : DOK d) : Ens (m8 ((), ((d, ()), ()))) fun u => DOK u.2.1.1 ∧ GZs u.2.2.2.1 ∧ 1 ≤ u.2.2.2.1.length ∧ u.2.2.2.1.length ≤ 2 ∧
    GPs u.2.2.2.1.length u.2.2.2.2.1 ∧ 1 ≤ u.2.2.2.2.1.length ∧ u.2.2.2.2.1.length ≤ 4 ∧ (∀ c ∈ u.2.2.2.2.2.1, GC u.2.2.2.1.length c) ∧ u.2.2.2.2.2.1.length ≤ 1 := by
  unfold m8
  dsimp only
  refine ens_bind (ens_tail (next_e _ d hd (by omega) (by omega)) ?_)
  rintro ⟨⟨n, ⟨⟩⟩, ⟨⟨d1, ⟨⟩⟩, ⟨⟩⟩⟩ ⟨g1, g2, g3⟩
  dsimp only at g1 g2 g3 ⊢
  rw [w64_id (x := 1 + n) (by omega) (by omega)]
  -- zones
  refine ens_bind (ens_tail (ens_loop (fun (a : (Int × Unit) × (Dc × Unit) × (Unit × Unit) × (Unit × Unit) × List ZnT × Unit) => DOK a.2.1.1 ∧ 0 ≤ a.1.1 ∧ GZs a.2.2.2.2.1 ∧ (a.2.2.2.2.1.length : Int) + a.1.1 = 1 + n) (fun a => a.1.1.toNat)
    (Q := fun u => DOK u.2.1.1 ∧ GZs u.2.2.2.2.1 ∧ (u.2.2.2.2.1.length : Int) = 1 + n) ?_ _ ⟨g1, by dsimp only; omega, fun i z h => by simp at h, by simp⟩) ?_)
  · rintro ⟨⟨i, ⟨⟩⟩, ⟨⟨d, ⟨⟩⟩, ⟨⟨⟩, ⟨⟩⟩, ⟨⟨⟩, ⟨⟩⟩, l, ⟨⟩⟩⟩ ⟨q1, q2, q3, q4⟩
    dsimp only at q1 q2 q3 q4
    unfold l8_0_3
    dsimp only
    refine ens_ite (fun h => ?_) (fun h => ?_)
    · refine ens_need (by simp; omega) ?_
      refine ens_at (by simp; omega) fun e he hm => ?_
      refine ens_bind (ens_tail (zone_e e d q1) ?_)
      rintro ⟨⟨⟩, ⟨⟨d2, ⟨⟩⟩, ⟨⟨zn, zo, ⟨⟩⟩, ⟨⟩⟩, zr, ⟨⟩⟩⟩ ⟨g4, g5⟩
      dsimp only at g4 g5 ⊢
      refine ens_need (by simp; omega) (ens_some ?_)
      rw [w64_id (x := i - 1) (by omega) (by omega)]
      refine ⟨⟨g4, by dsimp only; omega, fun j z hz => ?_, by simp; omega⟩, by dsimp only; omega⟩
      rcases at_snoc hz with h1 | ⟨rfl, rfl⟩
      · exact q3 j z h1
      · dsimp only; rw [g5]; exact he
    · exact ens_some ⟨q1, q3, by dsimp only; omega⟩
  rintro ⟨⟨⟩, ⟨⟨d2, ⟨⟩⟩, ⟨⟨⟩, ⟨⟩⟩, ⟨⟨⟩, ⟨⟩⟩, zs, ⟨⟩⟩⟩ ⟨g4, g5, g6⟩
  dsimp only at g4 g5 g6 ⊢
  -- people
  refine ens_bind (ens_tail (next_e _ d2 g4 (by omega) (by omega)) ?_)
  rintro ⟨⟨m, ⟨⟩⟩, ⟨⟨d3, ⟨⟩⟩, ⟨⟩⟩⟩ ⟨g7, g8, g9⟩
  dsimp only at g7 g8 g9 ⊢
  rw [w64_id (x := 1 + m) (by omega) (by omega)]
  refine ens_bind (ens_tail (ens_loop (fun (a : (Int × Unit) × (Dc × Unit) × (Unit × Unit) × (Unit × Unit) × List ZnT × List PsT × Unit) => DOK a.2.1.1 ∧ 0 ≤ a.1.1 ∧ a.2.2.2.2.1 = zs ∧ GPs zs.length a.2.2.2.2.2.1 ∧ (a.2.2.2.2.2.1.length : Int) + a.1.1 = 1 + m) (fun a => a.1.1.toNat)
    (Q := fun u => DOK u.2.1.1 ∧ u.2.2.2.2.1 = zs ∧ GPs zs.length u.2.2.2.2.2.1 ∧ (u.2.2.2.2.2.1.length : Int) = 1 + m) ?_ _ ⟨g7, by dsimp only; omega, rfl, fun i z h => by simp at h, by simp⟩) ?_)
  · rintro ⟨⟨i, ⟨⟩⟩, ⟨⟨d, ⟨⟩⟩, ⟨⟨⟩, ⟨⟩⟩, ⟨⟨⟩, ⟨⟩⟩, zs', l, ⟨⟩⟩⟩ ⟨q1, q2, q3, q4, q5⟩
    dsimp only at q1 q2 q3 q4 q5
    subst q3
    unfold l8_0_7 m26
    dsimp only [Option.bind_some]
    refine ens_ite (fun h => ?_) (fun h => ?_)
    · refine ens_need (by simp; omega) ?_
      refine ens_at (by simp; omega) fun e he hm => ?_
      refine ens_bind (ens_tail (next_e _ d q1 (by omega) (by omega)) ?_)
      rintro ⟨⟨z, ⟨⟩⟩, ⟨⟨d4, ⟨⟩⟩, ⟨⟩⟩⟩ ⟨p1, p2, p3⟩
      dsimp only at p1 p2 p3 ⊢
      refine ens_bind (ens_tail (bool_e _ d4 p1 (by omega) (by omega)) ?_)
      rintro ⟨⟨b, ⟨⟩⟩, ⟨⟨d5, ⟨⟩⟩, ⟨⟩⟩⟩ p4
      dsimp only at p4 ⊢
      refine ens_bind (ens_tail (R := fun v => DOK v.2.1.1 ∧ v.1.1 = i ∧ v.2.2.2.2.1.1 = (e, z, 0, 0, b, ()) ∧ v.2.2.2.2.2.1 = zs' ∧ v.2.2.2.2.2.2.1 = l ∧ WinsFrom 0 v.2.2.2.2.2.2.2.1 ∧ v.2.2.2.2.2.2.2.1.length ≤ 3) ?_ ?_)
      · refine ens_bind (ens_tail (bool_e _ d5 p4 (by omega) (by omega)) ?_)
        rintro ⟨⟨c, ⟨⟩⟩, ⟨⟨d6, ⟨⟩⟩, ⟨⟩⟩⟩ p5
        dsimp only at p5 ⊢
        refine ens_bif (fun _ => ?_) (fun _ => ?_)
        · refine ens_bind (ens_tail (wins_e d6 p5) ?_)
          rintro ⟨⟨⟩, ⟨⟨d7, ⟨⟩⟩, ws, ⟨⟩⟩⟩ ⟨p6, p7, p8⟩
          exact ens_some ⟨p6, rfl, rfl, rfl, rfl, p7, p8⟩
        · exact ens_some ⟨p5, rfl, rfl, rfl, rfl, trivial, by simp⟩
      rintro ⟨⟨i', ⟨⟩⟩, ⟨⟨d6, ⟨⟩⟩, ⟨⟨⟩, ⟨⟩⟩, ⟨⟨⟩, ⟨⟩⟩, ⟨⟨e', z', a', c', b', ⟨⟩⟩, ⟨⟩⟩, zs2, l2, ws, ⟨⟩⟩⟩ ⟨p5, p6, p7, p8, p9, p10, p11⟩
      dsimp only at p5 p6 p7 p8 p9 p10 p11 ⊢
      simp only [Prod.mk.injEq] at p7
      obtain ⟨rfl, rfl, rfl, rfl, rfl, _⟩ := p7
      subst p6 p8 p9
      refine ens_bind (ens_tail (pick_e _ d6 p5 (by simp) (by simp)) ?_)
      rintro ⟨⟨x1, ⟨⟩⟩, ⟨⟨d7, ⟨⟩⟩, ⟨⟩⟩⟩ ⟨p12, p13⟩
      dsimp only at p12 p13 ⊢
      refine ens_bind (ens_tail (pick_e _ d7 p12 (by simp) (by simp)) ?_)
      rintro ⟨⟨x2, ⟨⟩⟩, ⟨⟨d8, ⟨⟩⟩, ⟨⟩⟩⟩ ⟨p14, p15⟩
      dsimp only at p14 p15 ⊢
      simp only [List.mem_cons, List.not_mem_nil, or_false] at p13 p15
      refine ens_need (by simp; omega) (ens_some ?_)
      rw [w64_id (x := i' - 1) (by omega) (by omega), w64_id (x := 3600 * x1) (by omega) (by omega), w64_id (x := 3600 * x2) (by omega) (by omega)]
      refine ⟨⟨p14, by dsimp only; omega, rfl, fun j p hp => ?_, by simp; omega⟩, by dsimp only; omega⟩
      rcases at_snoc hp with h1 | ⟨rfl, rfl⟩
      · exact q4 j p h1
      · exact ⟨he, ⟨⟨p2, p3⟩, p10, p11, by dsimp only; omega, by dsimp only; omega⟩⟩
    · exact ens_some ⟨q1, rfl, q4, by dsimp only; omega⟩
  rintro ⟨⟨⟩, ⟨⟨d4, ⟨⟩⟩, ⟨⟨⟩, ⟨⟩⟩, ⟨⟨⟩, ⟨⟩⟩, zs', ps, ⟨⟩⟩⟩ ⟨g10, rfl, g11, g12⟩
  dsimp only at g5 g6 g10 g11 g12 ⊢
  -- calendars
  refine ens_bind (ens_tail (next_e _ d4 g10 (by omega) (by omega)) ?_)
  rintro ⟨⟨c, ⟨⟩⟩, ⟨⟨d5, ⟨⟩⟩, ⟨⟩⟩⟩ ⟨g13, g14, g15⟩
  dsimp only at g13 g14 g15 ⊢
  refine ens_bind (ens_tail (ens_loop (fun (a : (Int × Unit) × (Dc × Unit) × (Unit × Unit) × (Unit × Unit) × List ZnT × List PsT × List CaT × Unit) => DOK a.2.1.1 ∧ 0 ≤ a.1.1 ∧ a.2.2.2.2.1 = zs' ∧ a.2.2.2.2.2.1 = ps ∧ (∀ x ∈ a.2.2.2.2.2.2.1, GC zs'.length x) ∧ (a.2.2.2.2.2.2.1.length : Int) + a.1.1 = c) (fun a => a.1.1.toNat)
    (Q := fun u => DOK u.2.1.1 ∧ u.2.2.2.2.1 = zs' ∧ u.2.2.2.2.2.1 = ps ∧ (∀ x ∈ u.2.2.2.2.2.2.1, GC zs'.length x) ∧ (u.2.2.2.2.2.2.1.length : Int) = c) ?_ _ ⟨g13, by dsimp only; omega, rfl, rfl, fun x h => by simp at h, by simp⟩) ?_)
  · rintro ⟨⟨i, ⟨⟩⟩, ⟨⟨d, ⟨⟩⟩, ⟨⟨⟩, ⟨⟩⟩, ⟨⟨⟩, ⟨⟩⟩, zs2, ps2, l, ⟨⟩⟩⟩ ⟨q1, q2, q3, q4, q5, q6⟩
    dsimp only at q1 q2 q3 q4 q5 q6
    subst q3 q4
    unfold l8_0_15
    dsimp only
    refine ens_ite (fun h => ?_) (fun h => ?_)
    · refine ens_bind (ens_tail (next_e _ d q1 (by omega) (by omega)) ?_)
      rintro ⟨⟨z, ⟨⟩⟩, ⟨⟨d6, ⟨⟩⟩, ⟨⟩⟩⟩ ⟨p1, p2, p3⟩
      dsimp only at p1 p2 p3 ⊢
      refine ens_bind (ens_tail (next_e _ d6 p1 (by omega) (by omega)) ?_)
      rintro ⟨⟨k, ⟨⟩⟩, ⟨⟨d7, ⟨⟩⟩, ⟨⟩⟩⟩ ⟨p4, p5, p6⟩
      dsimp only at p4 p5 p6 ⊢
      refine ens_bind (ens_tail (ens_loop (fun (a : (Int × Int × Int × Unit) × (Dc × Unit) × ((ByteArray × Int × Unit) × Unit) × (Unit × Unit) × (Unit × Unit) × List Int × List ZnT × List PsT × List CaT × Unit) => DOK a.2.1.1 ∧ 0 ≤ a.1.1 ∧ a.1.2.2.1 = i ∧ a.2.2.1.1 = (bs [100, 97, 121, 115], z, ()) ∧ a.2.2.2.2.2.2.1 = zs2 ∧ a.2.2.2.2.2.2.2.1 = ps2 ∧ a.2.2.2.2.2.2.2.2.1 = l ∧
          DaysFrom 20454 a.1.2.1 a.2.2.2.2.2.1 ∧ a.1.2.1 + 6 * a.1.1 ≤ 20454 + 6 * k ∧ (a.2.2.2.2.2.1.length : Int) + a.1.1 = k ∧ 20454 ≤ a.1.2.1) (fun a => a.1.1.toNat)
        (Q := fun u => DOK u.2.1.1 ∧ u.1.1 = i ∧ u.2.2.2.2.1.1 = (bs [100, 97, 121, 115], z, ()) ∧ u.2.2.2.2.2.1 = zs2 ∧ u.2.2.2.2.2.2.1 = ps2 ∧ u.2.2.2.2.2.2.2.1 = l ∧ (∃ hi, hi ≤ 20490 ∧ DaysFrom 20454 hi u.2.2.2.2.2.2.2.2.1) ∧ (u.2.2.2.2.2.2.2.2.1.length : Int) = k) ?_ _
        ⟨p4, by dsimp only; omega, rfl, rfl, rfl, rfl, rfl, Int.le_refl _, by dsimp only; omega, by simp, by dsimp only; omega⟩) ?_)
      · rintro ⟨⟨j, dy, i', ⟨⟩⟩, ⟨⟨d, ⟨⟩⟩, ⟨⟨cn, cz, ⟨⟩⟩, ⟨⟩⟩, ⟨⟨⟩, ⟨⟩⟩, ⟨⟨⟩, ⟨⟩⟩, dl, zs3, ps3, l3, ⟨⟩⟩⟩ ⟨r1, r2, r3, r4, r5, r6, r7, r8, r9, r10, r11⟩
        dsimp only at r1 r2 r3 r4 r5 r6 r7 r8 r9 r10 r11
        simp only [Prod.mk.injEq] at r4
        obtain ⟨rfl, rfl, _⟩ := r4
        subst r3 r5 r6 r7
        unfold l8_0_19
        dsimp only
        refine ens_ite (fun h => ?_) (fun h => ?_)
        · refine ens_bind (ens_tail (next_e _ d r1 (by omega) (by omega)) ?_)
          rintro ⟨⟨x, ⟨⟩⟩, ⟨⟨d8, ⟨⟩⟩, ⟨⟩⟩⟩ ⟨s1, s2, s3⟩
          dsimp only at s1 s2 s3 ⊢
          rw [w64_id (x := 1 + x) (by omega) (by omega), w64_id (x := dy + (1 + x)) (by omega) (by omega), w64_id (x := j - 1) (by omega) (by omega)]
          refine ens_need (by simp; omega) (ens_some ?_)
          exact ⟨⟨s1, by dsimp only; omega, rfl, rfl, rfl, rfl, rfl, days_snoc dl 20454 dy (dy + (1 + x)) r8 (by omega), by dsimp only; omega, by simp; omega, by dsimp only; omega⟩, by dsimp only; omega⟩
        · exact ens_some ⟨r1, rfl, rfl, rfl, rfl, rfl, ⟨dy, by omega, r8⟩, by dsimp only; omega⟩
      rintro ⟨⟨i', ⟨⟩⟩, ⟨⟨d8, ⟨⟩⟩, ⟨⟨⟩, ⟨⟩⟩, ⟨⟨⟩, ⟨⟩⟩, ⟨⟨cn, cz, ⟨⟩⟩, ⟨⟩⟩, zs3, ps3, l3, dl, ⟨⟩⟩⟩ ⟨r1, r2, r3, r4, r5, r6, r7, r8⟩
      dsimp only at r1 r2 r3 r4 r5 r6 r7 r8 ⊢
      simp only [Prod.mk.injEq] at r3
      obtain ⟨rfl, rfl, _⟩ := r3
      subst r2 r4 r5 r6
      refine ens_need (by simp; omega) (ens_some ?_)
      rw [w64_id (x := i' - 1) (by omega) (by omega)]
      refine ⟨⟨r1, by dsimp only; omega, rfl, rfl, fun x hx => ?_, by simp; omega⟩, by dsimp only; omega⟩
      rcases List.mem_append.1 hx with hx | hx
      · exact q5 x hx
      · simp only [List.mem_cons, List.not_mem_nil, or_false] at hx
        subst hx
        exact ⟨rfl, ⟨p2, p3⟩, r7, by dsimp only; omega⟩
    · exact ens_some ⟨q1, rfl, rfl, q5, by dsimp only; omega⟩
  rintro ⟨⟨⟩, ⟨⟨d6, ⟨⟩⟩, ⟨⟨⟩, ⟨⟩⟩, ⟨⟨⟩, ⟨⟩⟩, zs2, ps2, cs, ⟨⟩⟩⟩ ⟨q1, rfl, rfl, q4, q5⟩
  dsimp only at g5 g6 g11 g12 q1 q4 q5 ⊢
  exact ens_some ⟨q1, g5, by dsimp only; omega, by dsimp only; omega, g11, by dsimp only; omega, by dsimp only; omega, q4, by dsimp only; omega⟩
abbrev L8 := ByteArray × Int × Int × Int × Int × Int × Int × Int × Unit
/-- A layer of the dice. -/
structure GL (nz np : Nat) (nm : ByteArray) (l : L8) (mem : List Int) : Prop where
  name : l.1 = nm
  zone : 0 ≤ l.2.1 ∧ l.2.1 < nz
  day : 20452 ≤ l.2.2.1 ∧ l.2.2.1 ≤ 20457
  sec : 0 ≤ l.2.2.2.1 ∧ l.2.2.2.1 ≤ 79200
  unit : 0 ≤ l.2.2.2.2.1 ∧ l.2.2.2.2.1 ≤ 2
  hours : l.2.2.2.2.1 = 0 → 6 ≤ l.2.2.2.2.2.1 ∧ l.2.2.2.2.2.1 ≤ 49
  days : l.2.2.2.2.1 ≠ 0 → 1 ≤ l.2.2.2.2.2.1 ∧ l.2.2.2.2.2.1 ≤ 2
  ne : 1 ≤ mem.length
  ml : mem.length ≤ 3
  mem : ∀ m ∈ mem, 0 ≤ m ∧ m < np

theorem layer_e (c : CfT) (nm : ByteArray) (d : Dc) (hd : DOK d) (hz : 1 ≤ c.1.length) (hz2 : c.1.length ≤ 2) (hp : 1 ≤ c.2.1.length) (hp2 : c.2.1.length ≤ 4) (hc : c.2.2.1.length ≤ 1) :
    Ens (m9 ((c, (nm, ())), ((d, ()), ()))) fun u => DOK u.2.1.1 ∧ ∃ l8, GL c.1.length c.2.1.length nm l8 u.2.2.2.1 ∧ u.2.2.1.1.1 = l8.1 ∧ u.2.2.1.1.2.1 = l8.2.1 ∧ u.2.2.1.1.2.2.1 = l8.2.2.1 ∧ u.2.2.1.1.2.2.2.1 = l8.2.2.2.1 ∧ u.2.2.1.1.2.2.2.2.1 = l8.2.2.2.2.1 ∧ u.2.2.1.1.2.2.2.2.2.1 = l8.2.2.2.2.2.1 := by
  unfold m9
  dsimp only
  refine ens_bind (ens_tail (next_e _ d hd (by omega) (by omega)) ?_)
  rintro ⟨⟨z, ⟨⟩⟩, ⟨⟨d1, ⟨⟩⟩, ⟨⟩⟩⟩ ⟨a1, a2, a3⟩
  dsimp only at a1 a2 a3 ⊢
  refine ens_bind (ens_tail (next_e _ d1 a1 (by omega) (by omega)) ?_)
  rintro ⟨⟨dy, ⟨⟩⟩, ⟨⟨d2, ⟨⟩⟩, ⟨⟩⟩⟩ ⟨a4, a5, a6⟩
  dsimp only at a4 a5 a6 ⊢
  refine ens_bind (ens_tail (pick_e _ d2 a4 (by simp) (by simp)) ?_)
  rintro ⟨⟨sc, ⟨⟩⟩, ⟨⟨d3, ⟨⟩⟩, ⟨⟩⟩⟩ ⟨a7, a8⟩
  dsimp only at a7 a8 ⊢
  simp only [List.mem_cons, List.not_mem_nil, or_false] at a8
  refine ens_bind (ens_tail (next_e _ d3 a7 (by omega) (by omega)) ?_)
  rintro ⟨⟨un, ⟨⟩⟩, ⟨⟨d4, ⟨⟩⟩, ⟨⟩⟩⟩ ⟨a9, a10, a11⟩
  dsimp only at a9 a10 a11 ⊢
  refine ens_bind (ens_tail (next_e _ d4 a9 (by omega) (by omega)) ?_)
  rintro ⟨⟨ev, ⟨⟩⟩, ⟨⟨d5, ⟨⟩⟩, ⟨⟩⟩⟩ ⟨a12, a13, a14⟩
  dsimp only at a12 a13 a14 ⊢
  rw [w64_id (x := 20454 + dy) (by omega) (by omega), w64_id (x := 20454 + dy - 2) (by omega) (by omega), w64_id (x := 1 + ev) (by omega) (by omega)]
  -- the layer but for its members
  refine ens_bind (ens_tail (R := fun v => DOK v.2.1.1 ∧ (∃ e, v.2.2.1.1 = (nm, z, 20454 + dy - 2, sc, un, e, 0, 0, ()) ∧ (un = 0 → 6 ≤ e ∧ e ≤ 49) ∧ (un ≠ 0 → 1 ≤ e ∧ e ≤ 2)) ∧ v.2.2.2.1.1 = c) ?_ ?_)
  · refine ens_bif (fun h => ?_) (fun h => ?_)
    · have h := eq_of_beq h
      refine ens_bind (ens_tail (pick_e _ d5 a12 (by simp) (by simp)) ?_)
      rintro ⟨⟨x, ⟨⟩⟩, ⟨⟨d6, ⟨⟩⟩, ⟨⟩⟩⟩ ⟨b1, b2⟩
      dsimp only at b1 b2 ⊢
      simp only [List.mem_cons, List.not_mem_nil, or_false] at b2
      exact ens_some ⟨b1, ⟨x, rfl, fun _ => by omega, fun h2 => absurd h h2⟩, rfl⟩
    · have h := ne_of_beq_false h
      exact ens_some ⟨a12, ⟨1 + ev, rfl, fun h2 => absurd h2 h, fun _ => by omega⟩, rfl⟩
  rintro ⟨⟨⟩, ⟨⟨d6, ⟨⟩⟩, ⟨l8, ⟨⟩⟩, ⟨c', ⟨⟩⟩, ⟨z8, ⟨⟩⟩, ⟨⟩⟩⟩ ⟨a15, ⟨e, a16, a17, a18⟩, a19⟩
  dsimp only at a15 a16 a19 ⊢
  subst a16 a19
  refine ens_bind (ens_tail (next_e _ d6 a15 (by omega) (by omega)) ?_)
  rintro ⟨⟨k, ⟨⟩⟩, ⟨⟨d7, ⟨⟩⟩, ⟨⟩⟩⟩ ⟨a20, a21, a22⟩
  dsimp only at a20 a21 a22 ⊢
  rw [w64_id (x := 1 + k) (by omega) (by omega)]
  -- members
  refine ens_bind (ens_tail (ens_loop (fun (a : (Int × Unit) × (Dc × Unit) × (L8 × Unit) × (CfT × Unit) × (L8 × Unit) × List Int × Unit) => DOK a.2.1.1 ∧ 0 ≤ a.1.1 ∧ a.2.2.1.1 = (nm, z, 20454 + dy - 2, sc, un, e, 0, 0, ()) ∧ a.2.2.2.1.1 = c' ∧ (∀ m ∈ a.2.2.2.2.2.1, 0 ≤ m ∧ m < c'.2.1.length) ∧ (a.2.2.2.2.2.1.length : Int) + a.1.1 = 1 + k) (fun a => a.1.1.toNat)
    (Q := fun (u : Unit × (Dc × Unit) × (L8 × Unit) × (L8 × Unit) × (CfT × Unit) × List Int × Unit) => DOK u.2.1.1 ∧ u.2.2.2.1.1 = (nm, z, 20454 + dy - 2, sc, un, e, 0, 0, ()) ∧ u.2.2.2.2.1.1 = c' ∧ (∀ m ∈ u.2.2.2.2.2.1, 0 ≤ m ∧ m < c'.2.1.length) ∧ (u.2.2.2.2.2.1.length : Int) = 1 + k) ?_ _ ⟨a20, by dsimp only; omega, rfl, rfl, fun m h => by simp at h, by simp⟩) ?_)
  · rintro ⟨⟨i, ⟨⟩⟩, ⟨⟨d, ⟨⟩⟩, ⟨l8, ⟨⟩⟩, ⟨c2, ⟨⟩⟩, ⟨w8, ⟨⟩⟩, ml, ⟨⟩⟩⟩ ⟨q1, q2, q3, q4, q5, q6⟩
    dsimp only at q1 q2 q3 q4 q5 q6
    subst q3 q4
    unfold l9_0_5
    dsimp only
    refine ens_ite (fun h => ?_) (fun h => ?_)
    · refine ens_bind (ens_tail (next_e _ d q1 (by omega) (by omega)) ?_)
      rintro ⟨⟨x, ⟨⟩⟩, ⟨⟨d8, ⟨⟩⟩, ⟨⟩⟩⟩ ⟨p1, p2, p3⟩
      dsimp only at p1 p2 p3 ⊢
      refine ens_need (by simp; omega) (ens_some ?_)
      rw [w64_id (x := i - 1) (by omega) (by omega)]
      refine ⟨⟨p1, by dsimp only; omega, rfl, rfl, fun m hm => ?_, by simp; omega⟩, by dsimp only; omega⟩
      rcases List.mem_append.1 hm with hm | hm
      · exact q5 m hm
      · simp only [List.mem_cons, List.not_mem_nil, or_false] at hm
        omega
    · exact ens_some ⟨q1, rfl, rfl, q5, by dsimp only; omega⟩
  rintro ⟨⟨⟩, ⟨⟨d8, ⟨⟩⟩, ⟨w8, ⟨⟩⟩, ⟨l8, ⟨⟩⟩, ⟨c2, ⟨⟩⟩, ml, ⟨⟩⟩⟩ ⟨q1, q2, q3, q4, q5⟩
  dsimp only at q1 q2 q3 q4 q5 ⊢
  subst q2 q3
  have hGL : ∀ a b, GL c2.1.length c2.2.1.length nm (nm, z, 20454 + dy - 2, sc, un, e, a, b, ()) ml := fun a b =>
    ⟨rfl, ⟨a2, a3⟩, ⟨by dsimp only; omega, by dsimp only; omega⟩, ⟨by dsimp only; omega, by dsimp only; omega⟩, ⟨by dsimp only; omega, by dsimp only; omega⟩, a17, a18, by omega, by omega, q4⟩
  -- windows
  refine ens_bind (ens_tail (R := fun v => DOK v.2.1.1 ∧ v.2.2.2.1.1 = (nm, z, 20454 + dy - 2, sc, un, e, 0, 0, ()) ∧ v.2.2.2.2.1.1 = c2 ∧ v.2.2.2.2.2.1 = ml) ?_ ?_)
  · refine ens_bind (ens_tail (bool_e _ d8 q1 (by omega) (by omega)) ?_)
    rintro ⟨⟨b, ⟨⟩⟩, ⟨⟨d9, ⟨⟩⟩, ⟨⟩⟩⟩ p5
    dsimp only at p5 ⊢
    refine ens_bif (fun _ => ?_) (fun _ => ?_)
    · refine ens_bind (ens_tail (wins_e d9 p5) ?_)
      rintro ⟨⟨⟩, ⟨⟨d7, ⟨⟩⟩, ws, ⟨⟩⟩⟩ ⟨p6, p7, p8⟩
      exact ens_some ⟨p6, rfl, rfl, rfl⟩
    · exact ens_some ⟨p5, rfl, rfl, rfl⟩
  rintro ⟨⟨⟩, ⟨⟨d9, ⟨⟩⟩, ⟨w8, ⟨⟩⟩, ⟨l8, ⟨⟩⟩, ⟨c3, ⟨⟩⟩, ml2, ws, ⟨⟩⟩⟩ ⟨r1, r2, r3, r4⟩
  dsimp only at r1 r2 r3 r4 ⊢
  subst r2 r3 r4
  refine ens_bind (ens_tail (R := fun v => DOK v.2.1.1 ∧ (∃ a b, v.2.2.2.1.1 = (nm, z, 20454 + dy - 2, sc, un, e, a, b, ())) ∧ v.2.2.2.2.1 = ml2) ?_ ?_)
  · refine ens_bind (ens_tail (R := fun v => DOK v.2.1.1 ∧ (v.1.1 = true → 1 ≤ c3.2.2.1.length) ∧ v.2.2.2.1.1 = (nm, z, 20454 + dy - 2, sc, un, e, 0, 0, ()) ∧ v.2.2.2.2.1.1 = c3 ∧ v.2.2.2.2.2.1 = ml2) ?_ ?_)
    · refine ens_bind (ens_tail (bool_e _ d9 r1 (by omega) (by omega)) ?_)
      rintro ⟨⟨b, ⟨⟩⟩, ⟨⟨d10, ⟨⟩⟩, ⟨⟩⟩⟩ p5
      dsimp only at p5 ⊢
      refine ens_bif (fun _ => ?_) (fun _ => ?_)
      · exact ens_some ⟨p5, (fun h => by have := of_decide_eq_true h; omega), rfl, rfl, rfl⟩
      · exact ens_some ⟨p5, (fun h => by cases h), rfl, rfl, rfl⟩
    rintro ⟨⟨bb, ⟨⟩⟩, ⟨⟨d10, ⟨⟩⟩, ⟨w9, ⟨⟩⟩, ⟨l8, ⟨⟩⟩, ⟨c4, ⟨⟩⟩, ml3, ws3, ⟨⟩⟩⟩ ⟨s1, s2, s3, s4, s5⟩
    dsimp only at s1 s2 s3 s4 s5 ⊢
    subst s3 s4 s5
    refine ens_bif (fun hb => ?_) (fun hb => ?_)
    · have := s2 hb
      refine ens_bind (ens_tail (next_e _ d10 s1 (by omega) (by omega)) ?_)
      rintro ⟨⟨x, ⟨⟩⟩, ⟨⟨d11, ⟨⟩⟩, ⟨⟩⟩⟩ ⟨p1, p2, p3⟩
      dsimp only at p1 p2 p3 ⊢
      refine ens_bind (ens_tail (next_e _ d11 p1 (by omega) (by omega)) ?_)
      rintro ⟨⟨y, ⟨⟩⟩, ⟨⟨d12, ⟨⟩⟩, ⟨⟩⟩⟩ ⟨p4, p5, p6⟩
      dsimp only at p4 p5 p6 ⊢
      exact ens_some ⟨p4, ⟨_, _, rfl⟩, rfl⟩
    · exact ens_some ⟨s1, ⟨_, _, rfl⟩, rfl⟩
  rintro ⟨⟨⟩, ⟨⟨d10, ⟨⟩⟩, ⟨w9, ⟨⟩⟩, ⟨l8, ⟨⟩⟩, ml3, ws3, ⟨⟩⟩⟩ ⟨s1, ⟨a, b, s2⟩, s3⟩
  dsimp only at s1 s2 s3 ⊢
  subst s2 s3
  exact ens_some ⟨s1, _, hGL a b, rfl, rfl, rfl, rfl, rfl, rfl⟩

/-- An edit of the dice. -/
structure GE (np : Nat) (x : EdT) : Prop where
  kind : 0 ≤ x.1 ∧ x.1 ≤ 2
  a : (0 ≤ x.2.1 ∧ x.2.1 < np) ∨ (x.1 = 1 ∧ x.2.1 = -1)
  swap : x.1 = 2 → 0 ≤ x.2.2.1 ∧ x.2.2.1 < np ∧ x.2.1 ≠ x.2.2.1
  other : x.1 ≠ 2 → x.2.2.1 = 0
  from_ : 1767139199 ≤ x.2.2.2.1
  lt : x.2.2.2.1 < x.2.2.2.2.1
  to_ : x.2.2.2.2.1 ≤ 1769512799

theorem edit_e (c : CfT) (d : Dc) (hd : DOK d) (hp : 1 ≤ c.2.1.length) (hp2 : c.2.1.length ≤ 4) : Ens (m10 ((c, ()), ((d, ()), ()))) fun u => DOK u.2.1.1 ∧ GE c.2.1.length u.2.2.1.1 := by
  unfold m10
  dsimp only
  refine ens_bind (ens_tail (next_e _ d hd (by omega) (by omega)) ?_)
  rintro ⟨⟨k, ⟨⟩⟩, ⟨⟨d1, ⟨⟩⟩, ⟨⟩⟩⟩ ⟨a1, a2, a3⟩
  dsimp only at a1 a2 a3 ⊢
  refine ens_bind (ens_tail (next_e _ d1 a1 (by omega) (by omega)) ?_)
  rintro ⟨⟨x, ⟨⟩⟩, ⟨⟨d2, ⟨⟩⟩, ⟨⟩⟩⟩ ⟨a4, a5, a6⟩
  dsimp only at a4 a5 a6 ⊢
  refine ens_bind (ens_tail (instant_e d2 a4) ?_)
  rintro ⟨⟨f, ⟨⟩⟩, ⟨⟨d3, ⟨⟩⟩, ⟨⟩⟩⟩ ⟨a7, a8, a9⟩
  dsimp only at a7 a8 a9 ⊢
  refine ens_bind (ens_tail (pick_e _ d3 a7 (by simp) (by simp)) ?_)
  rintro ⟨⟨t, ⟨⟩⟩, ⟨⟨d4, ⟨⟩⟩, ⟨⟩⟩⟩ ⟨a10, a11⟩
  dsimp only at a10 a11 ⊢
  simp only [List.mem_cons, List.not_mem_nil, or_false] at a11
  rw [w64_id (x := f + t) (by omega) (by omega)]
  refine ens_bind (ens_tail (R := fun r => match r with
    | .inl v => DOK v.2.1.1 ∧ GE c.2.1.length v.2.2.2.1.1
    | .inr v => DOK v.2.1.1 ∧ GE c.2.1.length v.2.2.1.1) ?_ ?_)
  · refine ens_bif (fun h => ?_) (fun h => ?_)
    · have h := eq_of_beq h
      subst h
      refine ens_ite (fun h => ?_) (fun h => ?_)
      · exact ens_some ⟨a10, ⟨⟨by dsimp only; omega, by dsimp only; omega⟩, .inl ⟨a5, a6⟩, fun h => by dsimp only at h; omega, fun _ => rfl, a8, by dsimp only; omega, by dsimp only; omega⟩⟩
      · rw [w64_id (x := (c.2.1.length : Int) - 1) (by omega) (by omega)]
        refine ens_bind (ens_tail (next_e _ d4 a10 (by omega) (by omega)) ?_)
        rintro ⟨⟨y, ⟨⟩⟩, ⟨⟨d5, ⟨⟩⟩, ⟨⟩⟩⟩ ⟨b1, b2, b3⟩
        dsimp only at b1 b2 b3 ⊢
        rw [w64_id (x := x + 1) (by omega) (by omega), w64_id (x := x + 1 + y) (by omega) (by omega)]
        refine ens_need (by omega) (ens_some ?_)
        have hm : (x + 1 + y).tmod (c.2.1.length : Int) = if x + 1 + y < c.2.1.length then x + 1 + y else x + 1 + y - c.2.1.length := by
          rw [Int.tmod_eq_emod_of_nonneg (by omega)]
          split
          · rw [Int.emod_eq_of_lt (by omega) (by omega)]
          · rw [← Int.sub_emod_right, Int.emod_eq_of_lt (by omega) (by omega)]
        refine ⟨b1, ⟨⟨by dsimp only; omega, by dsimp only; omega⟩, .inl ⟨a5, a6⟩, fun _ => ?_, fun h => absurd rfl h, a8, by dsimp only; omega, by dsimp only; omega⟩⟩
        dsimp only
        rw [hm]
        split <;> omega
    · have h := ne_of_beq_false h
      exact ens_some ⟨a10, ⟨⟨by dsimp only; omega, by dsimp only; omega⟩, .inl ⟨a5, a6⟩, fun h2 => absurd h2 h, fun _ => rfl, a8, by dsimp only; omega, by dsimp only; omega⟩⟩
  rintro r hr
  refine ens_sum (fun v hv => ?_) (fun v hv => ?_)
  · subst hv
    obtain ⟨⟨⟩, ⟨d5, ⟨⟩⟩, ⟨z5, ⟨⟩⟩, ⟨e5, ⟨⟩⟩, ⟨⟩⟩ := v
    obtain ⟨h1, h2⟩ := hr
    dsimp only at h1 h2 ⊢
    refine ens_bind (ens_bind (ens_tail (R := fun v => DOK v.2.1.1 ∧ (v.1.1 = true → e5.1 = 1) ∧ v.2.2.2.1.1 = e5) ?_ ?_))
    · refine ens_bif (fun h => ?_) (fun h => ?_)
      · refine ens_bind (ens_tail (bool_e _ d5 h1 (by omega) (by omega)) ?_)
        rintro ⟨⟨b, ⟨⟩⟩, ⟨⟨d6, ⟨⟩⟩, ⟨⟩⟩⟩ p5
        exact ens_some ⟨p5, fun _ => eq_of_beq h, rfl⟩
      · exact ens_some ⟨h1, (fun h => by cases h), rfl⟩
    rintro ⟨⟨b, ⟨⟩⟩, ⟨⟨d6, ⟨⟩⟩, ⟨z6, ⟨⟩⟩, ⟨e6, ⟨⟩⟩, ⟨⟩⟩⟩ ⟨p1, p2, p3⟩
    dsimp only at p1 p2 p3 ⊢
    subst p3
    refine ens_bif (fun h => ens_some (ens_some ?_)) (fun h => ens_some (ens_some ⟨p1, h2⟩))
    have h3 := p2 h
    exact ⟨p1, ⟨h2.kind, .inr ⟨h3, rfl⟩, fun h => by dsimp only at h; omega, h2.other, h2.from_, h2.lt, h2.to_⟩⟩
  · subst hv
    exact ens_some hr
set_option maxRecDepth 100000
/-! ### Names -/
noncomputable def okName (s : ByteArray) : Bool := match m36 ((s, ()), ()) with
  | some ((b, _), _) => b
  | none => false
theorem okName_iff {s : ByteArray} (h : okName s = true) : m36 ((s, ()), ()) = some ((true, ()), ()) := by
  unfold okName at h
  split at h
  · rename_i b _ _ e; subst h; exact e
  · cases h
theorem znames_ok : znames.all okName = true := by kernel_rfl
theorem pnames_ok : pnames.all okName = true := by kernel_rfl
theorem days_name : okName (bs [100, 97, 121, 115]) = true := by kernel_rfl
theorem only_name : okName (bs [111, 110, 108, 121]) = true := by kernel_rfl
theorem s_name : okName (bs [115]) = true := by kernel_rfl
theorem znames_ne : znames.Pairwise (· ≠ ·) := of_decide_eq_true (by kernel_rfl)
theorem pnames_ne : pnames.Pairwise (· ≠ ·) := of_decide_eq_true (by kernel_rfl)
theorem pnames_no : pnames.all (fun s => !(s.data.toList == (bs [110, 111, 98, 111, 100, 121]).data.toList)) = true := by kernel_rfl
theorem days_ok : (List.range 64).all (fun k => match m154 (((20440 : Int) + k, ()), ()) with | some ((b, _), _) => b | none => false) = true := by kernel_rfl
theorem day_e {x : Int} (h1 : 20440 ≤ x) (h2 : x ≤ 20503) : m154 ((x, ()), ()) = some ((true, ()), ()) := by
  have h := List.all_eq_true.1 days_ok (x - 20440).toNat (by rw [List.mem_range]; omega)
  rw [show (20440 : Int) + ((x - 20440).toNat : Nat) = x from by omega] at h
  split at h
  · rename_i b _ _ e; subst h; exact e
  · cases h

theorem mpGet_set {κ α : Type} [DecidableEq κ] (a b : κ) (x : α) : ∀ l : List (κ × α), mpGet a (mpSet b x l) = if a = b then some x else mpGet a l
  | [] => rfl
  | p :: r => by
    simp only [mpSet]
    by_cases h : b = p.1
    · rw [if_pos h]
      simp only [mpGet]
      by_cases h2 : a = p.1
      · rw [if_pos h2, if_pos (h2.trans h.symm)]
      · rw [if_neg h2, if_neg (fun e => h2 (e.trans h)), if_neg h2]
    · rw [if_neg h]
      simp only [mpGet, mpGet_set a b x r]
      by_cases h2 : a = p.1
      · rw [if_pos h2, if_pos h2, if_neg (fun e => h (e.symm.trans h2))]
      · rw [if_neg h2, if_neg h2]

theorem in199 {n lo hi : Int} (h1 : lo ≤ n) (h2 : n ≤ hi) : m199 ((n, (lo, (hi, ()))), ()) = some ((true, ()), ()) := by
  simp only [m199, ge_iff_le, decide_eq_true h1, decide_eq_true h2, sumE, sS]
theorem in220 {n lo hi : Int} (h1 : lo ≤ n) (h2 : n ≤ hi) : m220 ((n, (lo, (hi, ()))), ()) = some ((true, ()), ()) := by
  simp only [m220, ge_iff_le, decide_eq_true h1, decide_eq_true h2, sumE, sS]
theorem idx_e {i n : Int} (h1 : 0 ≤ i) (h2 : i < n) : m150 ((i, (n, ())), ()) = some ((true, ()), ()) := by
  simp only [m150, ge_iff_le, decide_eq_true h1, decide_eq_true h2, sumE, sS]

/-! ### Zones -/
theorem occ_e (nm : ByteArray) {off : Int} (h1 : -64800 ≤ off) (h2 : off ≤ 64800) : m198 (((nm, off, [], ()), ()), ()) = some ((0, ()), ([], ())) := by
  have l1 : loopT l198_0_7 ((0, (0, (([] : List YrT), (0, ())))), (((nm, off, [], ()), ()), ())) = some (.inr ((0, ()), (((nm, off, [], ()), ()), ()))) := loopT_inr rfl
  have l2 : loopT l198_0_18 ((0, (([] : List YrT), (0, ()))), ([], ())) = some ((), ([], ())) := loopT_inr rfl
  unfold m198
  simp only [in199 h1 h2, sumE, sS]
  simp only [List.length_nil, show decide (((0 : Nat) : Int) > 16) = false from rfl, cond_false, show ((0 : Nat) : Int) = 0 from rfl, l1, sumE, sS, show decide ((0 : Int) > 640) = false from rfl, l2, List.isEmpty_nil, show decide ((0 : Int) > 16) = false from rfl, and_self, decide_true, Bool.and_self, cond_false, cond_true]
theorem trans_e (nm : ByteArray) {off : Int} (h1 : -64800 ≤ off) (h2 : off ≤ 64800) : m117 (((nm, off, [], ()), ()), ()) = some ((0, ()), ([], ())) := by
  have l1 : loopT l117_0_7 ((0, (off, (0, ()))), ([], ([], ()))) = some (.inr ((), ([], ()))) := loopT_inr rfl
  unfold m117
  simp only [occ_e nm h1 h2, sumE, sS, List.length_nil, show ((0 : Nat) : Int) = 0 from rfl, l1]
theorem zone_ok (nm : ByteArray) {off : Int} (h1 : -64800 ≤ off) (h2 : off ≤ 64800) (h3 : off.tmod 60 = 0) : m69 (((nm, off, [], ()), ()), ()) = some ((0, ()), ()) := by
  have l1 : loopT l69_2_2 ((0, (([] : List YrT), (0, ()))), ()) = some (.inr ((), ())) := loopT_inr rfl
  unfold m69 m147
  simp only [trans_e nm h1 h2, sumE, sS, h3, List.length_nil, show ((0 : Nat) : Int) = 0 from rfl, l1]
theorem table_e (nm : ByteArray) {off : Int} (h1 : -64800 ≤ off) (h2 : off ≤ 64800) : m53 (((nm, off, [], ()), ()), ()) = some ((0, ()), (((off, ()), ()), ([], ()))) := by
  unfold m53
  simp only [trans_e nm h1 h2, sumE, sS]

/-! ### Windows -/
theorem wins_at : ∀ (l : List WinT) (lo : Int) (i : Nat) (w : WinT), WinsFrom lo l → l[i]? = some w → lo ≤ w.1 ∧ w.1 < w.2.1 ∧ w.2.1 ≤ 604800
  | x :: r, lo, 0, w, h, e => by simp at e; subst e; exact ⟨h.1, h.2.1, h.2.2.1⟩
  | x :: r, lo, i + 1, w, h, e => by
    have := wins_at r x.2.1 i w h.2.2.2 (by simpa using e)
    exact ⟨by have := h.1; have := h.2.1; omega, this.2⟩
theorem wins_next : ∀ (l : List WinT) (lo : Int) (i : Nat) (v w : WinT), WinsFrom lo l → l[i]? = some v → l[i + 1]? = some w → v.2.1 ≤ w.1
  | x :: r, lo, 0, v, w, h, e, e2 => by
    simp at e; subst e
    exact (wins_at r x.2.1 0 w h.2.2.2 (by simpa using e2)).1
  | x :: r, lo, i + 1, v, w, h, e, e2 => wins_next r x.2.1 i v w h.2.2.2 (by simpa using e) (by simpa using e2)

theorem wins_ok {l : List WinT} (h : WinsFrom 0 l) (hl : l.length ≤ 14) : m113 ((l, ()), ()) = some ((0, ()), ()) := by
  have key : Ens (loopT l113_0_4 ((0, (l, (l, ((l.length : Int), ())))), ())) fun r => ∃ x, r = .inr x := by
    refine ens_loop (fun (a : (Int × List WinT × List WinT × Int × Unit) × Unit) => 0 ≤ a.1.1 ∧ a.1.1 ≤ l.length ∧ a.1.2.1 = l ∧ a.1.2.2.1 = l ∧ a.1.2.2.2.1 = l.length) (fun a => ((l.length : Int) - a.1.1).toNat) ?_ _ ⟨Int.le_refl _, by dsimp only; omega, rfl, rfl, rfl⟩
    rintro ⟨⟨i, l1, l2, n, ⟨⟩⟩, ⟨⟩⟩ ⟨h1, h2, h3, h4, h5⟩
    dsimp only at h1 h2 h3 h4 h5
    subst h3 h4 h5
    unfold l113_0_4
    dsimp only
    refine ens_ite (fun hlt => ?_) (fun _ => ens_some ⟨_, rfl⟩)
    refine ens_row h1 hlt fun e he hm => ?_
    have hw := wins_at _ 0 _ e h he
    simp only [decide_eq_false (show ¬ e.1 < 0 by omega), decide_eq_false (show ¬ e.1 ≥ e.2.1 by omega), decide_eq_false (show ¬ e.2.1 > 604800 by omega), sumE, sS]
    refine ens_bind (ens_tail (R := fun v => v.1.1 = false ∧ v.1.2.1 = l2 ∧ v.1.2.2.1 = l2 ∧ v.1.2.2.2.1 = (l2.length : Int) ∧ v.1.2.2.2.2.1 = i) ?_ ?_)
    · refine ens_ite (fun hpos => ?_) (fun _ => ens_some ⟨rfl, rfl, rfl, rfl, rfl⟩)
      rw [w64_id (x := i - 1) (by omega) (by omega)]
      refine ens_row (by omega) (by omega) fun v hv _ => ens_some ⟨?_, rfl, rfl, rfl, rfl⟩
      have := wins_next _ 0 (i - 1).toNat v e h hv (by rw [show (i - 1).toNat + 1 = i.toNat by omega]; exact he)
      exact decide_eq_false (by omega)
    rintro ⟨⟨b, l4, l5, n, i', ⟨⟩⟩, ⟨⟩⟩ ⟨p1, p2, p3, p4, p5⟩
    dsimp only at p1 p2 p3 p4 p5 ⊢
    subst p1 p2 p3 p4 p5
    refine ens_f (ens_some ?_)
    rw [w64_id (x := i' + 1) (by omega) (by omega)]
    exact ⟨⟨by dsimp only; omega, by dsimp only; omega, rfl, rfl, rfl⟩, by dsimp only; omega⟩
  obtain ⟨_, e, x, rfl⟩ := key
  unfold m113
  simp only [decide_eq_false (show ¬ ((l.length : Int)) > 14 by omega), e, sumE, sS]

/-! ### People, calendars -/
theorem hours_e {n : Int} (h1 : 0 ≤ n) (h2 : n ≤ 604800) (h3 : n.tmod 3600 = 0) : m151 ((n, ()), ()) = some ((true, ()), ()) := by
  unfold m151
  simp only [in220 h1 h2, h3, sumE, sS]
theorem person_ok {c : CfT} {p : PsT} (h : GP c.1.length p) : m71 ((c, (p, ())), ()) = some ((0, ()), ()) := by
  have h1 : m151 ((p.2.2.2.1, ()), ()) = some ((true, ()), ()) := by rcases h.week with e | e | e | e <;> rw [e] <;> exact hours_e (by omega) (by omega) rfl
  have h2 : m151 ((p.2.2.2.2.1, ()), ()) = some ((true, ()), ()) := by rcases h.rest with e | e | e | e <;> rw [e] <;> exact hours_e (by omega) (by omega) rfl
  unfold m71
  simp only [idx_e h.zone.1 h.zone.2, wins_ok h.quiet (by have := h.ql; omega), h1, h2, sumE, sS]

theorem days_at : ∀ (l : List Int) (lo hi : Int) (i : Nat) (x : Int), DaysFrom lo hi l → l[i]? = some x → lo < x ∧ x ≤ hi
  | y :: r, lo, hi, 0, x, h, e => by
    simp at e; subst e
    have key : ∀ (r : List Int) (lo : Int), DaysFrom lo hi r → lo ≤ hi := by
      intro r
      induction r with
      | nil => intro lo h; exact h
      | cons z r ih => intro lo h; have := h.1; have := ih z h.2; omega
    exact ⟨h.1, key r y h.2⟩
  | y :: r, lo, hi, i + 1, x, h, e => by
    have h2 := days_at r y hi i x h.2 (by simpa using e)
    have := h.1
    exact ⟨by omega, h2.2⟩
theorem days_next : ∀ (l : List Int) (lo hi : Int) (i : Nat) (x y : Int), DaysFrom lo hi l → l[i]? = some x → l[i + 1]? = some y → x < y
  | z :: r, lo, hi, 0, x, y, h, e, e2 => by
    simp at e; subst e
    exact (days_at r z hi 0 y h.2 (by simpa using e2)).1
  | z :: r, lo, hi, i + 1, x, y, h, e, e2 => days_next r z hi i x y h.2 (by simpa using e) (by simpa using e2)

theorem calendar_ok {c : CfT} {x : CaT} (h : GC c.1.length x) : m75 ((c, (x, ())), ()) = some ((0, ()), ()) := by
  obtain ⟨hi, hh, hd⟩ := h.days
  have hl := h.len
  have k1 : Ens (loopT l75_2_2 ((0, (x.2.2.1, ((x.2.2.1.length : Int), ()))), ())) fun r => ∃ y, r = .inr y := by
    refine ens_loop (fun (a : (Int × List Int × Int × Unit) × Unit) => 0 ≤ a.1.1 ∧ a.1.2.1 = x.2.2.1 ∧ a.1.2.2.1 = x.2.2.1.length) (fun a => ((x.2.2.1.length : Int) - a.1.1).toNat) ?_ _ ⟨Int.le_refl _, rfl, rfl⟩
    rintro ⟨⟨i, l1, n, ⟨⟩⟩, ⟨⟩⟩ ⟨h1, h2, h3⟩
    dsimp only at h1 h2 h3
    subst h2 h3
    unfold l75_2_2 m153
    dsimp only
    refine ens_ite (fun hlt => ?_) (fun _ => ens_some ⟨_, rfl⟩)
    refine ens_row h1 hlt fun e he hm => ?_
    have := days_at _ _ _ _ _ hd he
    simp only [day_e (show 20440 ≤ e by omega) (by omega), sumE, sS]
    refine ens_some ?_
    rw [w64_id (x := i + 1) (by omega) (by omega)]
    exact ⟨⟨by dsimp only; omega, rfl, rfl⟩, by dsimp only; omega⟩
  have k2 : Ens (loopT l75_0_8 ((0, ((x.2.2.1.length : Int), ())), ((x, ()), ()))) fun r => ∃ y, r = .inr y := by
    refine ens_loop (fun (a : (Int × Int × Unit) × (CaT × Unit) × Unit) => 0 ≤ a.1.1 ∧ a.1.2.1 = x.2.2.1.length ∧ a.2.1.1 = x) (fun a => ((x.2.2.1.length : Int) - a.1.1).toNat) ?_ _ ⟨Int.le_refl _, rfl, rfl⟩
    rintro ⟨⟨i, n, ⟨⟩⟩, ⟨x', ⟨⟩⟩, ⟨⟩⟩ ⟨h1, h2, h3⟩
    dsimp only at h1 h2 h3
    subst h2 h3
    unfold l75_0_8
    dsimp only
    refine ens_ite (fun hlt => ?_) (fun _ => ens_some ⟨_, rfl⟩)
    refine ens_bind (ens_tail (R := fun v => v.1.1 = false ∧ v.1.2.1 = (x'.2.2.1.length : Int) ∧ v.1.2.2.1 = i ∧ v.2.1.1 = x') ?_ ?_)
    · refine ens_ite (fun hpos => ?_) (fun _ => ens_some ⟨rfl, rfl, rfl, rfl⟩)
      refine ens_row h1 hlt fun e he hm => ?_
      rw [w64_id (x := i - 1) (by omega) (by omega)]
      refine ens_row (by omega) (by omega) fun v hv _ => ens_some ⟨?_, rfl, rfl, rfl⟩
      have := days_next _ _ _ (i - 1).toNat v e hd hv (by rw [show (i - 1).toNat + 1 = i.toNat by omega]; exact he)
      exact decide_eq_false (by omega)
    rintro ⟨⟨b, n, i', ⟨⟩⟩, ⟨x2, ⟨⟩⟩, ⟨⟩⟩ ⟨p1, p2, p3, p4⟩
    dsimp only at p1 p2 p3 p4 ⊢
    subst p1 p2 p3 p4
    refine ens_f (ens_some ?_)
    rw [w64_id (x := i' + 1) (by omega) (by omega)]
    exact ⟨⟨by dsimp only; omega, rfl, rfl⟩, by dsimp only; omega⟩
  obtain ⟨_, e1, y1, rfl⟩ := k1
  obtain ⟨_, e2, y2, rfl⟩ := k2
  unfold m75
  simp only [idx_e h.zone.1 h.zone.2, decide_eq_false (show ¬ ((x.2.2.1.length : Int)) > 64 by omega), e1, e2, sumE, sS]
set_option maxRecDepth 100000
theorem rowG_one {A B : Type} (x : A) (F : A → Option B) : rowG [x] (0 : Int) F = F x := rowG_int (by omega) rfl F
theorem mpGet_ne {κ α : Type} [DecidableEq κ] {a b : κ} (h : a ≠ b) (x : α) (l : List (κ × α)) : mpGet a (mpSet b x l) = mpGet a l := by rw [mpGet_set, if_neg h]

structure LOK (nz np : Nat) (l : LyT) : Prop where
  zone : 0 ≤ l.2.1 ∧ l.2.1 < nz
  day : 20452 ≤ l.2.2.1.1 ∧ l.2.2.1.1 ≤ 20460
  sec : 0 ≤ l.2.2.1.2.1 ∧ l.2.2.1.2.1 ≤ 86399
  unit : 0 ≤ l.2.2.2.1 ∧ l.2.2.2.1 ≤ 2
  every : 1 ≤ l.2.2.2.2.1 ∧ l.2.2.2.2.1 ≤ 49
  ne : 1 ≤ l.2.2.2.2.2.1.length
  ml : l.2.2.2.2.2.1.length ≤ 3
  mem : ∀ m ∈ l.2.2.2.2.2.1, 0 ≤ m ∧ m < np
  win : l.2.2.2.2.2.2.1 = []
  cal : l.2.2.2.2.2.2.2.1 = 0
  mode : l.2.2.2.2.2.2.2.2.1 = 0

theorem layer_ok {c : CfT} {l : LyT} (h : LOK c.1.length c.2.1.length l) : m158 ((c, (l, ())), ()) = some ((0, ()), ()) := by
  obtain ⟨nm, z, ⟨dy, sc, ⟨⟩⟩, un, ev, mem, win, cal, mode, ⟨⟩⟩ := l
  obtain ⟨hz, hd, hs, hu, he, hn, hm, hme, hw, hc, hmo⟩ := h
  dsimp only at hz hd hs hu he hn hm hme hw hc hmo
  subst hw hc hmo
  have k1 : Ens (loopT l158_2_2 ((0, (mem, ((mem.length : Int), ()))), ((c, ()), ()))) fun r => ∃ y : Unit, r = .inr ((), ((c, ()), ())) := by
    refine ens_loop (fun (a : (Int × List Int × Int × Unit) × (CfT × Unit) × Unit) => 0 ≤ a.1.1 ∧ a.1.2.1 = mem ∧ a.1.2.2.1 = mem.length ∧ a.2.1.1 = c) (fun a => ((mem.length : Int) - a.1.1).toNat) ?_ _ ⟨Int.le_refl _, rfl, rfl, rfl⟩
    rintro ⟨⟨i, l1, n, ⟨⟩⟩, ⟨c', ⟨⟩⟩, ⟨⟩⟩ ⟨h1, h2, h3, h4⟩
    dsimp only at h1 h2 h3 h4
    subst h2 h3 h4
    unfold l158_2_2
    dsimp only
    refine ens_ite (fun hlt => ?_) (fun _ => ens_some ⟨(), rfl⟩)
    refine ens_row h1 hlt fun e he hm => ?_
    have := hme e hm
    simp only [idx_e this.1 this.2, sumE, sS]
    refine ens_some ?_
    rw [w64_id (x := i + 1) (by omega) (by omega)]
    exact ⟨⟨by dsimp only; omega, rfl, rfl, rfl⟩, by dsimp only; omega⟩
  obtain ⟨_, e1, _, rfl⟩ := k1
  unfold m158
  simp only [idx_e hz.1 hz.2, decide_eq_false (show ¬ dy < 1 by omega), day_e (show 20440 ≤ dy by omega) (by omega), in220 hs.1 hs.2, in220 hu.1 hu.2, in220 he.1 (show ev ≤ 400 by omega),
    show ((mem.length : Int) == 0) = false from beq_eq_false_iff_ne.2 (by omega), decide_eq_false (show ¬ (mem.length : Int) > 12 by omega), e1, wins_ok (l := []) trivial (by simp), in220 (show (0 : Int) ≤ 0 by omega) (show (0 : Int) ≤ 2 by omega), sumE, sS]

theorem edit_ok {c : CfT} {x : EdT} (h : GE c.2.1.length x) : m159 ((c, (x, ())), ()) = some ((0, ()), ()) := by
  obtain ⟨k, a, b, f, t, ⟨⟩⟩ := x
  obtain ⟨hk, ha, hs, ho, hf, hl, ht⟩ := h
  dsimp only at hk ha hs ho hf hl ht
  have hday : m154 ((w64 (t.tdiv 86400), ()), ()) = some ((true, ()), ()) := by
    have e : t.tdiv 86400 = t / 86400 := Int.tdiv_eq_ediv_of_nonneg (by omega)
    rw [e, w64_id (by omega) (by omega)]
    exact day_e (by omega) (by omega)
  have h1 : Ens (m150 ((a, ((c.2.1.length : Int), ())), ())) fun u => u.1.1 = false → k = 1 ∧ a = -1 := by
    rcases ha with ha | ha
    · rw [idx_e ha.1 ha.2]; exact ens_some fun h => by cases h
    · unfold m150
      simp only [ge_iff_le, decide_eq_false (show ¬ 0 ≤ a by omega), sumE, sS]
      exact ens_some fun _ => ha
  obtain ⟨⟨⟨u, ⟨⟩⟩, ⟨⟩⟩, e1, h1⟩ := h1
  dsimp only at h1
  have h2 : (k == 2) = true → m150 ((b, ((c.2.1.length : Int), ())), ()) = some ((true, ()), ()) := fun h => by
    have := hs (eq_of_beq h)
    exact idx_e this.1 this.2.1
  have tail : ∀ (j : Option ((Bool × Unit) × (EdT × Unit) × Unit)), True := fun _ => trivial
  unfold m159
  simp only [in220 hk.1 hk.2, e1, sumE, sS]
  cases hk2 : k == 2 with
  | true =>
    have hk3 := eq_of_beq hk2
    have := hs hk3
    have hu : u = true := by
      cases u with
      | true => rfl
      | false => have := h1 rfl; omega
    subst hu
    simp only [hk2, h2 hk2, show (k != 2) = false from by rw [bne, hk2]; rfl, show (a == b) = false from beq_eq_false_iff_ne.2 this.2.2, decide_eq_false (show ¬ f < 0 by omega), decide_eq_false (show ¬ t < 0 by omega), hday, decide_eq_false (show ¬ f ≥ t by omega), sumE, sS]
  | false =>
    have hb := ho (ne_of_beq_false hk2)
    subst hb
    cases u with
    | true => simp only [hk2, show (k != 2) = true from by rw [bne, hk2]; rfl, show ((0 : Int) != 0) = false from rfl, decide_eq_false (show ¬ f < 0 by omega), decide_eq_false (show ¬ t < 0 by omega), hday, decide_eq_false (show ¬ f ≥ t by omega), sumE, sS]
    | false =>
      obtain ⟨rfl, rfl⟩ := h1 rfl
      simp only [show ((1 : Int) == 1) = true from rfl, show ((-1 : Int) == -1) = true from rfl, show ((1 : Int) == 2) = false from rfl, show ((1 : Int) != 2) = true from rfl, show ((0 : Int) != 0) = false from rfl, decide_eq_false (show ¬ f < 0 by omega), decide_eq_false (show ¬ t < 0 by omega), hday, decide_eq_false (show ¬ f ≥ t by omega), sumE, sS]

theorem schedule_ok {c : CfT} {nm : ByteArray} {l : LyT} {x : EdT} (hl : LOK c.1.length c.2.1.length l) (hn : okName l.1 = true) (hx : GE c.2.1.length x) : m79 ((c, ((nm, [l], [x], ()), ())), ()) = some ((0, ()), ()) := by
  have e1 : l79_1_3 ((0, ([l], (1, ()))), ((c, ()), ([], ()))) = some (.inl ((1, ([l], (1, ()))), ((c, ()), ([(l.1, true)], ())))) := by
    unfold l79_1_3 m156
    simp only [rowAt_G, rowG_one, okName_iff hn, layer_ok hl, sumE, sS, show decide ((0 : Int) < 1) = true from rfl, mpGet, Option.getD_none, mpSet, decide_true, show ((0 : Int) != 0) = false from rfl]
    rfl
  have e2 : l79_1_3 ((1, ([l], (1, ()))), ((c, ()), ([(l.1, true)], ()))) = some (.inr (.inr ((), ((c, ()), ())))) := rfl
  have e3 : loopT l79_1_3 ((0, ([l], (1, ()))), ((c, ()), ([], ()))) = some (.inr ((), ((c, ()), ()))) := loop_step e1 (loopT_inr e2)
  have f1 : l79_0_7 ((0, ([x], (1, ()))), ((c, ()), ())) = some (.inl ((1, ([x], (1, ()))), ((c, ()), ()))) := by
    unfold l79_0_7
    simp only [rowAt_G, rowG_one, edit_ok hx, sumE, sS, show decide ((0 : Int) < 1) = true from rfl, show ((0 : Int) != 0) = false from rfl]
    rfl
  have f2 : l79_0_7 ((1, ([x], (1, ()))), ((c, ()), ())) = some (.inr (.inr ((), ()))) := rfl
  have f3 : loopT l79_0_7 ((0, ([x], (1, ()))), ((c, ()), ())) = some (.inr ((), ())) := loop_step f1 (loopT_inr f2)
  unfold m79
  simp only [List.length_cons, List.length_nil, Nat.zero_add, show ((1 : Nat) : Int) = 1 from rfl, show decide ((1 : Int) > 6) = false from rfl, show decide ((1 : Int) > 48) = false from rfl, e3, f3, show ((0 : Int) != 0) = false from rfl, sumE, sS]

/-- Zones with one offset, without rules. -/
def OZs (off : Int) (l : List ZnT) : Prop := ∀ (i : Nat) (z : ZnT), l[i]? = some z → znames[i]? = some z.1 ∧ z.2.1 = off ∧ z.2.2.1 = []

theorem at_all {A : Type} {l : List A} {p : A → Bool} (h : l.all p = true) {i : Nat} {x : A} (hx : l[i]? = some x) : p x = true := List.all_eq_true.1 h x (List.mem_of_getElem? hx)
theorem ne_at {A : Type} {l : List A} (h : l.Pairwise (· ≠ ·)) {i j : Nat} {x y : A} (hij : i < j) (hx : l[i]? = some x) (hy : l[j]? = some y) : x ≠ y := by
  obtain ⟨hi, rfl⟩ := List.getElem?_eq_some_iff.1 hx
  obtain ⟨hj, rfl⟩ := List.getElem?_eq_some_iff.1 hy
  exact List.pairwise_iff_getElem.1 h i j hi hj hij

theorem zones_loop {off : Int} {zs : List ZnT} (hz : OZs off zs) (h1 : -64800 ≤ off) (h2 : off ≤ 64800) (h3 : off.tmod 60 = 0) (hl : zs.length ≤ 2) :
    Ens (loopT l33_1_3 ((0, (zs, ((zs.length : Int), ()))), ([], ()))) fun r => r = .inr ((), ()) := by
  refine ens_loop (fun (a : (Int × List ZnT × Int × Unit) × List (KeyT true × Bool) × Unit) => 0 ≤ a.1.1 ∧ a.1.2.1 = zs ∧ a.1.2.2.1 = zs.length ∧ ∀ (j : Nat) (nm : ByteArray), a.1.1 ≤ j → znames[j]? = some nm → mpGet (κ := KeyT true) nm a.2.1 = none) (fun a => ((zs.length : Int) - a.1.1).toNat) ?_ _ ⟨Int.le_refl _, rfl, rfl, fun _ _ _ _ => rfl⟩
  rintro ⟨⟨i, l1, n, ⟨⟩⟩, seen, ⟨⟩⟩ ⟨q1, q2, q3, q4⟩
  dsimp only at q1 q2 q3 q4
  subst q2 q3
  unfold l33_1_3 m68
  dsimp only
  refine ens_ite (fun hlt => ?_) (fun _ => ens_some rfl)
  refine ens_row q1 hlt fun e he hm => ?_
  obtain ⟨z1, z2, z3⟩ := hz _ e he
  have hs := q4 i.toNat e.1 (by omega) z1
  obtain ⟨en, eo, er, ⟨⟩⟩ := e
  dsimp only at z1 z2 z3 hs
  subst z2 z3
  simp only [okName_iff (at_all znames_ok z1), hs, Option.getD_none, zone_ok en h1 h2 h3, sumE, sS, show ((0 : Int) != 0) = false from rfl]
  refine ens_some ?_
  rw [w64_id (x := i + 1) (by omega) (by omega)]
  refine ⟨⟨by dsimp only; omega, rfl, rfl, fun j nm hj hnm => ?_⟩, by dsimp only; omega⟩
  dsimp only at hj ⊢
  exact (mpGet_ne (κ := KeyT true) (fun e => ne_at znames_ne (show i.toNat < j by omega) z1 hnm e.symm) true seen).trans (q4 j nm (by omega) hnm)

theorem people_loop {c : CfT} (hp : GPs c.1.length c.2.1) (hl : c.2.1.length ≤ 4) :
    Ens (loopT l33_0_8 ((0, (c.2.1, ((c.2.1.length : Int), ()))), ((c, ()), ([], ())))) fun r => r = .inr ((), ((c, ()), ())) := by
  refine ens_loop (fun (a : (Int × List PsT × Int × Unit) × (CfT × Unit) × List (KeyT true × Bool) × Unit) => 0 ≤ a.1.1 ∧ a.1.2.1 = c.2.1 ∧ a.1.2.2.1 = c.2.1.length ∧ a.2.1.1 = c ∧ ∀ (j : Nat) (nm : ByteArray), a.1.1 ≤ j → pnames[j]? = some nm → mpGet (κ := KeyT true) nm a.2.2.1 = none) (fun a => ((c.2.1.length : Int) - a.1.1).toNat) ?_ _ ⟨Int.le_refl _, rfl, rfl, rfl, fun _ _ _ _ => rfl⟩
  rintro ⟨⟨i, l1, n, ⟨⟩⟩, ⟨c', ⟨⟩⟩, seen, ⟨⟩⟩ ⟨q1, q2, q3, q5, q4⟩
  dsimp only at q1 q2 q3 q4 q5
  subst q2 q3 q5
  unfold l33_0_8
  dsimp only
  refine ens_ite (fun hlt => ?_) (fun _ => ens_some rfl)
  refine ens_row q1 hlt fun e he hm => ?_
  obtain ⟨z1, z2⟩ := hp _ e he
  have hs := q4 i.toNat e.1 (by omega) z1
  have hno : (e.1.toList == (bs [110, 111, 98, 111, 100, 121]).toList) = false := by
    have := at_all pnames_no z1
    rw [ByteArray.toList_eq, ByteArray.toList_eq]
    simpa using this
  simp only [okName_iff (at_all pnames_ok z1), hs, Option.getD_none, hno, person_ok z2, sumE, sS, show ((0 : Int) != 0) = false from rfl]
  refine ens_some ?_
  rw [w64_id (x := i + 1) (by omega) (by omega)]
  refine ⟨⟨by dsimp only; omega, rfl, rfl, rfl, fun j nm hj hnm => ?_⟩, by dsimp only; omega⟩
  dsimp only at hj ⊢
  exact (mpGet_ne (κ := KeyT true) (fun e => ne_at pnames_ne (show i.toNat < j by omega) z1 hnm e.symm) true seen).trans (q4 j nm (by omega) hnm)

theorem calendars_loop {c : CfT} (hc : ∀ x ∈ c.2.2.1, GC c.1.length x) (hl : c.2.2.1.length ≤ 1) :
    loopT l33_4_3 ((0, (c.2.2.1, ((c.2.2.1.length : Int), ()))), ((c, ()), ([], ()))) = some (.inr ((), ((c, ()), ()))) := by
  rcases hcl : c.2.2.1 with _ | ⟨x, _ | ⟨y, r⟩⟩
  · exact loopT_inr rfl
  · have hx := hc x (by rw [hcl]; simp)
    have e1 : l33_4_3 ((0, ([x], (1, ()))), ((c, ()), ([], ()))) = some (.inl ((1, ([x], (1, ()))), ((c, ()), ([(x.1, true)], ())))) := by
      unfold l33_4_3 m73
      simp only [rowAt_G, rowG_one, okName_iff (show okName x.1 = true by rw [hx.name]; exact days_name), calendar_ok hx, sumE, sS, show decide ((0 : Int) < 1) = true from rfl, mpGet, Option.getD_none, mpSet, decide_true, show ((0 : Int) != 0) = false from rfl]
      rfl
    exact loop_step e1 (loopT_inr rfl)
  · rw [hcl] at hl; simp at hl

theorem check_ok {c : CfT} {off : Int} {nm : ByteArray} {l : LyT} {x : EdT} (hz : OZs off c.1) (h1 : -64800 ≤ off) (h2 : off ≤ 64800) (h3 : off.tmod 60 = 0) (hz2 : c.1.length ≤ 2)
    (hp : GPs c.1.length c.2.1) (hp2 : c.2.1.length ≤ 4) (hc : ∀ x ∈ c.2.2.1, GC c.1.length x) (hc2 : c.2.2.1.length ≤ 1) (hs : c.2.2.2.1 = [(nm, [l], [x], ())]) (hnm : okName nm = true)
    (hl : LOK c.1.length c.2.1.length l) (hn : okName l.1 = true) (hx : GE c.2.1.length x) : m33 ((c, ()), ()) = some ((0, ()), ()) := by
  obtain ⟨_, e1, rfl⟩ := zones_loop hz h1 h2 h3 hz2
  obtain ⟨_, e2, rfl⟩ := people_loop hp hp2
  have e3 := calendars_loop hc hc2
  have f1 : l33_7_3 ((0, (c.2.2.2.1, (1, ()))), ((c, ()), ([], ()))) = some (.inl ((1, (c.2.2.2.1, (1, ()))), ((c, ()), ([(nm, true)], ())))) := by
    rw [hs]
    unfold l33_7_3 m77
    simp only [rowAt_G, rowG_one, okName_iff hnm, schedule_ok hl hn hx, sumE, sS, show decide ((0 : Int) < 1) = true from rfl, mpGet, Option.getD_none, mpSet, decide_true, show ((0 : Int) != 0) = false from rfl]
    rfl
  have f2 : loopT l33_7_3 ((0, (c.2.2.2.1, (1, ()))), ((c, ()), ([], ()))) = some (.inr ((), ((c, ()), ()))) := loop_step f1 (loopT_inr rfl)
  have hs1 : (c.2.2.2.1.length : Int) = 1 := by rw [hs]; rfl
  unfold m33
  simp only [decide_eq_false (show ¬ (c.1.length : Int) > 16 by omega), decide_eq_false (show ¬ (c.2.1.length : Int) > 32 by omega), decide_eq_false (show ¬ (c.2.2.1.length : Int) > 8 by omega), hs1, show decide ((1 : Int) > 12) = false from rfl, e1, e2, e3, f2, show ((0 : Int) != 0) = false from rfl, sumE, sS]
set_option maxRecDepth 100000
abbrev TbT := Int × List (Int × Int × Unit) × Unit
theorem after_e (off t : Int) : m200 (((off, [], ()), (t, ())), ()) = some ((0, ()), ()) := by
  have l1 : loopT l200_1_2 ((0, (0, ())), (((off, ([] : List (Int × Int × Unit)), ()), ()), ((t, ()), ()))) = some ((0, ()), (((off, ([] : List (Int × Int × Unit)), ()), ()), ((t, ()), ()))) := loopT_inr rfl
  unfold m200
  simp only [List.length_nil, show ((0 : Nat) : Int) = 0 from rfl, l1, sumE, sS]
theorem offset_e (off t : Int) : m339 (((off, [], ()), (t, ())), ()) = some ((off, ()), ()) := by
  unfold m339
  simp only [after_e, sumE, sS]
  rfl
theorem pieces_e (off : Int) {f t : Int} (h : f < t) : m118 (((off, [], ()), (f, (t, ()))), ()) = some ((), ([(f, (t, (off, ())))], ())) := by
  have e1 : l118_0_2 ((f, (t, ())), (((off, [], ()), ()), ([], ()))) = some (.inl ((t, (t, ())), (((off, [], ()), ()), ([(f, (t, (off, ())))], ())))) := by
    unfold l118_0_2
    simp only [decide_eq_true h, after_e, List.length_nil, show decide ((0 : Int) < ((0 : Nat) : Int)) = false from rfl, sumE, sS]
    rfl
  have e2 : l118_0_2 ((t, (t, ())), (((off, [], ()), ()), ([(f, (t, (off, ())))], ()))) = some (.inr ((), ([(f, (t, (off, ())))], ()))) := by
    unfold l118_0_2
    simp only [decide_eq_false (show ¬ t < t by omega), sumE, sS]
  unfold m118
  rw [loop_step e1 (loopT_inr e2)]
  rfl
theorem seconds_e {d s : Int} (h1 : -1048576 ≤ d) (h2 : d ≤ 1048576) (h3 : 0 ≤ s) (h4 : s ≤ 86399) : m196 (((d, s, ()), ()), ()) = some ((d * 86400 + s, ()), ()) := by
  unfold m196
  dsimp only
  rw [if_neg (show ¬ -1048576 > d by omega), if_neg (show ¬ 1048576 < d by omega), w64_id (x := d * 86400) (by omega) (by omega), w64_id (by omega) (by omega)]
theorem first_e {off d s : Int} (h1 : -1048576 ≤ d) (h2 : d ≤ 1048576) (h3 : 0 ≤ s) (h4 : s ≤ 86399) (h5 : 0 ≤ off) (h6 : off ≤ 64800) (h7 : 0 ≤ d * 86400 + s - off) (h8 : d * 86400 + s - off ≤ 8589934592) :
    m112 (((off, [], ()), ((d, s, ()), ())), ()) = some ((d * 86400 + s - off, (true, ())), ()) := by
  have e1 : l112_0_2 ((0, (1, ())), (((d, s, ()), ()), ([(0, (8589934593, (off, ())))], ()))) = some (.inr (.inl ((d * 86400 + s - off, (true, ())), ()))) := by
    unfold l112_0_2
    simp only [seconds_e h1 h2 h3 h4, show decide ((0 : Int) < 1) = true from rfl, List.length_cons, List.length_nil, show decide ((0 : Int) ≤ 0 ∧ (0 : Int) < ((0 + 1 : Nat) : Int)) = true from rfl, Int.toNat_zero, List.getElem?_cons_zero, sumE, sS]
    rw [w64_id (x := d * 86400 + s - off) (by omega) (by omega)]
    have : (if d * 86400 + s - off > 0 then d * 86400 + s - off else 0) = d * 86400 + s - off := by split <;> omega
    rw [this, decide_eq_true (show d * 86400 + s - off < 8589934593 by omega), cond_true]
  unfold m112
  simp only [pieces_e off (show (0 : Int) < 8589934593 by omega), List.length_cons, List.length_nil, show ((0 + 1 : Nat) : Int) = 1 from rfl, loopT_inr e1, sumE, sS]

/-! ### Handovers -/
/-- The first handover of a layer, and the seconds of a shift. -/
def t0 (off : Int) (l : LyT) : Int := l.2.2.1.1 * 86400 + l.2.2.1.2.1 - off
def stepD (l : LyT) : Int := if l.2.2.2.1 = 2 then 7 * l.2.2.2.2.1 else l.2.2.2.2.1
def dur (l : LyT) : Int := if l.2.2.2.1 = 0 then 3600 * l.2.2.2.2.1 else 86400 * stepD l

theorem step_e {l : LyT} (h : 1 ≤ l.2.2.2.2.1) (h2 : l.2.2.2.2.1 ≤ 49) : m195 ((l, ()), ()) = some ((stepD l, ()), ()) := by
  unfold m195 stepD
  dsimp only
  by_cases h3 : l.2.2.2.1 = 2
  · rw [if_pos h3, show (l.2.2.2.1 == 2) = true from by rw [h3]; rfl, cond_true, w64_id (by omega) (by omega)]
  · rw [if_neg h3, show (l.2.2.2.1 == 2) = false from beq_eq_false_iff_ne.2 h3, cond_false]
theorem step_pos {l : LyT} (h : 1 ≤ l.2.2.2.2.1) (h2 : l.2.2.2.2.1 ≤ 49) : 1 ≤ stepD l ∧ stepD l ≤ 343 := by
  unfold stepD; split <;> omega
theorem dur_pos {l : LyT} (h : 1 ≤ l.2.2.2.2.1) (h2 : l.2.2.2.2.1 ≤ 49) : 3600 ≤ dur l ∧ dur l ≤ 29635200 := by
  have := step_pos h h2
  unfold dur; split <;> omega
theorem t0_pos {off : Int} {l : LyT} {nz np : Nat} (hl : LOK nz np l) (h5 : 0 ≤ off) (h6 : off ≤ 64800) : 1766000000 ≤ t0 off l ∧ t0 off l ≤ 1768000000 := by
  have := hl.day; have := hl.sec
  unfold t0; omega

theorem hand_e {off : Int} {l : LyT} {nz np : Nat} {k : Int} (hl : LOK nz np l) (h5 : 0 ≤ off) (h6 : off ≤ 64800) (hk : 0 ≤ k) (hb : t0 off l + k * dur l ≤ 4000000000) :
    m111 (((off, [], ()), (l, (k, ()))), ()) = some ((t0 off l + k * dur l, (true, ())), ()) := by
  have hd := hl.day; have hs := hl.sec; have he := hl.every; have hp := t0_pos hl h5 h6; have hst := step_pos he.1 he.2; have hdu := dur_pos he.1 he.2
  have hkb : k * 3600 ≤ k * dur l := Int.mul_le_mul_of_nonneg_left hdu.1 hk
  unfold m111
  dsimp only
  rw [decide_eq_false (show ¬ k > 8589934592 by omega), cond_false]
  by_cases hu : l.2.2.2.1 = 0
  · rw [show (l.2.2.2.1 != 0) = false from by rw [hu]; rfl, cond_false]
    have hD : dur l = 3600 * l.2.2.2.2.1 := by unfold dur; rw [if_pos hu]
    have e0 : l.2.2.1 = (l.2.2.1.1, l.2.2.1.2.1, ()) := rfl
    rw [e0, first_e (by omega) (by omega) hs.1 hs.2 h5 h6 (by unfold t0 at hp; omega) (by unfold t0 at hp; omega)]
    simp only [sumE, sS]
    rw [w64_id (x := 3600 * l.2.2.2.2.1) (by omega) (by omega), ← hD, Int.mul_comm (dur l) k, w64_id (x := k * dur l) (by omega) (by omega), show l.2.2.1.1 * 86400 + l.2.2.1.2.1 - off = t0 off l from rfl, w64_id (x := t0 off l + k * dur l) (by omega) (by omega),
      decide_eq_true (show t0 off l + k * dur l ≤ 8589934592 by omega)]
  · rw [show (l.2.2.2.1 != 0) = true from bne_iff_ne.2 hu, cond_true]
    have hD : dur l = 86400 * stepD l := by unfold dur; rw [if_neg hu]
    rw [hD] at hb ⊢
    have e3 : k * (86400 * stepD l) = (k * stepD l) * 86400 := by rw [Int.mul_comm 86400 (stepD l), ← Int.mul_assoc]
    rw [e3] at hb ⊢
    have hk2 : 0 ≤ k * stepD l := Int.mul_nonneg hk (by omega)
    generalize hK : k * stepD l = K at *
    simp only [step_e he.1 he.2, hK, sumE, sS]
    rw [w64_id (x := K) (by omega) (by omega), w64_id (x := l.2.2.1.1 + K) (by omega) (by omega)]
    have e0 : ((l.2.2.1.1 + K, l.2.2.1.2) : Int × Int × Unit) = (l.2.2.1.1 + K, l.2.2.1.2.1, ()) := rfl
    rw [e0, first_e (by omega) (by omega) hs.1 hs.2 h5 h6 (by unfold t0 at hp; omega) (by unfold t0 at hb; omega)]
    simp only [sumE, sS]
    have : (l.2.2.1.1 + K) * 86400 + l.2.2.1.2.1 - off = t0 off l + K * 86400 := by unfold t0; omega
    rw [this]

/-! ### Shifts -/
theorem local_e {off t : Int} (h1 : 0 ≤ t) (h2 : t ≤ 4000000000) (h5 : 0 ≤ off) (h6 : off ≤ 64800) : ∃ s, m281 (((off, [], ()), (t, ())), ()) = some ((), ((((t + off) / 86400, s, ()), ()), ())) := by
  unfold m281 m338
  simp only [offset_e, sumE, sS]
  rw [w64_id (x := t + off) (by omega) (by omega)]
  have e1 : (t + off).tmod 86400 = (t + off) % 86400 := Int.tmod_eq_emod_of_nonneg (by omega)
  have e2 : (t + off).tdiv 86400 = (t + off) / 86400 := Int.tdiv_eq_ediv_of_nonneg (by omega)
  rw [e1, e2, decide_eq_false (show ¬ (t + off) % 86400 < 0 by omega)]
  simp only [sumE, sS]
  rw [w64_id (x := (t + off) / 86400) (by omega) (by omega)]
  exact ⟨_, rfl⟩

theorem shift_e {off : Int} {l : LyT} {nz np : Nat} {t : Int} (hl : LOK nz np l) (h5 : 0 ≤ off) (h6 : off ≤ 64800) (h1 : t0 off l ≤ t) (h2 : t ≤ 2000000000) :
    m216 (((off, [], ()), (l, (t, ()))), ()) = some (((t - t0 off l) / dur l, ()), ()) := by
  have hd := hl.day; have hs := hl.sec; have he := hl.every; have hp := t0_pos hl h5 h6; have hst := step_pos he.1 he.2; have hdu := dur_pos he.1 he.2
  have hh0 := hand_e (k := 0) hl h5 h6 (Int.le_refl _) (by omega)
  rw [Int.zero_mul, Int.add_zero] at hh0
  unfold m216
  simp only [hh0, decide_eq_false (show ¬ t0 off l > t by omega), sumE, sS]
  by_cases hu : l.2.2.2.1 = 0
  · have hD : dur l = 3600 * l.2.2.2.2.1 := by unfold dur; rw [if_pos hu]
    simp only [show (l.2.2.2.1 == 0) = true from by rw [hu]; rfl, sumE, sS]
    rw [w64_id (x := 3600 * l.2.2.2.2.1) (by omega) (by omega), ← hD, decide_eq_true (show dur l ≠ 0 by omega), cond_true, w64_id (x := t - t0 off l) (by omega) (by omega), Int.tdiv_eq_ediv_of_nonneg (by omega)]
    rw [w64_id]
    · exact Int.le_trans (by omega) (Int.ediv_nonneg (by omega) (by omega))
    · exact Int.le_trans (Int.ediv_le_self _ (by omega)) (by omega)
  · have hD : dur l = 86400 * stepD l := by unfold dur; rw [if_neg hu]
    obtain ⟨s, hloc⟩ := local_e (t := t) (off := off) (by omega) (by omega) h5 h6
    simp only [show (l.2.2.2.1 == 0) = false from beq_eq_false_iff_ne.2 hu, hloc, step_e he.1 he.2, decide_eq_true (show stepD l ≠ 0 by omega), sumE, sS]
    rw [w64_id (x := (t + off) / 86400 - l.2.2.1.1) (by omega) (by omega)]
    -- the first guess
    generalize hq : (if w64 (((t + off) / 86400 - l.2.2.1.1).tdiv (stepD l)) > 0 then w64 (((t + off) / 86400 - l.2.2.1.1).tdiv (stepD l)) else 0) = q
    have hq1 : 0 ≤ q ∧ q * stepD l * 86400 ≤ 400000000 := by
      by_cases hn : 0 ≤ (t + off) / 86400 - l.2.2.1.1
      · have hn2 : (t + off) / 86400 - l.2.2.1.1 ≤ 4000 := by omega
        generalize (t + off) / 86400 - l.2.2.1.1 = y at *
        have e2 : y.tdiv (stepD l) = y / stepD l := Int.tdiv_eq_ediv_of_nonneg hn
        have h3 : 0 ≤ y / stepD l := Int.ediv_nonneg hn (by omega)
        have h4 : y / stepD l ≤ y := Int.ediv_le_self _ hn
        have h7 : y / stepD l * stepD l ≤ y := Int.ediv_mul_le _ (by omega)
        rw [e2, w64_id (by omega) (by omega)] at hq
        have : q = y / stepD l := by rw [← hq]; split <;> omega
        rw [this]
        exact ⟨h3, by omega⟩
      · have hn2 : -30000 ≤ (t + off) / 86400 - l.2.2.1.1 := by omega
        generalize (t + off) / 86400 - l.2.2.1.1 = y at *
        have h3 : y.tdiv (stepD l) ≤ 0 := by
          have := Int.neg_tdiv (-y) (stepD l)
          rw [Int.neg_neg] at this
          rw [this]
          have := Int.tdiv_nonneg (a := -y) (b := stepD l) (by omega) (by omega)
          omega
        have h4 : -30000 ≤ y.tdiv (stepD l) := by
          have := Int.neg_tdiv (-y) (stepD l)
          rw [Int.neg_neg] at this
          rw [this, Int.tdiv_eq_ediv_of_nonneg (by omega)]
          have := Int.ediv_le_self (stepD l) (show 0 ≤ -y by omega)
          omega
        rw [w64_id (by omega) (by omega), if_neg (by omega)] at hq
        subst hq
        exact ⟨Int.le_refl _, by simp⟩
    have eD : ∀ k, k * dur l = k * stepD l * 86400 := fun k => by rw [hD, Int.mul_comm 86400, ← Int.mul_assoc]
    -- down
    have down : Ens (loopT l216_0_7 ((q, (t, ())), ((l, ()), (((off, [], ()), ()), ())))) fun r => ∃ k, r = ((k, (t, ())), ((l, ()), (((off, [], ()), ()), ()))) ∧ 0 ≤ k ∧ t0 off l + k * dur l ≤ t := by
      refine ens_loop (fun (a : (Int × Int × Unit) × (LyT × Unit) × (TbT × Unit) × Unit) => 0 ≤ a.1.1 ∧ a.1.1 * dur l ≤ 400000000 ∧ a.1.2.1 = t ∧ a.2.1.1 = l ∧ a.2.2.1.1 = (off, [], ())) (fun a => a.1.1.toNat) ?_ _ ⟨hq1.1, by dsimp only; rw [eD]; exact hq1.2, rfl, rfl, rfl⟩
      rintro ⟨⟨k, t', ⟨⟩⟩, ⟨l', ⟨⟩⟩, ⟨b', ⟨⟩⟩, ⟨⟩⟩ ⟨q1, q2, q3, q4, q5⟩
      dsimp only at q1 q2 q3 q4 q5
      subst q3 q4 q5
      unfold l216_0_7
      dsimp only
      refine ens_ite (fun hk => ?_) (fun hk => ens_some ⟨k, rfl, q1, ?_⟩)
      · simp only [hand_e hl h5 h6 q1 (show t0 off l' + k * dur l' ≤ 4000000000 by omega), sumE, sS]
        refine ens_ite (fun hle => ens_some ⟨k, rfl, q1, hle⟩) (fun hgt => ens_some ?_)
        have hkb := Int.mul_le_mul_of_nonneg_left hdu.1 q1
        rw [w64_id (x := k - 1) (by omega) (by omega)]
        refine ⟨⟨by dsimp only; omega, ?_, rfl, rfl, rfl⟩, by dsimp only; omega⟩
        dsimp only
        rw [Int.sub_mul]; omega
      · have : k = 0 := by omega
        subst this
        omega
    obtain ⟨_, e1, k, rfl, k1, k2⟩ := down
    rw [e1]
    simp only [sumE, sS]
    -- up
    have up : Ens (loopT l216_0_11 ((k, (t, ())), ((l, ()), (((off, [], ()), ()), ())))) fun r => r = (((t - t0 off l) / dur l, ()), ()) := by
      refine ens_loop (fun (a : (Int × Int × Unit) × (LyT × Unit) × (TbT × Unit) × Unit) => 0 ≤ a.1.1 ∧ t0 off l + a.1.1 * dur l ≤ t ∧ a.1.2.1 = t ∧ a.2.1.1 = l ∧ a.2.2.1.1 = (off, [], ())) (fun a => (t - (t0 off l + a.1.1 * dur l)).toNat) ?_ _ ⟨k1, k2, rfl, rfl, rfl⟩
      rintro ⟨⟨k, t', ⟨⟩⟩, ⟨l', ⟨⟩⟩, ⟨b', ⟨⟩⟩, ⟨⟩⟩ ⟨q1, q2, q3, q4, q5⟩
      dsimp only at q1 q2 q3 q4 q5
      subst q3 q4 q5
      unfold l216_0_11
      dsimp only
      have hkb := Int.mul_le_mul_of_nonneg_left hdu.1 q1
      have e4 : (k + 1) * dur l' = k * dur l' + dur l' := by rw [Int.add_mul, Int.one_mul]
      rw [w64_id (x := k + 1) (by omega) (by omega)]
      simp only [hand_e hl h5 h6 (show 0 ≤ k + 1 by omega) (show t0 off l' + (k + 1) * dur l' ≤ 4000000000 by omega), sumE, sS]
      refine ens_ite (fun hgt => ens_some ?_) (fun hle => ens_some ?_)
      · have : (t' - t0 off l') / dur l' = k := by
          have h8 := Int.ediv_mul_le (t' - t0 off l') (show dur l' ≠ 0 by omega)
          have h9 := Int.lt_ediv_add_one_mul_self (t' - t0 off l') (show 0 < dur l' by omega)
          generalize (t' - t0 off l') / dur l' = y at *
          rcases Int.lt_trichotomy y k with h | h | h
          · have := Int.mul_le_mul_of_nonneg_right (show y + 1 ≤ k by omega) (show 0 ≤ dur l' by omega)
            omega
          · exact h
          · have := Int.mul_le_mul_of_nonneg_right (show k + 1 ≤ y by omega) (show 0 ≤ dur l' by omega)
            omega
        rw [this]
      · rw [w64_id (x := k + 1) (by omega) (by omega)]
        exact ⟨⟨by dsimp only; omega, by dsimp only; omega, rfl, rfl, rfl⟩, by dsimp only; omega⟩
    obtain ⟨_, e2, rfl⟩ := up
    rw [e2]
    rfl
set_option maxRecDepth 100000
abbrev SgT := Int × Int × Int × Unit
abbrev SpT := Int × Int × Unit
/-- Segments, spans in a range. -/
def SgIn (lo hi : Int) (l : List SgT) : Prop := ∀ s ∈ l, lo ≤ s.1 ∧ s.1 < s.2.1 ∧ s.2.1 ≤ hi
def SpIn (lo hi : Int) (l : List SpT) : Prop := ∀ s ∈ l, lo ≤ s.1 ∧ s.1 < s.2.1 ∧ s.2.1 ≤ hi
theorem mem_set {A : Type} {l : List A} {i : Nat} {x y : A} (h : y ∈ l.set i x) : y ∈ l ∨ y = x := by
  rcases List.mem_or_eq_of_mem_set h with h | h
  · exact .inl h
  · exact .inr h

theorem segs_merge {lo hi : Int} {l : List SgT} (h : ∀ s ∈ l, lo ≤ s.1 ∧ s.2.1 ≤ hi) (hl : l.length ≤ 100000) : Ens (m65 ((l, ()), ())) fun u => u.2.1.length ≤ l.length ∧ SgIn lo hi u.2.1 := by
  unfold m65
  dsimp only
  refine ens_bind (ens_tail (ens_loop (fun (a : (Int × List SgT × Int × Unit) × List SgT × Unit) => 0 ≤ a.1.1 ∧ a.1.1 ≤ l.length ∧ a.1.2.1 = l ∧ a.1.2.2.1 = l.length ∧ (a.2.1.length : Int) ≤ a.1.1 ∧ SgIn lo hi a.2.1) (fun a => ((l.length : Int) - a.1.1).toNat)
    (Q := fun (u : Unit × List SgT × Unit) => u.2.1.length ≤ l.length ∧ SgIn lo hi u.2.1) ?_ _ ⟨Int.le_refl _, by dsimp only; omega, rfl, rfl, by simp, fun s hs => by simp at hs⟩) ?_)
  · rintro ⟨⟨i, l1, n, ⟨⟩⟩, out, ⟨⟩⟩ ⟨q1, q2, q3, q4, q5, q6⟩
    dsimp only at q1 q2 q3 q4 q5 q6
    subst q3 q4
    unfold l65_0_3
    dsimp only
    refine ens_ite (fun hlt => ?_) (fun _ => ens_some ⟨by dsimp only; omega, q6⟩)
    refine ens_bind (ens_tail (R := fun v => v.1.1 = l1 ∧ v.1.2.1 = (l1.length : Int) ∧ v.1.2.2.1 = i ∧ (v.2.1.length : Int) ≤ i + 1 ∧ SgIn lo hi v.2.1) ?_ ?_)
    · refine ens_row q1 hlt fun e he hm => ?_
      have hb := h e hm
      refine ens_ite (fun _ => ens_some ⟨rfl, rfl, rfl, by dsimp only; omega, q6⟩) (fun hne => ?_)
      refine ens_bind (ens_tail (R := fun v => v.1.2.1 = l1 ∧ v.1.2.2.1 = (l1.length : Int) ∧ v.1.2.2.2.1 = i ∧ v.1.2.2.2.2.1 = (out.length : Int) ∧ v.2.1 = out ∧ v.2.2.1.1 = e ∧ (v.1.1 = true → ∃ y, out ≠ [] ∧ out[out.length - 1]? = some y ∧ y.2.1 = e.1)) ?_ ?_)
      · refine ens_ite (fun hpos => ?_) (fun _ => ens_some ⟨rfl, rfl, rfl, rfl, rfl, rfl, fun h => by cases h⟩)
        have hw : w64 ((out.length : Int) - 1) = (out.length : Int) - 1 := w64_id (by omega) (by omega)
        rw [hw]
        refine ens_need (by omega) ?_
        have ht : ((out.length : Int) - 1).toNat = out.length - 1 := by omega
        rw [ht]
        refine ens_at (by omega) fun y hy hym => ?_
        refine ens_bif (fun hb => ?_) (fun _ => ens_some ⟨rfl, rfl, rfl, rfl, rfl, rfl, fun h => by cases h⟩)
        refine ens_need (by omega) ?_
        refine ens_at (by omega) fun y2 hy2 _ => ens_some ⟨rfl, rfl, rfl, rfl, rfl, rfl, fun _ => ⟨y, fun h0 => by rw [h0] at hpos; simp at hpos, hy, eq_of_beq hb⟩⟩
      rintro ⟨⟨b, l2, n, i', k, ⟨⟩⟩, out2, ⟨e2, ⟨⟩⟩, ⟨⟩⟩ ⟨p1, p2, p3, p4, p5, p6, p7⟩
      dsimp only at p1 p2 p3 p4 p5 p6 p7 ⊢
      subst p1 p2 p3 p4 p5 p6
      refine ens_bif (fun hb => ?_) (fun _ => ?_)
      · obtain ⟨y, y1, y2, y3⟩ := p7 hb
        have hpos := List.length_pos_iff.2 y1
        have hw : w64 ((out2.length : Int) - 1) = (out2.length : Int) - 1 := w64_id (by omega) (by omega)
        rw [hw]
        refine ens_need (by omega) ?_
        have ht : ((out2.length : Int) - 1).toNat = out2.length - 1 := by omega
        rw [ht]
        refine ens_at (by omega) fun z hz hzm => ens_some ⟨rfl, rfl, rfl, by simp; omega, fun s hs => ?_⟩
        rcases mem_set hs with hs | rfl
        · exact q6 s hs
        · rw [y2] at hz
          cases hz
          have := q6 y (List.mem_of_getElem? y2)
          dsimp only
          omega
      · refine ens_need (by simp; omega) (ens_some ⟨rfl, rfl, rfl, by simp; omega, fun s hs => ?_⟩)
        rcases List.mem_append.1 hs with hs | hs
        · exact q6 s hs
        · simp only [List.mem_cons, List.not_mem_nil, or_false] at hs
          subst hs
          omega
    rintro ⟨⟨l2, n, i', ⟨⟩⟩, out2, ⟨⟩⟩ ⟨p1, p2, p3, p4, p5⟩
    dsimp only at p1 p2 p3 p4 p5 ⊢
    subst p1 p2 p3
    refine ens_some ?_
    rw [w64_id (x := i' + 1) (by omega) (by omega)]
    exact ⟨⟨by dsimp only; omega, by dsimp only; omega, rfl, rfl, by dsimp only; omega, p5⟩, by dsimp only; omega⟩
  · rintro ⟨⟨⟩, out, ⟨⟩⟩ h
    exact ens_some h

theorem span_sort {l : List SpT} (h : ∀ x ∈ l, -2305843009213693952 ≤ x.1 ∧ x.1 ≤ 2305843009213693952) (hl : l.length ≤ 100000) :
    Abs.tupSpan.cond l 0 l.length = true ∧ ∃ row : List SpT, Abs.tupSpan.sortAt l 0 l.length = row ∧ row.length = l.length ∧ ∀ s ∈ row, s ∈ l := by
  have hok : Abs.tupSpan.ok l = true := List.all_eq_true.2 fun x hx => decide_eq_true (h x hx)
  exact ⟨Abs.tupSpan.cond_whole hok (Nat.le_trans hl (by decide)), _, rfl, Abs.tupSpan.sortAt_length (l := l) (off := 0) (len := l.length) (Nat.le_of_eq (Nat.zero_add _)), Abs.tupSpan.sortAt_mem hok⟩
theorem seg_sort {l : List SgT} (h : ∀ x ∈ l, -2305843009213693952 ≤ x.1 ∧ x.1 ≤ 2305843009213693952) (hl : l.length ≤ 100000) :
    Abs.tupSeg.cond l 0 l.length = true ∧ ∃ row : List SgT, Abs.tupSeg.sortAt l 0 l.length = row ∧ row.length = l.length ∧ ∀ s ∈ row, s ∈ l := by
  have hok : Abs.tupSeg.ok l = true := List.all_eq_true.2 fun x hx => decide_eq_true (h x hx)
  exact ⟨Abs.tupSeg.cond_whole hok (Nat.le_trans hl (by decide)), _, rfl, Abs.tupSeg.sortAt_length (l := l) (off := 0) (len := l.length) (Nat.le_of_eq (Nat.zero_add _)), Abs.tupSeg.sortAt_mem hok⟩

theorem spans_merge {lo hi : Int} {l : List SpT} (h : SpIn lo hi l) (hl : l.length ≤ 100000) (hlo : 0 ≤ lo) (hhi : hi ≤ 4000000000) : Ens (m119 ((l, ()), ())) fun u => u.2.1.length ≤ l.length ∧ SpIn lo hi u.2.1 := by
  have k1 : Ens (loopT l119_2_2 ((0, (l, ((l.length : Int), ()))), ())) fun r => ∃ y, r = .inr y := by
    refine ens_loop (fun (a : (Int × List SpT × Int × Unit) × Unit) => 0 ≤ a.1.1 ∧ a.1.2.1 = l ∧ a.1.2.2.1 = l.length) (fun a => ((l.length : Int) - a.1.1).toNat) ?_ _ ⟨Int.le_refl _, rfl, rfl⟩
    rintro ⟨⟨i, l1, n, ⟨⟩⟩, ⟨⟩⟩ ⟨h1, h2, h3⟩
    dsimp only at h1 h2 h3
    subst h2 h3
    unfold l119_2_2 m204
    dsimp only
    refine ens_ite (fun hlt => ?_) (fun _ => ens_some ⟨_, rfl⟩)
    refine ens_row h1 hlt fun e he hm => ?_
    have := h e hm
    rw [decide_eq_false (show ¬ e.2.1 ≤ e.1 by omega)]
    simp only [sumE, sS]
    refine ens_some ?_
    rw [w64_id (x := i + 1) (by omega) (by omega)]
    exact ⟨⟨by dsimp only; omega, rfl, rfl⟩, by dsimp only; omega⟩
  obtain ⟨_, e1, y, rfl⟩ := k1
  obtain ⟨hcond, row, hrow, hsl, hsm⟩ := span_sort (l := l) (fun x hx => by have := h x hx; omega) hl
  have k2 : Ens (loopT l119_0_5 ((0, ((0, l.length), ((l.length : Int), ()))), ([], (row, ())))) fun u => u.2.1.length ≤ l.length ∧ SpIn lo hi u.2.1 := by
    refine ens_loop (fun (a : (Int × (Nat × Nat) × Int × Unit) × List SpT × List SpT × Unit) => 0 ≤ a.1.1 ∧ a.1.1 ≤ l.length ∧ a.1.2.1 = (0, l.length) ∧ a.1.2.2.1 = l.length ∧ a.2.2.1 = row ∧ (a.2.1.length : Int) ≤ a.1.1 ∧ SpIn lo hi a.2.1) (fun a => ((l.length : Int) - a.1.1).toNat) ?_ _ ⟨Int.le_refl _, by dsimp only; omega, rfl, rfl, rfl, by simp, fun s hs => by simp at hs⟩
    rintro ⟨⟨i, ⟨o, ln⟩, n, ⟨⟩⟩, out, row', ⟨⟩⟩ ⟨q1, q2, q3, q4, q5, q6, q7⟩
    dsimp only at q1 q2 q3 q4 q5 q6 q7
    obtain ⟨rfl, rfl⟩ := Prod.mk.inj q3
    subst q4 q5
    unfold l119_0_5
    dsimp only
    refine ens_ite (fun hlt => ?_) (fun _ => ens_some ⟨by dsimp only; omega, q7⟩)
    refine ens_bind (ens_tail (R := fun v => v.1.1 = (0, l.length) ∧ v.1.2.1 = (l.length : Int) ∧ v.1.2.2.1 = i ∧ (v.2.1.length : Int) ≤ i + 1 ∧ SpIn lo hi v.2.1 ∧ v.2.2.1 = row') ?_ ?_)
    · refine ens_need (by omega) ?_
      refine ens_at (by omega) fun e he hm => ?_
      have hb := h e (hsm e hm)
      refine ens_bind (ens_tail (R := fun v => v.1.2.1 = (0, l.length) ∧ v.1.2.2.1 = (l.length : Int) ∧ v.1.2.2.2.1 = i ∧ v.1.2.2.2.2.1 = (out.length : Int) ∧ v.2.1 = out ∧ v.2.2.1 = row' ∧ v.2.2.2.1.1 = e ∧ (v.1.1 = true → out ≠ [])) ?_ ?_)
      · refine ens_ite (fun hpos => ?_) (fun _ => ens_some ⟨rfl, rfl, rfl, rfl, rfl, rfl, rfl, fun h => by cases h⟩)
        have hw : w64 ((out.length : Int) - 1) = (out.length : Int) - 1 := w64_id (by omega) (by omega)
        rw [hw]
        refine ens_need (by omega) ?_
        refine ens_at (by omega) fun y hy hym => ens_some ⟨rfl, rfl, rfl, rfl, rfl, rfl, rfl, fun _ h0 => by rw [h0] at hpos; simp at hpos⟩
      rintro ⟨⟨b, ⟨o, ln⟩, n, i', k, ⟨⟩⟩, out2, row2, ⟨e2, ⟨⟩⟩, ⟨⟩⟩ ⟨p1, p2, p3, p4, p5, p6, p7, p8⟩
      dsimp only at p1 p2 p3 p4 p5 p6 p7 p8 ⊢
      obtain ⟨rfl, rfl⟩ := Prod.mk.inj p1
      subst p2 p3 p4 p5 p6 p7
      refine ens_bif (fun hb2 => ?_) (fun _ => ?_)
      · have hpos := List.length_pos_iff.2 (p8 hb2)
        have hw : w64 ((out2.length : Int) - 1) = (out2.length : Int) - 1 := w64_id (by omega) (by omega)
        rw [hw]
        refine ens_need (by omega) ?_
        refine ens_at (by omega) fun y hy hym => ?_
        refine ens_need (by omega) ?_
        refine ens_at (by omega) fun z hz hzm => ens_some ⟨rfl, rfl, rfl, by simp; omega, fun s hs => ?_, rfl⟩
        rcases mem_set hs with hs | rfl
        · exact q7 s hs
        · rw [hy] at hz
          cases hz
          have := q7 y hym
          dsimp only
          split <;> omega
      · refine ens_need (by simp; omega) (ens_some ⟨rfl, rfl, rfl, by simp; omega, fun s hs => ?_, rfl⟩)
        rcases List.mem_append.1 hs with hs | hs
        · exact q7 s hs
        · simp only [List.mem_cons, List.not_mem_nil, or_false] at hs
          subst hs
          exact hb
    rintro ⟨⟨⟨o, ln⟩, n, i', ⟨⟩⟩, out2, row2, ⟨⟩⟩ ⟨p1, p2, p3, p4, p5, p6⟩
    dsimp only at p1 p2 p3 p4 p5 p6 ⊢
    obtain ⟨rfl, rfl⟩ := Prod.mk.inj p1
    subst p2 p3 p6
    refine ens_some ?_
    rw [w64_id (x := i' + 1) (by omega) (by omega)]
    exact ⟨⟨by dsimp only; omega, by dsimp only; omega, rfl, rfl, rfl, by dsimp only; omega, p5⟩, by dsimp only; omega⟩
  obtain ⟨⟨⟨⟩, out, ⟨⟩⟩, e2, g1, g2⟩ := k2
  have hm203 : m203 ((l, ()), ()) = some ((), (l, ())) := by
    unfold m203
    dsimp only
    rw [decide_eq_true (show l.length ≤ 4294967296 by omega), cond_true]
  unfold m119
  simp only [hm203, e1, show ((-1 : Int) == -1) = true from rfl, decide_true, hcond, hrow, decide_eq_true hsl, e2, sumE, sS]
  exact ens_need hsl (ens_some ⟨g1, g2⟩)

theorem without_e {s : SpT} {b : List SpT} (hb : b.length ≤ 100000) : Ens (m132 (([s], (b, ())), ())) fun u => u.2.1.length ≤ b.length + 1 ∧ SpIn s.1 s.2.1 u.2.1 := by
  -- the round for the one span
  have key : Ens (l132_0_4 ((0, (b, (0, ([s], (1, ()))))), ([], ()))) fun r => ∃ k out, r = .inl ((k, (b, (1, ([s], (1, ()))))), (out, ())) ∧ out.length ≤ b.length + 1 ∧ SpIn s.1 s.2.1 out := by
    unfold l132_0_4
    dsimp only
    rw [show decide ((0 : Int) < 1) = true from rfl, cond_true]
    refine ens_bind (ens_tail (R := fun v => v.1.2.1 = b ∧ v.1.2.2.1 = [s] ∧ v.1.2.2.2.1 = 1 ∧ v.1.2.2.2.2.1 = 0 ∧ v.2.1.length ≤ b.length + 1 ∧ SpIn s.1 s.2.1 v.2.1) ?_ ?_)
    · refine ens_row (Int.le_refl _) (by simp) fun e he _ => ?_
      simp only [Int.toNat_zero, List.getElem?_cons_zero, Option.some.injEq] at he
      subst he
      refine ens_bind (ens_tail (ens_loop (fun (a : (Int × List SpT × List SpT × Int × Int × Unit) × List SpT × (SpT × Unit) × Unit) => 0 ≤ a.1.1 ∧ a.1.1 ≤ b.length ∧ a.1.2.1 = b ∧ a.1.2.2.1 = [s] ∧ a.1.2.2.2.1 = 1 ∧ a.1.2.2.2.2.1 = 0 ∧ a.2.1 = [] ∧ a.2.2.1.1 = s) (fun a => ((b.length : Int) - a.1.1).toNat)
        (Q := fun (u : (List SpT × Int × List SpT × Int × Int × Unit) × List SpT × (SpT × Unit) × Unit) => u.1.1 = b ∧ 0 ≤ u.1.2.1 ∧ u.1.2.1 ≤ b.length ∧ u.1.2.2.1 = [s] ∧ u.1.2.2.2.1 = 1 ∧ u.1.2.2.2.2.1 = 0 ∧ u.2.1 = [] ∧ u.2.2.1.1 = s) ?_ _ ⟨Int.le_refl _, by dsimp only; omega, rfl, rfl, rfl, rfl, rfl, rfl⟩) ?_)
      · rintro ⟨⟨k, b', a', na, j, ⟨⟩⟩, out, ⟨s', ⟨⟩⟩, ⟨⟩⟩ ⟨q1, q2, q3, q4, q5, q6, q7, q8⟩
        dsimp only at q1 q2 q3 q4 q5 q6 q7 q8
        subst q3 q4 q5 q6 q7 q8
        unfold l132_0_6
        dsimp only
        refine ens_bind (ens_tail (R := fun v => v.1.2.1 = b' ∧ v.1.2.2.1 = [s'] ∧ v.1.2.2.2.1 = 1 ∧ v.1.2.2.2.2.1 = 0 ∧ v.1.2.2.2.2.2.1 = k ∧ v.2.1 = [] ∧ v.2.2.1.1 = s' ∧ (v.1.1 = true → k < b'.length)) ?_ ?_)
        · refine ens_ite (fun hlt => ?_) (fun _ => ens_some ⟨rfl, rfl, rfl, rfl, rfl, rfl, rfl, fun h => by cases h⟩)
          exact ens_row q1 hlt fun e he _ => ens_some ⟨rfl, rfl, rfl, rfl, rfl, rfl, rfl, fun _ => hlt⟩
        rintro ⟨⟨bb, b2, a2, n2, j2, k2, ⟨⟩⟩, out2, ⟨s2, ⟨⟩⟩, ⟨⟩⟩ ⟨p1, p2, p3, p4, p5, p6, p7, p8⟩
        dsimp only at p1 p2 p3 p4 p5 p6 p7 p8 ⊢
        subst p1 p2 p3 p4 p5 p6 p7
        refine ens_bif (fun hb2 => ens_some ?_) (fun _ => ens_some ⟨rfl, q1, q2, rfl, rfl, rfl, rfl, rfl⟩)
        have := p8 hb2
        rw [w64_id (x := k2 + 1) (by omega) (by omega)]
        exact ⟨⟨by dsimp only; omega, by dsimp only; omega, rfl, rfl, rfl, rfl, rfl, rfl⟩, by dsimp only; omega⟩
      rintro ⟨⟨b', k, a', na, j, ⟨⟩⟩, out, ⟨s', ⟨⟩⟩, ⟨⟩⟩ ⟨q1, q2, q3, q4, q5, q6, q7, q8⟩
      dsimp only at q1 q2 q3 q4 q5 q6 q7 q8 ⊢
      subst q1 q4 q5 q6 q7 q8
      refine ens_bind (ens_tail (ens_loop (fun (a : (Int × List SpT × Int × Int × List SpT × Int × Int × Unit) × List SpT × (SpT × Unit) × Unit) => 0 ≤ a.1.1 ∧ a.1.1 ≤ b'.length ∧ s'.1 ≤ a.1.2.2.1 ∧ a.1.2.1 = b' ∧ a.1.2.2.2.2.1 = [s'] ∧ a.1.2.2.2.2.2.1 = 1 ∧ a.1.2.2.2.2.2.2.1 = 0 ∧ (a.2.1.length : Int) ≤ a.1.1 ∧ SpIn s'.1 s'.2.1 a.2.1 ∧ a.2.2.1.1 = s') (fun a => ((b'.length : Int) - a.1.1).toNat)
        (Q := fun (u : (Int × List SpT × List SpT × Int × Int × Int × Unit) × (SpT × Unit) × List SpT × Unit) => u.1.2.1 = b' ∧ u.1.2.2.1 = [s'] ∧ u.1.2.2.2.1 = 1 ∧ u.1.2.2.2.2.1 = 0 ∧ s'.1 ≤ u.1.2.2.2.2.2.1 ∧ u.2.1.1 = s' ∧ u.2.2.1.length ≤ b'.length ∧ SpIn s'.1 s'.2.1 u.2.2.1) ?_ _ (by exact ⟨q2, q3, Int.le_refl _, rfl, rfl, rfl, rfl, (by show ((0 : Nat) : Int) ≤ k; omega), fun x hx => (List.not_mem_nil hx).elim, rfl⟩)) ?_)
      · rintro ⟨⟨i, b2, at_, k, a2, n2, j2, ⟨⟩⟩, out, ⟨s2, ⟨⟩⟩, ⟨⟩⟩ ⟨r1, r2, r3, r4, r5, r6, r7, r8, r9, r10⟩
        dsimp only at r1 r2 r3 r4 r5 r6 r7 r8 r9 r10
        subst r4 r5 r6 r7 r10
        unfold l132_0_10
        dsimp only
        refine ens_bind (ens_tail (R := fun v => v.1.2.1 = b2 ∧ v.1.2.2.2.1 = [s2] ∧ v.1.2.2.2.2.1 = 1 ∧ v.1.2.2.2.2.2.1 = 0 ∧ v.1.2.2.2.2.2.2.1 = i ∧ v.1.2.2.2.2.2.2.2.1 = at_ ∧ v.2.1.1 = s2 ∧ v.2.2.1 = out ∧ (v.1.1 = true → ∃ e, b2[i.toNat]? = some e ∧ i < b2.length ∧ e.1 < s2.2.1)) ?_ ?_)
        · refine ens_ite (fun hlt => ?_) (fun _ => ens_some ⟨rfl, rfl, rfl, rfl, rfl, rfl, rfl, rfl, fun h => by cases h⟩)
          exact ens_row r1 hlt fun e he _ => ens_some ⟨rfl, rfl, rfl, rfl, rfl, rfl, rfl, rfl, fun h => ⟨e, he, hlt, of_decide_eq_true h⟩⟩
        rintro ⟨⟨bb, b3, k3, a3, n3, j3, i3, at3, ⟨⟩⟩, ⟨s3, ⟨⟩⟩, out3, ⟨⟩⟩ ⟨p1, p2, p3, p4, p5, p6, p7, p8, p9⟩
        dsimp only at p1 p2 p3 p4 p5 p6 p7 p8 p9 ⊢
        subst p1 p2 p3 p4 p5 p6 p7 p8
        refine ens_bif (fun hb2 => ?_) (fun _ => ens_some ⟨rfl, rfl, rfl, rfl, r3, rfl, by dsimp only; omega, r9⟩)
        obtain ⟨e, he, hlt, hes⟩ := p9 hb2
        refine ens_bind (ens_tail (R := fun v => v.1.1 = b3 ∧ v.1.2.2.1 = [s3] ∧ v.1.2.2.2.1 = 1 ∧ v.1.2.2.2.2.1 = 0 ∧ v.1.2.2.2.2.2.1 = i3 ∧ v.1.2.2.2.2.2.2.1 = at3 ∧ (v.2.1.length : Int) ≤ i3 + 1 ∧ SpIn s3.1 s3.2.1 v.2.1 ∧ v.2.2.1.1 = s3) ?_ ?_)
        · refine ens_row r1 hlt fun e2 he2 _ => ?_
          rw [he] at he2
          cases he2
          refine ens_ite (fun hat => ?_) (fun _ => ens_some ⟨rfl, rfl, rfl, rfl, rfl, rfl, by dsimp only; omega, r9, rfl⟩)
          refine ens_row r1 hlt fun e2 he2 _ => ?_
          rw [he] at he2
          cases he2
          refine ens_need (by simp; omega) (ens_some ⟨rfl, rfl, rfl, rfl, rfl, rfl, by simp; omega, fun x hx => ?_, rfl⟩)
          rcases List.mem_append.1 hx with hx | hx
          · exact r9 x hx
          · simp only [List.mem_cons, List.not_mem_nil, or_false] at hx
            subst hx
            dsimp only
            omega
        rintro ⟨⟨b4, k4, a4, n4, j4, i4, at4, ⟨⟩⟩, out4, ⟨s4, ⟨⟩⟩, ⟨⟩⟩ ⟨p1, p2, p3, p4, p5, p6, p7, p8, p10⟩
        dsimp only at p1 p2 p3 p4 p5 p6 p7 p8 p10 ⊢
        subst p1 p2 p3 p4 p5 p6 p10
        refine ens_row r1 hlt fun e2 he2 _ => ens_some ?_
        rw [w64_id (x := i4 + 1) (by omega) (by omega)]
        exact ⟨⟨by dsimp only; omega, by dsimp only; omega, by dsimp only; split <;> omega, rfl, rfl, rfl, rfl, by dsimp only; omega, p8, rfl⟩, by dsimp only; omega⟩
      rintro ⟨⟨k3, b3, a3, n3, j3, at3, ⟨⟩⟩, ⟨s3, ⟨⟩⟩, out3, ⟨⟩⟩ ⟨r1, r2, r3, r4, r5, r6, r7, r8⟩
      dsimp only at r1 r2 r3 r4 r5 r6 r7 r8 ⊢
      subst r1 r2 r3 r4 r6
      refine ens_ite (fun hlt => ?_) (fun _ => ens_some ⟨rfl, rfl, rfl, rfl, by dsimp only; omega, r8⟩)
      refine ens_need (by simp; omega) (ens_some ⟨rfl, rfl, rfl, rfl, by simp; omega, fun x hx => ?_⟩)
      rcases List.mem_append.1 hx with hx | hx
      · exact r8 x hx
      · simp only [List.mem_cons, List.not_mem_nil, or_false] at hx
        subst hx
        exact ⟨r5, hlt, Int.le_refl _⟩
    rintro ⟨⟨k, b', a', na, j, ⟨⟩⟩, out, ⟨⟩⟩ ⟨p1, p2, p3, p4, p5, p6⟩
    dsimp only at p1 p2 p3 p4 p5 p6 ⊢
    subst p1 p2 p3 p4
    exact ens_some ⟨k, out, rfl, p5, p6⟩
  obtain ⟨_, e1, k, out, rfl, g1, g2⟩ := key
  have e2 : l132_0_4 ((k, (b, (1, ([s], (1, ()))))), (out, ())) = some (.inr ((), (out, ()))) := rfl
  unfold m132
  simp only [List.length_cons, List.length_nil, show ((0 + 1 : Nat) : Int) = 1 from rfl]
  rw [loop_step e1 (loopT_inr e2)]
  exact ens_some ⟨g1, g2⟩
set_option maxRecDepth 100000
theorem within_e {lo hi : Int} {l : List SgT} {fr : List SpT} (hf : ∀ f ∈ fr, lo ≤ f.1 ∧ f.2.1 ≤ hi) (h1 : l.length ≤ 100000) (h2 : fr.length ≤ 100000) : Ens (m129 ((l, (fr, ())), ())) fun u => u.2.1.length ≤ l.length + fr.length ∧ SgIn lo hi u.2.1 := by
  unfold m129
  dsimp only
  refine ens_bind (ens_tail (ens_loop (fun (a : (Int × Int × List SpT × List SgT × Unit) × List SgT × Unit) => 0 ≤ a.1.1 ∧ a.1.1 ≤ l.length ∧ 0 ≤ a.1.2.1 ∧ a.1.2.1 ≤ fr.length ∧ a.1.2.2.1 = fr ∧ a.1.2.2.2.1 = l ∧ (a.2.1.length : Int) ≤ a.1.1 + a.1.2.1 ∧ SgIn lo hi a.2.1) (fun a => ((l.length : Int) + fr.length - a.1.1 - a.1.2.1).toNat)
    (Q := fun (u : Unit × List SgT × Unit) => u.2.1.length ≤ l.length + fr.length ∧ SgIn lo hi u.2.1) ?_ _ ⟨Int.le_refl _, by dsimp only; omega, Int.le_refl _, by dsimp only; omega, rfl, rfl, by simp, fun s hs => by simp at hs⟩) ?_)
  · rintro ⟨⟨i, k, fr', l', ⟨⟩⟩, out, ⟨⟩⟩ ⟨q1, q2, q3, q4, q5, q6, q7, q8⟩
    dsimp only at q1 q2 q3 q4 q5 q6 q7 q8
    subst q5 q6
    unfold l129_0_3
    dsimp only
    refine ens_bind (ens_tail (R := fun v => v.1.2.1 = k ∧ v.1.2.2.1 = fr' ∧ v.1.2.2.2.1 = l' ∧ v.1.2.2.2.2.1 = i ∧ v.2.1 = out ∧ (v.1.1 = true → i < l'.length ∧ k < fr'.length)) ?_ ?_)
    · refine ens_ite (fun hlt => ?_) (fun _ => ens_some ⟨rfl, rfl, rfl, rfl, rfl, fun h => by cases h⟩)
      exact ens_some ⟨rfl, rfl, rfl, rfl, rfl, fun h => ⟨hlt, of_decide_eq_true h⟩⟩
    rintro ⟨⟨b, k2, f2, l2, i2, ⟨⟩⟩, o2, ⟨⟩⟩ ⟨p1, p2, p3, p4, p5, p6⟩
    dsimp only at p1 p2 p3 p4 p5 p6 ⊢
    subst p1 p2 p3 p4 p5
    refine ens_bif (fun hb => ?_) (fun _ => ens_some ⟨by dsimp only; omega, q8⟩)
    obtain ⟨hi1, hk1⟩ := p6 hb
    obtain ⟨e, he⟩ : ∃ e, l2[i2.toNat]? = some e := ⟨_, List.getElem?_eq_getElem (by omega)⟩
    obtain ⟨f, hfe⟩ : ∃ f, f2[k2.toNat]? = some f := ⟨_, List.getElem?_eq_getElem (by omega)⟩
    have hfb := hf f (List.mem_of_getElem? hfe)
    simp only [rowAt_G, rowG_int q1 he, rowG_int q3 hfe]
    refine ens_bind (ens_tail (R := fun v => v.1.1 = k2 ∧ v.1.2.1 = f2 ∧ v.1.2.2.1 = l2 ∧ v.1.2.2.2.1 = i2 ∧ (v.2.1.length : Int) ≤ i2 + k2 + 1 ∧ SgIn lo hi v.2.1) ?_ ?_)
    · refine ens_ite (fun hlt => ?_) (fun _ => ens_some ⟨rfl, rfl, rfl, rfl, by dsimp only; omega, q8⟩)
      refine ens_need (by simp; omega) (ens_some ⟨rfl, rfl, rfl, rfl, by simp; omega, fun s hs => ?_⟩)
      rcases List.mem_append.1 hs with hs | hs
      · exact q8 s hs
      · simp only [List.mem_cons, List.not_mem_nil, or_false] at hs
        subst hs
        refine ⟨?_, hlt, ?_⟩
        · dsimp only; split <;> omega
        · dsimp only; split <;> omega
    rintro ⟨⟨k3, f3, l3, i3, ⟨⟩⟩, o3, ⟨⟩⟩ ⟨r1, r2, r3, r4, r5, r6⟩
    dsimp only at r1 r2 r3 r4 r5 r6 ⊢
    subst r1 r2 r3 r4
    simp only [rowG_int q1 he, rowG_int q3 hfe]
    refine ens_ite (fun hlt => ens_some ?_) (fun _ => ens_some ?_)
    · rw [w64_id (x := i3 + 1) (by omega) (by omega)]
      exact ⟨⟨by dsimp only; omega, by dsimp only; omega, q3, q4, rfl, rfl, by dsimp only; omega, r6⟩, by dsimp only; omega⟩
    · rw [w64_id (x := k3 + 1) (by omega) (by omega)]
      exact ⟨⟨q1, q2, by dsimp only; omega, by dsimp only; omega, rfl, rfl, by dsimp only; omega, r6⟩, by dsimp only; omega⟩
  · rintro ⟨⟨⟩, out, ⟨⟩⟩ h
    exact ens_some h

theorem spans_e {lo hi : Int} {l : List SgT} (h : SgIn lo hi l) (hl : l.length ≤ 100000) (hlo : 0 ≤ lo) (hhi : hi ≤ 4000000000) : Ens (m133 ((l, ()), ())) fun u => u.2.1.length ≤ l.length ∧ SpIn lo hi u.2.1 := by
  unfold m133
  dsimp only
  refine ens_bind (ens_tail (ens_loop (fun (a : (Int × List SgT × Int × Unit) × List SpT × Unit) => 0 ≤ a.1.1 ∧ a.1.1 ≤ l.length ∧ a.1.2.1 = l ∧ a.1.2.2.1 = l.length ∧ (a.2.1.length : Int) = a.1.1 ∧ SpIn lo hi a.2.1) (fun a => ((l.length : Int) - a.1.1).toNat)
    (Q := fun (u : Unit × List SpT × Unit) => u.2.1.length = l.length ∧ SpIn lo hi u.2.1) ?_ _ ⟨Int.le_refl _, by dsimp only; omega, rfl, rfl, by simp, fun s hs => by simp at hs⟩) ?_)
  · rintro ⟨⟨i, l1, n, ⟨⟩⟩, out, ⟨⟩⟩ ⟨q1, q2, q3, q4, q5, q6⟩
    dsimp only at q1 q2 q3 q4 q5 q6
    subst q3 q4
    unfold l133_0_3
    dsimp only
    refine ens_ite (fun hlt => ?_) (fun _ => ens_some ⟨by dsimp only; omega, q6⟩)
    refine ens_row q1 hlt fun e he hm => ?_
    refine ens_need (by simp; omega) (ens_some ?_)
    rw [w64_id (x := i + 1) (by omega) (by omega)]
    refine ⟨⟨by dsimp only; omega, by dsimp only; omega, rfl, rfl, by simp; omega, fun s hs => ?_⟩, by dsimp only; omega⟩
    rcases List.mem_append.1 hs with hs | hs
    · exact q6 s hs
    · simp only [List.mem_cons, List.not_mem_nil, or_false] at hs
      subst hs
      exact h e hm
  · rintro ⟨⟨⟩, out, ⟨⟩⟩ ⟨g1, g2⟩
    dsimp only at g1 g2 ⊢
    refine ens_bind (ens_tail (spans_merge g2 (by omega) hlo hhi) ?_)
    rintro ⟨⟨⟩, o2, ⟨⟩⟩ ⟨g3, g4⟩
    exact ens_some ⟨by dsimp only at g3 ⊢; omega, g4⟩

/-! ### People who are there -/
theorem leaves_only (s : ScT) (p : Int) : m214 ((s, (p, ())), ()) = m214 (((ByteArray.empty, [], s.2.2.1, ()), (p, ())), ()) := by
  unfold m214
  rfl
theorem leaves_e {lo hi : Int} {eds : List EdT} (h : ∀ e ∈ eds, lo ≤ e.2.2.2.1 ∧ e.2.2.2.1 < e.2.2.2.2.1 ∧ e.2.2.2.2.1 ≤ hi) (hl : eds.length ≤ 1) (hlo : 0 ≤ lo) (hhi : hi ≤ 4000000000) (p : Int) :
    ∃ sp : List SpT, m214 (((ByteArray.empty, [], eds, ()), (p, ())), ()) = some ((), (sp, ())) ∧ sp.length ≤ 1 := by
  have key : Ens (m214 (((ByteArray.empty, [], eds, ()), (p, ())), ())) fun u => u.2.1.length ≤ 1 := by
    unfold m214
    dsimp only
    refine ens_bind (ens_tail (ens_loop (fun (a : (Int × Int × List EdT × Int × Unit) × List SpT × Unit) => 0 ≤ a.1.1 ∧ a.1.1 ≤ eds.length ∧ a.1.2.1 = p ∧ a.1.2.2.1 = eds ∧ a.1.2.2.2.1 = eds.length ∧ (a.2.1.length : Int) ≤ a.1.1 ∧ SpIn lo hi a.2.1) (fun a => ((eds.length : Int) - a.1.1).toNat)
      (Q := fun (u : Unit × List SpT × Unit) => u.2.1.length ≤ eds.length ∧ SpIn lo hi u.2.1) ?_ _ ⟨Int.le_refl _, by dsimp only; omega, rfl, rfl, rfl, by simp, fun s hs => by simp at hs⟩) ?_)
    · rintro ⟨⟨i, p', l1, n, ⟨⟩⟩, out, ⟨⟩⟩ ⟨q1, q2, q0, q3, q4, q5, q6⟩
      dsimp only at q1 q2 q0 q3 q4 q5 q6
      subst q0 q3 q4
      unfold l214_0_3
      dsimp only
      refine ens_ite (fun hlt => ?_) (fun _ => ens_some ⟨by dsimp only; omega, q6⟩)
      refine ens_bind (ens_tail (R := fun v => v.1.1 = p' ∧ v.1.2.1 = l1 ∧ v.1.2.2.1 = (l1.length : Int) ∧ v.1.2.2.2.1 = i ∧ (v.2.1.length : Int) ≤ i + 1 ∧ SpIn lo hi v.2.1) ?_ ?_)
      · refine ens_row q1 hlt fun e he hm => ?_
        refine ens_bind (ens_tail (R := fun v => v.1.2.1 = p' ∧ v.1.2.2.1 = l1 ∧ v.1.2.2.2.1 = (l1.length : Int) ∧ v.1.2.2.2.2.1 = i ∧ v.2.1.1 = e ∧ v.2.2.1 = out) ?_ ?_)
        · exact ens_bif (fun _ => ens_some ⟨rfl, rfl, rfl, rfl, rfl, rfl⟩) (fun _ => ens_some ⟨rfl, rfl, rfl, rfl, rfl, rfl⟩)
        rintro ⟨⟨b, p2, l2, n2, i2, ⟨⟩⟩, ⟨e2, ⟨⟩⟩, o2, ⟨⟩⟩ ⟨p1, p2, p3, p4, p5, p6⟩
        dsimp only at p1 p2 p3 p4 p5 p6 ⊢
        subst p1 p2 p3 p4 p5 p6
        refine ens_bif (fun _ => ?_) (fun _ => ens_some ⟨rfl, rfl, rfl, rfl, by dsimp only; omega, q6⟩)
        refine ens_need (by simp; omega) (ens_some ⟨rfl, rfl, rfl, rfl, by simp; omega, fun s hs => ?_⟩)
        rcases List.mem_append.1 hs with hs | hs
        · exact q6 s hs
        · simp only [List.mem_cons, List.not_mem_nil, or_false] at hs
          subst hs
          exact h e2 hm
      rintro ⟨⟨p2, l2, n2, i2, ⟨⟩⟩, o2, ⟨⟩⟩ ⟨p1, p2, p3, p4, p5, p6⟩
      dsimp only at p1 p2 p3 p4 p5 p6 ⊢
      subst p1 p2 p3 p4
      refine ens_some ?_
      rw [w64_id (x := i2 + 1) (by omega) (by omega)]
      exact ⟨⟨by dsimp only; omega, by dsimp only; omega, rfl, rfl, rfl, by dsimp only; omega, p6⟩, by dsimp only; omega⟩
    · rintro ⟨⟨⟩, out, ⟨⟩⟩ ⟨g1, g2⟩
      dsimp only at g1 g2 ⊢
      refine ens_bind (ens_tail (spans_merge g2 (by omega) hlo hhi) ?_)
      rintro ⟨⟨⟩, o2, ⟨⟩⟩ ⟨g3, g4⟩
      exact ens_some (by dsimp only at g3 ⊢; omega)
  obtain ⟨⟨⟨⟩, sp, ⟨⟩⟩, e, h⟩ := key
  exact ⟨sp, e, h⟩

/-- The pieces of a person. -/
theorem pieces_loop (e : SgT) (ps : List SpT) (L : List SgT) (n i : Int) (mp : List (KeyT false × List SpT)) (s : ScT) (hps : ps.length ≤ 1000000) : ∀ (m j : Nat) (out : List SgT), j + m = ps.length → out.length + m ≤ 1000000 →
    loopT l130_0_11 (((j : Int), (L, (n, (i, ((ps.length : Int), ()))))), ((e, ()), (out, (ps, (mp, ((s, ()), ()))))))
      = some ((L, (n, (i, ()))), (out ++ (ps.drop j).map (fun q => (q.1, (q.2.1, e.2.2))), (mp, ((s, ()), ())))) := by
  intro m
  induction m with
  | zero =>
    intro j out hj ho
    refine loopT_inr ?_
    unfold l130_0_11
    simp only [decide_eq_false (show ¬ (j : Int) < (ps.length : Int) by omega), sumE, sS]
    rw [List.drop_eq_nil_of_le (by omega), List.map_nil, List.append_nil]
  | succ m ih =>
    intro j out hj ho
    have hlt : j < ps.length := by omega
    have hge : ps[j]? = some ps[j] := List.getElem?_eq_getElem hlt
    refine loop_step (a' := ((((j + 1 : Nat) : Int), (L, (n, (i, ((ps.length : Int), ()))))), ((e, ()), (out ++ [(ps[j].1, (ps[j].2.1, e.2.2))], (ps, (mp, ((s, ()), ()))))))) ?_ ?_
    · unfold l130_0_11
      dsimp only
      rw [decide_eq_true (show (j : Int) < (ps.length : Int) by omega), cond_true, decide_eq_true (show (0 : Int) ≤ (j : Int) ∧ (j : Int) < (ps.length : Int) by omega), cond_true, Int.toNat_natCast, hge, Option.bind_some,
        decide_eq_true (by simp; omega), cond_true, w64_nat (i := j) (by omega)]
    · rw [ih (j + 1) _ (by omega) (by simp; omega), List.drop_eq_getElem_cons hlt, List.map_cons, List.append_assoc]
      rfl

theorem mpGet_same {κ α : Type} [DecidableEq κ] (a : κ) (x : α) (l : List (κ × α)) : mpGet a (mpSet a x l) = some x := by rw [mpGet_set, if_pos rfl]
theorem mpGetD_same {κ α : Type} [DecidableEq κ] (a : κ) (x d : α) (l : List (κ × α)) : (mpGet a (mpSet a x l)).getD d = x := by rw [mpGet_same]; rfl
theorem mpSet_len {κ α : Type} [DecidableEq κ] {a : κ} {x : List α} {l : List (κ × List α)} (hx : x.length ≤ 1) (h : ∀ p v, mpGet p l = some v → v.length ≤ 1) : ∀ p v, mpGet p (mpSet a x l) = some v → v.length ≤ 1 := by
  intro p v hv
  rw [mpGet_set] at hv
  split at hv
  · cases hv; exact hx
  · exact h p v hv

theorem present_step {lo hi elo ehi : Int} {eds : List EdT} (he : ∀ e ∈ eds, elo ≤ e.2.2.2.1 ∧ e.2.2.2.1 < e.2.2.2.2.1 ∧ e.2.2.2.2.1 ≤ ehi) (hel : eds.length ≤ 1) (h0 : 0 ≤ elo) (h1 : ehi ≤ 4000000000)
    {L : List SgT} (hL : SgIn lo hi L) {i : Nat} (hil : i < L.length) (hL2 : L.length ≤ 10000) {out : List SgT} {mp : List (KeyT false × List SpT)} (ho : out.length ≤ 2 * i) (hob : SgIn lo hi out) (hm : ∀ p v, mpGet (κ := KeyT false) p mp = some v → v.length ≤ 1) :
    ∃ (out' : List SgT) (mp' : List (KeyT false × List SpT)), out'.length ≤ 2 * (i + 1) ∧ SgIn lo hi out' ∧ (∀ p v, mpGet (κ := KeyT false) p mp' = some v → v.length ≤ 1) ∧
      ∀ s : ScT, s.2.2.1 = eds → l130_0_4 (((i : Int), (L, ((L.length : Int), ()))), (out, (mp, ((s, ()), ())))) = some (.inl ((((i + 1 : Nat) : Int), (L, ((L.length : Int), ()))), (out', (mp', ((s, ()), ()))))) := by
  have hge : L[i]? = some L[i] := List.getElem?_eq_getElem hil
  generalize L[i] = e at hge
  have heb := hL e (List.mem_of_getElem? hge)
  have hrow : ∀ {B : Type} (F : SgT → Option B), Abs.rowAt L (i : Int) (fun e _ => F e) = F e := fun F => by rw [rowAt_G, rowG_nat hge]
  by_cases hneg : e.2.2.1 < 0
  · refine ⟨out, mp, by omega, hob, hm, fun s _ => ?_⟩
    unfold l130_0_4
    dsimp only
    rw [decide_eq_true (show (i : Int) < (L.length : Int) by omega), cond_true, hrow, decide_eq_true hneg, cond_true, Option.bind_some, w64_nat (by omega)]
  · obtain ⟨sp, hsp, hsl⟩ := leaves_e he hel h0 h1 e.2.2.1
    -- the map behind
    obtain ⟨mp', aw, hmp, haw, hmget, hsome⟩ : ∃ (mp' : List (KeyT false × List SpT)) (aw : List SpT), (∀ p v, mpGet (κ := KeyT false) p mp' = some v → v.length ≤ 1) ∧ aw.length ≤ 1 ∧ (mpGet (κ := KeyT false) e.2.2.1 mp').getD [] = aw ∧
        ((mpGet (κ := KeyT false) e.2.2.1 mp).isSome = true ∧ mp' = mp ∨ (mpGet (κ := KeyT false) e.2.2.1 mp).isSome = false ∧ mp' = mpSet (κ := KeyT false) e.2.2.1 sp mp) := by
      cases hg : mpGet (κ := KeyT false) e.2.2.1 mp with
      | some v => exact ⟨mp, v, hm, hm _ _ hg, by rw [hg]; rfl, .inl ⟨rfl, rfl⟩⟩
      | none =>
        exact ⟨_, sp, mpSet_len (κ := KeyT false) hsl hm, hsl, mpGetD_same (κ := KeyT false) _ _ _ _, .inr ⟨rfl, rfl⟩⟩
    obtain ⟨⟨⟨⟩, ps, ⟨⟩⟩, hw, hwl, hwb⟩ := without_e (s := (e.1, (e.2.1, ()))) (b := aw) (by omega)
    dsimp only at hwl hwb
    refine ⟨out ++ ps.map (fun q => (q.1, (q.2.1, e.2.2))), mp', by simp; omega, fun s hs => ?_, hmp, fun s hs => ?_⟩
    · rcases List.mem_append.1 hs with hs | hs
      · exact hob s hs
      · obtain ⟨q, hq, rfl⟩ := List.mem_map.1 hs
        have := hwb q hq
        dsimp only at this ⊢
        omega
    · have hlv : m214 ((s, (e.2.2.1, ())), ()) = some ((), (sp, ())) := by rw [leaves_only, hs]; exact hsp
      have hin := pieces_loop e ps L (L.length : Int) (i : Int) mp' s (by omega) ps.length 0 out (by omega) (by omega)
      rw [List.drop_zero] at hin
      unfold l130_0_4
      dsimp only
      rw [decide_eq_true (show (i : Int) < (L.length : Int) by omega), cond_true, hrow, decide_eq_false hneg, cond_false]
      rcases hsome with ⟨h2, rfl⟩ | ⟨h2, rfl⟩
      · simp only [h2, sumE, sS, hmget, hw]
        simp only [show ((0 : Nat) : Int) = 0 from rfl] at hin
        simp only [hin, sumE, sS, w64_nat (show i < 9223372036854775807 by omega)]
      · simp only [h2, sumE, sS, hlv, hmget, hw]
        simp only [show ((0 : Nat) : Int) = 0 from rfl] at hin
        simp only [hin, sumE, sS, w64_nat (show i < 9223372036854775807 by omega)]

theorem present_e {lo hi elo ehi : Int} {eds : List EdT} (he : ∀ e ∈ eds, elo ≤ e.2.2.2.1 ∧ e.2.2.2.1 < e.2.2.2.2.1 ∧ e.2.2.2.2.1 ≤ ehi) (hel : eds.length ≤ 1) (h0 : 0 ≤ elo) (h1 : ehi ≤ 4000000000)
    {L : List SgT} (hL : SgIn lo hi L) (hL2 : L.length ≤ 10000) : ∃ R : List SgT, R.length ≤ 2 * L.length ∧ SgIn lo hi R ∧ ∀ s : ScT, s.2.2.1 = eds → m130 ((s, (L, ())), ()) = some ((), (R, ())) := by
  have key : ∀ (m i : Nat) (out : List SgT) (mp : List (KeyT false × List SpT)), i + m = L.length → out.length ≤ 2 * i → SgIn lo hi out → (∀ p v, mpGet (κ := KeyT false) p mp = some v → v.length ≤ 1) →
      ∃ R : List SgT, R.length ≤ 2 * L.length ∧ SgIn lo hi R ∧ ∀ s : ScT, s.2.2.1 = eds → loopT l130_0_4 (((i : Int), (L, ((L.length : Int), ()))), (out, (mp, ((s, ()), ())))) = some ((), (R, ())) := by
    intro m
    induction m with
    | zero =>
      intro i out mp hi ho hob hm
      refine ⟨out, by omega, hob, fun s _ => loopT_inr ?_⟩
      unfold l130_0_4
      simp only [decide_eq_false (show ¬ (i : Int) < (L.length : Int) by omega), sumE, sS]
    | succ m ih =>
      intro i out mp hi ho hob hm
      obtain ⟨out', mp', a1, a2, a3, a4⟩ := present_step he hel h0 h1 hL (show i < L.length by omega) hL2 ho hob hm
      obtain ⟨R, b1, b2, b3⟩ := ih (i + 1) out' mp' (by omega) a1 a2 a3
      exact ⟨R, b1, b2, fun s hs => loop_step (a4 s hs) (b3 s hs)⟩
  obtain ⟨R, b1, b2, b3⟩ := key L.length 0 [] [] (by omega) (by simp) (fun s hs => by simp at hs) (fun p v h => by cases h)
  refine ⟨R, b1, b2, fun s hs => ?_⟩
  have := b3 s hs
  simp only [show ((0 : Nat) : Int) = 0 from rfl] at this
  unfold m130
  simp only [this, sumE, sS]
set_option maxRecDepth 100000
abbrev VwT := CfT × List TbT × Unit
/-- A layer whose zone has an offset alone; its first handover, its seconds, its members. -/
structure Fit (v : VwT) (l : LyT) (T D : Int) (mem : List Int) : Prop where
  ex : ∃ (off : Int) (nz np : Nat), 0 ≤ off ∧ off ≤ 64800 ∧ LOK nz np l ∧ v.2.1[l.2.1.toNat]? = some (off, [], ()) ∧ t0 off l = T
  dur : dur l = D
  mem : l.2.2.2.2.2.1 = mem

def mAt (mem : List Int) (k : Int) : Int := (mem[(k.tmod mem.length).toNat]?).getD 0
def bnd (T D : Int) (mem : List Int) (till : Int) : Nat → Int → List SgT
  | 0, _ => []
  | n + 1, k => if T + k * D < till then (T + k * D, (if T + (k + 1) * D < till then T + (k + 1) * D else till), mAt mem k, ()) :: bnd T D mem till n (k + 1) else []
theorem bnd_len (T D : Int) (mem : List Int) (till : Int) : ∀ n k, (bnd T D mem till n k).length ≤ n
  | 0, _ => Nat.le_refl _
  | n + 1, k => by
    unfold bnd
    split
    · have := bnd_len T D mem till n (k + 1); simp; omega
    · simp

theorem times_e {v : VwT} {l : LyT} {T D : Int} {mem : List Int} {from_ till : Int} (hf : Fit v l T D mem) (h1 : from_ < till) : m215 ((v, (l, (from_, (till, ())))), ()) = some ((), ((if T ≥ till then [] else [((if T > from_ then T else from_), (till, ()))]), ())) := by
  obtain ⟨off, nz, np, o1, o2, hl, ht, hT⟩ := hf.ex
  have hz := hl.zone
  have hh := hand_e (k := 0) hl o1 o2 (Int.le_refl _) (by have := t0_pos hl o1 o2; omega)
  rw [Int.zero_mul, Int.add_zero, hT] at hh
  unfold m215
  dsimp only
  rw [rowAt_G, rowG_int hz.1 ht, hh]
  simp only [sumE, sS]
  by_cases h : T ≥ till
  · rw [if_pos h, decide_eq_true h]
    rfl
  · rw [if_neg h, decide_eq_false h]
    simp only [decide_eq_false (show ¬ from_ ≥ till by omega), hl.win, hl.mode, List.length_nil, show decide (((0 : Nat) : Int) > 0) = false from rfl, show ((0 : Int) == 1) = false from rfl, show ((0 : Int) == 2) = false from rfl, sumE, sS]

theorem seg_round {v : VwT} {l : LyT} {T D : Int} {mem : List Int} {from_ till at_ k kp next : Int} {X : Int × Int × Int × Unit} {out : List SgT} {sp : SpT} {b : TbT} {spans : List SpT} (hf : Fit v l T D mem) (hb : v.2.1[l.2.1.toNat]? = some b) (hto : sp.2.1 = till) (h2 : till ≤ 1800000000)
    (hk : 0 ≤ k) (a1 : T + k * D ≤ at_) (a2 : at_ < T + (k + 1) * D) (a3 : at_ < till) (hn : next ≤ at_) (ho : out.length ≤ 100000) :
    l131_0_9 ((at_, (kp, (next, X))), ((l, ()), (out, ((sp, ()), ((b, ()), (spans, ())))))) = some (.inl (((if T + (k + 1) * D < till then T + (k + 1) * D else till), (k, (T + (k + 1) * D, X))), ((l, ()), (out ++ [(at_, (if T + (k + 1) * D < till then T + (k + 1) * D else till), mAt mem k, ())], ((sp, ()), ((b, ()), (spans, ()))))))) := by
  obtain ⟨off, nz, np, o1, o2, hl, ht, hT⟩ := hf.ex
  rw [hb] at ht
  cases ht
  obtain ⟨x1, x2, x3, ⟨⟩⟩ := X
  have hdu := dur_pos hl.every.1 hl.every.2
  have hp := t0_pos hl o1 o2
  rw [hf.dur] at hdu
  rw [hT] at hp
  have hkD : 0 ≤ k * D := Int.mul_nonneg hk (by omega)
  have e1 : (k + 1) * D = k * D + D := by rw [Int.add_mul, Int.one_mul]
  have hkk := Int.mul_le_mul_of_nonneg_left hdu.1 hk
  have hsh := shift_e (t := at_) hl o1 o2 (by rw [hT]; omega) (by omega)
  rw [hT, hf.dur] at hsh
  have hdiv : (at_ - T) / D = k := by
    have h8 := Int.ediv_mul_le (at_ - T) (show D ≠ 0 by omega)
    have h9 := Int.lt_ediv_add_one_mul_self (at_ - T) (show 0 < D by omega)
    generalize (at_ - T) / D = y at *
    rcases Int.lt_trichotomy y k with h | h | h
    · have := Int.mul_le_mul_of_nonneg_right (show y + 1 ≤ k by omega) (show 0 ≤ D by omega)
      omega
    · exact h
    · have := Int.mul_le_mul_of_nonneg_right (show k + 1 ≤ y by omega) (show 0 ≤ D by omega)
      omega
  rw [hdiv] at hsh
  have hhd := hand_e (k := k + 1) hl o1 o2 (by omega) (by rw [hT, hf.dur]; omega)
  rw [hT, hf.dur] at hhd
  have hml := hl.ne
  have hm3 := hl.ml
  rw [hf.mem] at hml hm3
  have hmod0 : 0 ≤ k.tmod mem.length := Int.tmod_nonneg _ hk
  have hmod1 : k.tmod mem.length < mem.length := Int.tmod_lt_of_pos _ (by omega)
  have hmem : mem[(k.tmod mem.length).toNat]? = some (mAt mem k) := by
    unfold mAt
    rw [List.getElem?_eq_getElem (by omega)]
    rfl
  unfold l131_0_9
  dsimp only
  rw [decide_eq_true (show at_ < sp.2.1 by omega), cond_true, decide_eq_true (show at_ ≥ next by omega), cond_true, hsh]
  simp only [sumE, sS]
  rw [w64_id (x := k + 1) (by omega) (by omega), hhd]
  simp only [hf.mem, hto, rowAt_G, rowG_int hmod0 hmem, decide_eq_true (show (mem.length : Int) ≠ 0 by omega), sumE, sS]
  rw [decide_eq_true (by simp; omega), cond_true]

theorem seg_bnd {v : VwT} {l : LyT} {T D : Int} {mem : List Int} {till : Int} {X : Int × Int × Int × Unit} {sp : SpT} {b : TbT} {spans : List SpT} (hf : Fit v l T D mem) (hb : v.2.1[l.2.1.toNat]? = some b) (hto : sp.2.1 = till) (h2 : till ≤ 1800000000) :
    ∀ (n : Nat) (k kp next : Int) (out : List SgT), 0 ≤ k → till ≤ T + (k + n) * D → (T + k * D < till → next ≤ T + k * D) → out.length + n ≤ 100000 →
      ∃ k' next', loopT l131_0_9 (((if T + k * D < till then T + k * D else till), (kp, (next, X))), ((l, ()), (out, ((sp, ()), ((b, ()), (spans, ())))))) = some ((k', (next', (till, X))), ((l, ()), ((b, ()), (out ++ bnd T D mem till n k, (spans, ()))))) := by
  have hexit : ∀ (kp next : Int) (out : List SgT), loopT l131_0_9 ((till, (kp, (next, X))), ((l, ()), (out, ((sp, ()), ((b, ()), (spans, ())))))) = some ((kp, (next, (till, X))), ((l, ()), ((b, ()), (out, (spans, ()))))) := by
    intro kp next out
    refine loopT_inr ?_
    unfold l131_0_9
    simp only [hto, decide_eq_false (show ¬ till < till by omega), sumE, sS]
  intro n
  induction n with
  | zero =>
    intro k kp next out hk hfu hn ho
    rw [show k + ((0 : Nat) : Int) = k by omega] at hfu
    rw [if_neg (by omega)]
    refine ⟨kp, next, ?_⟩
    rw [hexit]
    simp [bnd]
  | succ n ih =>
    intro k kp next out hk hfu hn ho
    by_cases hlt : T + k * D < till
    · have hdp : 0 < D := by
        obtain ⟨off, nz, np, o1, o2, hl, ht, hT⟩ := hf.ex
        have := dur_pos hl.every.1 hl.every.2
        rw [hf.dur] at this
        omega
      have e1 : (k + 1) * D = k * D + D := by rw [Int.add_mul, Int.one_mul]
      have hr := seg_round (at_ := T + k * D) (k := k) (kp := kp) (next := next) (X := X) (out := out) (spans := spans) (sp := sp) (from_ := 0) hf hb hto h2 hk (Int.le_refl _) (by omega) hlt (hn hlt) (by omega)
      obtain ⟨k', next', h⟩ := ih (k + 1) k (T + (k + 1) * D) (out ++ [(T + k * D, (if T + (k + 1) * D < till then T + (k + 1) * D else till), mAt mem k, ())]) (by omega) (by rw [show k + 1 + (n : Int) = k + ((n + 1 : Nat) : Int) by omega]; exact hfu) (fun _ => Int.le_refl _) (by simp; omega)
      refine ⟨k', next', ?_⟩
      rw [if_pos hlt]
      refine loop_step hr ?_
      rw [h]
      have : bnd T D mem till (n + 1) k = (T + k * D, (if T + (k + 1) * D < till then T + (k + 1) * D else till), mAt mem k, ()) :: bnd T D mem till n (k + 1) := by
        conv => lhs; unfold bnd
        rw [if_pos hlt]
      rw [this, List.append_assoc]
      rfl
    · rw [if_neg hlt]
      refine ⟨kp, next, ?_⟩
      rw [hexit]
      have : bnd T D mem till (n + 1) k = [] := by unfold bnd; rw [if_neg hlt]
      rw [this, List.append_nil]

/-- The segments of a layer ahead of merging. -/
def rawSegs (T D : Int) (mem : List Int) (from_ till : Int) : List SgT :=
  if T ≥ till then [(from_, till, -1, ())]
  else
    let a := if T > from_ then T else from_
    let k := (a - T) / D
    (from_, a, -1, ()) :: (a, (if T + (k + 1) * D < till then T + (k + 1) * D else till), mAt mem k, ()) :: bnd T D mem till 216 (k + 1) ++ [(till, till, -1, ())]

theorem layer_raw {v : VwT} {l : LyT} {T D : Int} {mem : List Int} {from_ till : Int} (hf : Fit v l T D mem) (h1 : 0 ≤ from_) (h2 : till ≤ 1800000000) (h3 : till = from_ + 777600) :
    m131 ((v, (l, (from_, (till, ())))), ()) = (m65 ((rawSegs T D mem from_ till, ()), ())).bind fun u => some ((), (u.2.1, ())) := by
  obtain ⟨off, nz, np, o1, o2, hl, ht, hT⟩ := hf.ex
  have hz := hl.zone
  have hdu := dur_pos hl.every.1 hl.every.2
  rw [hf.dur] at hdu
  have hti := times_e (from_ := from_) (till := till) hf (by omega)
  unfold m131
  dsimp only
  rw [rowAt_G, rowG_int hz.1 ht, hti]
  simp only [sumE, sS]
  by_cases hge : T ≥ till
  · rw [if_pos hge]
    have hr : rawSegs T D mem from_ till = [(from_, till, -1, ())] := by unfold rawSegs; rw [if_pos hge]
    have hl0 : loopT l131_0_5 (((-1 : Int), ((-1 : Int), ((0 : Int), (from_, (till, ((([] : List SpT).length : Int), ())))))), ((l, ()), (((off, [], ()), ()), (([] : List SgT), (([] : List SpT), ()))))) = some ((till, (from_, ())), ([], ())) := loopT_inr rfl
    rw [hl0, hr]
    rfl
  · rw [if_neg hge]
    have hr := rawSegs.eq_1 T D mem from_ till
    rw [if_neg hge] at hr
    dsimp only at hr
    generalize ha : (if T > from_ then T else from_) = a at hr ⊢
    have ha1 : T ≤ a ∧ from_ ≤ a ∧ a < till := by rw [← ha]; split <;> omega
    have hk0 : 0 ≤ (a - T) / D := Int.ediv_nonneg (by omega) (by omega)
    have h8 := Int.ediv_mul_le (a - T) (show D ≠ 0 by omega)
    have h9 := Int.lt_ediv_add_one_mul_self (a - T) (show 0 < D by omega)
    generalize hk : (a - T) / D = k at *
    have e1 : (k + 1) * D = k * D + D := by rw [Int.add_mul, Int.one_mul]
    have hround := seg_round (at_ := a) (k := k) (kp := -1) (next := -1) (X := (till, (1, (0, ())))) (out := [(from_, a, -1, ())]) (spans := [(a, (till, ()))]) (sp := (a, (till, ()))) (b := (off, [], ())) (from_ := from_) hf ht rfl h2 hk0 (by omega) (by omega) ha1.2.2 (by omega) (by simp)
    obtain ⟨k', next', hb⟩ := seg_bnd (till := till) (X := (till, (1, (0, ())))) (sp := (a, (till, ()))) (b := (off, [], ())) (spans := [(a, (till, ()))]) hf ht rfl h2 216 (k + 1) k (T + (k + 1) * D) ([(from_, a, -1, ())] ++ [(a, (if T + (k + 1) * D < till then T + (k + 1) * D else till), mAt mem k, ())]) (by omega)
      (by
        have : (k + 1 + ((216 : Nat) : Int)) * D = (k + 1) * D + 216 * D := by rw [Int.add_mul]; rfl
        rw [this]
        omega) (fun _ => Int.le_refl _) (by simp)
    have hin := loop_step hround hb
    have hs1 : l131_0_5 (((-1 : Int), ((-1 : Int), ((0 : Int), (from_, (till, ((([(a, (till, ()))] : List SpT).length : Int), ())))))), ((l, ()), (((off, [], ()), ()), (([] : List SgT), (([(a, (till, ()))] : List SpT), ()))))) =
        some (.inl ((k', (next', ((1 : Int), (till, (till, ((1 : Int), ())))))), ((l, ()), (((off, [], ()), ()), ((([(from_, a, -1, ())] ++ [(a, (if T + (k + 1) * D < till then T + (k + 1) * D else till), mAt mem k, ())]) ++ bnd T D mem till 216 (k + 1), ([(a, (till, ()))], ()))))))) := by
      unfold l131_0_5
      simp only [List.length_cons, List.length_nil, show ((0 + 1 : Nat) : Int) = 1 from rfl, show decide ((0 : Int) < 1) = true from rfl, show decide ((0 : Int) ≤ 0 ∧ (0 : Int) < 1) = true from rfl, Int.toNat_zero, List.getElem?_cons_zero, List.nil_append, Nat.zero_add, show decide ((1 : Nat) ≤ 4294967296) = true from rfl, hin, sumE, sS]
      rfl
    have hs2 : ∀ (k' next' : Int) (out : List SgT), l131_0_5 ((k', (next', ((1 : Int), (till, (till, ((1 : Int), ())))))), ((l, ()), (((off, [], ()), ()), (out, (([(a, (till, ()))] : List SpT), ()))))) = some (.inr ((till, (till, ())), (out, ()))) := fun _ _ _ => rfl
    rw [loop_step hs1 (loopT_inr (hs2 _ _ _)), hr]
    simp only [sumE, sS]
    have hbl := bnd_len T D mem till 216 (k + 1)
    rw [decide_eq_true (by simp; omega), cond_true]
    simp only [List.cons_append, List.nil_append, List.append_assoc]

theorem bnd_in {T D : Int} {mem : List Int} {till lo : Int} (hD : 0 ≤ D) : ∀ n k, lo ≤ T + k * D → ∀ s ∈ bnd T D mem till n k, lo ≤ s.1 ∧ s.2.1 ≤ till
  | 0, _, _, s, hs => by simp [bnd] at hs
  | n + 1, k, h, s, hs => by
    have e1 : (k + 1) * D = k * D + D := by rw [Int.add_mul, Int.one_mul]
    unfold bnd at hs
    split at hs
    · rcases List.mem_cons.1 hs with rfl | hs
      · exact ⟨h, by dsimp only; split <;> omega⟩
      · exact bnd_in hD n (k + 1) (by omega) s hs
    · simp at hs

theorem layer_segs {T D : Int} {mem : List Int} {from_ till : Int} (h1 : 0 ≤ from_) (h2 : till ≤ 1800000000) (h3 : till = from_ + 777600) (hD : 3600 ≤ D) : ∃ R : List SgT, R.length ≤ 219 ∧ SgIn from_ till R ∧ ∀ (v : VwT) (l : LyT), Fit v l T D mem → m131 ((v, (l, (from_, (till, ())))), ()) = some ((), (R, ())) := by
  have hraw : (rawSegs T D mem from_ till).length ≤ 219 ∧ ∀ s ∈ rawSegs T D mem from_ till, from_ ≤ s.1 ∧ s.2.1 ≤ till := by
    unfold rawSegs
    split
    · exact ⟨by simp, fun s hs => by simp only [List.mem_cons, List.not_mem_nil, or_false] at hs; subst hs; exact ⟨Int.le_refl _, Int.le_refl _⟩⟩
    · rename_i hge
      dsimp only
      generalize ha : (if T > from_ then T else from_) = a
      have ha1 : T ≤ a ∧ from_ ≤ a ∧ a < till := by rw [← ha]; split <;> omega
      have h8 := Int.ediv_mul_le (a - T) (show D ≠ 0 by omega)
      have h9 := Int.lt_ediv_add_one_mul_self (a - T) (show 0 < D by omega)
      generalize (a - T) / D = k at *
      have hbl := bnd_len T D mem till 216 (k + 1)
      refine ⟨by simp; omega, fun s hs => ?_⟩
      simp only [List.cons_append, List.mem_cons, List.mem_append, List.not_mem_nil, or_false] at hs
      rcases hs with rfl | rfl | hs | rfl
      · exact ⟨Int.le_refl _, by dsimp only; omega⟩
      · exact ⟨ha1.2.1, by dsimp only; split <;> omega⟩
      · exact bnd_in (by omega) 216 (k + 1) (by omega) s hs
      · exact ⟨by dsimp only; omega, Int.le_refl _⟩
  obtain ⟨⟨⟨⟩, R, ⟨⟩⟩, e, g1, g2⟩ := segs_merge hraw.2 (by omega)
  dsimp only at g1
  exact ⟨R, by omega, g2, fun v l hf => by rw [layer_raw hf h1 h2 h3, e]; rfl⟩
set_option maxRecDepth 100000
theorem ens_and {A : Type} {P : Prop} [Decidable P] {x : Option A} {Q : A → Prop} (h : P) (h1 : Ens x Q) : Ens (bif decide P && true then x else none) Q := by
  rw [decide_eq_true h]; exact h1
theorem need_of {A : Type} {P : Prop} [Decidable P] {x : Option A} (h : P) : (bif decide P then x else none) = x := by rw [decide_eq_true h]; rfl
theorem nobody_e {lo hi : Int} {fr : List SpT} (hf : SpIn lo hi fr) (h2 : fr.length ≤ 100000) {x : List SgT} (hx : SgIn lo hi x) (hx2 : x.length ≤ 100000) :
    Ens (loopT l62_0_11 ((0, ((fr.length : Int), ())), ((), (fr, (x, ()))))) fun u => u.2.2.1.length = x.length + fr.length ∧ SgIn lo hi u.2.2.1 := by
  refine ens_loop (fun (a : (Int × Int × Unit) × Unit × List SpT × List SgT × Unit) => 0 ≤ a.1.1 ∧ a.1.1 ≤ fr.length ∧ a.1.2.1 = fr.length ∧ a.2.2.1 = fr ∧ (a.2.2.2.1.length : Int) = x.length + a.1.1 ∧ SgIn lo hi a.2.2.2.1) (fun a => ((fr.length : Int) - a.1.1).toNat) ?_ _ ⟨Int.le_refl _, by dsimp only; omega, rfl, rfl, by dsimp only; omega, hx⟩
  rintro ⟨⟨i, n, ⟨⟩⟩, ⟨⟩, fr', out, ⟨⟩⟩ ⟨q1, q2, q3, q4, q5, q6⟩
  dsimp only at q1 q2 q3 q4 q5 q6
  subst q3 q4
  unfold l62_0_11
  dsimp only
  refine ens_ite (fun hlt => ?_) (fun _ => ens_some ⟨by dsimp only; omega, q6⟩)
  refine ens_need (by omega) ?_
  refine ens_at (by omega) fun e he hm => ?_
  refine ens_need (by simp; omega) (ens_some ?_)
  rw [w64_id (x := i + 1) (by omega) (by omega)]
  refine ⟨⟨by dsimp only; omega, by dsimp only; omega, rfl, rfl, by simp; omega, fun s hs => ?_⟩, by dsimp only; omega⟩
  rcases List.mem_append.1 hs with hs | hs
  · exact q6 s hs
  · simp only [List.mem_cons, List.not_mem_nil, or_false] at hs
    subst hs
    exact hf e hm

theorem stack_e {T D from_ till elo ehi : Int} {mem : List Int} {eds : List EdT} (he : ∀ e ∈ eds, elo ≤ e.2.2.2.1 ∧ e.2.2.2.1 < e.2.2.2.2.1 ∧ e.2.2.2.2.1 ≤ ehi) (hel : eds.length ≤ 1) (h0 : 0 ≤ elo) (h4 : ehi ≤ 4000000000)
    (h1 : 0 ≤ from_) (h2 : till ≤ 1800000000) (h3 : till = from_ + 777600) (hD : 3600 ≤ D) :
    ∃ R : List SgT, R.length ≤ 2000 ∧ SgIn from_ till R ∧ ∀ (v : VwT) (s : ScT) (l : LyT), s.2.1 = [l] → s.2.2.1 = eds → Fit v l T D mem → m62 ((v, (s, (from_, (till, ())))), ()) = some ((), (R, ())) := by
  obtain ⟨R1, a1, a2, a3⟩ := layer_segs (T := T) (D := D) (mem := mem) h1 h2 h3 hD
  obtain ⟨R2, b1, b2, b3⟩ := present_e he hel h0 h4 a2 (by omega)
  obtain ⟨⟨⟨⟩, R3, ⟨⟩⟩, e3, c1, c2⟩ := within_e (lo := from_) (hi := till) (l := R2) (fr := [(from_, (till, ()))]) (fun f hf => by simp only [List.mem_cons, List.not_mem_nil, or_false] at hf; subst hf; exact ⟨Int.le_refl _, Int.le_refl _⟩) (by omega) (by simp)
  dsimp only [List.length_cons, List.length_nil] at c1 c2
  obtain ⟨⟨⟨⟩, R4, ⟨⟩⟩, e4, d1, d2⟩ := spans_e c2 (by omega) h1 (by omega)
  dsimp only at d1 d2
  obtain ⟨⟨⟨⟩, R5, ⟨⟩⟩, e5, f1, f2⟩ := without_e (s := (from_, (till, ()))) (b := R4) (by omega)
  dsimp only at f1 f2
  obtain ⟨⟨⟨⟩, ⟨⟩, R6, ⟨⟩⟩, e6, g1, g2⟩ := nobody_e f2 (by omega) c2 (by omega)
  dsimp only at g1 g2
  obtain ⟨hcond, row, hrow, hsl, hsm⟩ := seg_sort (l := R6) (fun x hx => by have := g2 x hx; omega) (by omega)
  obtain ⟨⟨⟨⟩, R7, ⟨⟩⟩, e7, i1, i2⟩ := segs_merge (lo := from_) (hi := till) (l := row) (fun s hs => by have := g2 s (hsm s hs); omega) (by omega)
  dsimp only at i1 i2
  refine ⟨R7, by omega, i2, fun v s l hs heds hf => ?_⟩
  have e1 := a3 v l hf
  have e2 := b3 s heds
  unfold m62 m128
  simp only [decide_eq_false (show ¬ from_ ≥ till by omega), hs, List.length_cons, List.length_nil, rowAt_G, rowG_one, sumE, sS]
  simp only [e1, e2, e3, e4, e5, e6, hcond, hrow, e7, decide_eq_true (show 0 + R3.length ≤ 4294967296 by omega), sumE, sS]
  exact need_of hsl

/-! ### Cuts -/
theorem sortI_len (l : List Int) : (sortI l).length = l.length := List.length_mergeSort _
theorem sortAt_len {l : List Int} {c : Nat} (h : c ≤ l.length) : (sortAt l 0 c).length = l.length := by
  unfold sortAt
  simp only [List.length_append, sortI_len, List.length_take, List.length_drop]; omega
theorem sort_two {F T : Int} (h : F < T) : sortAt [F, T] 0 2 = [F, T] := by
  have : sortI [F, T] = [F, T] := by
    unfold sortI
    refine List.mergeSort_of_pairwise ?_
    simp only [List.pairwise_cons, List.mem_cons, List.not_mem_nil, or_false, forall_eq, decide_eq_true_eq]
    exact ⟨by omega, fun _ h => h.elim, List.Pairwise.nil⟩
  unfold sortAt
  simp [this]

theorem cuts_e {F T from_ till : Int} (h : F < T) : Ens (m61 (([F, T], (from_, (till, ()))), ())) fun u => ∃ pre : List Int, u.2.1 = pre ++ [till] ∧ pre.length ≤ 2 := by
  have hc : m124 (([F, T], ()), ()) = some ((), ([F, T], ())) := rfl
  unfold m61
  dsimp only
  refine ens_bind (ens_tail (R := fun v => v.1.1.1 = 0 ∧ ((v.1.1.2 = 2 ∧ v.2.2.1 = [F, T]) ∨ (v.1.1.2 ≤ 1 ∧ v.2.2.1.length = 2)) ∧ v.2.1.1 = till) ?_ ?_)
  · rw [hc]
    simp only [sumE, sS]
    refine ens_bind (ens_tail (R := fun v => (v.1.1 = -1 ∨ 0 ≤ v.1.1 ∧ v.1.1 < 2) ∧ v.2.1 = [F, T] ∧ v.2.2.2.1.1 = till) ?_ ?_)
    · refine ens_bind (ens_tail (ens_loop (fun (a : (Int × Int × Unit) × List Int × (Int × Unit) × (Int × Unit) × Unit) => 0 ≤ a.1.1 ∧ a.1.2.1 = 2 ∧ a.2.1 = [F, T] ∧ a.2.2.2.1.1 = till) (fun a => (2 - a.1.1).toNat)
        (Q := fun (r : ((Int × Unit) × List Int × (Int × Unit) × (Int × Unit) × Unit) ⊕ (Unit × List Int × (Int × Unit) × (Int × Unit) × Unit)) => match r with
          | .inl u => 0 ≤ u.1.1 ∧ u.1.1 < 2 ∧ u.2.1 = [F, T] ∧ u.2.2.2.1.1 = till
          | .inr u => u.2.1 = [F, T] ∧ u.2.2.2.1.1 = till) ?_ _ ⟨Int.le_refl _, rfl, rfl, rfl⟩) ?_)
      · rintro ⟨⟨i, n, ⟨⟩⟩, row, ⟨f, ⟨⟩⟩, ⟨t, ⟨⟩⟩, ⟨⟩⟩ ⟨q1, q2, q3, q4⟩
        dsimp only at q1 q2 q3 q4
        subst q2 q3 q4
        unfold l61_2_2
        dsimp only
        refine ens_ite (fun hlt => ?_) (fun _ => ens_some ⟨rfl, rfl⟩)
        refine ens_need (by simp; omega) ?_
        refine ens_at (by simp; omega) fun e he hm => ?_
        refine ens_bind (ens_tail (R := fun v => v.2.2.1.1 = t) ?_ ?_)
        · exact ens_ite (fun _ => ens_some rfl) (fun _ => ens_some rfl)
        rintro ⟨⟨b, ⟨⟩⟩, ⟨f2, ⟨⟩⟩, ⟨t2, ⟨⟩⟩, ⟨⟩⟩ p1
        dsimp only at p1 ⊢
        subst p1
        refine ens_bif (fun _ => ens_some ⟨q1, hlt, rfl, rfl⟩) (fun _ => ens_some ?_)
        rw [w64_id (x := i + 1) (by omega) (by omega)]
        exact ⟨⟨by dsimp only; omega, rfl, rfl, rfl⟩, by dsimp only; omega⟩
      · rintro r hr
        refine ens_sum (fun u hu => ?_) (fun u hu => ?_)
        · subst hu
          obtain ⟨p1, p2, p3, p4⟩ := hr
          exact ens_need (by rw [p3]) (ens_some ⟨.inr ⟨p1, p2⟩, p3, p4⟩)
        · subst hu
          obtain ⟨p3, p4⟩ := hr
          exact ens_need (by rw [p3]) (ens_some ⟨.inl rfl, p3, p4⟩)
    rintro ⟨⟨i, ⟨⟩⟩, row, ⟨f, ⟨⟩⟩, ⟨t, ⟨⟩⟩, ⟨⟩⟩ ⟨q1, q2, q3⟩
    dsimp only at q1 q2 q3 ⊢
    subst q2 q3
    refine ens_bif (fun hb => ?_) (fun hb => ?_)
    · exact ens_need rfl (ens_some ⟨rfl, .inl ⟨rfl, rfl⟩, rfl⟩)
    · have hi : 0 ≤ i ∧ i < 2 := by
        have := ne_of_beq_false hb
        omega
      refine ens_bind (ens_tail (ens_loop (fun (a : (Int × Int × Unit) × List Int × (Int × Unit) × (Int × Unit) × Unit) => 1 ≤ a.1.1 ∧ a.1.1 ≤ 2 ∧ 0 ≤ a.1.2.1 ∧ a.1.2.1 < a.1.1 ∧ a.2.1.length = 2 ∧ a.2.2.2.1.1 = t) (fun a => (2 - a.1.1).toNat)
        (Q := fun (u : (Int × Unit) × List Int × (Int × Unit) × (Int × Unit) × Unit) => 0 ≤ u.1.1 ∧ u.1.1 ≤ 1 ∧ u.2.1.length = 2 ∧ u.2.2.2.1.1 = t) ?_ _ ?_) ?_)
      · rintro ⟨⟨j, c, ⟨⟩⟩, row, ⟨f2, ⟨⟩⟩, ⟨t2, ⟨⟩⟩, ⟨⟩⟩ ⟨q1, q2, q3, q4, q5, q6⟩
        dsimp only at q1 q2 q3 q4 q5 q6
        subst q6
        unfold l61_1_5
        dsimp only
        refine ens_ite (fun hlt => ?_) (fun hge => ens_some ⟨q3, by dsimp only; omega, q5, rfl⟩)
        refine ens_bind (ens_tail (R := fun v => 0 ≤ v.1.1 ∧ v.1.1 ≤ c + 1 ∧ v.1.2.1 = j ∧ v.2.1.length = 2 ∧ v.2.2.2.1.1 = t2) ?_ ?_)
        · refine ens_need (by omega) ?_
          refine ens_at (by omega) fun e he hm => ?_
          refine ens_bind (ens_tail (R := fun v => v.2.2.1.1 = t2) ?_ ?_)
          · exact ens_ite (fun _ => ens_some rfl) (fun _ => ens_some rfl)
          rintro ⟨⟨b, ⟨⟩⟩, ⟨f3, ⟨⟩⟩, ⟨t3, ⟨⟩⟩, ⟨⟩⟩ p1
          dsimp only at p1 ⊢
          subst p1
          refine ens_bif (fun _ => ?_) (fun _ => ens_some ⟨q3, by dsimp only; omega, rfl, q5, rfl⟩)
          refine ens_need (by omega) ?_
          refine ens_need (by omega) (ens_some ?_)
          rw [w64_id (x := c + 1) (by omega) (by omega)]
          exact ⟨by dsimp only; omega, Int.le_refl _, rfl, by simpa using q5, rfl⟩
        rintro ⟨⟨c2, j2, ⟨⟩⟩, row2, ⟨f3, ⟨⟩⟩, ⟨t3, ⟨⟩⟩, ⟨⟩⟩ ⟨p1, p2, p3, p4, p5⟩
        dsimp only at p1 p2 p3 p4 p5 ⊢
        subst p3 p5
        refine ens_some ?_
        rw [w64_id (x := j2 + 1) (by omega) (by omega)]
        exact ⟨⟨by dsimp only; omega, by dsimp only; omega, p1, by dsimp only; omega, p4, rfl⟩, by dsimp only; omega⟩
      · rw [w64_id (x := i + 1) (by omega) (by omega)]
        exact ⟨by dsimp only; omega, by dsimp only; omega, hi.1, by dsimp only; omega, rfl, rfl⟩
      rintro ⟨⟨c, ⟨⟩⟩, row, ⟨f2, ⟨⟩⟩, ⟨t2, ⟨⟩⟩, ⟨⟩⟩ ⟨p1, p2, p3, p4⟩
      dsimp only at p1 p2 p3 p4 ⊢
      subst p4
      have hspl : ∀ (y : List Int), (spliceL row c.toNat (List.replicate (row.length - c.toNat) 0)).length = 2 := by
        intro _
        unfold spliceL
        simp; omega
      refine ens_need p1 ?_
      refine ens_need (by omega) ?_
      refine ens_need (by omega) ?_
      refine ens_need p1 ?_
      refine ens_need (by rw [hspl []]; omega) ?_
      refine ens_need (by rw [hspl []]; rfl) (ens_some ⟨rfl, .inr ⟨by dsimp only; omega, hspl []⟩, rfl⟩)
  rintro ⟨⟨⟨o, c⟩, ⟨⟩⟩, ⟨t, ⟨⟩⟩, row, ⟨⟩⟩ ⟨q1, q2, q3⟩
  dsimp only at q1 q2 q3 ⊢
  subst q1 q3
  have hrl : row.length = 2 := by
    rcases q2 with ⟨_, rfl⟩ | ⟨_, h⟩
    · rfl
    · exact h
  have hcl : c ≤ row.length := by rcases q2 with ⟨h, _⟩ | ⟨h, _⟩ <;> omega
  have hsl := sortAt_len hcl
  refine ens_need (by omega) ?_
  refine ens_and hsl ?_
  refine ens_bind (ens_tail (R := fun v => ∃ pre : List Int, v.2.1 = pre ++ [t] ∧ pre.length ≤ 2) ?_ ?_)
  · refine ens_ite (fun hlt => ?_) (fun hge => ?_)
    · refine ens_and rfl ?_
      refine ens_need (by rw [hsl]; simp; omega) (ens_some ⟨_, rfl, by simp; omega⟩)
    · have hc2 : c = 2 ∧ row = [F, T] := by
        rcases q2 with h | ⟨h, _⟩
        · exact h
        · omega
      obtain ⟨rfl, rfl⟩ := hc2
      rw [sort_two h]
      have s1 : l61_5_4 (((1 : Int), (((0 : Nat), (2 : Nat)), ())), ([F, T], ())) = some (.inl (((2 : Int), ((0, 2), ())), ([F, T], ()))) := by
        unfold l61_5_4
        simp only [show decide ((1 : Int) < ((2 : Nat) : Int)) = true from rfl, show decide ((0 : Int) ≤ 1 ∧ (1 : Int) < ((2 : Nat) : Int)) = true from rfl, show (0 + (1 : Int).toNat) = 1 from rfl, show w64 (1 - 1) = 0 from rfl, show decide ((0 : Int) ≤ 0 ∧ (0 : Int) < ((2 : Nat) : Int)) = true from rfl,
          show (0 + (0 : Int).toNat) = 0 from rfl, List.getElem?_cons_succ, List.getElem?_cons_zero, show (T == F) = false from beq_eq_false_iff_ne.2 (by omega), sumE, sS]
        rfl
      have s2 : l61_5_4 (((2 : Int), (((0 : Nat), (2 : Nat)), ())), ([F, T], ())) = some (.inr (.inr (((0, 2), ()), ([F, T], ())))) := rfl
      have s3 := loop_step s1 (loopT_inr s2)
      rw [s3]
      simp only [sumE, sS]
      exact ens_some ⟨[F, T], rfl, by simp⟩
  rintro ⟨⟨⟩, cs, ⟨⟩⟩ hcs
  exact ens_some hcs
set_option maxRecDepth 100000
theorem half_e {y : Int} (h1 : 0 ≤ y) (h2 : y ≤ 10) : w64 (shrI .u64 (IntKind.wrap .u64 (w64 y)) 1) = y / 2 := by
  have : y = 0 ∨ y = 1 ∨ y = 2 ∨ y = 3 ∨ y = 4 ∨ y = 5 ∨ y = 6 ∨ y = 7 ∨ y = 8 ∨ y = 9 ∨ y = 10 := by omega
  rcases this with rfl | rfl | rfl | rfl | rfl | rfl | rfl | rfl | rfl | rfl | rfl <;> rfl
theorem less_e (a b : Int) : m136 ((a, (b, ())), ()) = some ((decide (a < b), ()), ()) := by
  unfold m136 m218
  simp only [sumE, sS]

theorem search_e {pre : List Int} {till x : Int} (hp : pre.length ≤ 2) (hx : x ≤ till) : Ens (m63 ((pre ++ [till], (x, ())), ())) fun u => 0 ≤ u.1.1 ∧ u.1.1 ≤ pre.length := by
  have hl : ((pre ++ [till]).length : Int) = pre.length + 1 := by simp
  unfold m63
  dsimp only
  refine ens_bind (ens_tail (ens_loop (fun (a : (Int × List Int × Int × Int × Int × Unit) × Unit) => a.1.1 = x ∧ a.1.2.1 = pre ++ [till] ∧ 0 ≤ a.1.2.2.2.1 ∧ a.1.2.2.2.1 ≤ a.1.2.2.1 ∧ a.1.2.2.1 ≤ pre.length + 1 ∧ a.1.2.2.2.1 ≤ pre.length ∧ a.1.2.2.2.2.1 = pre.length + 1) (fun a => (a.1.2.2.1 - a.1.2.2.2.1).toNat)
    (Q := fun (u : (Int × Int × List Int × Int × Unit) × Unit) => u.1.1 = x ∧ 0 ≤ u.1.2.1 ∧ u.1.2.1 ≤ pre.length ∧ u.1.2.2.1 = pre ++ [till] ∧ u.1.2.2.2.1 = pre.length + 1) ?_ _ ⟨rfl, rfl, Int.le_refl _, by dsimp only; omega, by dsimp only; omega, by dsimp only; omega, hl⟩) ?_)
  · rintro ⟨⟨x', cs, hi, lo, n, ⟨⟩⟩, ⟨⟩⟩ ⟨q1, q2, q3, q4, q5, q6, q7⟩
    dsimp only at q1 q2 q3 q4 q5 q6 q7
    subst q1 q2 q7
    unfold l63_0_3
    dsimp only
    refine ens_ite (fun hlt => ?_) (fun hge => ens_some ⟨rfl, q3, q6, rfl, rfl⟩)
    rw [half_e (y := lo + hi) (by omega) (by omega)]
    refine ens_row (by omega) (by omega) fun e he hm => ?_
    rw [less_e]
    simp only [sumE, sS]
    refine ens_ite (fun hl2 => ens_some ?_) (fun _ => ens_some ?_)
    · have hne : (lo + hi) / 2 ≠ pre.length := by
        intro h3
        rw [h3, Int.toNat_natCast, List.getElem?_append_right (Nat.le_refl _), Nat.sub_self] at he
        simp at he
        omega
      rw [w64_id (x := (lo + hi) / 2 + 1) (by omega) (by omega)]
      exact ⟨⟨rfl, rfl, by dsimp only; omega, by dsimp only; omega, q5, by dsimp only; omega, rfl⟩, by dsimp only; omega⟩
    · exact ⟨⟨rfl, rfl, q3, by dsimp only; omega, by dsimp only; omega, q6, rfl⟩, by dsimp only; omega⟩
  rintro ⟨⟨x', i, cs, n, ⟨⟩⟩, ⟨⟩⟩ ⟨q1, q2, q3, q4, q5⟩
  dsimp only at q1 q2 q3 q4 q5 ⊢
  subst q1 q4 q5
  refine ens_bind (ens_tail (R := fun v => v.1.1 = i) ?_ ?_)
  · refine ens_ite (fun _ => ?_) (fun _ => ens_some rfl)
    refine ens_row q2 (by omega) fun e he hm => ?_
    refine ens_bif (fun _ => ens_some rfl) (fun _ => ?_)
    refine ens_row q2 (by omega) fun e2 he2 _ => ?_
    unfold m137
    simp only [sumE, sS]
    exact ens_some rfl
  rintro ⟨⟨j, b, ⟨⟩⟩, ⟨⟩⟩ hj
  dsimp only at hj ⊢
  subst hj
  exact ens_some ⟨q2, q3⟩

theorem active_e (e : EdT) (t : Int) : Ens (m138 ((e, (t, ())), ())) fun _ => True := by
  unfold m138
  dsimp only
  refine ens_bind (ens_tail (R := fun _ => True) ?_ (fun _ _ => ens_some trivial))
  exact ens_ite (fun _ => ens_some trivial) (fun _ => ens_some trivial)

theorem fold_e {eds : List EdT} (hl : eds.length ≤ 1) (p t : Int) : Ens (m64 ((eds, (p, (t, ()))), ())) fun _ => True := by
  unfold m64
  dsimp only
  refine ens_bind (ens_tail (ens_loop (fun (a : (Int × Int × Int × List EdT × Int × Unit) × Unit) => 0 ≤ a.1.1 ∧ a.1.2.2.2.1 = eds ∧ a.1.2.2.2.2.1 = eds.length) (fun a => ((eds.length : Int) - a.1.1).toNat) (Q := fun _ => True) ?_ _ ⟨Int.le_refl _, rfl, rfl⟩) (fun _ _ => ens_some trivial))
  rintro ⟨⟨i, p', t', l, n, ⟨⟩⟩, ⟨⟩⟩ ⟨q1, q2, q3⟩
  dsimp only at q1 q2 q3
  subst q2 q3
  unfold l64_0_2
  dsimp only
  refine ens_ite (fun hlt => ?_) (fun _ => ens_some trivial)
  refine ens_bind (ens_tail (R := fun v => v.1.2.2.1 = l ∧ v.1.2.2.2.1 = (l.length : Int) ∧ v.1.2.2.2.2.1 = i) ?_ ?_)
  · refine ens_row q1 hlt fun e he hm => ?_
    refine ens_bind (ens_tail (R := fun v => v.1.2.2.2.1 = l ∧ v.1.2.2.2.2.1 = (l.length : Int) ∧ v.1.2.2.2.2.2.1 = i) ?_ ?_)
    · refine ens_bind (ens_tail (active_e e t') fun u _ => ?_)
      exact ens_bif (fun _ => ens_some ⟨rfl, rfl, rfl⟩) (fun _ => ens_some ⟨rfl, rfl, rfl⟩)
    rintro ⟨⟨b, p2, t2, l2, n2, i2, ⟨⟩⟩, ⟨e2, ⟨⟩⟩, ⟨⟩⟩ h
    dsimp only at h ⊢
    refine ens_bif (fun _ => ens_some h) (fun _ => ens_bif (fun _ => ens_some h) (fun _ => ens_bif (fun _ => ens_some h) (fun _ => ens_bif (fun _ => ens_some h) (fun _ => ens_bif (fun _ => ens_some h) (fun _ => ens_some h)))))
  rintro ⟨⟨p2, t2, l2, n2, i2, ⟨⟩⟩, ⟨⟩⟩ ⟨p1, p2, p3⟩
  dsimp only at p1 p2 p3 ⊢
  subst p1 p2 p3
  refine ens_some ?_
  rw [w64_id (x := i2 + 1) (by omega) (by omega)]
  exact ⟨⟨by dsimp only; omega, rfl, rfl⟩, by dsimp only; omega⟩

/-- The parts of a segment between cuts. -/
theorem part_e {pre : List Int} {till : Int} {eds : List EdT} (hp : pre.length ≤ 2) (hl : eds.length ≤ 1) (x : SgT) (hx : x.2.1 ≤ till) (segs : List SgT) (n i : Int) : ∀ (m ci : Nat) (at_ : Int), ci + m = pre.length + 1 → (at_ < x.2.1 → 1 ≤ m) →
    ∃ add : List SgT, add.length ≤ m ∧ ∀ (s : ScT) (out : List SgT), s.2.2.1 = eds → out.length + m ≤ 100000 →
      loopT l31_0_14 (((ci : Int), (at_, (n, (i, ())))), ((x, ()), ((s, ()), (out, (pre ++ [till], (segs, ())))))) = some ((n, (i, ())), ((s, ()), (out ++ add, (pre ++ [till], (segs, ()))))) := by
  intro m
  induction m with
  | zero =>
    intro ci at_ hc ha
    refine ⟨[], Nat.le_refl _, fun s out hs ho => ?_⟩
    refine loopT_inr ?_
    unfold l31_0_14
    simp only [decide_eq_false (show ¬ at_ < x.2.1 from fun h => by have := ha h; omega), sumE, sS, List.append_nil]
  | succ m ih =>
    intro ci at_ hc ha
    by_cases hlt : at_ < x.2.1
    · have hci : ci < (pre ++ [till]).length := by simp; omega
      have hge : (pre ++ [till])[ci]? = some (pre ++ [till])[ci] := List.getElem?_eq_getElem hci
      generalize hcv : (pre ++ [till])[ci] = c at hge
      obtain ⟨⟨⟨p, ⟨⟩⟩, ⟨⟩⟩, ef, _⟩ := fold_e hl x.2.2.1 at_
      obtain ⟨add, g1, g2⟩ := ih (ci + 1) (if c < x.2.1 then c else x.2.1) (by omega) (fun h => by
        have h1 : c < x.2.1 := by
          rcases Int.lt_or_le c x.2.1 with h1 | h1
          · exact h1
          · rw [if_neg (by omega)] at h; omega
        have h2 : ci ≠ pre.length := by
          intro h3
          subst h3
          rw [List.getElem?_append_right (Nat.le_refl _), Nat.sub_self] at hge
          simp at hge
          omega
        omega)
      refine ⟨(at_, (if c < x.2.1 then c else x.2.1), p, ()) :: add, by simp; omega, fun s out hs ho => ?_⟩
      refine loop_step (a' := ((((ci + 1 : Nat) : Int), ((if c < x.2.1 then c else x.2.1), (n, (i, ())))), ((x, ()), ((s, ()), (out ++ [(at_, (if c < x.2.1 then c else x.2.1), p, ())], (pre ++ [till], (segs, ()))))))) ?_ ?_
      · unfold l31_0_14
        dsimp only
        rw [decide_eq_true hlt, cond_true, decide_eq_true (show (0 : Int) ≤ (ci : Int) ∧ (ci : Int) < ((pre ++ [till]).length : Int) by omega), cond_true, Int.toNat_natCast, hge, Option.bind_some, hs, ef, Option.bind_some, decide_eq_true (by simp; omega), cond_true, w64_nat (i := ci) (by simp at hci; omega)]
      · rw [g2 s _ hs (by simp; omega), List.append_assoc]
        rfl
    · refine ⟨[], by simp, fun s out hs ho => ?_⟩
      refine loopT_inr ?_
      unfold l31_0_14
      simp only [decide_eq_false hlt, sumE, sS, List.append_nil]
set_option maxRecDepth 100000
theorem some_range : ∀ l : List SgT, ∃ lo hi : Int, ∀ s ∈ l, lo ≤ s.1 ∧ s.2.1 ≤ hi
  | [] => ⟨0, 0, fun s hs => by simp at hs⟩
  | x :: r => by
    obtain ⟨lo, hi, h⟩ := some_range r
    refine ⟨min lo x.1, max hi x.2.1, fun s hs => ?_⟩
    rcases List.mem_cons.1 hs with rfl | hs
    · omega
    · have := h s hs
      omega

theorem parts_e {pre : List Int} {from_ till : Int} {eds : List EdT} (hp : pre.length ≤ 2) (hl : eds.length ≤ 1) {segs : List SgT} (hs : SgIn from_ till segs) (hsl : segs.length ≤ 2000) (h1 : 0 ≤ from_) (h2 : till ≤ 1800000000) :
    ∃ R : List SgT, R.length ≤ 6000 ∧ ∀ s : ScT, s.2.2.1 = eds → loopT l31_0_10 ((0, ((segs.length : Int), ())), ((s, ()), (([] : List SgT), (pre ++ [till], (segs, ()))))) = some ((), (R, ())) := by
  have key : ∀ (m i : Nat) (out : List SgT), i + m = segs.length → out.length ≤ 3 * i →
      ∃ R : List SgT, R.length ≤ 6000 ∧ ∀ s : ScT, s.2.2.1 = eds → loopT l31_0_10 (((i : Int), ((segs.length : Int), ())), ((s, ()), (out, (pre ++ [till], (segs, ()))))) = some ((), (R, ())) := by
    intro m
    induction m with
    | zero =>
      intro i out hi ho
      refine ⟨out, by omega, fun s _ => loopT_inr ?_⟩
      unfold l31_0_10
      simp only [decide_eq_false (show ¬ (i : Int) < (segs.length : Int) by omega), sumE, sS]
    | succ m ih =>
      intro i out hi ho
      have hlt : i < segs.length := by omega
      have hge : segs[i]? = some segs[i] := List.getElem?_eq_getElem hlt
      generalize segs[i] = x at hge
      have hx := hs x (List.mem_of_getElem? hge)
      obtain ⟨⟨⟨ci, bb, ⟨⟩⟩, ⟨⟩⟩, es, c1, c2⟩ := search_e (pre := pre) (till := till) (x := x.1 + 1) hp (by omega)
      dsimp only at c1 c2
      obtain ⟨add, a1, a2⟩ := part_e hp hl x hx.2.2 segs (segs.length : Int) (i : Int) (pre.length + 1 - ci.toNat) ci.toNat x.1 (by omega) (fun _ => by omega)
      obtain ⟨R, b1, b2⟩ := ih (i + 1) (out ++ add) (by omega) (by simp; omega)
      refine ⟨R, b1, fun s hs => loop_step (a' := ((((i + 1 : Nat) : Int), ((segs.length : Int), ())), ((s, ()), (out ++ add, (pre ++ [till], (segs, ())))))) ?_ (b2 s hs)⟩
      have a3 := a2 s out hs (by omega)
      rw [show ((ci.toNat : Nat) : Int) = ci by omega] at a3
      obtain ⟨nm, ls, ed, ⟨⟩⟩ := s
      unfold l31_0_10
      dsimp only
      rw [decide_eq_true (show (i : Int) < (segs.length : Int) by omega), cond_true, decide_eq_true (show (0 : Int) ≤ (i : Int) ∧ (i : Int) < (segs.length : Int) by omega), cond_true, Int.toNat_natCast, hge, Option.bind_some, w64_id (x := x.1 + 1) (by omega) (by omega), es, Option.bind_some, a3, Option.bind_some, w64_nat (i := i) (by omega)]
  obtain ⟨R, b1, b2⟩ := key segs.length 0 [] (by omega) (by simp)
  exact ⟨R, b1, b2⟩

theorem edited_e {T D from_ till elo ehi : Int} {mem : List Int} {x : EdT} (he : elo ≤ x.2.2.2.1 ∧ x.2.2.2.1 < x.2.2.2.2.1 ∧ x.2.2.2.2.1 ≤ ehi) (h0 : 0 ≤ elo) (h4 : ehi ≤ 4000000000)
    (h1 : 0 ≤ from_) (h2 : till ≤ 1800000000) (h3 : till = from_ + 777600) (hD : 3600 ≤ D) :
    ∃ R : List SgT, R.length ≤ 6000 ∧ ∀ (v : VwT) (s : ScT) (l : LyT), s.2.1 = [l] → s.2.2.1 = [x] → Fit v l T D mem → m31 ((v, (s, (from_, (till, ())))), ()) = some ((), (R, ())) := by
  obtain ⟨R1, a1, a2, a3⟩ := stack_e (T := T) (D := D) (mem := mem) (eds := [x]) (fun e hm => by simp only [List.mem_cons, List.not_mem_nil, or_false] at hm; subst hm; exact he) (by simp) h0 h4 h1 h2 h3 hD
  obtain ⟨⟨⟨⟩, cs, ⟨⟩⟩, e2, pre, hcs, hp⟩ := cuts_e (from_ := from_) (till := till) he.2.1
  dsimp only at hcs
  subst hcs
  obtain ⟨R3, c1, c2⟩ := parts_e (eds := [x]) hp (by simp) a2 a1 h1 h2
  obtain ⟨lo, hi, hr⟩ := some_range R3
  obtain ⟨⟨⟨⟩, R4, ⟨⟩⟩, e4, d1, _⟩ := segs_merge hr (by omega)
  dsimp only at d1
  refine ⟨R4, by omega, fun v s l hs hx hf => ?_⟩
  have f1 : l31_0_3 ((0, ([x], (till, (from_, (1, ()))))), (([] : List Int), ((s, ()), ((v, ()), ())))) = some (.inl ((1, ([x], (till, (from_, (1, ()))))), ([x.2.2.2.1, x.2.2.2.2.1], ((s, ()), ((v, ()), ()))))) := by
    unfold l31_0_3
    simp only [rowAt_G, rowG_one, show decide ((0 : Int) < 1) = true from rfl, List.length_cons, List.length_nil, show decide (0 + (0 + 1 + 1) ≤ 4294967296) = true from rfl, List.nil_append, sumE, sS]
    rfl
  have f2 : l31_0_3 ((1, ([x], (till, (from_, (1, ()))))), ([x.2.2.2.1, x.2.2.2.2.1], ((s, ()), ((v, ()), ())))) = some (.inr ((till, (from_, ())), ((s, ()), ((v, ()), ([x.2.2.2.1, x.2.2.2.2.1], ()))))) := rfl
  have f3 := loop_step f1 (loopT_inr f2)
  unfold m31
  simp only [hx, List.length_cons, List.length_nil, show ((0 + 1 : Nat) : Int) = 1 from rfl]
  rw [f3]
  simp only [sumE, sS, e2, a3 v s l hs hx hf, c2 s hx, e4]

/-! ### The view of a configuration -/
theorem tables_e {off : Int} {zs : List ZnT} (hz : OZs off zs) (h1 : -64800 ≤ off) (h2 : off ≤ 64800) (hl : zs.length ≤ 2) : Ens (m194 ((zs, ()), ())) fun u => u.2.1.length = zs.length ∧ ∀ t ∈ u.2.1, t = ((off, [], ()) : TbT) := by
  unfold m194
  dsimp only
  refine ens_bind (ens_tail (ens_loop (fun (a : (Int × List ZnT × Int × Unit) × List TbT × Unit) => 0 ≤ a.1.1 ∧ a.1.1 ≤ zs.length ∧ a.1.2.1 = zs ∧ a.1.2.2.1 = zs.length ∧ (a.2.1.length : Int) = a.1.1 ∧ ∀ t ∈ a.2.1, t = ((off, [], ()) : TbT)) (fun a => ((zs.length : Int) - a.1.1).toNat)
    (Q := fun (u : Unit × List TbT × Unit) => u.2.1.length = zs.length ∧ ∀ t ∈ u.2.1, t = ((off, [], ()) : TbT)) ?_ _ ⟨Int.le_refl _, by dsimp only; omega, rfl, rfl, by simp, fun t ht => by simp at ht⟩) (fun u h => ens_some h))
  rintro ⟨⟨i, l1, n, ⟨⟩⟩, out, ⟨⟩⟩ ⟨q1, q2, q3, q4, q5, q6⟩
  dsimp only at q1 q2 q3 q4 q5 q6
  subst q3 q4
  unfold l194_0_3
  dsimp only
  refine ens_ite (fun hlt => ?_) (fun _ => ens_some ⟨by dsimp only; omega, q6⟩)
  refine ens_row q1 hlt fun e he hm => ?_
  obtain ⟨z1, z2, z3⟩ := hz _ e he
  obtain ⟨en, eo, er, ⟨⟩⟩ := e
  dsimp only at z1 z2 z3
  subst z2 z3
  rw [table_e en h1 h2]
  simp only [sumE, sS]
  refine ens_need (by simp; omega) (ens_some ?_)
  rw [w64_id (x := i + 1) (by omega) (by omega)]
  refine ⟨⟨by dsimp only; omega, by dsimp only; omega, rfl, rfl, by simp; omega, fun t ht => ?_⟩, by dsimp only; omega⟩
  rcases List.mem_append.1 ht with ht | ht
  · exact q6 t ht
  · simp only [List.mem_cons, List.not_mem_nil, or_false] at ht
    exact ht

/-- A right configuration of one layer and one edit, whose zones have one offset. -/
structure One (c : CfT) (off : Int) (l : LyT) (x : EdT) : Prop where
  zs : OZs off c.1
  off0 : 0 ≤ off
  off1 : off ≤ 64800
  off2 : off.tmod 60 = 0
  zl : c.1.length ≤ 2
  ps : GPs c.1.length c.2.1
  pl : c.2.1.length ≤ 4
  cs : ∀ x ∈ c.2.2.1, GC c.1.length x
  cl : c.2.2.1.length ≤ 1
  ss : c.2.2.2.1 = [(bs [115], [l], [x], ())]
  ly : LOK c.1.length c.2.1.length l
  ln : okName l.1 = true
  ed : GE c.2.1.length x

theorem config_e {T D from_ : Int} {mem : List Int} {x : EdT} (h1 : 1767139199 ≤ from_) (h2 : from_ ≤ 1769212799) (hD : 3600 ≤ D) (hx1 : 0 ≤ x.2.2.2.1) (hx2 : x.2.2.2.1 < x.2.2.2.2.1) (hx3 : x.2.2.2.2.1 ≤ 4000000000) :
    ∃ R : List SgT, R.length ≤ 6000 ∧ ∀ (c : CfT) (off : Int) (l : LyT), One c off l x → t0 off l = T → dur l = D → l.2.2.2.2.2.1 = mem → m13 ((c, (0, (from_, (from_ + 777600, ())))), ()) = some ((0, ()), (R, ())) := by
  obtain ⟨R, g1, g2⟩ := edited_e (T := T) (D := D) (mem := mem) (x := x) (from_ := from_) (till := from_ + 777600) ⟨hx1, hx2, Int.le_refl _⟩ (Int.le_refl _) hx3 (by omega) (by omega) rfl hD
  refine ⟨R, g1, fun c off l ho hT hd hm => ?_⟩
  obtain ⟨zs, ps, cs, ss, ⟨⟩⟩ := c
  have hck := check_ok ho.zs (by have := ho.off0; omega) ho.off1 ho.off2 ho.zl ho.ps ho.pl ho.cs ho.cl ho.ss s_name ho.ly ho.ln ho.ed
  obtain ⟨⟨⟨⟩, tb, ⟨⟩⟩, et, t1, t2⟩ := tables_e ho.zs (by have := ho.off0; omega) ho.off1 ho.zl
  dsimp only at t1 t2
  have hss := ho.ss
  have hly := ho.ly
  dsimp only at hss hly
  subst hss
  have hz := hly.zone
  have htb : tb[l.2.1.toNat]? = some (off, [], ()) := by
    have hlt : l.2.1.toNat < tb.length := by rw [t1]; omega
    rw [List.getElem?_eq_getElem hlt, t2 _ (List.getElem_mem hlt)]
  have hf : Fit ((zs, ps, cs, [(bs [115], [l], [x], ())], ()), tb, ()) l T D mem := ⟨⟨off, _, _, ho.off0, ho.off1, hly, htb, hT⟩, hd, hm⟩
  have e31 := g2 _ (bs [115], [l], [x], ()) l rfl rfl hf
  unfold m13 m30 m48 m106 m49 m60
  simp only [hck, et, show ((0 : Int) != 0) = false from rfl, List.length_cons, List.length_nil, show decide ((0 : Int) ≥ 0) = true from rfl, show decide ((0 : Int) < ((0 + 1 : Nat) : Int)) = true from rfl, decide_eq_true (show from_ ≥ 0 by omega), decide_eq_true (show from_ ≤ 8589934592 by omega),
    decide_eq_true (show from_ + 777600 ≥ from_ by omega), decide_eq_true (show from_ + 777600 ≤ 8589934592 by omega), show from_ + 777600 - from_ = 777600 by omega, show decide (w64 777600 ≤ 34560000) = true from rfl, rowAt_G, rowG_one, e31, decide_eq_false (show ¬ (R.length : Int) > 16384 by omega), sumE, sS]
set_option maxRecDepth 100000
theorem copy_e {c : CfT} {s : ScT} (hs : c.2.2.2.1 = [s]) (h1 : c.1.length ≤ 100) (h2 : c.2.1.length ≤ 100) (h3 : c.2.2.1.length ≤ 100) (h4 : s.2.1.length ≤ 100) (h5 : s.2.2.1.length ≤ 100) :
    m11 ((c, ()), ()) = some ((), (((), ()), (c.1, (c.2.1, (c.2.2.1, ([s], ())))))) := by
  obtain ⟨zs, ps, cs, ss, ⟨⟩⟩ := c
  dsimp only at hs h1 h2 h3
  subst hs
  have e1 : l11_0_3 ((0, ()), (((), ()), (((zs, ps, cs, [s], ()), ()), (((), ()), (zs, (ps, (cs, (([] : List ScT), ())))))))) = some (.inl ((1, ()), (((), ()), (((zs, ps, cs, [s], ()), ()), (((), ()), (zs, (ps, (cs, ([s], ()))))))))) := by
    unfold l11_0_3
    simp only [List.length_cons, List.length_nil, show decide ((0 : Int) < ((0 + 1 : Nat) : Int)) = true from rfl, rowAt_G, rowG_one, decide_eq_true (show 0 + s.2.1.length ≤ 4294967296 by omega), decide_eq_true (show 0 + s.2.2.1.length ≤ 4294967296 by omega), show decide (0 + (0 + 1) ≤ 4294967296) = true from rfl, List.nil_append, sumE, sS]
    rfl
  have e2 : l11_0_3 ((1, ()), (((), ()), (((zs, ps, cs, [s], ()), ()), (((), ()), (zs, (ps, (cs, ([s], ())))))))) = some (.inr ((), (((), ()), (((), ()), (zs, (ps, (cs, ([s], ())))))))) := rfl
  have e3 := loop_step e1 (loopT_inr e2)
  unfold m11
  simp only [decide_eq_true (show 0 + zs.length ≤ 4294967296 by omega), decide_eq_true (show 0 + ps.length ≤ 4294967296 by omega), decide_eq_true (show 0 + cs.length ≤ 4294967296 by omega), sumE, sS]
  rw [e3]
  rfl

/-- The zones without rules and offset. -/
theorem bare_e {zs : List ZnT} {ps : List PsT} {cs : List CaT} {d : Dc} {k : Int} (hz : GZs zs) (hl : zs.length ≤ 2) :
    Ens (loopT l3_0_6 ((0, (k, (((zs.length : Nat) : Int), ()))), (((), ()), ((d, ()), (zs, (ps, (cs, ()))))))) fun u => u.1.1 = k ∧ u.2.2.1.1 = d ∧ OZs 0 u.2.2.2.1 ∧ u.2.2.2.1.length = zs.length ∧ u.2.2.2.2.1 = ps ∧ u.2.2.2.2.2.1 = cs := by
  refine ens_loop (fun (a : (Int × Int × Int × Unit) × (Unit × Unit) × (Dc × Unit) × List ZnT × List PsT × List CaT × Unit) => 0 ≤ a.1.1 ∧ a.1.2.1 = k ∧ a.1.2.2.1 = zs.length ∧ a.2.2.1.1 = d ∧ a.2.2.2.1.length = zs.length ∧ (∀ (i : Nat) (z : ZnT), a.2.2.2.1[i]? = some z → znames[i]? = some z.1 ∧ ((i : Int) < a.1.1 → z.2.1 = 0 ∧ z.2.2.1 = [])) ∧ a.2.2.2.2.1 = ps ∧ a.2.2.2.2.2.1 = cs) (fun a => ((zs.length : Int) - a.1.1).toNat) ?_ _
    ⟨Int.le_refl _, rfl, rfl, rfl, rfl, fun i z h => ⟨hz i z h, fun h2 => by dsimp only at h2; omega⟩, rfl, rfl⟩
  rintro ⟨⟨i, k', n, ⟨⟩⟩, ⟨⟨⟩, ⟨⟩⟩, ⟨d', ⟨⟩⟩, zs', ps', cs', ⟨⟩⟩ ⟨q1, q2, q3, q4, q5, q6, q7, q8⟩
  dsimp only at q1 q2 q3 q4 q5 q6 q7 q8
  subst q2 q3 q4 q7 q8
  unfold l3_0_6
  dsimp only
  refine ens_ite (fun hlt => ?_) (fun hge => ens_some ⟨rfl, rfl, fun j z hz2 => ?_, q5, rfl, rfl⟩)
  · refine ens_need (by omega) ?_
    refine ens_at (by omega) fun e he hm => ?_
    refine ens_need (by rw [List.length_set]; omega) ?_
    refine ens_at (by rw [List.length_set]; omega) fun e2 he2 _ => ens_some ?_
    have hil : i.toNat < zs'.length := by omega
    rw [List.getElem?_set_self hil] at he2
    cases he2
    rw [w64_id (x := i + 1) (by omega) (by omega)]
    refine ⟨⟨by dsimp only; omega, rfl, rfl, rfl, by simpa using q5, fun j z hz2 => ?_, rfl, rfl⟩, by dsimp only; omega⟩
    dsimp only at hz2 ⊢
    rw [List.set_set] at hz2
    by_cases hj : i.toNat = j
    · subst hj
      rw [List.getElem?_set_self hil] at hz2
      cases hz2
      exact ⟨(q6 _ e he).1, fun _ => ⟨rfl, rfl⟩⟩
    · rw [List.getElem?_set_ne hj] at hz2
      have := q6 j z hz2
      exact ⟨this.1, fun h => this.2 (by omega)⟩
  · have h := q6 j z hz2
    have := (List.getElem?_eq_some_iff.1 hz2).1
    have h2 := h.2 (by dsimp only at this; omega)
    exact ⟨h.1, h2.1, h2.2⟩

abbrev Rest := List PsT × List CaT × List ScT × List ZnT × List PsT × List CaT × List ScT × List Int × Unit
/-- The zones with another offset. -/
theorem moved_e {zs : List ZnT} {d : Dc} {more : Int} {l8 : L8} {r : Rest} (hz : OZs 0 zs) (hl : zs.length ≤ 2) :
    Ens (loopT l3_0_16 ((0, (more, (((zs.length : Nat) : Int), ()))), (((), ()), (((), ()), ((d, ()), ((l8, ()), (zs, r))))))) fun u => u.1.1 = more ∧ u.2.2.2.1.1 = d ∧ u.2.2.2.2.1.1 = l8 ∧ OZs more u.2.2.2.2.2.1 ∧ u.2.2.2.2.2.1.length = zs.length ∧ u.2.2.2.2.2.2 = r := by
  refine ens_loop (fun (a : (Int × Int × Int × Unit) × (Unit × Unit) × (Unit × Unit) × (Dc × Unit) × (L8 × Unit) × List ZnT × Rest) => 0 ≤ a.1.1 ∧ a.1.2.1 = more ∧ a.1.2.2.1 = zs.length ∧ a.2.2.2.1.1 = d ∧ a.2.2.2.2.1.1 = l8 ∧ a.2.2.2.2.2.1.length = zs.length ∧ (∀ (i : Nat) (z : ZnT), a.2.2.2.2.2.1[i]? = some z → znames[i]? = some z.1 ∧ z.2.2.1 = [] ∧ ((i : Int) < a.1.1 → z.2.1 = more)) ∧ a.2.2.2.2.2.2 = r) (fun a => ((zs.length : Int) - a.1.1).toNat) ?_ _
    ⟨Int.le_refl _, rfl, rfl, rfl, rfl, rfl, fun i z h => ⟨(hz i z h).1, (hz i z h).2.2, fun h2 => by dsimp only at h2; omega⟩, rfl⟩
  rintro ⟨⟨i, k', n, ⟨⟩⟩, ⟨⟨⟩, ⟨⟩⟩, ⟨⟨⟩, ⟨⟩⟩, ⟨d', ⟨⟩⟩, ⟨⟨a1, a2, a3, a4, a5, a6, a7, a8, ⟨⟩⟩, ⟨⟩⟩, zs', r1, r2, r3, r4, r5, r6, r7, r8, ⟨⟩⟩ ⟨q1, q2, q3, q4, q9, q5, q6, q7⟩
  dsimp only at q1 q2 q3 q4 q5 q6 q7 q9
  subst q2 q3 q4 q7 q9
  unfold l3_0_16
  dsimp only
  refine ens_ite (fun hlt => ?_) (fun hge => ens_some ⟨rfl, rfl, rfl, fun j z hz2 => ?_, q5, rfl⟩)
  · refine ens_need (by omega) ?_
    refine ens_at (by omega) fun e he hm => ens_some ?_
    have hil : i.toNat < zs'.length := by omega
    rw [w64_id (x := i + 1) (by omega) (by omega)]
    refine ⟨⟨by dsimp only; omega, rfl, rfl, rfl, rfl, by simpa using q5, fun j z hz2 => ?_, rfl⟩, by dsimp only; omega⟩
    dsimp only at hz2 ⊢
    by_cases hj : i.toNat = j
    · subst hj
      rw [List.getElem?_set_self hil] at hz2
      cases hz2
      have := q6 _ e he
      exact ⟨this.1, this.2.1, fun _ => rfl⟩
    · rw [List.getElem?_set_ne hj] at hz2
      have := q6 j z hz2
      exact ⟨this.1, this.2.1, fun h => this.2.2 (by omega)⟩
  · have h := q6 j z hz2
    have := (List.getElem?_eq_some_iff.1 hz2).1
    have h2 := h.2.2 (by dsimp only at this; omega)
    exact ⟨h.1, h2, h.2.1⟩

theorem same_e (R : List SgT) (hR : R.length ≤ 6000) : Ens (loopT l3_0_31 ((0, (((R.length : Nat) : Int), ())), (R, (R, ())))) fun u => ∃ y, u = .inr y := by
  refine ens_loop (fun (a : (Int × Int × Unit) × List SgT × List SgT × Unit) => 0 ≤ a.1.1 ∧ a.1.1 ≤ R.length ∧ a.1.2.1 = R.length ∧ a.2.1 = R ∧ a.2.2.1 = R) (fun a => ((R.length : Int) - a.1.1).toNat) ?_ _ ?_
  · rintro ⟨⟨i, n, ⟨⟩⟩, l1, l2, ⟨⟩⟩ ⟨q1, q2, q3, q4, q5⟩
    dsimp only at q1 q2 q3 q4 q5
    subst q4
    subst q5
    subst q3
    unfold l3_0_31
    dsimp only
    refine ens_ite (fun hlt => ?_) (fun _ => ens_some ⟨_, rfl⟩)
    refine ens_need (by omega) ?_
    refine ens_at (by omega) fun e he hm => ?_
    refine ens_need (by omega) ?_
    refine ens_at (by omega) fun e2 he2 _ => ?_
    rw [he] at he2
    cases he2
    simp only [sumE, sS]
    refine ens_some ?_
    rw [w64_id (x := i + 1) (by omega) (by omega)]
    exact ⟨⟨by dsimp only; omega, by dsimp only; omega, rfl, rfl, rfl⟩, by dsimp only; omega⟩
  · exact ⟨Int.le_refl _, by dsimp only; omega, rfl, rfl, rfl⟩

/-- A layer of the dice as a layer. -/
abbrev lyOf (l : L8) (mem : List Int) : LyT := (l.1, (l.2.1, ((l.2.2.1, (l.2.2.2.1, ())), (l.2.2.2.2.1, (l.2.2.2.2.2.1, (mem, ([], (0, (0, ())))))))))
theorem lyOf_ok {nz np : Nat} {nm : ByteArray} {l : L8} {mem : List Int} (h : GL nz np nm l mem) {dy sc : Int} (h1 : 20452 ≤ dy ∧ dy ≤ 20460) (h2 : 0 ≤ sc ∧ sc ≤ 86399) : LOK nz np (lyOf (l.1, l.2.1, dy, sc, l.2.2.2.2.1, l.2.2.2.2.2.1, 0, 0, ()) mem) :=
  ⟨h.zone, h1, h2, h.unit, by
    by_cases hu : l.2.2.2.2.1 = 0
    · have := h.hours hu; exact ⟨by show 1 ≤ l.2.2.2.2.2.1; omega, by show l.2.2.2.2.2.1 ≤ 49; omega⟩
    · have := h.days hu; exact ⟨by show 1 ≤ l.2.2.2.2.2.1; omega, by show l.2.2.2.2.2.1 ≤ 49; omega⟩, h.ne, h.ml, h.mem, rfl, rfl, rfl⟩

set_option maxHeartbeats 1000000 in
theorem shifted {t : List Int} {k : Int} (h1 : 0 ≤ k) (h2 : k ≤ 255) : m3 ((t, (k, ())), ()) = some ((true, ()), ()) := by
  suffices h : Ens (m3 ((t, (k, ())), ())) fun u => u = ((true, ()), ()) by
    obtain ⟨_, e, rfl⟩ := h
    exact e
  unfold m3 m6 m7
  dsimp only [Option.bind_some]
  by_cases hl : t.length ≤ 500
  case neg =>
    rw [decide_eq_false (show ¬ (t.length : Int) ≤ 500 by omega)]
    exact ens_some rfl
  rw [decide_eq_true (show (t.length : Int) ≤ 500 by omega)]
  refine ens_nt ?_
  have hd0 : DOK (t, 0, ()) := ⟨Int.le_refl _, by dsimp only; omega, hl⟩
  refine ens_bind (ens_tail (staff_e (t, 0, ()) hd0) ?_)
  rintro ⟨⟨⟩, ⟨d1, ⟨⟩⟩, ⟨⟨⟩, ⟨⟩⟩, zs, ps, cs, ⟨⟩⟩ ⟨a1, a2, a3, a4, a5, a6, a7, a8, a9⟩
  dsimp only at a1 a2 a3 a4 a5 a6 a7 a8 a9 ⊢
  refine ens_bind (ens_tail (bare_e (ps := ps) (cs := cs) (d := d1) (k := k) a2 a4) ?_)
  rintro ⟨⟨k', ⟨⟩⟩, ⟨⟨⟩, ⟨⟩⟩, ⟨d1', ⟨⟩⟩, zs0, ps', cs', ⟨⟩⟩ ⟨b1, b2, b3, b4, b5, b6⟩
  dsimp only at b1 b2 b3 b4 b5 b6 ⊢
  subst b1 b2 b5 b6
  refine ens_bind (ens_tail (layer_e (zs0, ps', cs', [], ()) _ d1' a1 (by dsimp only; omega) (by dsimp only; omega) (by dsimp only; omega) (by dsimp only; omega) (by dsimp only; omega)) ?_)
  rintro ⟨⟨⟩, ⟨d2, ⟨⟩⟩, ⟨⟨x1, x2, x3, x4, x5, x6, x7, x8, ⟨⟩⟩, ⟨⟩⟩, mem, win, ⟨⟩⟩ ⟨c1, ⟨⟨y1, y2, y3, y4, y5, y6, y7, y8, ⟨⟩⟩, c2, c3, c4, c5, c6, c7, c8⟩⟩
  dsimp only at c1 c2 c3 c4 c5 c6 c7 c8 ⊢
  subst c3 c4 c5 c6 c7 c8
  refine ens_bind (ens_tail (edit_e (zs0, ps', cs', [], ()) d2 c1 (by dsimp only; omega) (by dsimp only; omega)) ?_)
  rintro ⟨⟨⟩, ⟨d3, ⟨⟩⟩, ⟨ed, ⟨⟩⟩, ⟨⟩⟩ ⟨e1, e2⟩
  dsimp only at e1 e2 ⊢
  -- the copy
  have hcp := copy_e (c := (zs0, ps', cs', [(bs [115], [lyOf (x1, x2, x3, x4, x5, x6, 0, 0, ()) mem], [ed], ())], ())) (s := (bs [115], [lyOf (x1, x2, x3, x4, x5, x6, 0, 0, ()) mem], [ed], ())) rfl (by dsimp only; omega) (by dsimp only; omega) (by dsimp only; omega) (by simp) (by simp)
  refine ens_bind (ens_tail (R := fun u => u = ((), (((), ()), (zs0, (ps', (cs', ([(bs [115], [lyOf (x1, x2, x3, x4, x5, x6, 0, 0, ()) mem], [ed], ())], ()))))))) ⟨_, hcp, rfl⟩ ?_)
  rintro _ rfl
  dsimp only
  rw [w64_id (x := k') (by omega) (by omega), w64_id (x := 60 * k') (by omega) (by omega)]
  refine ens_bind (ens_tail (moved_e (d := d3) (more := 60 * k') (l8 := (x1, x2, x3, x4, x5, x6, 0, 0, ())) b3 (by omega)) ?_)
  rintro ⟨⟨more, ⟨⟩⟩, ⟨⟨⟩, ⟨⟩⟩, ⟨⟨⟩, ⟨⟩⟩, ⟨d4, ⟨⟩⟩, ⟨⟨w1, w2, w3, w4, w5, w6, w7, w8, ⟨⟩⟩, ⟨⟩⟩, zs1, r1, r2, r3, r4, r5, r6, r7, r8, ⟨⟩⟩ ⟨f1, f2, f3, f4, f5, f6⟩
  dsimp only at f1 f2 f3 f4 f5 f6 ⊢
  simp only [Prod.mk.injEq] at f3 f6
  obtain ⟨rfl, rfl, rfl, rfl, rfl, rfl, rfl, rfl, _⟩ := f3
  obtain ⟨rfl, rfl, rfl, rfl, rfl, rfl, rfl, rfl, _⟩ := f6
  subst f1 f2
  have hsec := c2.sec
  have hday := c2.day
  dsimp only at hsec hday
  have hw : w64 (w4 + 60 * k') = w4 + 60 * k' := w64_id (by omega) (by omega)
  -- the start in the new civil time
  obtain ⟨dy, sc, g1, g2, g3, g4⟩ : ∃ dy sc : Int, (20452 ≤ dy ∧ dy ≤ 20460) ∧ (0 ≤ sc ∧ sc ≤ 86399) ∧ dy * 86400 + sc = w3 * 86400 + w4 + 60 * k' ∧ (dy, sc) = (if w4 + 60 * k' ≥ 86400 then (w3 + 1, w4 + 60 * k' - 86400) else (w3, w4 + 60 * k')) := by
    by_cases h : w4 + 60 * k' ≥ 86400
    · exact ⟨w3 + 1, w4 + 60 * k' - 86400, by omega, by omega, by omega, by rw [if_pos h]⟩
    · exact ⟨w3, w4 + 60 * k', by omega, by omega, by omega, by rw [if_neg h]⟩
  rw [hw]
  refine ens_bind (ens_tail (R := fun v => v.2.2.2.1.1 = d4 ∧ v.2.2.2.2.1.1 = (w1, w2, dy, sc, w5, w6, 0, 0, ()) ∧ v.2.2.2.2.2 = (zs1, r5, r6, [(bs [115], [lyOf (w1, w2, w3, w4, w5, w6, 0, 0, ()) r8], [ed], ())], r4, r5, r6, [(bs [115], [lyOf (w1, w2, w3, w4, w5, w6, 0, 0, ()) r8], [ed], ())], r8, ())) ?_ ?_)
  · refine ens_ite (fun h => ?_) (fun h => ?_)
    · rw [if_pos h] at g4
      obtain ⟨rfl, rfl⟩ := Prod.mk.inj g4
      rw [w64_id (x := w3 + 1) (by omega) (by omega), w64_id (x := w4 + 60 * k' - 86400) (by omega) (by omega)]
      exact ens_some ⟨rfl, rfl, rfl⟩
    · rw [if_neg h] at g4
      obtain ⟨rfl, rfl⟩ := Prod.mk.inj g4
      exact ens_some ⟨rfl, rfl, rfl⟩
  rintro ⟨⟨⟩, ⟨⟨⟩, ⟨⟩⟩, ⟨⟨⟩, ⟨⟩⟩, ⟨d5, ⟨⟩⟩, ⟨z8, ⟨⟩⟩, rest⟩ ⟨i1, i2, i3⟩
  dsimp only at i1 i2 i3 ⊢
  subst i1 i2 i3
  dsimp only
  refine ens_need ⟨Int.le_refl _, by simp⟩ ?_
  refine ens_at (by simp) fun e he _ => ?_
  simp only [List.getElem?_cons_zero, Option.some.injEq] at he
  subst he
  refine ens_bind (ens_tail (instant_e d5 e1) ?_)
  rintro ⟨⟨from_, ⟨⟩⟩, ⟨d6, ⟨⟩⟩, ⟨⟩⟩ ⟨j1, j2, j3⟩
  dsimp only at j1 j2 j3 ⊢
  rw [w64_id (x := from_ + 777600) (by omega) (by omega)]
  -- both configurations
  have hu := c2.unit
  have hD : 3600 ≤ dur (lyOf (w1, w2, w3, w4, w5, w6, 0, 0, ()) r8) := by
    have := (lyOf_ok c2 (dy := w3) (sc := w4) ⟨by omega, by omega⟩ ⟨by omega, by omega⟩).every
    exact (dur_pos this.1 this.2).1
  obtain ⟨R, hR, hAll⟩ := config_e (T := t0 0 (lyOf (w1, w2, w3, w4, w5, w6, 0, 0, ()) r8)) (D := dur (lyOf (w1, w2, w3, w4, w5, w6, 0, 0, ()) r8)) (mem := r8) (x := ed) j2 j3 hD (by have := e2.from_; omega) e2.lt (by have := e2.to_; omega)
  have hnm : okName w1 = true := by have := c2.name; dsimp only at this; subst this; exact only_name
  have hA := hAll (r4, r5, r6, [(bs [115], [lyOf (w1, w2, w3, w4, w5, w6, 0, 0, ()) r8], [ed], ())], ()) 0 (lyOf (w1, w2, w3, w4, w5, w6, 0, 0, ()) r8)
    ⟨b3, Int.le_refl _, by omega, rfl, by dsimp only; omega, by dsimp only; rw [b4]; exact a5, a7, by dsimp only; rw [b4]; exact a8, a9, rfl, lyOf_ok c2 ⟨by omega, by omega⟩ ⟨by omega, by omega⟩, hnm, e2⟩ rfl rfl rfl
  have hX := hAll (zs1, r5, r6, [(bs [115], [lyOf (w1, w2, dy, sc, w5, w6, 0, 0, ()) r8], [ed], ())], ()) (60 * k') (lyOf (w1, w2, dy, sc, w5, w6, 0, 0, ()) r8)
    ⟨f4, by omega, by omega, Int.mul_tmod_right _ _, by dsimp only; omega, by dsimp only; rw [f5, b4]; exact a5, a7, by dsimp only; rw [f5, b4]; exact a8, a9, rfl, by dsimp only; rw [f5]; exact lyOf_ok c2 g1 g2, hnm, e2⟩
    (by show dy * 86400 + sc - 60 * k' = w3 * 86400 + w4 - 0; omega) rfl rfl
  refine ens_bind ⟨_, hA, ?_⟩
  refine ens_bind ⟨_, hX, ?_⟩
  obtain ⟨_, hs, y, rfl⟩ := same_e R hR
  dsimp only
  simp only [show ((0 : Int) != 0) = false from rfl, hs, sumE, sS]
  exact ens_some rfl
end Go.Proofs.YtoihpnpfnechdaaGreatDoor
