/- Lemmas for the statement of the last text of this claim. -/
import Derived.Test.YtcklpclgiaeopaaPxK
import Derived.Test.YtcklpclgiaeopaaPxQ
import Derived.Test.YtcklpclgiaeopaaChecked
import Derived.ProofKit
import Derived.WalkKit
import Derived.BigCall
import Derived.Deep.LoopGhost
import Derived.Deep.OwnRows
import Derived.Test.YtcklpclgiaeopaaPxR
set_option linter.unusedSimpArgs false
set_option linter.unusedVariables false
namespace Go.FW
/-- What stands for no bound; the greatest bound of one constraint. -/
abbrev INF : Int := 1099511627776

abbrev DMX : Int := 17179869184

section
variable (W : Nat → Nat → Int)
/-- A walk whose inner places are less than k, and its weight. -/
inductive Wk (k : Nat) : Nat → Nat → Int → Prop where
  | edge (i j : Nat) (h : W i j < INF) : Wk k i j (W i j)
  | step (i q j : Nat) (u v : Int) (h1 : Wk k i q u) (hq : q < k) (h2 : Wk k q j v) : Wk k i j (u + v)

/-- A sum of closed walks at a place. -/
inductive Loops (k : Nat) : Int → Prop where
  | nil : Loops k 0
  | cons (c s : Int) (h : Wk W k k k c) (t : Loops k s) : Loops k (c + s)

end
variable {W : Nat → Nat → Int}
theorem Loops.append {k : Nat} {s t : Int} (h : Loops W k s) (g : Loops W k t) : Loops W k (s + t) := by
  induction h with
  | nil => simpa using g
  | cons c s h _ ih => rw [Int.add_assoc]; exact .cons c _ h ih

theorem Loops.nonneg {k : Nat} {s : Int} (h : Loops W k s) (hc : ∀ c, Wk W k k k c → 0 ≤ c) : 0 ≤ s := by
  induction h with
  | nil => exact Int.le_refl _
  | cons c s h _ ih => have := hc c h; omega

/-- A walk through places up to k: one through lesser places, or one that comes to k, goes round there, and goes on. -/
theorem Wk.split {k i j : Nat} {w : Int} (h : Wk W (k + 1) i j w) : Wk W k i j w ∨ ∃ u s v, Wk W k i k u ∧ Loops W k s ∧ Wk W k k j v ∧ w = u + s + v := by
  induction h with
  | edge i j h => exact .inl (.edge i j h)
  | step i q j u v h1 hq h2 ih1 ih2 =>
    by_cases e : q = k
    · subst e
      have a : ∃ u1 s1, Wk W q i q u1 ∧ Loops W q s1 ∧ u = u1 + s1 := by
        rcases ih1 with h | ⟨u1, s, v1, g1, g2, g3, rfl⟩
        · exact ⟨u, 0, h, .nil, by omega⟩
        · exact ⟨u1, s + (v1 + 0), g1, g2.append (.cons v1 0 g3 .nil), by omega⟩
      have b : ∃ s2 v2, Loops W q s2 ∧ Wk W q q j v2 ∧ v = s2 + v2 := by
        rcases ih2 with h | ⟨u1, s, v1, g1, g2, g3, rfl⟩
        · exact ⟨0, v, .nil, h, by omega⟩
        · exact ⟨u1 + s, v1, .cons u1 s g1 g2, g3, by omega⟩
      obtain ⟨u1, s1, a1, a2, rfl⟩ := a
      obtain ⟨s2, v2, b1, b2, rfl⟩ := b
      exact .inr ⟨u1, s1 + s2, v2, a1, a2.append b1, b2, by omega⟩
    · have hq : q < k := by omega
      rcases ih1 with h1 | ⟨u1, s1, v1, a1, a2, a3, rfl⟩
      · rcases ih2 with h2 | ⟨u2, s2, v2, b1, b2, b3, rfl⟩
        · exact .inl (.step i q j u v h1 hq h2)
        · exact .inr ⟨u + u2, s2, v2, .step i q k u u2 h1 hq b1, b2, b3, by omega⟩
      · rcases ih2 with h2 | ⟨u2, s2, v2, b1, b2, b3, rfl⟩
        · exact .inr ⟨u1, s1, v1 + v, a1, a2, .step k q j v1 v a3 hq h2, by omega⟩
        · exact .inr ⟨u1, s1 + (v1 + u2 + s2), v2, a1, a2.append (.cons (v1 + u2) s2 (.step k q k v1 u2 a3 hq b1) b2), b3, by omega⟩

theorem Wk.mono {k m i j : Nat} {w : Int} (h : Wk W k i j w) (hm : k ≤ m) : Wk W m i j w := by
  induction h with
  | edge i j h => exact .edge i j h
  | step i q j u v _ hq _ ih1 ih2 => exact .step i q j u v ih1 (by omega) ih2

/-- One round. -/
def relax (M : Nat → Nat → Int) (k : Nat) : Nat → Nat → Int := fun i j => if M i k < INF ∧ M k j < INF then min (M i j) (M i k + M k j) else M i j

/-- The rounds before k. -/
def rounds (W : Nat → Nat → Int) : Nat → Nat → Nat → Int
  | 0 => W
  | k + 1 => relax (rounds W k) k

theorem relax_le (M : Nat → Nat → Int) (k i j : Nat) : relax M k i j ≤ M i j := by
  unfold relax
  split
  · exact Int.min_le_left _ _
  · exact Int.le_refl _

theorem rounds_le (W : Nat → Nat → Int) (i j : Nat) : ∀ {k m : Nat}, k ≤ m → rounds W m i j ≤ rounds W k i j := by
  intro k m h
  induction m with
  | zero => obtain rfl : k = 0 := by omega
            exact Int.le_refl _
  | succ m ih =>
    by_cases e : k = m + 1
    · subst e; exact Int.le_refl _
    · exact Int.le_trans (relax_le _ _ _ _) (ih (by omega))

/-- What the rounds hold is a walk. -/
theorem rounds_walk (W : Nat → Nat → Int) : ∀ (k i j : Nat), rounds W k i j < INF → Wk W k i j (rounds W k i j)
  | 0, i, j, h => .edge i j h
  | k + 1, i, j, h => by
    have old : rounds W (k + 1) i j = rounds W k i j → Wk W (k + 1) i j (rounds W (k + 1) i j) := fun e => by
      rw [e] at h ⊢
      exact (rounds_walk W k i j h).mono (by omega)
    by_cases hc : rounds W k i k < INF ∧ rounds W k k j < INF
    · have e : rounds W (k + 1) i j = min (rounds W k i j) (rounds W k i k + rounds W k k j) := by
        show relax (rounds W k) k i j = _
        unfold relax; rw [if_pos hc]
      by_cases hm : rounds W k i j ≤ rounds W k i k + rounds W k k j
      · exact old (by rw [e]; omega)
      · have e2 : rounds W (k + 1) i j = rounds W k i k + rounds W k k j := by rw [e]; omega
        rw [e2]
        exact .step i k j _ _ ((rounds_walk W k i k hc.1).mono (by omega)) (by omega) ((rounds_walk W k k j hc.2).mono (by omega))
    · exact old (by show relax (rounds W k) k i j = _; unfold relax; rw [if_neg hc])

/-- No number on the diagonal was negative up to here. -/
def Good (W : Nat → Nat → Int) (k : Nat) : Prop := ∀ q, q < k → 0 ≤ rounds W q q q

theorem Good.mono {k m : Nat} (h : Good W m) (hk : k ≤ m) : Good W k := fun q hq => h q (by omega)

/-! ### Walks as lists -/
/-- The weight of a walk with the inner places p. -/
def wl (W : Nat → Nat → Int) : Nat → List Nat → Nat → Int
  | i, [], j => W i j
  | i, q :: p, j => W i q + wl W q p j

def fin (W : Nat → Nat → Int) : Nat → List Nat → Nat → Prop
  | i, [], j => W i j < INF
  | i, q :: p, j => W i q < INF ∧ fin W q p j

theorem wl_append (W : Nat → Nat → Int) : ∀ (a : List Nat) (i q : Nat) (b : List Nat) (j : Nat), wl W i (a ++ q :: b) j = wl W i a q + wl W q b j
  | [], i, q, b, j => rfl
  | x :: a, i, q, b, j => by
    rw [List.cons_append, wl, wl, wl_append W a x q b j]; omega

theorem fin_append (W : Nat → Nat → Int) : ∀ (a : List Nat) (i q : Nat) (b : List Nat) (j : Nat), fin W i (a ++ q :: b) j ↔ fin W i a q ∧ fin W q b j
  | [], i, q, b, j => Iff.rfl
  | x :: a, i, q, b, j => by
    rw [List.cons_append, fin, fin, fin_append W a x q b j]
    exact and_assoc.symm

theorem Wk.list {k i j : Nat} {w : Int} (h : Wk W k i j w) : ∃ p, (∀ q ∈ p, q < k) ∧ fin W i p j ∧ w = wl W i p j := by
  induction h with
  | edge i j h => exact ⟨[], fun q hq => (by cases hq), h, rfl⟩
  | step i q j u v h1 hq h2 ih1 ih2 =>
    obtain ⟨a, a1, a2, rfl⟩ := ih1
    obtain ⟨b, b1, b2, rfl⟩ := ih2
    refine ⟨a ++ q :: b, fun x hx => ?_, (fin_append W a i q b j).2 ⟨a2, b2⟩, (wl_append W a i q b j).symm⟩
    rcases List.mem_append.1 hx with h | h
    · exact a1 x h
    · rcases List.mem_cons.1 h with rfl | h
      · exact hq
      · exact b1 x h

theorem list_walk {k : Nat} : ∀ (p : List Nat) {i j : Nat}, (∀ q ∈ p, q < k) → fin W i p j → Wk W k i j (wl W i p j)
  | [], i, j, _, h => .edge i j h
  | q :: p, i, j, hp, h => .step i q j _ _ (.edge i q h.1) (hp q (List.mem_cons_self ..)) (list_walk p (fun x hx => hp x (List.mem_cons_of_mem _ hx)) h.2)

/-- Bounds of single constraints. -/
def Small (W : Nat → Nat → Int) : Prop := ∀ i j, W i j < INF → -DMX ≤ W i j ∧ W i j ≤ DMX

theorem wl_bound (hW : Small W) : ∀ (p : List Nat) (i j : Nat), fin W i p j → -(((p.length : Int) + 1) * DMX) ≤ wl W i p j ∧ wl W i p j ≤ ((p.length : Int) + 1) * DMX
  | [], i, j, h => by
    have := hW i j h
    simp only [wl, List.length_nil]
    omega
  | q :: p, i, j, h => by
    have a := hW i q h.1
    have b := wl_bound hW p q j h.2
    simp only [wl, List.length_cons, Int.natCast_add, Int.add_mul] at b ⊢
    omega

theorem nodup_len : ∀ {k : Nat} {p : List Nat}, p.Nodup → (∀ q ∈ p, q < k) → p.length ≤ k := by
  intro k
  induction k with
  | zero =>
    intro p _ hp
    cases p with
    | nil => exact Nat.le_refl _
    | cons q p => have := hp q (List.mem_cons_self ..); omega
  | succ k ih =>
    intro p hn hp
    have h := ih (p := p.erase k) (hn.erase k) (fun q hq => by
      have := (hn.mem_erase_iff).1 hq
      have := hp q this.2
      omega)
    have := List.length_erase (a := k) (l := p)
    split at this <;> omega

theorem dup_split : ∀ {p : List Nat}, ¬ p.Nodup → ∃ a q b c, p = a ++ q :: (b ++ q :: c)
  | [], h => absurd List.nodup_nil h
  | x :: r, h => by
    by_cases hx : x ∈ r
    · obtain ⟨b, c, rfl⟩ := List.append_of_mem hx
      exact ⟨[], x, b, c, rfl⟩
    · have : ¬ r.Nodup := fun hr => h (List.nodup_cons.2 ⟨hx, hr⟩)
      obtain ⟨a, q, b, c, rfl⟩ := dup_split this
      exact ⟨x :: a, q, b, c, rfl⟩

/-- Closed walks among the places before k are not negative. -/
def NoNeg (W : Nat → Nat → Int) (k : Nat) : Prop := ∀ q w, q < k → Wk W k q q w → 0 ≤ w

theorem shorten {k : Nat} (hk : NoNeg W k) : ∀ (n : Nat) (p : List Nat) (i j : Nat), p.length ≤ n → (∀ q ∈ p, q < k) → fin W i p j → ∃ p', p'.Nodup ∧ (∀ q ∈ p', q < k) ∧ fin W i p' j ∧ wl W i p' j ≤ wl W i p j := by
  intro n
  induction n with
  | zero =>
    intro p i j hn hp hf
    have : p = [] := List.length_eq_zero_iff.1 (by omega)
    subst this
    exact ⟨[], List.nodup_nil, hp, hf, Int.le_refl _⟩
  | succ n ih =>
    intro p i j hn hp hf
    by_cases hd : p.Nodup
    · exact ⟨p, hd, hp, hf, Int.le_refl _⟩
    · obtain ⟨a, q, b, c, rfl⟩ := dup_split hd
      obtain ⟨f1, f2⟩ := (fin_append W a i q _ j).1 hf
      obtain ⟨f3, f4⟩ := (fin_append W b q q c j).1 f2
      have hq : q < k := hp q (by simp)
      have hcl := hk q _ hq (list_walk b (fun x hx => hp x (by simp [hx])) f3)
      obtain ⟨p', h1, h2, h3, h4⟩ := ih (a ++ q :: c) i j (by simp at hn ⊢; omega) (fun x hx => hp x (by
        simp at hx ⊢
        rcases hx with h | h | h <;> simp [h])) ((fin_append W a i q c j).2 ⟨f1, f4⟩)
      refine ⟨p', h1, h2, h3, ?_⟩
      rw [wl_append] at h4 ⊢
      rw [wl_append]
      omega

theorem simple_le (hW : Small W) : ∀ (k : Nat), k ≤ 60 → ∀ (p : List Nat) (i j : Nat), p.Nodup → (∀ q ∈ p, q < k) → fin W i p j → rounds W k i j ≤ wl W i p j ∧ rounds W k i j < INF := by
  intro k
  induction k with
  | zero =>
    intro _ p i j _ hp hf
    cases p with
    | nil => exact ⟨Int.le_refl _, hf⟩
    | cons q p => have := hp q (List.mem_cons_self ..); omega
  | succ k ih =>
    intro hk p i j hn hp hf
    by_cases hm : k ∈ p
    · obtain ⟨a, b, rfl⟩ := List.append_of_mem hm
      obtain ⟨f1, f2⟩ := (fin_append W a i k b j).1 hf
      obtain ⟨n1, n2, n3⟩ := List.nodup_append.1 hn
      obtain ⟨n4, n5⟩ := List.nodup_cons.1 n2
      have ha : ∀ q ∈ a, q < k := fun q hq => by
        have := hp q (List.mem_append_left _ hq)
        have : q ≠ k := n3 q hq k (List.mem_cons_self ..)
        omega
      have hb : ∀ q ∈ b, q < k := fun q hq => by
        have := hp q (List.mem_append_right _ (List.mem_cons_of_mem _ hq))
        have : q ≠ k := fun e => n4 (e ▸ hq)
        omega
      obtain ⟨g1, g2⟩ := ih (by omega) a i k n1 ha f1
      obtain ⟨g3, g4⟩ := ih (by omega) b k j n5 hb f2
      have hl := nodup_len hn hp
      have hw := (wl_bound hW _ i j hf).2
      have e : rounds W (k + 1) i j = min (rounds W k i j) (rounds W k i k + rounds W k k j) := by
        show relax (rounds W k) k i j = _
        unfold relax; rw [if_pos ⟨g2, g4⟩]
      rw [wl_append] at hw ⊢
      have : (((a ++ k :: b).length : Int) + 1) * DMX ≤ 61 * DMX + DMX := by
        have : ((a ++ k :: b).length : Int) ≤ 60 := by omega
        unfold DMX at *
        omega
      unfold DMX at *
      unfold INF
      rw [e]
      omega
    · have hp' : ∀ q ∈ p, q < k := fun q hq => by
        have := hp q hq
        have : q ≠ k := fun e => hm (e ▸ hq)
        omega
      obtain ⟨g1, g2⟩ := ih (by omega) p i j hn hp' hf
      have := rounds_le W i j (show k ≤ k + 1 by omega)
      exact ⟨Int.le_trans this g1, Int.lt_of_le_of_lt this g2⟩

/-- No walk is less, closed walks are not negative. -/
theorem rounds_least (hW : Small W) : ∀ {k : Nat}, k ≤ 60 → Good W k → NoNeg W k ∧ ∀ {i j : Nat} {w : Int}, Wk W k i j w → rounds W k i j ≤ w ∧ rounds W k i j < INF := by
  have fromN : ∀ {k : Nat}, k ≤ 60 → NoNeg W k → ∀ {i j : Nat} {w : Int}, Wk W k i j w → rounds W k i j ≤ w ∧ rounds W k i j < INF := by
    intro k hk hn i j w h
    obtain ⟨p, h1, h2, rfl⟩ := h.list
    obtain ⟨p', g1, g2, g3, g4⟩ := shorten hn p.length p i j (Nat.le_refl _) h1 h2
    obtain ⟨e1, e2⟩ := simple_le hW k hk p' i j g1 g2 g3
    exact ⟨Int.le_trans e1 g4, e2⟩
  intro k
  induction k with
  | zero =>
    intro hk _
    have : NoNeg W 0 := fun q w hq => by omega
    exact ⟨this, fromN hk this⟩
  | succ k ih =>
    intro hk hg
    obtain ⟨hn, hc⟩ := ih (by omega) (hg.mono (by omega))
    have hkk : ∀ c, Wk W k k k c → 0 ≤ c := fun c h => Int.le_trans (hg k (by omega)) (hc h).1
    have hN : NoNeg W (k + 1) := by
      intro q w hq h
      rcases h.split with h | ⟨u, s, v, h1, h2, h3, rfl⟩
      · by_cases e : q = k
        · subst e; exact hkk w h
        · exact hn q w (by omega) h
      · have hs := h2.nonneg hkk
        by_cases e : q = k
        · subst e
          have := hkk u h1
          have := hkk v h3
          omega
        · have := hkk (v + u) (.step k q k v u h3 (by omega) h1)
          omega
    exact ⟨hN, fromN hk hN⟩

/-- How large a bound can be. -/
theorem rounds_bound (hW : Small W) {k : Nat} (hk : k ≤ 60) (hg : Good W k) {i j : Nat} (h : rounds W k i j < INF) : -(61 * DMX) ≤ rounds W k i j ∧ rounds W k i j ≤ 61 * DMX := by
  obtain ⟨hn, hc⟩ := rounds_least hW hk hg
  obtain ⟨p, h1, h2, h3⟩ := (rounds_walk W k i j h).list
  obtain ⟨p', g1, g2, g3, g4⟩ := shorten hn p.length p i j (Nat.le_refl _) h1 h2
  have hl := nodup_len g1 g2
  have hb := wl_bound hW p' i j g3
  have hs := (simple_le hW k hk p' i j g1 g2 g3).1
  have : ((p'.length : Int) + 1) * DMX ≤ 61 * DMX := by
    have : (p'.length : Int) ≤ 60 := by omega
    unfold DMX
    omega
  omega

end Go.FW

namespace Go.FW
/-- A constraint: x[to] - x[from] is at most max. -/
abbrev DT : Type := Int × Int × Int × Unit

/-- The least bound of a pair, among constraints. -/
def dirM (l : List DT) (i j : Nat) : Int := l.foldl (fun m d => if d.1 = (i : Int) ∧ d.2.1 = (j : Int) then min m d.2.2.1 else m) INF

/-- .. and 0 on the diagonal. -/
def W0 (l : List DT) (i j : Nat) : Int := if i = j then min (dirM l i j) 0 else dirM l i j

def okD (n : Int) (d : DT) : Bool := decide (0 ≤ d.1 ∧ d.1 ≤ n - 1) && (decide (0 ≤ d.2.1 ∧ d.2.1 ≤ n - 1) && decide (-DMX ≤ d.2.2.1 ∧ d.2.2.1 ≤ DMX))

def validC (n : Int) (l : List DT) : Bool := decide (1 ≤ n ∧ n ≤ 41) && (decide (l.length ≤ 4000) && l.all (okD n))

def closeB (n : Int) (l : List DT) : Bool := validC n l && (List.range n.toNat).all fun i => decide (0 ≤ rounds (W0 l) n.toNat i i)

theorem foldl_min (i j : Nat) : ∀ (l : List DT) (m : Int), l.foldl (fun m d => if d.1 = (i : Int) ∧ d.2.1 = (j : Int) then min m d.2.2.1 else m) m = m ∨ ∃ d ∈ l, d.1 = (i : Int) ∧ d.2.1 = (j : Int) ∧ l.foldl (fun m d => if d.1 = (i : Int) ∧ d.2.1 = (j : Int) then min m d.2.2.1 else m) m = d.2.2.1
  | [], m => .inl rfl
  | d :: l, m => by
    rw [List.foldl_cons]
    by_cases h : d.1 = (i : Int) ∧ d.2.1 = (j : Int)
    · rw [if_pos h]
      rcases foldl_min i j l (min m d.2.2.1) with e | ⟨y, h1, h2⟩
      · by_cases hm : m ≤ d.2.2.1
        · left; rw [e]; omega
        · right; exact ⟨d, List.mem_cons_self .., h.1, h.2, by rw [e]; omega⟩
      · right; exact ⟨y, List.mem_cons_of_mem _ h1, h2⟩
    · rw [if_neg h]
      rcases foldl_min i j l m with e | ⟨y, h1, h2⟩
      · left; exact e
      · right; exact ⟨y, List.mem_cons_of_mem _ h1, h2⟩

theorem foldl_le (i j : Nat) : ∀ (l : List DT) (m : Int), l.foldl (fun m d => if d.1 = (i : Int) ∧ d.2.1 = (j : Int) then min m d.2.2.1 else m) m ≤ m ∧ ∀ d ∈ l, d.1 = (i : Int) → d.2.1 = (j : Int) → l.foldl (fun m d => if d.1 = (i : Int) ∧ d.2.1 = (j : Int) then min m d.2.2.1 else m) m ≤ d.2.2.1
  | [], m => ⟨Int.le_refl _, fun d h => by cases h⟩
  | x :: l, m => by
    rw [List.foldl_cons]
    obtain ⟨h1, h2⟩ := foldl_le i j l (if x.1 = (i : Int) ∧ x.2.1 = (j : Int) then min m x.2.2.1 else m)
    have hm : (if x.1 = (i : Int) ∧ x.2.1 = (j : Int) then min m x.2.2.1 else m) ≤ m := by split <;> omega
    refine ⟨Int.le_trans h1 hm, fun d hd e1 e2 => ?_⟩
    rcases List.mem_cons.1 hd with rfl | hd
    · rw [if_pos ⟨e1, e2⟩] at h1 ⊢
      omega
    · exact h2 d hd e1 e2

theorem dir_some {l : List DT} {i j : Nat} (h : dirM l i j < INF) : ∃ d ∈ l, d.1 = (i : Int) ∧ d.2.1 = (j : Int) ∧ dirM l i j = d.2.2.1 := by
  rcases foldl_min i j l INF with e | h1
  · unfold dirM at h; rw [e] at h; omega
  · exact h1

theorem dir_le {l : List DT} {d : DT} (hd : d ∈ l) {i j : Nat} (h1 : d.1 = (i : Int)) (h2 : d.2.1 = (j : Int)) : dirM l i j ≤ d.2.2.1 := (foldl_le i j l INF).2 d hd h1 h2

theorem dir_inf (l : List DT) (i j : Nat) : dirM l i j ≤ INF := (foldl_le i j l INF).1

theorem okD_iff {n : Int} {d : DT} : okD n d = true ↔ (0 ≤ d.1 ∧ d.1 ≤ n - 1) ∧ (0 ≤ d.2.1 ∧ d.2.1 ≤ n - 1) ∧ (-DMX ≤ d.2.2.1 ∧ d.2.2.1 ≤ DMX) := by
  unfold okD
  rw [Bool.and_eq_true, Bool.and_eq_true, decide_eq_true_eq, decide_eq_true_eq, decide_eq_true_eq]

theorem valid_iff {n : Int} {l : List DT} : validC n l = true ↔ (1 ≤ n ∧ n ≤ 41) ∧ l.length ≤ 4000 ∧ ∀ d ∈ l, okD n d = true := by
  unfold validC
  rw [Bool.and_eq_true, Bool.and_eq_true, decide_eq_true_eq, decide_eq_true_eq, List.all_eq_true]

theorem w_small {n : Int} {l : List DT} (h : ∀ d ∈ l, okD n d = true) : Small (W0 l) := by
  intro i j hf
  unfold W0 at hf ⊢
  by_cases e : i = j
  · rw [if_pos e] at hf ⊢
    by_cases hd : dirM l i j < INF
    · obtain ⟨d, hd, _, _, he⟩ := dir_some hd
      have := (okD_iff.1 (h d hd)).2.2
      unfold DMX at *
      omega
    · unfold DMX INF at *
      omega
  · rw [if_neg e] at hf ⊢
    obtain ⟨d, hd, _, _, he⟩ := dir_some hf
    have := (okD_iff.1 (h d hd)).2.2
    omega

theorem w_diag (l : List DT) (i : Nat) : W0 l i i ≤ 0 := by
  unfold W0
  rw [if_pos rfl]
  omega

theorem w_inf (l : List DT) (i j : Nat) : W0 l i j ≤ INF := by
  unfold W0
  have := dir_inf l i j
  split
  · unfold INF at *; omega
  · exact this

theorem rounds_inf (l : List DT) (k i j : Nat) : rounds (W0 l) k i j ≤ INF := Int.le_trans (rounds_le _ i j (Nat.zero_le k)) (w_inf l i j)

theorem rounds_diag (l : List DT) (k i : Nat) : rounds (W0 l) k i i ≤ 0 := Int.le_trans (rounds_le _ i i (Nat.zero_le k)) (w_diag l i)

/-- A closure. -/
structure Clos (l : List DT) (n : Nat) (D : Nat → Nat → Int) : Prop where
  zero : ∀ i, i < n → D i i = 0
  tri : ∀ i j k, i < n → j < n → k < n → D i j < INF → D j k < INF → D i k ≤ D i j + D j k ∧ D i k < INF
  edge : ∀ d ∈ l, ∀ i j : Nat, d.1 = (i : Int) → d.2.1 = (j : Int) → D i j ≤ d.2.2.1
  walk : ∀ i j, D i j < INF → Wk (W0 l) n i j (D i j)
  least : ∀ i j w, Wk (W0 l) n i j w → D i j ≤ w ∧ D i j < INF
  inf : ∀ i j, D i j ≤ INF
  bound : ∀ i j, D i j < INF → -(61 * DMX) ≤ D i j ∧ D i j ≤ 61 * DMX

theorem good_of {l : List DT} {n : Nat} (h : ∀ i, i < n → 0 ≤ rounds (W0 l) n i i) : Good (W0 l) n := fun q hq => Int.le_trans (h q hq) (rounds_le _ q q (by omega))

theorem clos_of {l : List DT} {n : Nat} (hn : n ≤ 60) (hW : Small (W0 l)) (h : ∀ i, i < n → 0 ≤ rounds (W0 l) n i i) : Clos l n (rounds (W0 l) n) := by
  have hg := good_of h
  obtain ⟨hN, hc⟩ := rounds_least hW hn hg
  have hwalk := rounds_walk (W0 l) n
  refine ⟨fun i hi => ?_, fun i j k hi hj hk h1 h2 => ?_, fun d hd i j e1 e2 => ?_, hwalk, fun i j w => hc, rounds_inf l n, fun i j hf => rounds_bound hW hn hg hf⟩
  · have := h i hi
    have := rounds_diag l n i
    omega
  · exact hc (.step i j k _ _ (hwalk i j h1) hj (hwalk j k h2))
  · have h1 := rounds_le (W0 l) i j (Nat.zero_le n)
    have h2 : W0 l i j ≤ d.2.2.1 ∨ W0 l i j ≤ d.2.2.1 := by
      left
      unfold W0
      have := dir_le hd e1 e2
      split <;> omega
    rcases h2 with h2 | h2 <;> exact Int.le_trans h1 h2

/-- Whether numbers fulfil constraints. -/
def Sol (l : List DT) (x : Nat → Int) : Prop := ∀ d ∈ l, x d.2.1.toNat - x d.1.toNat ≤ d.2.2.1

theorem closeB_iff {n : Int} {l : List DT} : closeB n l = true ↔ validC n l = true ∧ ∀ i, i < n.toNat → 0 ≤ rounds (W0 l) n.toNat i i := by
  unfold closeB
  rw [Bool.and_eq_true, List.all_eq_true]
  simp only [List.mem_range, decide_eq_true_eq]

theorem closeB_clos {n : Int} {l : List DT} (h : closeB n l = true) : Clos l n.toNat (rounds (W0 l) n.toNat) := by
  obtain ⟨h1, h2⟩ := closeB_iff.1 h
  obtain ⟨h3, _, h4⟩ := valid_iff.1 h1
  exact clos_of (by omega) (w_small h4) h2

end Go.FW

namespace Go.FW
open Go Go.Abs
/-- No number on the diagonal is negative behind the rounds before k. -/
def AllD (W : Nat → Nat → Int) (n k : Nat) : Prop := ∀ i, i < n → 0 ≤ rounds W k i i

theorem AllD.good {W : Nat → Nat → Int} {n k : Nat} (h : AllD W n k) (hk : k ≤ n) : Good W k := fun q hq => Int.le_trans (h q (by omega)) (rounds_le W q q (by omega))

theorem AllD.mono {W : Nat → Nat → Int} {n k m : Nat} (h : AllD W n m) (hk : k ≤ m) : AllD W n k := fun i hi => Int.le_trans (h i hi) (rounds_le W i i hk)

/-- A round under way: the pairs before (i, j) are done. -/
def part (M : Nat → Nat → Int) (k i j : Nat) : Nat → Nat → Int := fun a b => if a < i ∨ (a = i ∧ b < j) then relax M k a b else M a b

def upd (M : Nat → Nat → Int) (i j : Nat) (v : Int) : Nat → Nat → Int := fun a b => if a = i ∧ b = j then v else M a b

/-- The state of a round in place. -/
structure PS (W : Nat → Nat → Int) (n k i j : Nat) (c : Nat → Nat → Int) : Prop where
  inf : ∀ a b, a < n → b < n → c a b ≤ INF
  good : AllD W n k → ∀ a b, a < n → b < n → c a b = part (rounds W k) k i j a b
  bad : ¬ AllD W n k → ∃ q, q < n ∧ c q q < 0

theorem relax_row {M : Nat → Nat → Int} {k : Nat} (h : M k k = 0) (j : Nat) : relax M k k j = M k j := by
  unfold relax
  split
  · rw [h]; omega
  · rfl

theorem relax_col {M : Nat → Nat → Int} {k : Nat} (h : M k k = 0) (i : Nat) : relax M k i k = M i k := by
  unfold relax
  split
  · rw [h]; omega
  · rfl

theorem part_row {M : Nat → Nat → Int} {k : Nat} (h : M k k = 0) (i j b : Nat) : part M k i j k b = M k b := by
  unfold part
  split
  · exact relax_row h b
  · rfl

theorem part_col {M : Nat → Nat → Int} {k : Nat} (h : M k k = 0) (i j a : Nat) : part M k i j a k = M a k := by
  unfold part
  split
  · exact relax_col h a
  · rfl

theorem part_here (M : Nat → Nat → Int) (k i j : Nat) : part M k i j i j = M i j := by
  unfold part
  rw [if_neg (by omega)]

theorem part_next (M : Nat → Nat → Int) (k i j a b : Nat) : part M k i (j + 1) a b = if a = i ∧ b = j then relax M k i j else part M k i j a b := by
  unfold part
  by_cases h : a = i ∧ b = j
  · rw [if_pos h, h.1, h.2, if_pos (by omega)]
  · rw [if_neg h]
    by_cases g : a < i ∨ (a = i ∧ b < j)
    · rw [if_pos g, if_pos (by omega)]
    · rw [if_neg g, if_neg (by omega)]

theorem exists_neg {W : Nat → Nat → Int} {n k : Nat} (h : ¬ AllD W n k) : ∃ q, q < n ∧ rounds W k q q < 0 := by
  by_cases g : ∃ q, q < n ∧ rounds W k q q < 0
  · exact g
  · exact absurd (fun i hi => by
      by_cases hh : 0 ≤ rounds W k i i
      · exact hh
      · exact absurd ⟨i, hi, by omega⟩ g) h

theorem PS.start {l : List DT} {n : Nat} {c : Nat → Nat → Int} (h : ∀ a b, a < n → b < n → c a b = W0 l a b) : PS (W0 l) n 0 0 0 c := by
  refine ⟨fun a b ha hb => by rw [h a b ha hb]; exact w_inf l a b, fun _ a b ha hb => ?_, fun hb => ?_⟩
  · rw [h a b ha hb]
    unfold part
    rw [if_neg (by omega)]
    rfl
  · obtain ⟨q, hq, hn⟩ := exists_neg hb
    exact ⟨q, hq, by rw [h q q hq hq]; exact hn⟩

theorem diag_zero {l : List DT} {n k : Nat} (h : AllD (W0 l) n k) (hk : k < n) : rounds (W0 l) k k k = 0 := by
  have := h k hk
  have := rounds_diag l k k
  omega

theorem PS.skip {l : List DT} {n k i j : Nat} {c : Nat → Nat → Int} (h : PS (W0 l) n k i j c) (hk : k < n) (hi : i < n) (hj : j < n) (hs : c i k = INF ∨ c k j = INF) : PS (W0 l) n k i (j + 1) c := by
  refine ⟨h.inf, fun hg a b ha hb => ?_, h.bad⟩
  have hz := diag_zero hg hk
  rw [part_next, h.good hg a b ha hb]
  by_cases e : a = i ∧ b = j
  · rw [if_pos e, e.1, e.2, part_here]
    have h1 := h.good hg i k hi hk
    have h2 := h.good hg k j hk hj
    rw [part_col hz] at h1
    rw [part_row hz] at h2
    unfold relax
    rw [if_neg (by rw [← h1, ← h2]; omega)]
  · rw [if_neg e]

theorem PS.store {l : List DT} {n k i j : Nat} {c : Nat → Nat → Int} (hW : Small (W0 l)) (hn : n ≤ 60) (h : PS (W0 l) n k i j c) (hk : k < n) (hi : i < n) (hj : j < n) (h1 : c i k ≠ INF) (h2 : c k j ≠ INF) :
    PS (W0 l) n k i (j + 1) (upd c i j (min (c i j) (w64 (c i k + c k j)))) := by
  refine ⟨fun a b ha hb => ?_, fun hg a b ha hb => ?_, fun hb => ?_⟩
  · unfold upd
    split
    · have := h.inf i j hi hj; omega
    · exact h.inf a b ha hb
  · have hz := diag_zero hg hk
    have g1 := h.good hg i k hi hk
    have g2 := h.good hg k j hk hj
    have g3 := h.good hg i j hi hj
    rw [part_col hz] at g1
    rw [part_row hz] at g2
    rw [part_here] at g3
    have f1 : rounds (W0 l) k i k < INF := by have := rounds_inf l k i k; omega
    have f2 : rounds (W0 l) k k j < INF := by have := rounds_inf l k k j; omega
    have b1 := rounds_bound hW (show k ≤ 60 by omega) (hg.good (by omega)) f1
    have b2 := rounds_bound hW (show k ≤ 60 by omega) (hg.good (by omega)) f2
    rw [part_next]
    unfold upd
    by_cases e : a = i ∧ b = j
    · rw [if_pos e, if_pos e, g1, g2, g3, w64_id (by unfold DMX at *; omega) (by unfold DMX at *; omega)]
      unfold relax
      rw [if_pos ⟨f1, f2⟩]
    · rw [if_neg e, if_neg e]
      exact h.good hg a b ha hb
  · obtain ⟨q, hq, hneg⟩ := h.bad hb
    refine ⟨q, hq, ?_⟩
    unfold upd
    split
    · rename_i e
      rw [← e.1, ← e.2]
      omega
    · exact hneg

theorem PS.row_end {W : Nat → Nat → Int} {n k i : Nat} {c : Nat → Nat → Int} (h : PS W n k i n c) : PS W n k (i + 1) 0 c := by
  refine ⟨h.inf, fun hg a b ha hb => ?_, h.bad⟩
  rw [h.good hg a b ha hb]
  unfold part
  by_cases e : a < i ∨ (a = i ∧ b < n)
  · rw [if_pos e, if_pos (by omega)]
  · rw [if_neg e, if_neg (by omega)]

theorem PS.done {W : Nat → Nat → Int} {n k : Nat} {c : Nat → Nat → Int} (h : PS W n k n 0 c) (hg : AllD W n k) (a b : Nat) (ha : a < n) (hb : b < n) : c a b = rounds W (k + 1) a b := by
  rw [h.good hg a b ha hb]
  unfold part
  rw [if_pos (by omega)]
  rfl

theorem PS.round_end {W : Nat → Nat → Int} {n k : Nat} {c : Nat → Nat → Int} (h : PS W n k n 0 c) : PS W n (k + 1) 0 0 c := by
  refine ⟨h.inf, fun hg a b ha hb => ?_, fun hb => ?_⟩
  · rw [h.done (hg.mono (by omega)) a b ha hb]
    unfold part
    rw [if_neg (by omega)]
  · by_cases hg : AllD W n k
    · obtain ⟨q, hq, hneg⟩ := exists_neg hb
      exact ⟨q, hq, by rw [h.done hg q q hq hq]; exact hneg⟩
    · exact h.bad hg

/-- A negative number on the diagonal behind a round. -/
theorem PS.neg {W : Nat → Nat → Int} {n k q : Nat} {c : Nat → Nat → Int} (h : PS W n (k + 1) 0 0 c) (hk : k < n) (hq : q < n) (hneg : c q q < 0) : ¬ AllD W n n := by
  intro hall
  have hg := hall.mono (show k + 1 ≤ n by omega)
  have := h.good hg q q hq hq
  unfold part at this
  rw [if_neg (by omega)] at this
  have := hg q hq
  omega

theorem PS.final {W : Nat → Nat → Int} {n : Nat} {c : Nat → Nat → Int} (h : PS W n n 0 0 c) (hd : ∀ q, q < n → 0 ≤ c q q) : AllD W n n ∧ ∀ a b, a < n → b < n → c a b = rounds W n a b := by
  have hg : AllD W n n := by
    by_cases g : AllD W n n
    · exact g
    · obtain ⟨q, hq, hneg⟩ := h.bad g
      have := hd q hq
      omega
  refine ⟨hg, fun a b ha hb => ?_⟩
  rw [h.good hg a b ha hb]
  unfold part
  rw [if_neg (by omega)]

theorem PS.final_neg {W : Nat → Nat → Int} {n q : Nat} {c : Nat → Nat → Int} (h : PS W n n 0 0 c) (hq : q < n) (hneg : c q q < 0) : ¬ AllD W n n := by
  intro hg
  have := h.good hg q q hq hq
  unfold part at this
  rw [if_neg (by omega)] at this
  have := hg q hq
  omega

end Go.FW

namespace Go.FW
open Go Go.Abs
/-- The edges that have been looked at in this round, at (i, j). -/
def seen (r i j u v : Nat) : Nat := if u < i ∨ (u = i ∧ v < j) then r else r - 1

/-- What holds while distances fall; R: the round, T: the time of a place's last fall. -/
structure BF (W : Nat → Nat → Int) (n r i j : Nat) (dist : Nat → Int) (frm : Nat → Nat) (last : Nat) (R T : Nat → Nat) (clk : Nat) : Prop where
  low : ∀ x, x < n → dist x ≤ 0 ∧ -((clk : Int) * DMX) ≤ dist x
  par : ∀ x, x < n → R x = 0 ∨ (W (frm x) x < INF ∧ dist (frm x) + W (frm x) x ≤ dist x ∧ (T x ≤ T (frm x) → dist (frm x) + W (frm x) x < dist x) ∧ R x ≤ R (frm x) + 1)
  edge : ∀ u v, u < n → v < n → W u v < INF → seen r i j u v ≤ R u ∨ dist v ≤ dist u + W u v
  inn : ∀ x, x < n → frm x < n
  lst : last < n
  cur : (∃ x, x < n ∧ R x = r) → R last = r
  top : ∀ x, x < n → R x ≤ r
  old : ∀ x, x < n → T x ≤ clk

variable {W : Nat → Nat → Int} {n r i j : Nat} {dist : Nat → Int} {frm : Nat → Nat} {last : Nat} {R T : Nat → Nat} {clk : Nat}
theorem seen_next (r i j u v : Nat) (hr : 1 ≤ r) : seen r i (j + 1) u v = if u = i ∧ v = j then r else seen r i j u v := by
  unfold seen
  by_cases h : u = i ∧ v = j
  · rw [if_pos h, if_pos (by omega)]
  · rw [if_neg h]
    by_cases g : u < i ∨ (u = i ∧ v < j)
    · rw [if_pos g, if_pos (by omega)]
    · rw [if_neg g, if_neg (by omega)]

/-- An edge that does not shorten. -/
theorem BF.skip (h : BF W n r i j dist frm last R T clk) (hr : 1 ≤ r) (hs : ¬ (W i j < INF ∧ dist i + W i j < dist j)) : BF W n r i (j + 1) dist frm last R T clk := by
  refine ⟨h.low, h.par, fun u v hu hv hf => ?_, h.inn, h.lst, h.cur, h.top, h.old⟩
  rw [seen_next r i j u v hr]
  by_cases e : u = i ∧ v = j
  · rw [if_pos e]
    right
    rw [e.1, e.2] at hf ⊢
    omega
  · rw [if_neg e]
    exact h.edge u v hu hv hf

theorem BF.row_end (h : BF W n r i n dist frm last R T clk) : BF W n r (i + 1) 0 dist frm last R T clk := by
  refine ⟨h.low, h.par, fun u v hu hv hf => ?_, h.inn, h.lst, h.cur, h.top, h.old⟩
  have e : seen r (i + 1) 0 u v = seen r i n u v := by
    unfold seen
    by_cases g : u < i ∨ (u = i ∧ v < n)
    · rw [if_pos g, if_pos (by omega)]
    · rw [if_neg g, if_neg (by omega)]
  rw [e]
  exact h.edge u v hu hv hf

theorem BF.round_end (h : BF W n r n 0 dist frm last R T clk) : BF W n (r + 1) 0 0 dist frm last R T clk := by
  refine ⟨h.low, h.par, fun u v hu hv hf => ?_, h.inn, h.lst, fun ⟨x, hx, hR⟩ => ?_, fun x hx => by have := h.top x hx; omega, h.old⟩
  · have e : seen (r + 1) 0 0 u v = seen r n 0 u v := by
      unfold seen
      rw [if_pos (show u < n ∨ (u = n ∧ v < 0) by omega), if_neg (by omega)]
      omega
    rw [e]
    exact h.edge u v hu hv hf
  · have := h.top x hx; omega

theorem BF.start {W : Nat → Nat → Int} {n : Nat} (hn : 0 < n) : BF W n 1 0 0 (fun _ => 0) (fun _ => 0) 0 (fun _ => 0) (fun _ => 0) 0 := by
  refine ⟨fun x _ => ⟨Int.le_refl _, by simp⟩, fun x _ => .inl rfl, fun u v hu hv hf => .inl ?_, fun x _ => hn, hn, fun ⟨x, _, hx⟩ => by simp at hx, fun x _ => Nat.zero_le _, fun x _ => Nat.le_refl _⟩
  unfold seen
  rw [if_neg (by omega)]
  exact Nat.zero_le _

/-- Without a fall in a round the distances are a solution. -/
theorem BF.sol {l : List DT} {m : Int} (hv : ∀ d ∈ l, okD m d = true) {n : Nat} (hn : m.toNat = n) (h : BF (dirM l) n r n 0 dist frm last R T clk) (hR : ∀ x, x < n → R x ≠ r) (hr : 1 ≤ r) : Sol l dist := by
  intro d hd
  have ho := okD_iff.1 (hv d hd)
  have hdir := dir_le hd (i := d.1.toNat) (j := d.2.1.toNat) (by omega) (by omega)
  have hf : dirM l d.1.toNat d.2.1.toNat < INF := by unfold DMX INF at *; omega
  rcases h.edge d.1.toNat d.2.1.toNat (by omega) (by omega) hf with g | g
  · unfold seen at g
    rw [if_pos (by omega)] at g
    have := h.top d.1.toNat (by omega)
    have := hR d.1.toNat (by omega)
    omega
  · omega

end Go.FW

namespace Go.Abs
open Go
/-- The direct bounds, the closure. -/
def dirL (n : Int) (l : List FW.DT) : List (List Int) := gridL n.toNat n.toNat (FW.dirM l)

def cloB (n : Int) (l : List FW.DT) : Bool := FW.closeB n l

def cloL (n : Int) (l : List FW.DT) : List (List Int) := if FW.closeB n l then gridL n.toNat n.toNat (FW.rounds (FW.W0 l) n.toNat) else []

def vldB (n : Int) (l : List FW.DT) : Bool := FW.validC n l

def hfDir : List SV → Tr SV
  | [.int .i64 n, .row (.cons (.int .i64) (.cons (.int .i64) (.cons (.int .i64) .unit))) l _] => .need (vldB n l) (.ret (.row (.row (.int .i64)) (dirL n l) false))
  | _ => .fail

def hfClose : List SV → Tr SV
  | [.int .i64 n, .row (.cons (.int .i64) (.cons (.int .i64) (.cons (.int .i64) .unit))) l _] => .ret (.tup [.row (.row (.int .i64)) (cloL n l) false, .bool (cloB n l)])
  | _ => .fail

end Go.Abs

namespace Go.Proofs.Ytcklpclgiaeopaa.Pre
open Go Go.Abs
noncomputable section
def note : FuncId → Abs.Note
  | 2 => ⟨true, [], false, fun _ => []⟩
  | 3 => ⟨true, [0, 1, 4, 5, 6, 7, 8, 9, 10, 11, 12, 13, 14, 15, 16, 17, 20, 58, 59, 60, 90, 96, 101, 157], false, fun _ => []⟩
  | 4 => ⟨true, [0, 2, 3, 4, 5, 6, 7, 8, 9, 10, 11, 12, 13, 14, 17, 34, 54, 57, 76, 81, 97, 102, 147, 175, 196], false, fun _ => []⟩
  | 5 => ⟨true, [0, 2, 3, 4, 5, 6, 7, 8, 9, 10, 11, 12, 13, 14, 17, 26, 38, 56, 116, 119, 130], false, fun | 15 => [(3, 7)] | 20 => [(6, 13), (10, 13)] | _ => []⟩
  | 6 => ⟨true, [0, 2, 3, 4, 5, 6, 7, 8, 9, 10, 12, 13, 14, 15, 16, 17, 18, 19, 20, 23, 43, 50, 51, 52, 53, 64, 105, 119, 121, 122, 123, 140], false, fun | 20 => [(2, 3), (2, 4)] | _ => []⟩
  | 7 => ⟨true, [0, 1, 2, 3, 4, 9, 10, 11, 12, 13, 14, 15, 17, 19, 20, 21, 22, 23, 24, 25, 26, 27, 28, 29, 30, 32, 45, 59, 90, 91, 92, 93, 101, 102, 103, 104, 108, 171, 205, 224, 225, 226, 227, 238, 259], false, fun | 9 => [(8, 14), (9, 14), (6, 15), (8, 15), (9, 15)] | 34 => [(3, 6), (13, 16)] | _ => []⟩
  | 8 => ⟨true, [0, 2], false, fun _ => []⟩
  | 9 => ⟨true, [0, 1, 2, 3, 4], false, fun _ => []⟩
  | 10 => ⟨true, [0, 2], false, fun _ => []⟩
  | 11 => ⟨true, [0, 1, 4, 5, 19, 40], false, fun _ => []⟩
  | 12 => ⟨true, [0, 1, 4, 5, 6, 7, 8, 9, 10, 13, 24, 53], false, fun | 11 => [(6, 13), (10, 13)] | _ => []⟩
  | 13 => ⟨true, [0, 1, 4, 5, 6, 7, 8, 9, 10, 11, 15, 19, 20, 21, 38, 39, 40, 42, 43, 44, 46, 47, 48, 67, 106, 108, 109, 110, 119], false, fun _ => []⟩
  | 14 => ⟨true, [0, 1, 4, 5, 7, 8, 9, 10, 11, 12, 13, 14, 15, 28, 37, 38, 39, 40, 41, 42, 44, 45, 46, 74, 98, 99, 100, 114], false, fun | 5 => [(1, 3)] | _ => []⟩
  | 15 => ⟨true, [0, 1, 2, 6, 7, 8, 9, 10, 11, 20, 24, 44, 48, 89, 96], false, fun _ => []⟩
  | 16 => ⟨true, [0, 1, 2, 5, 6, 20], false, fun _ => []⟩
  | 17 => ⟨true, [0, 1, 4, 5, 6, 7, 8, 9, 17, 18, 19, 20, 28], false, fun _ => []⟩
  | 18 => ⟨true, [0, 1, 3, 4, 6, 7, 8, 9, 10, 11, 12, 20, 25, 26, 27, 34, 35, 36, 37, 49], false, fun | 16 => [(2, 3)] | _ => []⟩
  | 19 => ⟨true, [0, 1, 2, 5, 6, 7, 8], false, fun _ => []⟩
  | 20 => ⟨true, [0, 1, 4, 5, 10, 12, 13, 14, 25], false, fun _ => []⟩
  | 21 => ⟨true, [0, 1, 4], false, fun _ => []⟩
  | 22 => ⟨true, [0, 1, 4, 5, 6, 7, 8, 9, 10, 11, 12, 13, 14, 18, 21, 26, 42, 98, 101, 106, 111, 131, 163, 173], false, fun _ => []⟩
  | 23 => ⟨true, [0, 1, 4, 5, 6, 7, 8, 9, 17, 20, 29], false, fun _ => []⟩
  | 24 => ⟨true, [0, 1, 2, 4, 12], false, fun _ => []⟩
  | 25 => ⟨true, [0, 1, 4, 5, 13, 17, 48], false, fun _ => []⟩
  | 26 => ⟨true, [0, 1, 4, 5, 10, 14, 25], false, fun _ => []⟩
  | 27 => ⟨true, [0, 1, 4, 6, 7, 8, 9, 10, 11, 12, 20, 27, 33, 45, 66, 73], false, fun _ => []⟩
  | 28 => ⟨true, [0, 1, 2, 6, 7, 8, 18, 21, 29, 33, 58], false, fun _ => []⟩
  | 29 => ⟨true, [0, 1, 2, 5, 6, 7, 8], false, fun _ => []⟩
  | 30 => ⟨true, [0, 1, 4, 5, 6, 7, 9, 13, 14, 15, 26, 27, 28, 38, 39, 40, 41], false, fun _ => []⟩
  | 31 => ⟨true, [0, 2, 3, 9], false, fun _ => []⟩
  | 32 => ⟨true, [0, 1, 2, 6], false, fun _ => []⟩
  | 33 => ⟨true, [0, 1, 4, 5, 9, 17], false, fun _ => []⟩
  | 34 => ⟨true, [0, 1, 4], false, fun _ => []⟩
  | 35 => ⟨true, [0, 2], true, fun _ => []⟩
  | 36 => ⟨true, [0, 1, 2, 6], false, fun _ => []⟩
  | 37 => ⟨true, [0, 1, 4], false, fun _ => []⟩
  | 38 => ⟨true, [0, 1, 2, 3], false, fun _ => []⟩
  | 39 => ⟨true, [0, 1, 2, 3, 4, 5, 6, 7, 8, 15], true, fun _ => []⟩
  | 40 => ⟨true, [0, 1, 2, 3], true, fun _ => []⟩
  | 41 => ⟨true, [0, 1, 3, 4, 9], false, fun _ => []⟩
  | 42 => ⟨true, [0, 1, 4, 5, 7, 8, 9, 16], false, fun _ => []⟩
  | 43 => ⟨true, [0, 1, 4, 5, 7, 8, 9, 16], false, fun _ => []⟩
  | _ => ⟨false, [], false, fun _ => []⟩

theorem good : Abs.Good Try.prog note := Abs.good_of (by kernel_rfl)

theorem foll : (Try.prog).follows .mixedOrders = true := by kernel_rfl

def i36 : Abs.Sg := ⟨[0, 1, 2], (.dat (.int .i64) (.dat (.int .i64) (.dat (.int .i64) .nil))), .nil⟩

def o36 : Abs.Sg := ⟨[6], (.dat .bool .nil), .nil⟩

def m36 (v : ((Int × Int × Int × Unit) × (Unit))) : Option ((Bool × Unit) × (Unit)) :=
((bif (decide ((v.1.1 : Int) ≥ v.1.2.1)) then (some (((decide ((v.1.1 : Int) ≤ v.1.2.2.1)), ()), ()))
else (some ((false, ()), ()))) : Option ((Bool × Unit) × (Unit))).bind fun v1 =>
some ((v1.1.1, ()), ())

def sp36 : Abs.Spec := ⟨0, i36, o36, m36⟩

def an36 : Nat → Abs.FAn
  | 0 => Abs.FAn.mk (fun
    | 1 => some ⟨[6], (.dat .bool .nil), .nil⟩
    | _ => none) (fun _ => none) (fun _ => none) (fun _ _ => 0)
  | _ => {}

theorem ok36 : Abs.SpecOK Try.prog 36 sp36 :=
  Abs.specOK_of (n := 12) (an := an36) (T := Abs.tabOf []) good foll (Abs.tabOf_ok _ (fun _ h => by cases h)) rfl (by intro v; kernel_rfl)

def l24_2_2 (v : ((Int × (List (Int × Int × Int × Unit)) × Int × Unit) × ((Int × Unit) × Unit))) : Option (((Int × (List (Int × Int × Int × Unit)) × Int × Unit) × ((Int × Unit) × Unit)) ⊕ (((Int × Unit) × ((Int × Unit) × Unit)) ⊕ ((Unit) × ((Int × Unit) × Unit)))) :=
bif (decide ((v.1.1 : Int) < v.1.2.2.1)) then (Abs.rowAt v.1.2.1 v.1.1 fun e67 _ =>
(((m36 ((e67.1, (0, ((w64 (v.2.1.1 - 1)), ()))), ())).bind fun u68 =>
bif (!u68.1.1) then (some ((true, ()), ((v.2.1.1, ()), ())))
else ((m36 ((e67.2.1, (0, ((w64 (v.2.1.1 - 1)), ()))), ())).bind fun u69 =>
bif (!u69.1.1) then (some ((true, ()), ((v.2.1.1, ()), ())))
else ((m36 ((e67.2.2.1, ((-17179869184), (17179869184, ()))), ())).bind fun u70 =>
some (((!u70.1.1), ()), ((v.2.1.1, ()), ()))))) : Option ((Bool × Unit) × ((Int × Unit) × Unit))).bind fun v71 =>
bif v71.1.1 then (some (.inr (.inl ((v.1.1, ()), ((v71.2.1.1, ()), ())))))
else (some (.inl (((w64 (v.1.1 + 1)), (v.1.2.1, (v.1.2.2.1, ()))), ((v71.2.1.1, ()), ())))))
else (some (.inr (.inr ((), ((v.2.1.1, ()), ())))))

def i24 : Abs.Sg := ⟨[0, 1], (.dat (.int .i64) (.dat (.row (.cons (.int .i64) (.cons (.int .i64) (.cons (.int .i64) .unit)))) .nil)), .nil⟩

def o24 : Abs.Sg := ⟨[4], (.dat .bool .nil), .nil⟩

def m24 (v : ((Int × (List (Int × Int × Int × Unit)) × Unit) × (Unit))) : Option ((Bool × Unit) × (Unit)) :=
(((m36 ((v.1.1, (1, (41, ()))), ())).bind fun u65 =>
bif (!u65.1.1) then (some ((true, (v.1.2.1, ())), ((v.1.1, ()), ())))
else (some (((decide (((v.1.2.1.length : Int) : Int) > 4000)), (v.1.2.1, ())), ((v.1.1, ()), ())))) : Option ((Bool × (List (Int × Int × Int × Unit)) × Unit) × ((Int × Unit) × Unit))).bind fun v66 =>
bif v66.1.1 then (some ((false, ()), ()))
else ((((loopT l24_2_2 ((0, (v66.1.2.1, ((v66.1.2.1.length : Int), ()))), ((v66.2.1.1, ()), ()))).bind fun d72 =>
sumE d72 (fun d73 => (some (((decide ((d73.1.1 : Int) ≥ 0)), ()), ((d73.2.1.1, ()), ())))) (fun d74 => (some ((false, ()), ((d74.2.1.1, ()), ()))))) : Option ((Bool × Unit) × ((Int × Unit) × Unit))).bind fun v75 =>
some (((!v75.1.1), ()), ()))

def sp24 : Abs.Spec := ⟨0, i24, o24, m24⟩

def an24 : Nat → Abs.FAn
  | 0 => Abs.FAn.mk (fun
    | 1 => some ⟨[12, 2, 1], (.dat .bool (.st (.ptr (0, 0) 1 0 0) (.dat (.row (.cons (.int .i64) (.cons (.int .i64) (.cons (.int .i64) .unit)))) .nil))), (.box 1 (.dat (.int .i64) .nil) .nil)⟩
    | _ => none) (fun _ => none) (fun _ => none) (fun
    | 3, 2 => 1
    | _, _ => 0)
  | 1 => Abs.FAn.mk (fun
    | 1 => some ⟨[4], (.dat .bool .nil), (.box 1 (.dat (.int .i64) .nil) .nil)⟩
    | _ => none) (fun _ => none) (fun _ => none) (fun
    | 1, 2 => 2
    | _, _ => 0)
  | 2 => Abs.FAn.mk (fun _ => none) (fun _ => none) (fun
    | 2 => some ⟨⟨[8, 0, 1, 7], (.dat (.int .i64) (.dat (.row (.cons (.int .i64) (.cons (.int .i64) (.cons (.int .i64) .unit)))) (.st (.clo 40 [((0, 0), 1, 0, 0)]) (.dat (.int .i64) .nil)))), (.box 1 (.dat (.int .i64) .nil) .nil)⟩, (.more .ret ⟨[4], (.dat (.int .i64) .nil), (.box 1 (.dat (.int .i64) .nil) .nil)⟩ (.one (.exit 0) ⟨[], .nil, (.box 1 (.dat (.int .i64) .nil) .nil)⟩))⟩
    | _ => none) (fun
    | 4, 5 => 3
    | _, _ => 0)
  | 3 => Abs.FAn.mk (fun
    | 1 => some ⟨[3], (.dat .bool .nil), (.box 1 (.dat (.int .i64) .nil) .nil)⟩
    | _ => none) (fun _ => none) (fun _ => none) (fun _ _ => 0)
  | _ => {}

theorem ok24 : Abs.SpecOK Try.prog 24 sp24 :=
  Abs.specOK_of (n := 12) (an := an24) (T := Abs.tabOf [(36, sp36)]) good foll (Abs.tabOf_ok _ (by simp only [List.forall_mem_cons]; exact ⟨ok36, fun _ h => by cases h⟩)) rfl (by intro v; kernel_rfl)

end
end Go.Proofs.Ytcklpclgiaeopaa.Pre

namespace Go.Proofs.Ytcklpclgiaeopaa
open Go Go.Abs Go.RowKit Go.FW
theorem Try.info3 : (Try.prog.info? 3).map (fun i => (i.zero, i.size, i.bytes)) = some (some (.int .i64 0), 1, 8) := by kernel_rfl

theorem Try.info22 : (Try.prog.info? 22).map (fun i => (i.zero, i.size, i.bytes)) = some (some (.slice none 0 0), 1, 24) := by kernel_rfl

/-- The matrix's own row, c rows made. -/
def top (N n c : Nat) : Nat → Value := fun j => if j < c then .slice (some ⟨N + 1 + j, 0, none⟩) n n else .slice none 0 0

structure Outer (w wr : World) (n c : Nat) : Prop where
  since : w.Since w.heap.size wr
  size : wr.heap.size = w.heap.size + 1 + c
  top : wr.rowIs w.heap.size 22 n (top w.heap.size n c)
  done : ∀ j, j < c → wr.rowIs (w.heap.size + 1 + j) 3 n (fun _ => .int .i64 INF)

structure Inner (w wi : World) (n c r : Nat) : Prop where
  since : w.Since w.heap.size wi
  size : wi.heap.size = w.heap.size + 1 + c + 1
  top : wi.rowIs w.heap.size 22 n (top w.heap.size n (c + 1))
  done : ∀ j, j < c → wi.rowIs (w.heap.size + 1 + j) 3 n (fun _ => .int .i64 INF)
  cur : wi.rowIs (w.heap.size + 1 + c) 3 n (fun i => if i < r then .int .i64 INF else .int .i64 0)

theorem outer_start (w : World) (n : Nat) : Outer w (w.alloc (.cells (madeCells #[.slice none 0 0] n) 22)) n 0 :=
  ⟨(World.Since.refl _ _).alloc (Nat.le_refl _) _, by simp, (World.rowIs_made w _ n 22).congr (fun j _ => by simp [top]), fun j hj => absurd hj (Nat.not_lt_zero _)⟩

theorem inner_start {w wr : World} {n c : Nat} (h : Outer w wr n c) :
    Inner w ((wr.alloc (.cells (madeCells #[.int .i64 0] n) 3)).setCell ⟨w.heap.size, c, none⟩ (.slice (some ⟨w.heap.size + 1 + c, 0, none⟩) n n)) n c 0 := by
  have hnew := World.rowIs_made wr (.int .i64 0) n 3
  rw [h.size] at hnew
  refine ⟨(h.since.alloc (by rw [h.size]; omega) _).setCell (Nat.le_refl _) _, by simp [h.size], ((h.top.alloc _).set c _).congr (fun j _ => ?_), fun j hj => ((h.done j hj).alloc _).setOther (by show w.heap.size + 1 + j ≠ w.heap.size; omega) _,
    (hnew.setOther (by show w.heap.size + 1 + c ≠ w.heap.size; omega) _).congr (fun i _ => by simp)⟩
  simp only [top]
  by_cases e : j = c
  · subst e; simp
  · rw [if_neg e]
    by_cases hlt : j < c
    · rw [if_pos hlt, if_pos (by omega)]
    · rw [if_neg hlt, if_neg (by omega)]

theorem inner_step {w wi : World} {n c r : Nat} (h : Inner w wi n c r) :
    Inner w (wi.setCell ⟨w.heap.size + 1 + c, r, none⟩ (.int .i64 INF)) n c (r + 1) := by
  refine ⟨h.since.setCell (by show w.heap.size ≤ w.heap.size + 1 + c; omega) _, by simp [h.size], h.top.setOther (by show w.heap.size ≠ w.heap.size + 1 + c; omega) _,
    fun j hj => (h.done j hj).setOther (by show w.heap.size + 1 + j ≠ w.heap.size + 1 + c; omega) _, (h.cur.set r _).congr (fun i _ => ?_)⟩
  by_cases e : i = r
  · subst e; simp
  · rw [if_neg e]
    by_cases hlt : i < r
    · rw [if_pos hlt, if_pos (by omega)]
    · rw [if_neg hlt, if_neg (by omega)]

theorem inner_done {w wi : World} {n c : Nat} (h : Inner w wi n c n) : Outer w wi n (c + 1) :=
  ⟨h.since, by rw [h.size]; omega, h.top, fun j hj => by
    by_cases e : j = c
    · subst e
      exact h.cur.congr (fun i hi => by rw [if_pos hi])
    · exact h.done j (by omega)⟩

/-- The matrix under way. -/
structure Mat (w wr : World) (n : Nat) (M : Nat → Nat → Int) : Prop where
  since : w.Since w.heap.size wr
  lt : w.heap.size + n < wr.heap.size
  grid : Grid wr w.heap.size 22 3 n n (fun i => w.heap.size + 1 + i) (fun _ => n) M

theorem Outer.mat {w wr : World} {n : Nat} (h : Outer w wr n n) : Mat w wr n (fun _ _ => INF) :=
  ⟨h.since, by rw [h.size]; omega, ⟨(RowGe.of_is h.top).congr (fun i hi => by simp [Ytcklpclgiaeopaa.top, hi]), fun i hi => RowGe.of_is (h.done i hi), fun i j _ _ e => by omega, fun i _ => by omega, fun _ _ => Nat.le_refl _⟩⟩

theorem Grid.alloc {w : World} {b To Ti n m : Nat} {R C : Nat → Nat} {M : Nat → Nat → Int} (h : Grid w b To Ti n m R C M) (X : Obj) : Grid (w.alloc X) b To Ti n m R C M :=
  ⟨h.top.alloc X, fun i hi => (h.row i hi).alloc X, h.inj, h.apart, h.cap⟩

theorem Mat.alloc {w wr : World} {n : Nat} {M : Nat → Nat → Int} (h : Mat w wr n M) (X : Obj) : Mat w (wr.alloc X) n M :=
  ⟨h.since.alloc (by have := h.lt; omega) X, by have := h.lt; simp; omega, Grid.alloc h.grid X⟩

theorem Mat.drew {w wr : World} {n : Nat} {M : Nat → Nat → Int} (h : Mat w wr n M) : Mat w wr.drew n M := ⟨h.since.drew, h.lt, h.grid.drew⟩

theorem Mat.set {w wr : World} {n : Nat} {M : Nat → Nat → Int} (h : Mat w wr n M) {i j : Nat} (hi : i < n) (v : Int) : Mat w (wr.setCell ⟨w.heap.size + 1 + i, j, none⟩ (.int .i64 v)) n (FW.upd M i j v) :=
  ⟨h.since.setCell (by show w.heap.size ≤ w.heap.size + 1 + i; omega) _, by have := h.lt; simpa using this, h.grid.set hi v⟩

theorem Mat.congr {w wr : World} {n : Nat} {M N : Nat → Nat → Int} (h : Mat w wr n M) (e : ∀ i j, i < n → j < n → M i j = N i j) : Mat w wr n N := ⟨h.since, h.lt, h.grid.congr e⟩

theorem dir_snoc {l : List DT} {p f t : Nat} {z : Int} (h : l[p]? = some ((f : Int), (t : Int), z, ())) (a b : Nat) : dirM (l.take (p + 1)) a b = if a = f ∧ b = t then min (dirM (l.take p) a b) z else dirM (l.take p) a b := by
  rw [List.take_add_one, h]
  unfold dirM
  rw [List.foldl_append]
  simp only [Option.toList_some, List.foldl_cons, List.foldl_nil]
  by_cases e : a = f ∧ b = t
  · rw [if_pos e, if_pos ⟨by rw [e.1], by rw [e.2]⟩]
  · rw [if_neg e, if_neg (fun g => e ⟨by omega, by omega⟩)]

theorem dir_upd {l : List DT} {p f t : Nat} {z v : Int} (h : l[p]? = some ((f : Int), (t : Int), z, ())) (hv : v = min (dirM (l.take p) f t) z) (a b : Nat)  : FW.upd (dirM (l.take p)) f t v a b = dirM (l.take (p + 1)) a b := by
  rw [dir_snoc h]
  unfold FW.upd
  by_cases e : a = f ∧ b = t
  · rw [if_pos e, if_pos e, hv, e.1, e.2]
  · rw [if_neg e, if_neg e]

set_option maxHeartbeats 6400000 in
set_option maxRecDepth 1000000 in
theorem direct_walk (n : Nat) (hn : n ≤ 41) (a : Option Addr) (b o cap : Nat) (l : List DT) (hl : l.length ≤ 4000) (ha : l ≠ [] → a = some ⟨b, o, none⟩) (w : World)
    (hc : ∀ (p : Nat) (d : DT), l[p]? = some d → w.cell? ⟨b, o + p * 3, none⟩ = some (.int .i64 d.1) ∧ w.cell? ⟨b, o + p * 3 + 1, none⟩ = some (.int .i64 d.2.1) ∧ w.cell? ⟨b, o + p * 3 + 2, none⟩ = some (.int .i64 d.2.2.1))
    (hv : ∀ d ∈ l, okD n d = true) :
    Calls Try.prog 30 #[.int .i64 n, .slice a l.length cap] w fun e w' => e = .returned (.slice (some ⟨w.heap.size, 0, none⟩) n n) ∧ Mat w w' n (dirM l) := by
  have hmk := run_make_row' (P := Try.prog) 30 22 (.slice none 0 0) 24 Try.underlying30 Try.info22 rfl .i64 .i64 n (by omega) (by omega)
  go_enter Try.func30, Try.ntmps30
  go_wp2
  clear hmk
  go_loopg [14] n (fun g i wr => ∃ c : Nat, c ≤ n ∧ g = n - c ∧ i = .int .i64 c ∧ Outer w wr n c)
  case atStart => exact ⟨0, Nat.zero_le _, rfl, rfl, outer_start w n⟩
  case round =>
    obtain ⟨c, hc', rfl, rfl, hO⟩ := hrel
    have hsize := hO.size
    have hmk2 := run_make_row' (P := Try.prog) 22 3 (.int .i64 0) 8 Try.underlying22 Try.info3 rfl .i64 .i64 n (by omega) (by omega)
    have hst1 : c < n → ∀ o, (wr.alloc o).cell? ⟨w.heap.size, c, none⟩ = some (top w.heap.size n c c) := fun h o => (hO.top.alloc o).cell h
    have hst2 : ∀ o, (wr.alloc o).frozen? ⟨w.heap.size, c, none⟩ = false := fun o => (hO.top.alloc o).frozen c
    go_wp2
    · -- the inner loop
      have hc2 : c < n := by assumption
      have hI0 := inner_start hO
      clear hmk2 hst1 hst2 hsize hO
      have hrow : ((wr.alloc (.cells (madeCells #[.int .i64 0] n) 3)).setCell ⟨w.heap.size, c, none⟩ (.slice (some ⟨w.heap.size + 1 + c, 0, none⟩) n n)).cell? ⟨w.heap.size, c, none⟩ = some (.slice (some ⟨w.heap.size + 1 + c, 0, none⟩) n n) := by simpa [top] using hI0.top.cell hc2
      go_wp2
      clear hrow
      go_loopg [27] n (fun g i wi => ∃ r : Nat, r ≤ n ∧ g = n - r ∧ i = .int .i64 r ∧ Inner w wi n c r)
      case atStart => exact ⟨0, Nat.zero_le _, rfl, rfl, hI0⟩
      case round =>
        obtain ⟨r, hr, rfl, rfl, hI⟩ := hrel
        clear hI0
        have g1 : wr.cell? ⟨w.heap.size, c, none⟩ = some (.slice (some ⟨w.heap.size + 1 + c, 0, none⟩) n n) := by simpa [top] using hI.top.cell hc2
        have g4 : r < n → wr.cell? ⟨w.heap.size + 1 + c, r, none⟩ = some (.int .i64 0) := fun h => by simpa using hI.cur.cell h
        have g5 : wr.frozen? ⟨w.heap.size + 1 + c, r, none⟩ = false := hI.cur.frozen r
        go_wp2
        · go_roundg (n - (r + 1))
          case measure => omega
          case rel => exact ⟨r + 1, by omega, rfl, by simp, inner_step hI⟩
        · have hrn : r = n := by omega
          subst hrn
          go_roundg (r - (c + 1))
          case measure => omega
          case rel => exact ⟨c + 1, by omega, rfl, by simp, inner_done hI⟩
    · have hcn : c = n := by omega
      generalize decide (c < n) = s15
      subst hcn
      have hM := hO.mat
      clear hmk2 hst1 hst2 hsize hO
      go_loopg [40] l.length (fun g i wr => ∃ p : Nat, p ≤ l.length ∧ g = l.length - p ∧ i = .int .i64 p ∧ Mat w wr c (dirM (l.take p)))
      case atStart => exact ⟨0, Nat.zero_le _, rfl, rfl, hM⟩
      case round =>
        obtain ⟨p, hp, rfl, rfl, hM⟩ := hrel
        by_cases hlt : p < l.length
        · obtain ⟨d, hd⟩ : ∃ d, l[p]? = some d := ⟨_, List.getElem?_eq_getElem hlt⟩
          have hne : l ≠ [] := fun e => by rw [e] at hlt; simp at hlt
          have := ha hne
          subst this
          obtain ⟨c1, c2, c3⟩ := hc p d hd
          have hb : b < w.heap.size := World.block_lt_of_cell? _ _ c1
          obtain ⟨⟨o1, o2⟩, ⟨o3, o4⟩, _⟩ := okD_iff.1 (hv d (List.mem_of_getElem? hd))
          obtain ⟨x, y, z, ⟨⟩⟩ := d
          simp only at o1 o2 o3 o4 c1 c2 c3
          obtain ⟨f, rfl⟩ : ∃ f : Nat, x = (f : Int) := ⟨x.toNat, by omega⟩
          obtain ⟨t, rfl⟩ : ∃ t : Nat, y = (t : Int) := ⟨y.toNat, by omega⟩
          have k1 : wr.cell? ⟨b, o + p * 3, none⟩ = some (.int .i64 f) := by rw [hM.since.cell (a := ⟨b, o + p * 3, none⟩) hb]; exact c1
          have k2 : wr.cell? ⟨b, o + p * 3 + 1, none⟩ = some (.int .i64 t) := by rw [hM.since.cell (a := ⟨b, o + p * 3 + 1, none⟩) hb]; exact c2
          have k3 : wr.cell? ⟨b, o + p * 3 + 2, none⟩ = some (.int .i64 z) := by rw [hM.since.cell (a := ⟨b, o + p * 3 + 2, none⟩) hb]; exact c3
          have hf : f < c := by omega
          have ht : t < c := by omega
          have j1 : ∀ X, (wr.alloc X).cell? ⟨w.heap.size, f, none⟩ = some (.slice (some ⟨w.heap.size + 1 + f, 0, none⟩) c c) := fun X => (hM.grid.top.alloc X).cell hf
          have j2 : ∀ X, (wr.alloc X).cell? ⟨w.heap.size + 1 + f, t, none⟩ = some (.int .i64 (dirM (l.take p) f t)) := fun X => ((hM.grid.row f hf).alloc X).cell ht
          have j3 : ∀ X, (wr.alloc X).frozen? ⟨w.heap.size + 1 + f, t, none⟩ = false := fun X => ((hM.grid.row f hf).alloc X).frozen t
          clear ha hc hv c1 c2 c3
          go_wp2
          go_region
          all_goals go_wp2
          all_goals (
            go_roundg (l.length - (p + 1))
            case measure => omega
            case rel => exact ⟨p + 1, by omega, rfl, by simp, (((hM.alloc _).set hf _).drew).congr fun a b _ _ => dir_upd hd (by omega) a b⟩)
        · have e : p = l.length := by omega
          subst e
          rw [List.take_length] at hM
          go_wp2
          go_ret
          exact ⟨rfl, hM⟩

end Go.Proofs.Ytcklpclgiaeopaa

namespace Go.Proofs.Ytcklpclgiaeopaa
open Go Go.Abs Go.FW Go.Plain
theorem m36_eq (a b c : Int) : Pre.m36 ((a, b, c, ()), ()) = some ((decide (b ≤ a ∧ a ≤ c), ()), ()) := by
  unfold Pre.m36
  by_cases h : a ≥ b
  · by_cases g : a ≤ c
    · simp only [decide_eq_true h, decide_eq_true g, decide_eq_true (show b ≤ a ∧ a ≤ c from ⟨h, g⟩), sumE, sS]
    · simp only [decide_eq_true h, decide_eq_false g, decide_eq_false (show ¬ (b ≤ a ∧ a ≤ c) from fun e => g e.2), sumE, sS]
  · simp only [decide_eq_false h, decide_eq_false (show ¬ (b ≤ a ∧ a ≤ c) from fun e => h e.1), sumE, sS]

theorem okD_def (n : Int) (d : DT) : okD n d = (decide (0 ≤ d.1 ∧ d.1 ≤ n - 1) && (decide (0 ≤ d.2.1 ∧ d.2.1 ≤ n - 1) && decide (-17179869184 ≤ d.2.2.1 ∧ d.2.2.1 ≤ 17179869184))) := rfl

theorem valid24 (n : Int) (l : List DT) : Pre.m24 ((n, l, ()), ()) = some ((validC n l, ()), ()) := by
  unfold Pre.m24 validC
  simp only [m36_eq, sumE, sS]
  by_cases h1 : 1 ≤ n ∧ n ≤ 41
  · by_cases h2 : (l.length : Int) > 4000
    · simp only [decide_eq_true h1, decide_eq_true h2, decide_eq_false (show ¬ l.length ≤ 4000 by omega), sumE, sS]
    · have hw1 : w64 (n - 1) = n - 1 := w64_id (by omega) (by omega)
      have h := loop_list0 (f := Pre.l24_2_2) l (fun i (_ : Unit) => (((i : Int), l, (l.length : Int), ()), ((n, ()), ()))) (fun i _ d => bif !okD n d then .inr (.inl (((i : Int), ()), ((n, ()), ()))) else .inl ()) (fun _ => .inr ((), ((n, ()), ()))) ?_ ?_ ()
      · obtain ⟨j, _, hj⟩ := runL_any (fun d => !okD n d) (fun i : Nat => (Sum.inl (((i : Int), ()), ((n, ()), ())) : ((Int × Unit) × ((Int × Unit) × Unit)) ⊕ (Unit × ((Int × Unit) × Unit)))) (.inr ((), ((n, ()), ()))) l 0
        simp only [decide_eq_true h1, decide_eq_false h2, decide_eq_true (show l.length ≤ 4000 by omega), sumE, sS]
        rw [show loopT Pre.l24_2_2 ((0, l, (l.length : Int), ()), ((n, ()), ())) = _ from h.trans (congrArg some hj), any_not]
        have hj0 : decide ((j : Int) ≥ 0) = true := decide_eq_true (by omega)
        cases l.all (okD n) <;> simp only [sumE, sS, hj0, Bool.not_true, Bool.not_false]
      · intro i d _ hd hi
        have hw : w64 ((i : Int) + 1) = ((i + 1 : Nat) : Int) := w64_nat (by omega)
        rw [okD_def]
        simp only [Pre.l24_2_2, rowAt_G, rowG_nat hd, lt_t hi, m36_eq, hw1, sumE, sS]
        cases decide (0 ≤ d.1 ∧ d.1 ≤ n - 1) <;> cases decide (0 ≤ d.2.1 ∧ d.2.1 ≤ n - 1) <;> cases decide (-17179869184 ≤ d.2.2.1 ∧ d.2.2.1 ≤ 17179869184) <;> simp only [sumE, sS, hw, Bool.not_true, Bool.not_false]
      · intro _
        simp only [Pre.l24_2_2, lt_f, sumE, sS]
  · simp only [decide_eq_false h1, sumE, sS]

abbrev tD : Ty := .cons (.int .i64) (.cons (.int .i64) (.cons (.int .i64) .unit))

theorem rel_args {w : World} {n : Int} {l : List DT} {tg : Bool} {v : Value} (h : PR w noX v (rowAV tD l false)) (ℓ : Lens) (i : Nat) (u : SV) (hu : ((datS [.int .i64, .row tD]).un (n, l, ()))[i]? = some u) : ∃ x, (#[Value.int .i64 n, v] : Array Value).toList[i]? = some x ∧ PR w noX x (dV ℓ u) := by
  match i with
  | 0 => cases hu; exact ⟨_, rfl, .int _ _⟩
  | 1 => cases hu; exact ⟨_, rfl, h⟩
  | i + 2 => exact absurd (show (none : Option SV) = some u from hu) (by simp)

theorem calls24 {w : World} {n : Int} {l : List DT} {v : Value} (h : PR w noX v (rowAV tD l false)) : Calls Try.prog 24 #[.int .i64 n, v] w fun e w' => e = .returned (.bool (validC n l)) ∧ RowKit.Below w.heap.size w w' :=
  bool_calls (tys := [.int .i64, .row tD]) (x := (n, l, ())) Try.func24 rfl Pre.ok24 (by decide) (by cases validC n l <;> kernel_rfl) (valid24 n l) rfl (rel_args (tg := false) h)

end Go.Proofs.Ytcklpclgiaeopaa

namespace Go.Proofs.Ytcklpclgiaeopaa
open Go Go.Abs Go.RowKit Go.FW
/-- What a constraint list's slice holds. -/
theorem row_diff {w : World} {X : XT} {v : Value} {l : List DT} {tg : Bool} (h : PR w X v (rowAV tD l tg)) :
    ∃ a b o cap, v = .slice a l.length cap ∧ (l ≠ [] → a = some ⟨b, o, none⟩) ∧ ∀ (p : Nat) (d : DT), l[p]? = some d → w.cell? ⟨b, o + p * 3, none⟩ = some (.int .i64 d.1) ∧ w.cell? ⟨b, o + p * 3 + 1, none⟩ = some (.int .i64 d.2.1) ∧ w.cell? ⟨b, o + p * 3 + 2, none⟩ = some (.int .i64 d.2.2.1) := by
  cases hl : l with
  | nil =>
    rw [hl] at h
    have h : PR w X v (.lst 0 [] tg) := h
    cases h with
    | lst0 a cap sz t ht => exact ⟨a, 0, 0, cap, rfl, fun e => absurd rfl e, fun p d hd => by simp at hd⟩
    | lst b o n cap sz t xs f hn hc ht hsz hx hr => simp at hn; subst hn; exact ⟨_, 0, 0, cap, rfl, fun e => absurd rfl e, fun p d hd => by simp at hd⟩
  | cons y r =>
    rw [← hl]
    have h : PR w X v (.lst (lsz 3 (@List.map (Ty.den tD) AV (enc tD) l)) (@List.map (Ty.den tD) AV (enc tD) l) tg) := h
    have hz : lsz 3 (@List.map (Ty.den tD) AV (enc tD) l) = 3 := by rw [hl]; rfl
    rw [hz] at h
    generalize hxs : (@List.map (Ty.den tD) AV (enc tD) l) = xs at h
    have hlen : xs.length = l.length := by rw [← hxs]; exact List.length_map ..
    cases h with
    | lst0 a cap sz t ht => rw [hl] at hlen; simp at hlen
    | lst b o n cap sz t xs f hn hc ht hsz hx hr =>
      refine ⟨some ⟨b, o, none⟩, b, o, cap, by rw [← hlen, hn], fun _ => rfl, fun p d hd => ?_⟩
      have hxp : xs[p]? = some (.agg [.int .i64 d.1, .int .i64 d.2.1, .int .i64 d.2.2.1]) := by
        rw [← hxs]
        refine (List.getElem?_map ..).trans ?_
        exact (congrArg (Option.map (enc tD)) (show (show List (Ty.den tD) from l)[p]? = some d from hd)).trans rfl
      have c := fun j u hj => hx p _ hxp j u hj
      have e := fun j u hj => hr p _ hxp j u hj
      obtain ⟨_, c0, _⟩ := c 0 _ rfl
      obtain ⟨_, c1, _⟩ := c 1 _ rfl
      obtain ⟨_, c2, _⟩ := c 2 _ rfl
      rw [PR.int_inv (e 0 _ rfl)] at c0
      rw [PR.int_inv (e 1 _ rfl)] at c1
      rw [PR.int_inv (e 2 _ rfl)] at c2
      exact ⟨c0, c1, c2⟩

/-- A world in which nothing old has turned. -/
theorem since_of_below {w w' : World} (h : Below w.heap.size w w') : w.Since w.heap.size w' := ⟨h.os, h.tape, h.output, h.size, fun i hi => h.block i hi⟩

/-- What Close makes. -/
def CloseR (n : Int) (l : List DT) (w : World) (e : Ending) (w' : World) : Prop := ∃ u, e = .returned (.tuple #[u, .bool (closeB n l)]) ∧ w.Since w.heap.size w' ∧
  if closeB n l then ∃ B, w.heap.size ≤ B ∧ u = .slice (some ⟨B, 0, none⟩) n.toNat n.toNat ∧ Grid w' B 22 3 n.toNat n.toNat (fun i => B + 1 + i) (fun _ => n.toNat) (rounds (W0 l) n.toNat) else u = .slice none 0 0

theorem close_no {n : Int} {l : List DT} {w w' : World} (h : closeB n l = false) (hs : w.Since w.heap.size w') : CloseR n l w (.returned (.tuple #[.slice none 0 0, .bool false])) w' :=
  ⟨.slice none 0 0, by rw [h], hs, by rw [h]; rfl⟩

theorem valid_no {n : Int} {l : List DT} (h : validC n l = false) : closeB n l = false := by unfold closeB; rw [h]; rfl

/-- The matrix, the diagonal at most 0 before c. -/
def diagM (l : List DT) (c : Nat) : Nat → Nat → Int := fun a b => if a = b ∧ a < c then min (dirM l a b) 0 else dirM l a b

theorem diag_start (l : List DT) : diagM l 0 = dirM l := by funext a b; unfold diagM; rw [if_neg (by omega)]

theorem diag_step (l : List DT) (c : Nat) {v : Int} (hv : v = min (dirM l c c) 0) (a b : Nat) : FW.upd (diagM l c) c c v a b = diagM l (c + 1) a b := by
  unfold FW.upd diagM
  by_cases e : a = c ∧ b = c
  · rw [if_pos e, if_pos (by omega), hv, e.1, e.2]
  · rw [if_neg e]
    by_cases g : a = b ∧ a < c
    · rw [if_pos g, if_pos (by omega)]
    · rw [if_neg g, if_neg (by omega)]

theorem diag_end (l : List DT) {n a b : Nat} (ha : a < n) : diagM l n a b = W0 l a b := by
  unfold diagM W0
  by_cases e : a = b
  · rw [if_pos ⟨e, ha⟩, if_pos e]
  · rw [if_neg (fun g => e g.1), if_neg e]

theorem diag_here (l : List DT) (c : Nat) : diagM l c c c = dirM l c c := by unfold diagM; rw [if_neg (by omega)]

theorem since_trans {w w1 w2 : World} (h : Below w.heap.size w w1) (g : w1.Since w1.heap.size w2) : w.Since w.heap.size w2 :=
  ⟨g.os.trans h.os, g.tape.trans h.tape, g.output.trans h.output, Nat.le_trans h.size g.size, fun i hi => (g.block i (Nat.lt_of_lt_of_le hi h.size)).trans (h.block i hi)⟩

theorem alld_no {N : Nat} {l : List DT} (h : ¬ AllD (W0 l) N N) : closeB (N : Int) l = false := by
  cases hc : closeB (N : Int) l
  · rfl
  · exact absurd (fun i hi => (closeB_iff.1 hc).2 i hi) h

theorem close_yes {N : Nat} {l : List DT} {w w1 w2 : World} {M : Nat → Nat → Int} (hv : validC (N : Int) l = true) (h : Below w.heap.size w w1) (hM : Mat w1 w2 N M) (hP : PS (W0 l) N N 0 0 M) (hd : ∀ q, q < N → 0 ≤ M q q) :
    CloseR (N : Int) l w (.returned (.tuple #[.slice (some ⟨w1.heap.size, 0, none⟩) N N, .bool true])) w2 := by
  obtain ⟨g1, g2⟩ := hP.final hd
  have hc : closeB (N : Int) l = true := closeB_iff.2 ⟨hv, g1⟩
  refine ⟨_, by rw [hc], since_trans h hM.since, ?_⟩
  rw [hc]
  exact ⟨w1.heap.size, h.size, rfl, hM.grid.congr g2⟩

theorem neg_round {N k i : Nat} {l : List DT} {M : Nat → Nat → Int} (hP : PS (W0 l) N k i 0 M) (hi : i = N) (hk : k < N) (hneg : M k k < 0) : closeB (N : Int) l = false := by
  subst hi
  exact alld_no (hP.round_end.neg hk hk hneg)

theorem row_done {N k i j : Nat} {l : List DT} {M : Nat → Nat → Int} (hP : PS (W0 l) N k i j M) (hj : j = N) : PS (W0 l) N k (i + 1) 0 M := by
  subst hj; exact hP.row_end

theorem round_done {N k i : Nat} {l : List DT} {M : Nat → Nat → Int} (hP : PS (W0 l) N k i 0 M) (hi : i = N) : PS (W0 l) N (k + 1) 0 0 M := by
  subst hi; exact hP.round_end

set_option maxHeartbeats 6400000 in
set_option maxRecDepth 1000000 in
theorem close_walk (n : Int) (v : Value) (l : List DT) (w : World) (hv : PR w noX v (rowAV tD l false)) : Calls Try.prog 13 #[.int .i64 n, v] w (CloseR n l w) := by
  have hval := calls24 (n := n) hv
  obtain ⟨a, b, o, cap, rfl, ha, hc⟩ := row_diff hv
  have H : Hid ((l ≠ [] → a = some ⟨b, o, none⟩) ∧ ∀ (p : Nat) (d : DT), l[p]? = some d → w.cell? ⟨b, o + p * 3, none⟩ = some (.int .i64 d.1) ∧ w.cell? ⟨b, o + p * 3 + 1, none⟩ = some (.int .i64 d.2.1) ∧ w.cell? ⟨b, o + p * 3 + 2, none⟩ = some (.int .i64 d.2.2.1)) := ⟨ha, hc⟩
  clear ha hc hv
  have hcl : validC n l = false → closeB n l = false := valid_no
  obtain ⟨vb, hvb⟩ : ∃ vb, vb = validC n l := ⟨_, rfl⟩
  rw [← hvb] at hval
  have Hv : Hid (vb = validC n l) := hvb
  clear hvb hcl
  go_enter Try.func13, Try.ntmps13
  go_wp2_with (go_at_call 24; refine hval.mono ?_; rintro e w1 ⟨rfl, hw1⟩)
  · go_ret2
    have hvb := Hv.out
    exact close_no (valid_no (by rw [← hvb]; simpa using ‹(!vb) = true›)) (since_of_below hw1)
  · have hvb := Hv.out
    have hvt : validC n l = true := by rw [← hvb]; simpa using ‹(!vb) = false›
    obtain ⟨⟨n1, n2⟩, n3, n4⟩ := valid_iff.1 hvt
    obtain ⟨N, rfl⟩ := Int.eq_ofNat_of_zero_le (show 0 ≤ n by omega)
    have hN : N ≤ 41 := by omega
    have HV : Hid (validC (N : Int) l = true) := hvt
    refine (direct_walk N hN a b o cap l n3 H.out.1 w1 (fun p d hd => ?_) n4).mono ?_
    · obtain ⟨c1, c2, c3⟩ := H.out.2 p d hd
      have hb : b < w.heap.size := World.block_lt_of_cell? _ _ c1
      have hs := since_of_below hw1
      exact ⟨by rw [hs.cell (a := ⟨b, o + p * 3, none⟩) hb]; exact c1, by rw [hs.cell (a := ⟨b, o + p * 3 + 1, none⟩) hb]; exact c2, by rw [hs.cell (a := ⟨b, o + p * 3 + 2, none⟩) hb]; exact c3⟩
    rintro e w2 ⟨rfl, hM⟩
    have HN : Hid (1 ≤ N ∧ N ≤ 41 ∧ ∀ d ∈ l, okD (N : Int) d = true) := ⟨by omega, hN, n4⟩
    clear hval hvb hvt n1 n2 n3 n4 H Hv
    go_wp2
    go_loopg [20] N (fun g i wr => ∃ c : Nat, c ≤ N ∧ g = N - c ∧ i = .int .i64 c ∧ Mat w1 wr N (diagM l c))
    case atStart => exact ⟨0, Nat.zero_le _, rfl, rfl, by rw [diag_start]; exact hM⟩
    case round =>
      clear hM
      obtain ⟨c, hc', rfl, rfl, hM⟩ := hrel
      by_cases hlt : c < N
      · have j1 : wr.cell? ⟨w1.heap.size, c, none⟩ = some (.slice (some ⟨w1.heap.size + 1 + c, 0, none⟩) N N) := hM.grid.top.cell hlt
        have j2 : wr.cell? ⟨w1.heap.size + 1 + c, c, none⟩ = some (.int .i64 (dirM l c c)) := by rw [← diag_here]; exact (hM.grid.row c hlt).cell hlt
        have j3 : wr.frozen? ⟨w1.heap.size + 1 + c, c, none⟩ = false := (hM.grid.row c hlt).frozen c
        go_wp2
        go_region
        all_goals go_wp2
        all_goals (
          go_roundg (N - (c + 1))
          case measure => omega
          case rel => exact ⟨c + 1, by omega, rfl, by simp, (((hM.set hlt _).drew).congr fun a b _ _ => diag_step l c (by omega) a b)⟩)
      · generalize decide (c < N) = s21
        have e : c = N := by omega
        subst e
        go_wp2
        have HP : Hid (PS (W0 l) c 0 0 0 (diagM l c)) := PS.start (fun a b ha _ => diag_end l ha)
        go_loopg [39] c (fun g i wr => ∃ k : Nat, k ≤ c ∧ g = c - k ∧ i = .int .i64 k ∧ ∃ M, Hid (PS (W0 l) c k 0 0 M) ∧ Mat w1 wr c M)
        case atStart => exact ⟨0, Nat.zero_le _, rfl, rfl, _, HP, hM⟩
        case round =>
          clear HP hM
          obtain ⟨k, hk, rfl, rfl, M, HP, hM⟩ := hrel
          by_cases hkc : k < c
          · go_wp2
            go_loopg [43] c (fun g i wr => ∃ i' : Nat, i' ≤ c ∧ g = c - i' ∧ i = .int .i64 i' ∧ ∃ M, Hid (PS (W0 l) c k i' 0 M) ∧ Mat w1 wr c M)
            case atStart => exact ⟨0, Nat.zero_le _, rfl, rfl, _, HP, hM⟩
            case round =>
              clear HP hM
              obtain ⟨i, hi, rfl, rfl, M, HP, hM⟩ := hrel
              by_cases hic : i < c
              · go_wp2
                go_loopg [47] c (fun g i' wr => ∃ j : Nat, j ≤ c ∧ g = c - j ∧ i' = .int .i64 j ∧ ∃ M, Hid (PS (W0 l) c k i j M) ∧ Mat w1 wr c M)
                case atStart => exact ⟨0, Nat.zero_le _, rfl, rfl, _, HP, hM⟩
                case round =>
                  clear HP hM
                  obtain ⟨j, hj, rfl, rfl, M, HP, hM⟩ := hrel
                  by_cases hjc : j < c
                  · have j1 : wr.cell? ⟨w1.heap.size, i, none⟩ = some (.slice (some ⟨w1.heap.size + 1 + i, 0, none⟩) c c) := hM.grid.top.cell hic
                    have j2 : wr.cell? ⟨w1.heap.size, k, none⟩ = some (.slice (some ⟨w1.heap.size + 1 + k, 0, none⟩) c c) := hM.grid.top.cell hkc
                    have j3 : wr.cell? ⟨w1.heap.size + 1 + i, k, none⟩ = some (.int .i64 (M i k)) := (hM.grid.row i hic).cell hkc
                    have j4 : wr.cell? ⟨w1.heap.size + 1 + k, j, none⟩ = some (.int .i64 (M k j)) := (hM.grid.row k hkc).cell hjc
                    have j5 : wr.cell? ⟨w1.heap.size + 1 + i, j, none⟩ = some (.int .i64 (M i j)) := (hM.grid.row i hic).cell hjc
                    have j6 : wr.frozen? ⟨w1.heap.size + 1 + i, j, none⟩ = false := (hM.grid.row i hic).frozen j
                    by_cases h1 : M i k = 1099511627776
                    · go_wp2
                      go_roundg (c - (j + 1))
                      case measure => omega
                      case rel => exact ⟨j + 1, by omega, rfl, by simp, M, HP.out.skip hkc hic hjc (.inl h1), hM⟩
                    · by_cases h2 : M k j = 1099511627776
                      · go_wp2
                        go_roundg (c - (j + 1))
                        case measure => omega
                        case rel => exact ⟨j + 1, by omega, rfl, by simp, M, HP.out.skip hkc hic hjc (.inr h2), hM⟩
                      · go_wp2
                        · go_region
                          all_goals go_wp2
                          all_goals (
                            go_roundg (c - (j + 1))
                            case measure => omega
                            case rel => exact ⟨j + 1, by omega, rfl, by simp, FW.upd M i j (min (M i j) (w64 (M i k + M k j))), HP.out.store (w_small HN.out.2.2) (by omega) hkc hic hjc h1 h2,
                              ((hM.set hic _).drew).congr fun a b _ _ => congrFun (congrFun (congrArg (FW.upd M i j) (by rw [show w64 (M i k + M k j) = wrap64 (M i k + M k j) by unfold wrap64; exact IntKind.wrap_i64 _]; omega)) a) b⟩)
                        · exfalso
                          rcases ‹(M i k != 1099511627776) = false ∨ (M k j != 1099511627776) = false› with h | h
                          · exact h1 (by simpa using h)
                          · exact h2 (by simpa using h)
                  · go_wp2
                    go_roundg (c - (i + 1))
                    case measure => omega
                    case rel => exact ⟨i + 1, by omega, rfl, by simp, M, row_done HP.out (by omega), hM⟩
              · have j2 : wr.cell? ⟨w1.heap.size, k, none⟩ = some (.slice (some ⟨w1.heap.size + 1 + k, 0, none⟩) c c) := hM.grid.top.cell hkc
                have j3 : wr.cell? ⟨w1.heap.size + 1 + k, k, none⟩ = some (.int .i64 (M k k)) := (hM.grid.row k hkc).cell hkc
                by_cases hneg : M k k < 0
                · go_wp2
                  go_ret2
                  exact close_no (neg_round HP.out (by omega) hkc hneg) (since_trans hw1 hM.since)
                · go_wp2
                  go_roundg (c - (k + 1))
                  case measure => omega
                  case rel => exact ⟨k + 1, by omega, rfl, by simp, M, round_done HP.out (by omega), hM⟩
          · have HP2 : Hid (PS (W0 l) c c 0 0 M) := (show k = c by omega) ▸ HP.out
            clear HP
            go_wp2
            generalize decide (k < c) = s40
            go_loopg [109] c (fun g i wr => ∃ q : Nat, q ≤ c ∧ g = c - q ∧ i = .int .i64 q ∧ Hid (∀ x, x < q → 0 ≤ M x x) ∧ Mat w1 wr c M)
            case atStart => exact ⟨0, Nat.zero_le _, rfl, rfl, fun x hx => absurd hx (Nat.not_lt_zero _), hM⟩
            case round =>
              clear hM
              obtain ⟨q, hq, rfl, rfl, HD, hM⟩ := hrel
              by_cases hqc : q < c
              · have j2 : wr.cell? ⟨w1.heap.size, q, none⟩ = some (.slice (some ⟨w1.heap.size + 1 + q, 0, none⟩) c c) := hM.grid.top.cell hqc
                have j3 : wr.cell? ⟨w1.heap.size + 1 + q, q, none⟩ = some (.int .i64 (M q q)) := (hM.grid.row q hqc).cell hqc
                by_cases hneg : M q q < 0
                · go_wp2
                  go_ret2
                  exact close_no (alld_no (HP2.out.final_neg hqc hneg)) (since_trans hw1 hM.since)
                · go_wp2
                  go_roundg (c - (q + 1))
                  case measure => omega
                  case rel => exact ⟨q + 1, by omega, rfl, by simp, fun x hx => by
                    by_cases ex : x = q
                    · subst ex; omega
                    · exact HD.out x (by omega), hM⟩
              · go_wp2
                go_ret2
                exact close_yes HV.out hw1 hM HP2.out (fun x hx => HD.out x (by omega))

end Go.Proofs.Ytcklpclgiaeopaa

namespace Go.Proofs.Ytcklpclgiaeopaa
open Go Go.Abs Go.RowKit Go.FW
theorem two_vals' {vals : Array Value} {n : Int} {v : Value} (hsz : vals.size = 2) (h0 : vals.getD 0 undef = .int .i64 n) (h1 : vals.getD 1 undef = v) : vals = #[.int .i64 n, v] := by
  rw [two_vals hsz, h0, h1]

theorem pr_no {w : World} {X : XT} {v : Value} {x : AV} (h : PR w X v x) : PR w noX v x := h.mono ((Stable.refl w X).less fun b o _ hx => hx.elim)

theorem pr_tight {w : World} {X : XT} {v : Value} {sz : Nat} {xs : List AV} {t : Bool} (h : PR w X v (.lst sz xs t)) : PR w X v (.lst sz xs false) := by
  cases h with
  | lst0 a cap sz t ht => exact .lst0 a cap sz false (fun e => by cases e)
  | lst b o n cap sz t xs f hn hc ht hsz hx hr => exact .lst b o n cap sz false xs f hn hc (fun e => by cases e) hsz hx hr

theorem hand30 : CallOK Try.prog 30 (pureC hfDir) := new_ok (entered Try.func30 rfl (by decide)) (by
  intro args v h
  unfold hfDir at h
  split at h
  · rename_i n l tg
    obtain ⟨hc, h⟩ := Tr.mean_need h
    have := Tr.mean_ret h
    subst this
    intro w X vals hsz hv
    have h0 := PR.int_inv (hv 0 _ rfl)
    have h1 := hv 1 _ rfl
    obtain ⟨a, b, o, cap, e1, ha, hcell⟩ := row_diff (l := l) (tg := tg) (pr_no h1)
    have hvv := two_vals' (by simpa using hsz) h0 e1
    obtain ⟨⟨n1, n2⟩, n3, n4⟩ := valid_iff.1 (show validC n l = true from hc)
    obtain ⟨N, rfl⟩ := Int.eq_ofNat_of_zero_le (show 0 ≤ n by omega)
    rw [hvv]
    refine (direct_walk N (by omega) a b o cap l n3 ha w hcell n4).mono ?_
    rintro e w' ⟨rfl, hM⟩
    refine ⟨_, rfl, Kept.of_since hM.since, fun X' ρ ℓ hX => ?_⟩
    have hx : ∀ b o, w.heap.size ≤ b → ¬ X' b o := fun b o hb hx => by have := hX b o hx; omega
    exact .pur _ _ (hM.grid.rel (fun o => hx _ o (Nat.le_refl _)) (fun i o _ => hx _ o (by omega)) N (Nat.le_refl _) ℓ)
  · exact (Tr.mean_fail h).elim)

theorem hand13 : CallOK Try.prog 13 (pureC hfClose) := new_ok (entered Try.func13 rfl (by decide)) (by
  intro args v h
  unfold hfClose at h
  split at h
  · rename_i n l tg
    have := Tr.mean_ret h
    subst this
    intro w X vals hsz hv
    have h0 := PR.int_inv (hv 0 _ rfl)
    have h1 := pr_tight (pr_no (hv 1 _ rfl))
    have hvv := two_vals' (v := vals.getD 1 undef) (by simpa using hsz) h0 rfl
    rw [hvv]
    refine (close_walk n (vals.getD 1 undef) l w h1).mono ?_
    rintro e w' ⟨u, rfl, hs, hu⟩
    refine ⟨_, rfl, Kept.of_since hs, fun X' ρ ℓ hX => ?_⟩
    have hx : ∀ b o, w.heap.size ≤ b → ¬ X' b o := fun b o hb hx => by have := hX b o hx; omega
    have key : PR w' X' u (d1 ℓ (.row (.row (.int .i64)) (cloL n l) false)) := by
      unfold cloL
      cases hc : closeB n l
      · rw [hc] at hu
        rw [show u = .slice none 0 0 from hu]
        exact .lst0 none 0 _ false (fun e => by cases e)
      · rw [hc] at hu
        obtain ⟨B, b1, rfl, hg⟩ := hu
        exact hg.rel (fun o => hx _ o b1) (fun i o _ => hx _ o (by omega)) _ (Nat.le_refl _) ℓ
    refine .tup _ _ rfl (fun i x hi => ?_)
    match i with
    | 0 => cases hi; exact .pur _ _ key
    | 1 => cases hi; exact .pur _ _ (.bool _)
    | i + 2 => exact absurd (show (none : Option AV) = some x from hi) (by simp)
  · exact (Tr.mean_fail h).elim)

end Go.Proofs.Ytcklpclgiaeopaa

namespace Go.Proofs.Ytcklpclgiaeopaa
open Go Go.Abs
noncomputable section
abbrev Z1 : Abs.Ty := (.cons (.int .i64) (.cons (.int .i64) (.cons (.int .i64) .unit)))

abbrev Z3 : Abs.Ty := (.row (.row (.int .i64)))

abbrev Z4 : Abs.Ty := (.cons (.row (.int .i64)) (.cons (.int .i64) .unit))

abbrev Y5 : Type := (((List Int) × Int × Unit) × Unit)

abbrev Y6 : Type := ((Bool × Unit) × (Unit))

abbrev Y7 : Type := (Int × Int × Int × Unit)

abbrev Y2 : Type := (List Y7)

abbrev Y8 : Type := ((List Int) × (List Int) × Unit)

def note : FuncId → Abs.Note
  | 2 => ⟨true, [], false, fun _ => []⟩
  | 3 => ⟨true, [0, 1, 4, 5, 6, 7, 8, 9, 10, 11, 12, 13, 14, 15, 16, 17, 20, 58, 59, 60, 90, 96, 101, 157], false, fun _ => []⟩
  | 4 => ⟨true, [0, 2, 3, 4, 5, 6, 7, 8, 9, 10, 11, 12, 13, 14, 17, 34, 54, 57, 76, 81, 97, 102, 147, 175, 196], false, fun _ => []⟩
  | 5 => ⟨true, [0, 2, 3, 4, 5, 6, 7, 8, 9, 10, 11, 12, 13, 14, 17, 26, 38, 56, 116, 119, 130], false, fun | 15 => [(3, 7)] | 20 => [(6, 13), (10, 13)] | _ => []⟩
  | 6 => ⟨true, [0, 2, 3, 4, 5, 6, 7, 8, 9, 10, 12, 13, 14, 15, 16, 17, 18, 19, 20, 23, 43, 50, 51, 52, 53, 64, 105, 119, 121, 122, 123, 140], false, fun | 20 => [(2, 3), (2, 4)] | _ => []⟩
  | 7 => ⟨true, [0, 1, 2, 3, 4, 9, 10, 11, 12, 13, 14, 15, 17, 19, 20, 21, 22, 23, 24, 25, 26, 27, 28, 29, 30, 32, 45, 59, 90, 91, 92, 93, 101, 102, 103, 104, 108, 171, 205, 224, 225, 226, 227, 238, 259], false, fun | 9 => [(8, 14), (9, 14), (6, 15), (8, 15), (9, 15)] | 34 => [(3, 6), (13, 16)] | _ => []⟩
  | 8 => ⟨true, [0, 2], false, fun _ => []⟩
  | 9 => ⟨true, [0, 1, 2, 3, 4], false, fun _ => []⟩
  | 10 => ⟨true, [0, 2], false, fun _ => []⟩
  | 11 => ⟨true, [0, 1, 4, 5, 19, 40], false, fun _ => []⟩
  | 12 => ⟨true, [0, 1, 4, 5, 6, 7, 8, 9, 10, 13, 24, 53], false, fun | 11 => [(6, 13), (10, 13)] | _ => []⟩
  | 13 => ⟨true, [0, 1, 4, 5, 6, 7, 8, 9, 10, 11, 15, 19, 20, 21, 38, 39, 40, 42, 43, 44, 46, 47, 48, 67, 106, 108, 109, 110, 119], false, fun _ => []⟩
  | 14 => ⟨true, [0, 1, 4, 5, 7, 8, 9, 10, 11, 12, 13, 14, 15, 28, 37, 38, 39, 40, 41, 42, 44, 45, 46, 74, 98, 99, 100, 114], false, fun | 5 => [(1, 3)] | _ => []⟩
  | 15 => ⟨true, [0, 1, 2, 6, 7, 8, 9, 10, 11, 20, 24, 44, 48, 89, 96], false, fun _ => []⟩
  | 16 => ⟨true, [0, 1, 2, 5, 6, 20], false, fun _ => []⟩
  | 17 => ⟨true, [0, 1, 4, 5, 6, 7, 8, 9, 17, 18, 19, 20, 28], false, fun _ => []⟩
  | 18 => ⟨true, [0, 1, 3, 4, 6, 7, 8, 9, 10, 11, 12, 20, 25, 26, 27, 34, 35, 36, 37, 49], false, fun | 16 => [(2, 3)] | _ => []⟩
  | 19 => ⟨true, [0, 1, 2, 5, 6, 7, 8], false, fun _ => []⟩
  | 20 => ⟨true, [0, 1, 4, 5, 10, 12, 13, 14, 25], false, fun _ => []⟩
  | 21 => ⟨true, [0, 1, 4], false, fun _ => []⟩
  | 22 => ⟨true, [0, 1, 4, 5, 6, 7, 8, 9, 10, 11, 12, 13, 14, 18, 21, 26, 42, 98, 101, 106, 111, 131, 163, 173], false, fun _ => []⟩
  | 23 => ⟨true, [0, 1, 4, 5, 6, 7, 8, 9, 17, 20, 29], false, fun _ => []⟩
  | 24 => ⟨true, [0, 1, 2, 4, 12], false, fun _ => []⟩
  | 25 => ⟨true, [0, 1, 4, 5, 13, 17, 48], false, fun _ => []⟩
  | 26 => ⟨true, [0, 1, 4, 5, 10, 14, 25], false, fun _ => []⟩
  | 27 => ⟨true, [0, 1, 4, 6, 7, 8, 9, 10, 11, 12, 20, 27, 33, 45, 66, 73], false, fun _ => []⟩
  | 28 => ⟨true, [0, 1, 2, 6, 7, 8, 18, 21, 29, 33, 58], false, fun _ => []⟩
  | 29 => ⟨true, [0, 1, 2, 5, 6, 7, 8], false, fun _ => []⟩
  | 30 => ⟨true, [0, 1, 4, 5, 6, 7, 9, 13, 14, 15, 26, 27, 28, 38, 39, 40, 41], false, fun _ => []⟩
  | 31 => ⟨true, [0, 2, 3, 9], true, fun _ => []⟩
  | 32 => ⟨true, [0, 1, 2, 6], false, fun _ => []⟩
  | 33 => ⟨true, [0, 1, 4, 5, 9, 17], false, fun _ => []⟩
  | 34 => ⟨true, [0, 1, 4], false, fun _ => []⟩
  | 35 => ⟨true, [0, 2], true, fun _ => []⟩
  | 36 => ⟨true, [0, 1, 2, 6], false, fun _ => []⟩
  | 37 => ⟨true, [0, 1, 4], false, fun _ => []⟩
  | 38 => ⟨true, [0, 1, 2, 3], false, fun _ => []⟩
  | 39 => ⟨true, [0, 1, 2, 3, 4, 5, 6, 7, 8, 15], true, fun _ => []⟩
  | 40 => ⟨true, [0, 1, 2, 3], true, fun _ => []⟩
  | 41 => ⟨true, [0, 1, 3, 4, 9], false, fun _ => []⟩
  | 42 => ⟨true, [0, 1, 4, 5, 7, 8, 9, 16], false, fun _ => []⟩
  | 43 => ⟨true, [0, 1, 4, 5, 7, 8, 9, 16], false, fun _ => []⟩
  | _ => ⟨false, [], false, fun _ => []⟩

theorem good : Abs.Good Try.prog note := Abs.good_of (by kernel_rfl)

theorem foll : (Try.prog).follows .mixedOrders = true := by kernel_rfl

def mvtab (f : FuncId) : Bool := [].contains f

def ctab : FuncId → Option Abs.SCall := Abs.ctabOf [(13, Abs.pureC Abs.hfClose), (30, Abs.pureC Abs.hfDir)]

theorem ctab_ok : ∀ f q, ctab f = some q → Abs.CallOK Try.prog f q := Abs.ctabOf_ok _ (by
  intro p hp
  simp only [List.mem_cons, List.not_mem_nil, or_false] at hp
  rcases hp with rfl | rfl
  · exact hand13
  · exact hand30
)

/- pagewatch/pagewatchmade.Light -/
def i8 : Abs.Sg := ⟨[0], (.dat (.row (.int .i64)) .nil), .nil⟩

def o8 : Abs.Sg := ⟨[2], (.dat .bool .nil), .nil⟩

def m8 (v : (((List Int) × Unit) × (Unit))) : Option Y6 :=
some (((decide (((v.1.1.length : Int) : Int) ≤ 500)), ()), ())

def sp8 : Abs.Spec := ⟨0, i8, o8, m8⟩

def an8 : Nat → Abs.FAn
  | _ => {}

theorem ok8 : Abs.SpecOK Try.prog 8 sp8 :=
  Abs.specOC_of (C := ctab) (mv := mvtab) ctab_ok (n := 12) (an := an8) (T := Abs.tabOf []) good foll (Abs.tabOf_ok _ (fun _ h => by cases h)) rfl (by intro v; kernel_rfl)

/- 13 pagewatch/constraint.Close: not told by a law: run where it is called -/

def l17_0_6 (v : ((Int × (List (List Int)) × Int × Unit) × ((List Int) × Unit))) : Option (((Int × (List (List Int)) × Int × Unit) × ((List Int) × Unit)) ⊕ (((Bool × Unit) × ((List Int) × Unit)) ⊕ ((Unit) × ((List Int) × Unit)))) :=
bif (decide ((v.1.1 : Int) < v.1.2.2.1)) then (Abs.rowAt v.1.2.1 v.1.1 fun e31 _ =>
Abs.rowAt e31 0 fun e32 _ =>
bif ((e32 : Int) == 1099511627776) then (some (.inr (.inl ((false, ()), ([], ())))))
else (Abs.rowAt v.1.2.1 v.1.1 fun e33 _ =>
Abs.rowAt e33 0 fun e34 _ =>
bif (decide (v.2.1.length + [(w64 (0 - e34))].length ≤ 4294967296)) then
some (.inl (((w64 (v.1.1 + 1)), (v.1.2.1, (v.1.2.2.1, ()))), ((v.2.1 ++ [(w64 (0 - e34))]), ())))
else none))
else (some (.inr (.inr ((), (v.2.1, ())))))

/- pagewatch/constraint.Earliest -/
def i17 : Abs.Sg := ⟨[0, 1], (.dat (.int .i64) (.dat (.row Z1) .nil)), .nil⟩

def o17 : Abs.Sg := ⟨[4, 5], (.st (.own (.int .i64) (0, 0)) (.dat .bool .nil)), (.arr (.int .i64) false .nil)⟩

def m17 (v : ((Int × Y2 × Unit) × (Unit))) : Option ((Bool × Unit) × ((List Int) × Unit)) :=
bif (!(cloB v.1.1 v.1.2.1)) then (some ((false, ()), ([], ())))
else ((loopT l17_0_6 ((0, ((cloL v.1.1 v.1.2.1), (v.1.1, ()))), ([], ()))).bind fun d35 =>
sumE d35 (fun d36 => (some ((d36.1.1, ()), (d36.2.1, ())))) (fun d37 => (some ((true, ()), (d37.2.1, ())))))

def sp17 : Abs.Spec := ⟨0, i17, o17, m17⟩

def an17 : Nat → Abs.FAn
  | 0 => Abs.FAn.mk (fun _ => none) (fun _ => none) (fun
    | 6 => some ⟨⟨[19, 6, 8, 18], (.dat (.int .i64) (.dat Z3 (.st (.own (.int .i64) (0, 0)) (.dat (.int .i64) .nil)))), (.arr (.int .i64) false .nil)⟩, (.more .ret ⟨[4, 5], (.st (.own (.int .i64) (0, 0)) (.dat .bool .nil)), (.arr (.int .i64) false .nil)⟩ (.one (.exit 0) ⟨[8], (.st (.own (.int .i64) (0, 0)) .nil), (.arr (.int .i64) false .nil)⟩))⟩
    | _ => none) (fun _ _ => 0)
  | _ => {}

theorem ok17 : Abs.SpecOK Try.prog 17 sp17 :=
  Abs.specOC_of (C := ctab) (mv := mvtab) ctab_ok (n := 12) (an := an17) (T := Abs.tabOf []) good foll (Abs.tabOf_ok _ (fun _ h => by cases h)) rfl (by intro v; kernel_rfl)

/- pagewatch/constraint.in -/
def i36 : Abs.Sg := ⟨[0, 1, 2], (.dat (.int .i64) (.dat (.int .i64) (.dat (.int .i64) .nil))), .nil⟩

def o36 : Abs.Sg := ⟨[6], (.dat .bool .nil), .nil⟩

def m36 (v : (Y7 × (Unit))) : Option Y6 :=
((bif (decide ((v.1.1 : Int) ≥ v.1.2.1)) then (some (((decide ((v.1.1 : Int) ≤ v.1.2.2.1)), ()), ()))
else (some ((false, ()), ()))) : Option Y6).bind fun v1 =>
some ((v1.1.1, ()), ())

def sp36 : Abs.Spec := ⟨0, i36, o36, m36⟩

def an36 : Nat → Abs.FAn
  | 0 => Abs.FAn.mk (fun
    | 1 => some ⟨[6], (.dat .bool .nil), .nil⟩
    | _ => none) (fun _ => none) (fun _ => none) (fun _ _ => 0)
  | _ => {}

theorem ok36 : Abs.SpecOK Try.prog 36 sp36 :=
  Abs.specOC_of (C := ctab) (mv := mvtab) ctab_ok (n := 12) (an := an36) (T := Abs.tabOf []) good foll (Abs.tabOf_ok _ (fun _ h => by cases h)) rfl (by intro v; kernel_rfl)

/- 40 pagewatch/constraint.Valid$1: not told by a law: a closure -/

/- 43 slices.IndexFunc[[]pagewatch/api.Diff,pagewatch/api.Diff]: not told by a law: a parameter -/

/- 37 slices.ContainsFunc[[]pagewatch/api.Diff,pagewatch/api.Diff]: not told by a law: a parameter -/

def l24_2_2 (v : ((Int × Y2 × Int × Unit) × ((Int × Unit) × Unit))) : Option (((Int × Y2 × Int × Unit) × ((Int × Unit) × Unit)) ⊕ (((Int × Unit) × ((Int × Unit) × Unit)) ⊕ ((Unit) × ((Int × Unit) × Unit)))) :=
bif (decide ((v.1.1 : Int) < v.1.2.2.1)) then (Abs.rowAt v.1.2.1 v.1.1 fun e67 _ =>
(((m36 ((e67.1, (0, ((w64 (v.2.1.1 - 1)), ()))), ())).bind fun u68 =>
bif (!u68.1.1) then (some ((true, ()), ((v.2.1.1, ()), ())))
else ((m36 ((e67.2.1, (0, ((w64 (v.2.1.1 - 1)), ()))), ())).bind fun u69 =>
bif (!u69.1.1) then (some ((true, ()), ((v.2.1.1, ()), ())))
else ((m36 ((e67.2.2.1, ((-17179869184), (17179869184, ()))), ())).bind fun u70 =>
some (((!u70.1.1), ()), ((v.2.1.1, ()), ()))))) : Option ((Bool × Unit) × ((Int × Unit) × Unit))).bind fun v71 =>
bif v71.1.1 then (some (.inr (.inl ((v.1.1, ()), ((v71.2.1.1, ()), ())))))
else (some (.inl (((w64 (v.1.1 + 1)), (v.1.2.1, (v.1.2.2.1, ()))), ((v71.2.1.1, ()), ())))))
else (some (.inr (.inr ((), ((v.2.1.1, ()), ())))))

/- pagewatch/constraint.Valid -/
def i24 : Abs.Sg := ⟨[0, 1], (.dat (.int .i64) (.dat (.row Z1) .nil)), .nil⟩

def o24 : Abs.Sg := ⟨[4], (.dat .bool .nil), .nil⟩

def m24 (v : ((Int × Y2 × Unit) × (Unit))) : Option Y6 :=
(((m36 ((v.1.1, (1, (41, ()))), ())).bind fun u65 =>
bif (!u65.1.1) then (some ((true, (v.1.2.1, ())), ((v.1.1, ()), ())))
else (some (((decide (((v.1.2.1.length : Int) : Int) > 4000)), (v.1.2.1, ())), ((v.1.1, ()), ())))) : Option ((Bool × Y2 × Unit) × ((Int × Unit) × Unit))).bind fun v66 =>
bif v66.1.1 then (some ((false, ()), ()))
else ((((loopT l24_2_2 ((0, (v66.1.2.1, ((v66.1.2.1.length : Int), ()))), ((v66.2.1.1, ()), ()))).bind fun d72 =>
sumE d72 (fun d73 => (some (((decide ((d73.1.1 : Int) ≥ 0)), ()), ((d73.2.1.1, ()), ())))) (fun d74 => (some ((false, ()), ((d74.2.1.1, ()), ()))))) : Option ((Bool × Unit) × ((Int × Unit) × Unit))).bind fun v75 =>
some (((!v75.1.1), ()), ()))

def sp24 : Abs.Spec := ⟨0, i24, o24, m24⟩

def an24 : Nat → Abs.FAn
  | 0 => Abs.FAn.mk (fun
    | 1 => some ⟨[12, 2, 1], (.dat .bool (.st (.ptr (0, 0) 1 0 0) (.dat (.row Z1) .nil))), (.box 1 (.dat (.int .i64) .nil) .nil)⟩
    | _ => none) (fun _ => none) (fun _ => none) (fun
    | 3, 2 => 1
    | _, _ => 0)
  | 1 => Abs.FAn.mk (fun
    | 1 => some ⟨[4], (.dat .bool .nil), (.box 1 (.dat (.int .i64) .nil) .nil)⟩
    | _ => none) (fun _ => none) (fun _ => none) (fun
    | 1, 2 => 2
    | _, _ => 0)
  | 2 => Abs.FAn.mk (fun _ => none) (fun _ => none) (fun
    | 2 => some ⟨⟨[8, 0, 1, 7], (.dat (.int .i64) (.dat (.row Z1) (.st (.clo 40 [((0, 0), 1, 0, 0)]) (.dat (.int .i64) .nil)))), (.box 1 (.dat (.int .i64) .nil) .nil)⟩, (.more .ret ⟨[4], (.dat (.int .i64) .nil), (.box 1 (.dat (.int .i64) .nil) .nil)⟩ (.one (.exit 0) ⟨[], .nil, (.box 1 (.dat (.int .i64) .nil) .nil)⟩))⟩
    | _ => none) (fun
    | 4, 5 => 3
    | _, _ => 0)
  | 3 => Abs.FAn.mk (fun
    | 1 => some ⟨[3], (.dat .bool .nil), (.box 1 (.dat (.int .i64) .nil) .nil)⟩
    | _ => none) (fun _ => none) (fun _ => none) (fun _ _ => 0)
  | _ => {}

theorem ok24 : Abs.SpecOK Try.prog 24 sp24 :=
  Abs.specOC_of (C := ctab) (mv := mvtab) ctab_ok (n := 12) (an := an24) (T := Abs.tabOf [(36, sp36)]) good foll (Abs.tabOf_ok _ (by simp only [List.forall_mem_cons]; exact ⟨ok36, fun _ h => by cases h⟩)) rfl (by intro v; kernel_rfl)

/- 30 pagewatch/constraint.direct: not told by a law: run where it is called -/

/- warnings: store: pointer &e16.0 -/

def l14_0_13 (v : ((Int × Int × (List (List Int)) × Int × Int × Int × Int × Int × Int × Int × Unit) × Y8)) : Option (((Int × Int × (List (List Int)) × Int × Int × Int × Int × Int × Int × Int × Unit) × Y8) ⊕ (((List (List Int)) × Int × Int × Int × Int × Int × Int × Unit) × Y8)) :=
let x170 := (decide ((v.1.1 : Int) < v.1.2.2.2.2.2.2.2.2.2.1))
bif x170 then (((((Abs.rowAt v.1.2.2.1 v.1.2.1 fun e171 _ =>
Abs.rowAt e171 v.1.1 fun e172 _ =>
bif ((e172 : Int) != 1099511627776) then (bif (decide ((0 : Int) ≤ v.1.2.1 ∧ (v.1.2.1 : Int) < v.2.1.length)) then
(v.2.1[v.1.2.1.toNat]?).bind fun e173 =>
Abs.rowAt v.1.2.2.1 v.1.2.1 fun e174 _ =>
Abs.rowAt e174 v.1.1 fun e175 _ =>
bif (decide ((0 : Int) ≤ v.1.1 ∧ (v.1.1 : Int) < v.2.1.length)) then
(v.2.1[v.1.1.toNat]?).bind fun e176 =>
some (((decide (((w64 (e173 + e175)) : Int) < e176)), (v.1.2.1, (v.1.2.2.1, (v.1.2.2.2.1, (v.1.2.2.2.2.2.1, (v.1.2.2.2.2.2.2.1, (v.1.2.2.2.2.2.2.2.1, (v.1.2.2.2.2.2.2.2.2.1, (v.1.2.2.2.2.2.2.2.2.2.1, (v.1.1, (v.1.1, (v.1.2.2.2.2.1, ())))))))))))), (v.2.1, (v.2.2.1, ())))
else none
else none)
else (some ((false, (v.1.2.1, (v.1.2.2.1, (v.1.2.2.2.1, (v.1.2.2.2.2.2.1, (v.1.2.2.2.2.2.2.1, (v.1.2.2.2.2.2.2.2.1, (v.1.2.2.2.2.2.2.2.2.1, (v.1.2.2.2.2.2.2.2.2.2.1, (v.1.1, (v.1.1, (v.1.2.2.2.2.1, ())))))))))))), (v.2.1, (v.2.2.1, ()))))) : Option ((Bool × Int × (List (List Int)) × Int × Int × Int × Int × Int × Int × Int × Int × Int × Unit) × Y8)).bind fun v177 =>
bif v177.1.1 then (bif (decide ((0 : Int) ≤ v177.1.2.1 ∧ (v177.1.2.1 : Int) < v177.2.1.length)) then
(v177.2.1[v177.1.2.1.toNat]?).bind fun e178 =>
Abs.rowAt v177.1.2.2.1 v177.1.2.1 fun e179 _ =>
Abs.rowAt e179 v177.1.2.2.2.2.2.2.2.2.2.2.1 fun e180 _ =>
bif (decide ((0 : Int) ≤ v177.1.2.2.2.2.2.2.2.2.2.2.1 ∧ (v177.1.2.2.2.2.2.2.2.2.2.2.1 : Int) < v177.2.1.length)) then
bif (decide (v177.1.2.2.2.2.2.2.2.2.2.2.1.toNat < v177.2.1.length)) then
bif (decide ((0 : Int) ≤ v177.1.2.2.2.2.2.2.2.2.2.2.1 ∧ (v177.1.2.2.2.2.2.2.2.2.2.2.1 : Int) < v177.2.2.1.length)) then
bif (decide (v177.1.2.2.2.2.2.2.2.2.2.2.1.toNat < v177.2.2.1.length)) then
some ((v177.1.2.1, (v177.1.2.2.1, (v177.1.2.2.2.1, (v177.1.2.2.2.2.2.2.2.2.2.2.1, (v177.1.2.2.2.2.1, (v177.1.2.2.2.2.2.1, (v177.1.2.2.2.2.2.2.1, (v177.1.2.2.2.2.2.2.2.1, (v177.1.2.2.2.2.2.2.2.2.1, (v177.1.2.2.2.2.2.2.2.2.2.1, ())))))))))), ((v177.2.1.set v177.1.2.2.2.2.2.2.2.2.2.2.1.toNat (w64 (e178 + e180))), ((v177.2.2.1.set v177.1.2.2.2.2.2.2.2.2.2.2.1.toNat v177.1.2.1), ())))
else none
else none
else none
else none
else none)
else (some ((v177.1.2.1, (v177.1.2.2.1, (v177.1.2.2.2.1, (v177.1.2.2.2.2.2.2.2.2.2.2.2.1, (v177.1.2.2.2.2.1, (v177.1.2.2.2.2.2.1, (v177.1.2.2.2.2.2.2.1, (v177.1.2.2.2.2.2.2.2.1, (v177.1.2.2.2.2.2.2.2.2.1, (v177.1.2.2.2.2.2.2.2.2.2.1, ())))))))))), (v177.2.1, (v177.2.2.1, ()))))) : Option ((Int × (List (List Int)) × Int × Int × Int × Int × Int × Int × Int × Int × Unit) × Y8)).bind fun v181 =>
some (.inl (((w64 (v181.1.2.2.2.2.2.2.2.2.2.1 + 1)), (v181.1.1, (v181.1.2.1, (v181.1.2.2.1, (v181.1.2.2.2.1, (v181.1.2.2.2.2.1, (v181.1.2.2.2.2.2.1, (v181.1.2.2.2.2.2.2.1, (v181.1.2.2.2.2.2.2.2.1, (v181.1.2.2.2.2.2.2.2.2.1, ())))))))))), (v181.2.1, (v181.2.2.1, ())))))
else (some (.inr ((v.1.2.2.1, (v.1.2.2.2.1, (v.1.2.2.2.2.1, (v.1.2.2.2.2.2.1, (v.1.2.2.2.2.2.2.1, (v.1.2.2.2.2.2.2.2.1, (v.1.2.2.2.2.2.2.2.2.1, ()))))))), (v.2.1, (v.2.2.1, ())))))

def l14_0_10 (v : (((List (List Int)) × Int × Int × Int × Int × Int × Int × Unit) × Y8)) : Option ((((List (List Int)) × Int × Int × Int × Int × Int × Int × Unit) × Y8) ⊕ (((List (List Int)) × Int × Int × Int × Int × Unit) × Y8)) :=
bif (decide ((v.1.2.1 : Int) < v.1.2.2.2.2.2.2.1)) then ((loopT l14_0_13 ((0, (v.1.2.1, (v.1.1, (v.1.2.2.1, (v.1.2.2.2.1, (v.1.2.2.2.2.1, (v.1.2.2.2.2.2.1, (v.1.2.2.2.2.2.2.1, (v.1.2.1, (v.1.2.2.1, ())))))))))), (v.2.1, (v.2.2.1, ())))).bind fun d182 =>
some (.inl ((d182.1.1, ((w64 (d182.1.2.2.2.2.2.2.1 + 1)), (d182.1.2.1, (d182.1.2.2.1, (d182.1.2.2.2.1, (d182.1.2.2.2.2.1, (d182.1.2.2.2.2.2.1, ()))))))), (d182.2.1, (d182.2.2.1, ())))))
else (some (.inr ((v.1.1, (v.1.2.2.1, (v.1.2.2.2.1, (v.1.2.2.2.2.1, (v.1.2.2.2.2.2.1, ()))))), (v.2.1, (v.2.2.1, ())))))

def l14_0_8 (v : (((List (List Int)) × Int × Int × Int × Int × Unit) × Y8)) : Option ((((List (List Int)) × Int × Int × Int × Int × Unit) × Y8) ⊕ ((Int × Int × Unit) × ((List Int) × Unit))) :=
bif (decide ((v.1.2.2.1 : Int) < v.1.2.2.2.2.1)) then ((loopT l14_0_10 ((v.1.1, (0, (v.1.2.1, (v.1.2.2.2.1, (v.1.2.2.2.2.1, (v.1.2.2.1, (v.1.2.1, ()))))))), (v.2.1, (v.2.2.1, ())))).bind fun d183 =>
some (.inl ((d183.1.1, (d183.1.2.1, ((w64 (d183.1.2.2.2.2.1 + 1)), (d183.1.2.2.1, (d183.1.2.2.2.1, ()))))), (d183.2.1, (d183.2.2.1, ())))))
else (some (.inr ((v.1.2.2.2.1, (v.1.2.1, ())), (v.2.2.1, ()))))

def l14_0_21 (v : (Y7 × ((List Int) × Unit))) : Option ((Y7 × ((List Int) × Unit)) ⊕ ((Int × Unit) × ((List Int) × Unit))) :=
bif (decide ((v.1.1 : Int) < v.1.2.2.1)) then (bif (decide ((0 : Int) ≤ v.1.2.1 ∧ (v.1.2.1 : Int) < v.2.1.length)) then
(v.2.1[v.1.2.1.toNat]?).bind fun e185 =>
some (.inl (((w64 (v.1.1 + 1)), (e185, (v.1.2.2.1, ()))), (v.2.1, ())))
else none)
else (some (.inr ((v.1.2.1, ()), (v.2.1, ()))))

def l14_0_26 (v : ((Int × Int × Unit) × Y8)) : Option (((Int × Int × Unit) × Y8) ⊕ ((Unit) × ((List Int) × Unit))) :=
((bif ((((v.2.2.1.length : Nat) : Int) : Int) == 0) then (some ((true, (v.1.2.1, (v.1.1, ()))), (v.2.1, (v.2.2.1, ()))))
else (some ((((v.1.1 : Int) != v.1.2.1), (v.1.2.1, (v.1.1, ()))), (v.2.1, (v.2.2.1, ()))))) : Option ((Bool × Int × Int × Unit) × Y8)).bind fun v187 =>
bif v187.1.1 then (bif (decide (v187.2.2.1.length + [v187.1.2.2.1].length ≤ 4294967296)) then
bif (decide ((0 : Int) ≤ v187.1.2.2.1 ∧ (v187.1.2.2.1 : Int) < v187.2.1.length)) then
(v187.2.1[v187.1.2.2.1.toNat]?).bind fun e188 =>
some (.inl ((e188, (v187.1.2.1, ())), (v187.2.1, ((v187.2.2.1 ++ [v187.1.2.2.1]), ()))))
else none
else none)
else (some (.inr ((), (v187.2.2.1, ()))))

def l14_1_1 (v : ((Int × Int × Unit) × ((List Int) × Unit))) : Option (((Int × Int × Unit) × ((List Int) × Unit)) ⊕ ((Unit) × ((List Int) × Unit))) :=
bif (decide ((v.1.2.1 : Int) < v.1.1)) then (bif (decide ((0 : Int) ≤ v.1.1 ∧ (v.1.1 : Int) < v.2.1.length)) then
(v.2.1[v.1.1.toNat]?).bind fun e190 =>
bif (decide ((0 : Int) ≤ v.1.2.1 ∧ (v.1.2.1 : Int) < v.2.1.length)) then
(v.2.1[v.1.2.1.toNat]?).bind fun e191 =>
bif (decide ((0 : Int) ≤ v.1.2.1 ∧ (v.1.2.1 : Int) < v.2.1.length)) then
bif (decide (v.1.2.1.toNat < v.2.1.length)) then
bif (decide ((0 : Int) ≤ v.1.1 ∧ (v.1.1 : Int) < (v.2.1.set v.1.2.1.toNat e190).length)) then
bif (decide (v.1.1.toNat < (v.2.1.set v.1.2.1.toNat e190).length)) then
some (.inl (((w64 (v.1.1 - 1)), ((w64 (v.1.2.1 + 1)), ())), (((v.2.1.set v.1.2.1.toNat e190).set v.1.1.toNat e191), ())))
else none
else none
else none
else none
else none
else none)
else (some (.inr ((), (v.2.1, ()))))

/- pagewatch/constraint.Cycle -/
def i14 : Abs.Sg := ⟨[0, 1], (.dat (.int .i64) (.dat (.row Z1) .nil)), .nil⟩

def o14 : Abs.Sg := ⟨[4, 5], (.st (.own (.int .i64) (0, 0)) (.dat .bool .nil)), (.arr (.int .i64) false .nil)⟩

def m14 (v : ((Int × Y2 × Unit) × (Unit))) : Option ((Bool × Unit) × ((List Int) × Unit)) :=
((bif (cloB v.1.1 v.1.2.1) then (some ((true, (v.1.1, (v.1.2.1, ()))), ()))
else ((m24 ((v.1.1, (v.1.2.1, ())), ())).bind fun u168 =>
some (((!u168.1.1), (v.1.1, (v.1.2.1, ()))), ()))) : Option ((Bool × Int × Y2 × Unit) × (Unit))).bind fun v169 =>
bif v169.1.1 then (some ((false, ()), ([], ())))
else (bif (vldB v169.1.2.1 v169.1.2.2.1) then
bif (decide ((0 : Int) ≤ v169.1.2.1 ∧ (v169.1.2.1 : Int) ≤ v169.1.2.1 ∧ (v169.1.2.1 : Int) ≤ 4294967296)) then
bif (decide ((0 : Int) ≤ v169.1.2.1 ∧ (v169.1.2.1 : Int) ≤ v169.1.2.1 ∧ (v169.1.2.1 : Int) ≤ 4294967296)) then
(loopT l14_0_8 (((dirL v169.1.2.1 v169.1.2.2.1), (v169.1.2.1, (0, (0, ((w64 (v169.1.2.1 + 1)), ()))))), ((List.replicate v169.1.2.1.toNat (0 : Int)), ((List.replicate v169.1.2.1.toNat (0 : Int)), ())))).bind fun d184 =>
(loopT l14_0_21 ((0, (d184.1.1, (d184.1.2.1, ()))), (d184.2.1, ()))).bind fun d186 =>
(loopT l14_0_26 ((d186.1.1, (d186.1.1, ())), (d186.2.1, ([], ())))).bind fun d189 =>
(loopT l14_1_1 (((w64 (((d189.2.1.length : Nat) : Int) - 1)), (0, ())), (d189.2.1, ()))).bind fun d192 =>
bif (decide (d192.2.1.length = d189.2.1.length) && true) then
some ((true, ()), (d192.2.1, ()))
else none
else none
else none
else none)

def sp14 : Abs.Spec := ⟨0, i14, o14, m14⟩

def an14 : Nat → Abs.FAn
  | 0 => Abs.FAn.mk (fun
    | 26 => some ⟨[114, 10, 11, 15, 14], (.dat .bool (.st (.own (.int .i64) (0, 0)) (.dat (.int .i64) (.dat (.int .i64) (.st (.own (.int .i64) (1, 0)) .nil))))), (.arr (.int .i64) false (.arr (.int .i64) false .nil))⟩
    | 15 => some ⟨[74, 12, 8, 9, 10, 0, 37, 38, 40, 41, 44, 45, 13, 11], (.dat .bool (.dat (.int .i64) (.dat Z3 (.st (.own (.int .i64) (0, 0)) (.st (.own (.int .i64) (1, 0)) (.dat (.int .i64) (.dat (.int .i64) (.dat (.int .i64) (.dat (.int .i64) (.dat (.int .i64) (.dat (.int .i64) (.dat (.int .i64) (.dat (.int .i64) (.dat (.int .i64) .nil)))))))))))))), (.arr (.int .i64) false (.arr (.int .i64) false .nil))⟩
    | 2 => some ⟨[28, 0, 1], (.dat .bool (.dat (.int .i64) (.dat (.row Z1) .nil))), .nil⟩
    | _ => none) (fun
    | 17 => some (⟨[12, 8, 9, 10, 0, 11, 37, 38, 40, 41, 44, 45], (.dat (.int .i64) (.dat Z3 (.st (.own (.int .i64) (0, 0)) (.st (.own (.int .i64) (1, 0)) (.dat (.int .i64) (.dat (.int .i64) (.dat (.int .i64) (.dat (.int .i64) (.dat (.int .i64) (.dat (.int .i64) (.dat (.int .i64) (.dat (.int .i64) .nil)))))))))))), (.arr (.int .i64) false (.arr (.int .i64) false .nil))⟩, none)
    | _ => none) (fun
    | 26 => some ⟨⟨[15, 10, 14, 11], (.dat (.int .i64) (.st (.own (.int .i64) (0, 0)) (.st (.own (.int .i64) (1, 0)) (.dat (.int .i64) .nil)))), (.arr (.int .i64) false (.arr (.int .i64) false .nil))⟩, (.one (.exit 8) ⟨[14], (.st (.own (.int .i64) (0, 0)) .nil), (.arr (.int .i64) false .nil)⟩)⟩
    | 21 => some ⟨⟨[99, 11, 10, 98], (.dat (.int .i64) (.dat (.int .i64) (.st (.own (.int .i64) (0, 0)) (.dat (.int .i64) .nil)))), (.arr (.int .i64) false .nil)⟩, (.one (.exit 6) ⟨[10, 11], (.st (.own (.int .i64) (0, 0)) (.dat (.int .i64) .nil)), (.arr (.int .i64) false .nil)⟩)⟩
    | 8 => some ⟨⟨[8, 9, 10, 0, 38, 11, 37], (.dat Z3 (.st (.own (.int .i64) (0, 0)) (.st (.own (.int .i64) (1, 0)) (.dat (.int .i64) (.dat (.int .i64) (.dat (.int .i64) (.dat (.int .i64) .nil))))))), (.arr (.int .i64) false (.arr (.int .i64) false .nil))⟩, (.one (.exit 0) ⟨[11, 10, 0], (.dat (.int .i64) (.st (.own (.int .i64) (0, 0)) (.dat (.int .i64) .nil))), (.arr (.int .i64) false .nil)⟩)⟩
    | 10 => some ⟨⟨[8, 9, 10, 41, 0, 11, 37, 38, 40], (.dat Z3 (.st (.own (.int .i64) (0, 0)) (.st (.own (.int .i64) (1, 0)) (.dat (.int .i64) (.dat (.int .i64) (.dat (.int .i64) (.dat (.int .i64) (.dat (.int .i64) (.dat (.int .i64) .nil))))))))), (.arr (.int .i64) false (.arr (.int .i64) false .nil))⟩, (.one (.exit 2) ⟨[8, 9, 10, 0, 11, 37, 38], (.dat Z3 (.st (.own (.int .i64) (0, 0)) (.st (.own (.int .i64) (1, 0)) (.dat (.int .i64) (.dat (.int .i64) (.dat (.int .i64) (.dat (.int .i64) .nil))))))), (.arr (.int .i64) false (.arr (.int .i64) false .nil))⟩)⟩
    | 13 => some ⟨⟨[45, 12, 8, 9, 10, 0, 11, 37, 38, 40, 41, 44], (.dat (.int .i64) (.dat (.int .i64) (.dat Z3 (.st (.own (.int .i64) (0, 0)) (.st (.own (.int .i64) (1, 0)) (.dat (.int .i64) (.dat (.int .i64) (.dat (.int .i64) (.dat (.int .i64) (.dat (.int .i64) (.dat (.int .i64) (.dat (.int .i64) .nil)))))))))))), (.arr (.int .i64) false (.arr (.int .i64) false .nil))⟩, (.one (.exit 4) ⟨[8, 9, 10, 0, 11, 37, 38, 40, 41], (.dat Z3 (.st (.own (.int .i64) (0, 0)) (.st (.own (.int .i64) (1, 0)) (.dat (.int .i64) (.dat (.int .i64) (.dat (.int .i64) (.dat (.int .i64) (.dat (.int .i64) (.dat (.int .i64) .nil))))))))), (.arr (.int .i64) false (.arr (.int .i64) false .nil))⟩)⟩
    | _ => none) (fun
    | 29, 1 => 1
    | _, _ => 0)
  | 1 => Abs.FAn.mk (fun _ => none) (fun _ => none) (fun
    | 1 => some ⟨⟨[3, 2, 0], (.dat (.int .i64) (.dat (.int .i64) (.st (.own (.int .i64) (0, 0)) .nil))), (.arr (.int .i64) false .nil)⟩, (.one (.exit 0) ⟨[], .nil, (.arr (.int .i64) false .nil)⟩)⟩
    | _ => none) (fun _ _ => 0)
  | _ => {}

theorem ok14 : Abs.SpecOK Try.prog 14 sp14 :=
  Abs.specOC_of (C := ctab) (mv := mvtab) ctab_ok (n := 12) (an := an14) (T := Abs.tabOf [(24, sp24)]) good foll (Abs.tabOf_ok _ (by simp only [List.forall_mem_cons]; exact ⟨ok24, fun _ h => by cases h⟩)) rfl (by intro v; kernel_rfl)

def l26_0_4 (v : ((Int × (List Int) × (List Int) × Unit) × (Unit))) : Option (((Int × (List Int) × (List Int) × Unit) × (Unit)) ⊕ (Y6 ⊕ ((Unit) × (Unit)))) :=
let x29 := (decide ((v.1.1 : Int) < (v.1.2.2.1.length : Int)))
bif x29 then (Abs.rowAt v.1.2.2.1 v.1.1 fun e30 _ =>
Abs.rowAt v.1.2.1 v.1.1 fun e31 _ =>
bif ((e30 : Int) != e31) then (some (.inr (.inl ((false, ()), ()))))
else (some (.inl (((w64 (v.1.1 + 1)), (v.1.2.1, (v.1.2.2.1, ()))), ()))))
else (some (.inr (.inr ((), ()))))

/- pagewatch/pagewatchref25.Same -/
def i26 : Abs.Sg := ⟨[0, 1], (.dat (.row (.int .i64)) (.dat (.row (.int .i64)) .nil)), .nil⟩

def o26 : Abs.Sg := ⟨[4], (.dat .bool .nil), .nil⟩

def m26 (v : (Y8 × (Unit))) : Option Y6 :=
let x28 := (((v.1.1.length : Int) : Int) != (v.1.2.1.length : Int))
bif x28 then (some ((false, ()), ()))
else ((loopT l26_0_4 ((0, (v.1.2.1, (v.1.1, ()))), ())).bind fun d32 =>
sumE d32 (fun d33 => (some ((d33.1.1, ()), ()))) (fun d34 => (some ((true, ()), ()))))

def sp26 : Abs.Spec := ⟨0, i26, o26, m26⟩

def an26 : Nat → Abs.FAn
  | 0 => Abs.FAn.mk (fun _ => none) (fun _ => none) (fun
    | 4 => some ⟨⟨[5, 1, 0], (.dat (.int .i64) (.dat (.row (.int .i64)) (.dat (.row (.int .i64)) .nil))), .nil⟩, (.more .ret ⟨[4], (.dat .bool .nil), .nil⟩ (.one (.exit 0) ⟨[], .nil, .nil⟩))⟩
    | _ => none) (fun _ _ => 0)
  | _ => {}

theorem ok26 : Abs.SpecOK Try.prog 26 sp26 :=
  Abs.specOC_of (C := ctab) (mv := mvtab) ctab_ok (n := 12) (an := an26) (T := Abs.tabOf []) good foll (Abs.tabOf_ok _ (fun _ h => by cases h)) rfl (by intro v; kernel_rfl)

/- pagewatch/pagewatchlaw39.sane -/
def i9 : Abs.Sg := ⟨[], .nil, .nil⟩

def o9 : Abs.Sg := ⟨[0], (.dat .bool .nil), .nil⟩

def m9 (v : ((Unit) × (Unit))) : Option Y6 :=
(m17 ((2, (([(0, (1, (5, ()))), (1, (0, ((-3), ())))] : List Y7), ())), ())).bind fun u9 =>
(m14 ((2, (([(0, (1, (2, ()))), (1, (0, ((-3), ())))] : List Y7), ())), ())).bind fun u10 =>
((bif u9.1.1 then ((m26 ((u9.2.1, ([0, 3], ())), ())).bind fun u11 =>
bif u11.1.1 then (bif u10.1.1 then (some ((((((u10.2.1.length : Nat) : Int) : Int) == 2), ()), ()))
else (some ((false, ()), ())))
else (some ((false, ()), ())))
else (some ((false, ()), ()))) : Option Y6).bind fun v12 =>
some ((v12.1.1, ()), ())

def sp9 : Abs.Spec := ⟨0, i9, o9, m9⟩

def an9 : Nat → Abs.FAn
  | 0 => Abs.FAn.mk (fun
    | 3 => some ⟨[0], (.dat .bool .nil), .nil⟩
    | _ => none) (fun _ => none) (fun _ => none) (fun _ _ => 0)
  | _ => {}

theorem ok9 : Abs.SpecOK Try.prog 9 sp9 :=
  Abs.specOC_of (C := ctab) (mv := mvtab) ctab_ok (n := 12) (an := an9) (T := Abs.tabOf [(17, sp17), (14, sp14), (26, sp26)]) good foll (Abs.tabOf_ok _ (by simp only [List.forall_mem_cons]; exact ⟨ok17, ok14, ok26, fun _ h => by cases h⟩)) rfl (by intro v; kernel_rfl)

/- pagewatch/pagewatchmade.Roll -/
def i10 : Abs.Sg := ⟨[0], (.dat (.row (.int .i64)) .nil), .nil⟩

def o10 : Abs.Sg := ⟨[2], (.st (.ptr (0, 0) 2 0 0) .nil), (.box 2 (.dat Z4 .nil) .nil)⟩

def m10 (v : (((List Int) × Unit) × (Unit))) : Option ((Unit) × (Y5 × Unit)) :=
some ((), (((v.1.1, (0, ())), ()), ()))

def sp10 : Abs.Spec := ⟨0, i10, o10, m10⟩

def an10 : Nat → Abs.FAn
  | _ => {}

theorem ok10 : Abs.SpecOK Try.prog 10 sp10 :=
  Abs.specOC_of (C := ctab) (mv := mvtab) ctab_ok (n := 12) (an := an10) (T := Abs.tabOf []) good foll (Abs.tabOf_ok _ (fun _ h => by cases h)) rfl (by intro v; kernel_rfl)

/- (*pagewatch/pagewatchmade.Dice).Next -/
def i11 : Abs.Sg := ⟨[0, 1], (.st (.ptr (0, 0) 2 0 0) (.dat (.int .i64) .nil)), (.box 2 (.dat Z4 .nil) .nil)⟩

def o11 : Abs.Sg := ⟨[4], (.dat (.int .i64) .nil), (.box 2 (.dat Z4 .nil) .nil)⟩

def m11 (v : ((Int × Unit) × (Y5 × Unit))) : Option ((Int × Unit) × (Y5 × Unit)) :=
((let x15 := (decide ((v.2.1.1.2.1 : Int) ≥ (v.2.1.1.1.length : Int)))
bif x15 then (some ((true, (v.1.1, ())), ((v.2.1.1, ()), ())))
else (some (((decide ((v.1.1 : Int) < 1)), (v.1.1, ())), ((v.2.1.1, ()), ())))) : Option ((Bool × Int × Unit) × (Y5 × Unit))).bind fun v16 =>
bif v16.1.1 then (some ((0, ()), ((v16.2.1.1, ()), ())))
else (Abs.rowAt v16.2.1.1.1 v16.2.1.1.2.1 fun e17 _ =>
bif (decide (v16.1.2.1 ≠ (0 : Int))) then
((let x18 := (decide ((((e17 : Int).tmod v16.1.2.1) : Int) < 0))
bif x18 then (some (((w64 (((e17 : Int).tmod v16.1.2.1) + v16.1.2.1)), ()), (((v16.2.1.1.1, ((w64 (v16.2.1.1.2.1 + 1)), ())), ()), ())))
else (some ((((e17 : Int).tmod v16.1.2.1), ()), (((v16.2.1.1.1, ((w64 (v16.2.1.1.2.1 + 1)), ())), ()), ())))) : Option ((Int × Unit) × (Y5 × Unit))).bind fun v19 =>
some ((v19.1.1, ()), ((v19.2.1.1, ()), ()))
else none)

def sp11 : Abs.Spec := ⟨1, i11, o11, m11⟩

def an11 : Nat → Abs.FAn
  | 0 => Abs.FAn.mk (fun
    | 1 => some ⟨[19, 1, 0], (.dat .bool (.dat (.int .i64) (.st (.ptr (0, 0) 2 0 0) .nil))), (.box 2 (.dat Z4 .nil) .nil)⟩
    | _ => none) (fun
    | 7 => some (⟨[5], (.dat (.int .i64) .nil), (.box 2 (.dat Z4 .nil) .nil)⟩, none)
    | _ => none) (fun _ => none) (fun _ _ => 0)
  | _ => {}

theorem ok11 : Abs.SpecOK Try.prog 11 sp11 :=
  Abs.specOC_of (C := ctab) (mv := mvtab) ctab_ok (n := 12) (an := an11) (T := Abs.tabOf []) good foll (Abs.tabOf_ok _ (fun _ h => by cases h)) rfl (by intro v; kernel_rfl)

def l12_0_3 (v : ((Int × Int × Unit) × (Y5 × (List Int) × Unit))) : Option (((Int × Int × Unit) × (Y5 × (List Int) × Unit)) ⊕ ((Int × Unit) × (Y5 × (List Int) × Unit))) :=
bif (decide ((v.1.1 : Int) < v.1.2.1)) then ((m11 ((40, ()), ((v.2.1.1, ()), ()))).bind fun u65 =>
bif (decide (v.2.2.1.length + [u65.1.1].length ≤ 4294967296)) then
some (.inl (((w64 (v.1.1 + 1)), (v.1.2.1, ())), ((u65.2.1.1, ()), ((v.2.2.1 ++ [u65.1.1]), ()))))
else none)
else (some (.inr ((v.1.2.1, ()), ((v.2.1.1, ()), (v.2.2.1, ())))))

def l12_0_8 (v : ((Int × Int × Unit) × (Y5 × (List Int) × Y2 × Unit))) : Option (((Int × Int × Unit) × (Y5 × (List Int) × Y2 × Unit)) ⊕ ((Int × Unit) × (Y5 × Y2 × Unit))) :=
bif (decide ((v.1.1 : Int) > 0)) then ((m11 ((v.1.2.1, ()), ((v.2.1.1, ()), ()))).bind fun u68 =>
(m11 ((v.1.2.1, ()), ((u68.2.1.1, ()), ()))).bind fun u69 =>
bif (decide ((0 : Int) ≤ u69.1.1 ∧ (u69.1.1 : Int) < v.2.2.1.length)) then
(v.2.2.1[u69.1.1.toNat]?).bind fun e70 =>
bif (decide ((0 : Int) ≤ u68.1.1 ∧ (u68.1.1 : Int) < v.2.2.1.length)) then
(v.2.2.1[u68.1.1.toNat]?).bind fun e71 =>
(m11 ((6, ()), ((u69.2.1.1, ()), ()))).bind fun u72 =>
bif (decide (v.2.2.2.1.length + ([(u68.1.1, (u69.1.1, ((w64 ((w64 (e70 - e71)) + u72.1.1)), ())))] : List Y7).length ≤ 4294967296)) then
let x73 := (v.2.2.2.1 ++ ([(u68.1.1, (u69.1.1, ((w64 ((w64 (e70 - e71)) + u72.1.1)), ())))] : List Y7))
some (.inl (((w64 (v.1.1 - 1)), (v.1.2.1, ())), ((u72.2.1.1, ()), (v.2.2.1, (x73, ())))))
else none
else none
else none)
else (some (.inr ((v.1.2.1, ()), ((v.2.1.1, ()), (v.2.2.2.1, ())))))

/- (*pagewatch/pagewatchmade.Dice).Diffs -/
def i12 : Abs.Sg := ⟨[0, 1], (.st (.ptr (0, 0) 2 0 0) (.dat (.int .i64) .nil)), (.box 2 (.dat Z4 .nil) .nil)⟩

def o12 : Abs.Sg := ⟨[4], (.st (.own Z1 (1, 0)) .nil), (.box 2 (.dat Z4 .nil) (.arr Z1 false .nil))⟩

def m12 (v : ((Int × Unit) × (Y5 × Unit))) : Option ((Unit) × (Y5 × Y2 × Unit)) :=
(loopT l12_0_3 ((0, (v.1.1, ())), ((v.2.1.1, ()), ([], ())))).bind fun d66 =>
(m11 ((14, ()), ((d66.2.1.1, ()), ()))).bind fun u67 =>
(loopT l12_0_8 ((u67.1.1, (d66.1.1, ())), ((u67.2.1.1, ()), (d66.2.2.1, ([], ()))))).bind fun d74 =>
(((m11 ((4, ()), ((d74.2.1.1, ()), ()))).bind fun u75 =>
bif ((u75.1.1 : Int) == 0) then ((m11 ((d74.1.1, ()), ((u75.2.1.1, ()), ()))).bind fun u76 =>
(m11 ((d74.1.1, ()), ((u76.2.1.1, ()), ()))).bind fun u77 =>
(m11 ((20, ()), ((u77.2.1.1, ()), ()))).bind fun u78 =>
bif (decide (d74.2.2.1.length + ([(u76.1.1, (u77.1.1, ((w64 (u78.1.1 - 15)), ())))] : List Y7).length ≤ 4294967296)) then
let x79 := (d74.2.2.1 ++ ([(u76.1.1, (u77.1.1, ((w64 (u78.1.1 - 15)), ())))] : List Y7))
some ((), ((u78.2.1.1, ()), (x79, ())))
else none)
else (some ((), ((u75.2.1.1, ()), (d74.2.2.1, ()))))) : Option ((Unit) × (Y5 × Y2 × Unit))).bind fun v80 =>
some ((), ((v80.2.1.1, ()), (v80.2.2.1, ())))

def sp12 : Abs.Spec := ⟨1, i12, o12, m12⟩

def an12 : Nat → Abs.FAn
  | 0 => Abs.FAn.mk (fun _ => none) (fun
    | 14 => some (⟨[7], (.st (.own Z1 (1, 0)) .nil), (.box 2 (.dat Z4 .nil) (.arr Z1 false .nil))⟩, none)
    | _ => none) (fun
    | 8 => some ⟨⟨[8, 0, 5, 7, 1], (.dat (.int .i64) (.st (.ptr (0, 0) 2 0 0) (.st (.own (.int .i64) (1, 0)) (.st (.own Z1 (2, 0)) (.dat (.int .i64) .nil))))), (.box 2 (.dat Z4 .nil) (.arr (.int .i64) false (.arr Z1 false .nil)))⟩, (.one (.exit 2) ⟨[0, 1, 7], (.st (.ptr (0, 0) 2 0 0) (.dat (.int .i64) (.st (.own Z1 (1, 0)) .nil))), (.box 2 (.dat Z4 .nil) (.arr Z1 false .nil))⟩)⟩
    | 3 => some ⟨⟨[6, 0, 5, 1], (.dat (.int .i64) (.st (.ptr (0, 0) 2 0 0) (.st (.own (.int .i64) (1, 0)) (.dat (.int .i64) .nil)))), (.box 2 (.dat Z4 .nil) (.arr (.int .i64) false .nil))⟩, (.one (.exit 0) ⟨[0, 5, 1], (.st (.ptr (0, 0) 2 0 0) (.st (.own (.int .i64) (1, 0)) (.dat (.int .i64) .nil))), (.box 2 (.dat Z4 .nil) (.arr (.int .i64) false .nil))⟩)⟩
    | _ => none) (fun _ _ => 0)
  | _ => {}

theorem ok12 : Abs.SpecOK Try.prog 12 sp12 :=
  Abs.specOC_of (C := ctab) (mv := mvtab) ctab_ok (n := 12) (an := an12) (T := Abs.tabOf [(11, sp11)]) good foll (Abs.tabOf_ok _ (by simp only [List.forall_mem_cons]; exact ⟨ok11, fun _ h => by cases h⟩)) rfl (by intro v; kernel_rfl)

def o3 : Abs.Sg := ⟨[4], (.dat .bool .nil), .nil⟩

/- 42 slices.IndexFunc[[]int,int]: not told by a law: a parameter -/

/- 34 slices.ContainsFunc[[]int,int]: not told by a law: a parameter -/

/- 38 pagewatch/constraint.Fits$2: not told by a law: a closure -/

def o4 : Abs.Sg := ⟨[2], (.dat .bool .nil), .nil⟩

/- 39 pagewatch/constraint.Needed$1: not told by a law: a closure -/

/- pagewatch/constraint.Implied -/
def i19 : Abs.Sg := ⟨[0, 1, 2], (.dat (.int .i64) (.dat (.row Z1) (.dat Z1 .nil))), .nil⟩

def o19 : Abs.Sg := ⟨[6], (.dat .bool .nil), .nil⟩

def m19 (v : ((Int × Y2 × Y7 × Unit) × (Unit))) : Option Y6 :=
((bif (cloB v.1.1 v.1.2.1) then ((m36 ((v.1.2.2.1.1, (0, ((w64 (v.1.1 - 1)), ()))), ())).bind fun u13 =>
bif u13.1.1 then ((m36 ((v.1.2.2.1.2.1, (0, ((w64 (v.1.1 - 1)), ()))), ())).bind fun u14 =>
bif u14.1.1 then (Abs.rowAt (cloL v.1.1 v.1.2.1) v.1.2.2.1.1 fun e15 _ =>
Abs.rowAt e15 v.1.2.2.1.2.1 fun e16 _ =>
bif ((e16 : Int) != 1099511627776) then (Abs.rowAt (cloL v.1.1 v.1.2.1) v.1.2.2.1.1 fun e17 _ =>
Abs.rowAt e17 v.1.2.2.1.2.1 fun e18 _ =>
some (((decide ((v.1.2.2.1.2.2.1 : Int) ≥ e18)), ()), ()))
else (some ((false, ()), ())))
else (some ((false, ()), ())))
else (some ((false, ()), ())))
else (some ((false, ()), ()))) : Option Y6).bind fun v19 =>
some ((v19.1.1, ()), ())

def sp19 : Abs.Spec := ⟨0, i19, o19, m19⟩

def an19 : Nat → Abs.FAn
  | 0 => Abs.FAn.mk (fun
    | 2 => some ⟨[6], (.dat .bool .nil), .nil⟩
    | _ => none) (fun _ => none) (fun _ => none) (fun _ _ => 0)
  | _ => {}

theorem ok19 : Abs.SpecOK Try.prog 19 sp19 :=
  Abs.specOC_of (C := ctab) (mv := mvtab) ctab_ok (n := 12) (an := an19) (T := Abs.tabOf [(36, sp36)]) good foll (Abs.tabOf_ok _ (by simp only [List.forall_mem_cons]; exact ⟨ok36, fun _ h => by cases h⟩)) rfl (by intro v; kernel_rfl)

def l18_0_6 (v : (Y7 × ((Unit) × (Y2 × Unit) × (List Bool) × Unit))) : Option ((Y7 × ((Unit) × (Y2 × Unit) × (List Bool) × Unit)) ⊕ ((Int × Unit) × ((Unit) × (Y2 × Unit) × (List Bool) × Unit))) :=
bif (decide ((v.1.1 : Int) < v.1.2.2.1)) then (bif (decide ((0 : Int) ≤ v.1.1 ∧ (v.1.1 : Int) < v.2.2.2.1.length)) then
bif (decide (v.1.1.toNat < v.2.2.2.1.length)) then
some (.inl (((w64 (v.1.1 + 1)), (v.1.2.1, (v.1.2.2.1, ()))), ((), ((v.2.2.1.1, ()), ((v.2.2.2.1.set v.1.1.toNat true), ())))))
else none
else none)
else (some (.inr ((v.1.2.1, ()), ((), ((v.2.2.1.1, ()), (v.2.2.2.1, ()))))))

def l18_1_2 (v : ((Int × Y2 × Int × Unit) × ((Y2 × Unit) × (Unit) × (List Bool) × Y2 × Unit))) : Option (((Int × Y2 × Int × Unit) × ((Y2 × Unit) × (Unit) × (List Bool) × Y2 × Unit)) ⊕ ((Unit) × ((Y2 × Unit) × (Unit) × (List Bool) × Y2 × Unit))) :=
bif (decide ((v.1.1 : Int) < v.1.2.2.1)) then (((Abs.rowAt v.1.2.1 v.1.1 fun e71 _ =>
bif (decide ((0 : Int) ≤ v.1.1 ∧ (v.1.1 : Int) < v.2.2.2.1.length)) then
(v.2.2.2.1[v.1.1.toNat]?).bind fun e72 =>
bif e72 then (bif (decide (v.2.2.2.2.1.length + ([e71] : List Y7).length ≤ 4294967296)) then
let x73 := (v.2.2.2.2.1 ++ ([e71] : List Y7))
some ((v.1.2.1, (v.1.2.2.1, (v.1.1, ()))), ((v.2.1.1, ()), ((), (v.2.2.2.1, (x73, ())))))
else none)
else (some ((v.1.2.1, (v.1.2.2.1, (v.1.1, ()))), ((v.2.1.1, ()), ((), (v.2.2.2.1, (v.2.2.2.2.1, ()))))))
else none) : Option ((Y2 × Int × Int × Unit) × ((Y2 × Unit) × (Unit) × (List Bool) × Y2 × Unit))).bind fun v74 =>
some (.inl (((w64 (v74.1.2.2.1 + 1)), (v74.1.1, (v74.1.2.1, ()))), ((v74.2.1.1, ()), ((), (v74.2.2.2.1, (v74.2.2.2.2.1, ())))))))
else (some (.inr ((), ((v.2.1.1, ()), ((), (v.2.2.2.1, (v.2.2.2.2.1, ())))))))

def l18_0_13 (v : ((Int × Int × Y2 × Int × Unit) × ((List Int) × (Unit) × (Y2 × Unit) × (List Bool) × Unit))) : Option (((Int × Int × Y2 × Int × Unit) × ((List Int) × (Unit) × (Y2 × Unit) × (List Bool) × Unit)) ⊕ ((Unit) × ((List Int) × Unit))) :=
bif (decide ((v.1.1 : Int) < v.1.2.2.2.1)) then (((Abs.rowAt v.1.2.2.1 v.1.1 fun e70 _ =>
bif (decide ((0 : Int) ≤ v.1.1 ∧ (v.1.1 : Int) < v.2.2.2.2.1.length)) then
bif (decide (v.1.1.toNat < v.2.2.2.2.1.length)) then
(loopT l18_1_2 ((0, (v.2.2.2.1.1, ((v.2.2.2.1.1.length : Int), ()))), ((v.2.2.2.1.1, ()), ((), ((v.2.2.2.2.1.set v.1.1.toNat false), ([], ())))))).bind fun d75 =>
bif (decide (d75.2.2.2.1.length = (v.2.2.2.2.1.set v.1.1.toNat false).length) && true) then
(m19 ((v.1.2.1, (d75.2.2.2.2.1, (e70, ()))), ())).bind fun u76 =>
bif (!u76.1.1) then (bif (decide ((0 : Int) ≤ v.1.1 ∧ (v.1.1 : Int) < d75.2.2.2.1.length)) then
bif (decide (v.1.1.toNat < d75.2.2.2.1.length)) then
bif (decide (v.2.1.length + [v.1.1].length ≤ 4294967296)) then
some ((v.1.2.1, (v.1.2.2.1, (v.1.2.2.2.1, (v.1.1, ())))), ((v.2.1 ++ [v.1.1]), ((), ((d75.2.1.1, ()), ((d75.2.2.2.1.set v.1.1.toNat true), ())))))
else none
else none
else none)
else (some ((v.1.2.1, (v.1.2.2.1, (v.1.2.2.2.1, (v.1.1, ())))), (v.2.1, ((), ((d75.2.1.1, ()), (d75.2.2.2.1, ()))))))
else none
else none
else none) : Option ((Int × Y2 × Int × Int × Unit) × ((List Int) × (Unit) × (Y2 × Unit) × (List Bool) × Unit))).bind fun v77 =>
some (.inl (((w64 (v77.1.2.2.2.1 + 1)), (v77.1.1, (v77.1.2.1, (v77.1.2.2.1, ())))), (v77.2.1, ((), ((v77.2.2.2.1.1, ()), (v77.2.2.2.2.1, ())))))))
else (some (.inr ((), (v.2.1, ()))))

/- pagewatch/constraint.Needed -/
def i18 : Abs.Sg := ⟨[0, 1], (.dat (.int .i64) (.dat (.row Z1) .nil)), .nil⟩

def o18 : Abs.Sg := ⟨[4], (.st (.own (.int .i64) (0, 0)) .nil), (.arr (.int .i64) false .nil)⟩

def m18 (v : ((Int × Y2 × Unit) × (Unit))) : Option ((Unit) × ((List Int) × Unit)) :=
bif (!(cloB v.1.1 v.1.2.1)) then (some ((), ([], ())))
else (bif (decide ((0 : Int) ≤ (v.1.2.1.length : Int) ∧ ((v.1.2.1.length : Int) : Int) ≤ (v.1.2.1.length : Int) ∧ ((v.1.2.1.length : Int) : Int) ≤ 4294967296)) then
(loopT l18_0_6 ((0, (v.1.1, ((((List.replicate (v.1.2.1.length : Int).toNat (false : Bool)).length : Nat) : Int), ()))), ((), ((v.1.2.1, ()), ((List.replicate (v.1.2.1.length : Int).toNat (false : Bool)), ()))))).bind fun d69 =>
(loopT l18_0_13 ((0, (d69.1.1, (d69.2.2.1.1, ((d69.2.2.1.1.length : Int), ())))), ([], ((), ((d69.2.2.1.1, ()), (d69.2.2.2.1, ())))))).bind fun d78 =>
some ((), (d78.2.1, ()))
else none)

def sp18 : Abs.Spec := ⟨0, i18, o18, m18⟩

def an18 : Nat → Abs.FAn
  | 0 => Abs.FAn.mk (fun _ => none) (fun
    | 19 => some (⟨[10, 7, 9, 0, 34, 35, 36], (.st (.own (.int .i64) (0, 0)) (.st (.ptr (1, 0) 1 0 0) (.st (.clo 39 [((2, 0), 1, 0, 0), ((1, 0), 1, 0, 0)]) (.dat (.int .i64) (.dat (.row Z1) (.dat (.int .i64) (.dat (.int .i64) .nil))))))), (.arr (.int .i64) false (.box 1 (.st (.own .bool (3, 0)) .nil) (.box 1 (.dat (.row Z1) .nil) (.arr .bool false .nil))))⟩, none)
    | _ => none) (fun
    | 13 => some ⟨⟨[36, 10, 7, 9, 0, 34, 35], (.dat (.int .i64) (.st (.own (.int .i64) (0, 0)) (.st (.ptr (1, 0) 1 0 0) (.st (.clo 39 [((2, 0), 1, 0, 0), ((1, 0), 1, 0, 0)]) (.dat (.int .i64) (.dat (.row Z1) (.dat (.int .i64) .nil))))))), (.arr (.int .i64) false (.box 1 (.st (.own .bool (3, 0)) .nil) (.box 1 (.dat (.row Z1) .nil) (.arr .bool false .nil))))⟩, (.one (.exit 2) ⟨[10], (.st (.own (.int .i64) (0, 0)) .nil), (.arr (.int .i64) false .nil)⟩)⟩
    | 6 => some ⟨⟨[26, 7, 0, 3, 25], (.dat (.int .i64) (.st (.ptr (0, 0) 1 0 0) (.dat (.int .i64) (.st (.ptr (1, 0) 1 0 0) (.dat (.int .i64) .nil))))), (.box 1 (.st (.own .bool (2, 0)) .nil) (.box 1 (.dat (.row Z1) .nil) (.arr .bool false .nil)))⟩, (.one (.exit 0) ⟨[7, 0, 3], (.st (.ptr (0, 0) 1 0 0) (.dat (.int .i64) (.st (.ptr (1, 0) 1 0 0) .nil))), (.box 1 (.st (.own .bool (2, 0)) .nil) (.box 1 (.dat (.row Z1) .nil) (.arr .bool false .nil)))⟩)⟩
    | _ => none) (fun
    | 16, 2 => 1
    | _, _ => 0)
  | 1 => Abs.FAn.mk (fun _ => none) (fun
    | 6 => some (⟨[2, 1, 5, 6, 7], (.st (.own Z1 (3, 0)) (.st (.ptr (1, 0) 1 0 0) (.dat (.row Z1) (.dat (.int .i64) (.dat (.int .i64) .nil))))), (.box 1 (.dat (.row Z1) .nil) (.box 1 (.st (.own .bool (2, 0)) .nil) (.arr .bool false (.arr Z1 false .nil))))⟩, none)
    | _ => none) (fun
    | 2 => some ⟨⟨[7, 2, 1, 5, 6], (.dat (.int .i64) (.st (.own Z1 (3, 0)) (.st (.ptr (1, 0) 1 0 0) (.dat (.row Z1) (.dat (.int .i64) .nil))))), (.box 1 (.dat (.row Z1) .nil) (.box 1 (.st (.own .bool (2, 0)) .nil) (.arr .bool false (.arr Z1 false .nil))))⟩, (.one (.exit 0) ⟨[2], (.st (.own Z1 (3, 0)) .nil), (.box 1 (.dat (.row Z1) .nil) (.box 1 (.st (.own .bool (2, 0)) .nil) (.arr .bool false (.arr Z1 false .nil))))⟩)⟩
    | _ => none) (fun _ _ => 0)
  | _ => {}

theorem ok18 : Abs.SpecOK Try.prog 18 sp18 :=
  Abs.specOC_of (C := ctab) (mv := mvtab) ctab_ok (n := 12) (an := an18) (T := Abs.tabOf [(19, sp19)]) good foll (Abs.tabOf_ok _ (by simp only [List.forall_mem_cons]; exact ⟨ok19, fun _ h => by cases h⟩)) rfl (by intro v; kernel_rfl)

def l20_0_4 (v : ((Int × (List (List Int)) × (List (List Int)) × Int × Unit) × (Unit))) : Option (((Int × (List (List Int)) × (List (List Int)) × Int × Unit) × (Unit)) ⊕ (Y6 ⊕ ((Unit) × (Unit)))) :=
bif (decide ((v.1.1 : Int) < v.1.2.2.2.1)) then (Abs.rowAt v.1.2.2.1 v.1.1 fun e30 _ =>
Abs.rowAt v.1.2.1 v.1.1 fun e31 _ =>
(m26 ((e30, (e31, ())), ())).bind fun u32 =>
bif (!u32.1.1) then (some (.inr (.inl ((false, ()), ()))))
else (some (.inl (((w64 (v.1.1 + 1)), (v.1.2.1, (v.1.2.2.1, (v.1.2.2.2.1, ())))), ()))))
else (some (.inr (.inr ((), ()))))

/- pagewatch/pagewatchlaw39.same -/
def i20 : Abs.Sg := ⟨[0, 1], (.dat Z3 (.dat Z3 .nil)), .nil⟩

def o20 : Abs.Sg := ⟨[4], (.dat .bool .nil), .nil⟩

def m20 (v : (((List (List Int)) × (List (List Int)) × Unit) × (Unit))) : Option Y6 :=
let x29 := (((v.1.1.length : Int) : Int) != (v.1.2.1.length : Int))
bif x29 then (some ((false, ()), ()))
else ((loopT l20_0_4 ((0, (v.1.2.1, (v.1.1, ((v.1.1.length : Int), ())))), ())).bind fun d33 =>
sumE d33 (fun d34 => (some ((d34.1.1, ()), ()))) (fun d35 => (some ((true, ()), ()))))

def sp20 : Abs.Spec := ⟨0, i20, o20, m20⟩

def an20 : Nat → Abs.FAn
  | 0 => Abs.FAn.mk (fun _ => none) (fun _ => none) (fun
    | 4 => some ⟨⟨[13, 1, 0, 12], (.dat (.int .i64) (.dat Z3 (.dat Z3 (.dat (.int .i64) .nil)))), .nil⟩, (.more .ret ⟨[4], (.dat .bool .nil), .nil⟩ (.one (.exit 0) ⟨[], .nil, .nil⟩))⟩
    | _ => none) (fun _ _ => 0)
  | _ => {}

theorem ok20 : Abs.SpecOK Try.prog 20 sp20 :=
  Abs.specOC_of (C := ctab) (mv := mvtab) ctab_ok (n := 12) (an := an20) (T := Abs.tabOf [(26, sp26)]) good foll (Abs.tabOf_ok _ (by simp only [List.forall_mem_cons]; exact ⟨ok26, fun _ h => by cases h⟩)) rfl (by intro v; kernel_rfl)

def l6_0_13 (v : ((Int × Int × Int × (List (List Int)) × Int × Unit) × (Y2 × Y2 × (List Int) × Y5 × Unit))) : Option (((Int × Int × Int × (List (List Int)) × Int × Unit) × (Y2 × Y2 × (List Int) × Y5 × Unit)) ⊕ (Y6 ⊕ ((Int × (List (List Int)) × Unit) × (Y2 × Y2 × Y5 × Unit)))) :=
bif (decide ((v.1.1 : Int) < v.1.2.2.2.2.1)) then (bif (decide ((0 : Int) ≤ v.1.1 ∧ (v.1.1 : Int) < v.2.2.2.1.length)) then
(v.2.2.2.1[v.1.1.toNat]?).bind fun e125 =>
((bif (decide ((e125 : Int) ≤ v.1.2.1)) then (some ((true, (v.1.2.2.1, (v.1.2.2.2.1, (v.1.2.2.2.2.1, (v.1.1, (e125, ())))))), (v.2.1, (v.2.2.2.1, ((v.2.2.2.2.1.1, ()), (v.2.2.1, ()))))))
else (let x126 := (decide ((e125 : Int) ≥ ((v.2.1.length : Nat) : Int)))
some ((x126, (v.1.2.2.1, (v.1.2.2.2.1, (v.1.2.2.2.2.1, (v.1.1, (e125, ())))))), (v.2.1, (v.2.2.2.1, ((v.2.2.2.2.1.1, ()), (v.2.2.1, ()))))))) : Option ((Bool × Int × (List (List Int)) × Int × Int × Int × Unit) × (Y2 × (List Int) × Y5 × Y2 × Unit))).bind fun v127 =>
bif v127.1.1 then (some (.inr (.inl ((false, ()), ()))))
else (bif (decide ((0 : Int) ≤ v127.1.2.2.2.2.2.1 ∧ (v127.1.2.2.2.2.2.1 : Int) < v127.2.1.length)) then
(v127.2.1[v127.1.2.2.2.2.2.1.toNat]?).bind fun e128 =>
bif (decide (v127.2.2.2.2.1.length + ([e128] : List Y7).length ≤ 4294967296)) then
let x129 := (v127.2.2.2.2.1 ++ ([e128] : List Y7))
some (.inl (((w64 (v127.1.2.2.2.2.1 + 1)), (v127.1.2.2.2.2.2.1, (v127.1.2.1, (v127.1.2.2.1, (v127.1.2.2.2.1, ()))))), (v127.2.1, (x129, (v127.2.2.1, ((v127.2.2.2.1.1, ()), ()))))))
else none
else none)
else none)
else (some (.inr (.inr ((v.1.2.2.1, (v.1.2.2.2.1, ())), (v.2.2.1, (v.2.1, ((v.2.2.2.2.1.1, ()), ())))))))

def l6_0_28 (v : (Y7 × (Y2 × Unit))) : Option ((Y7 × (Y2 × Unit)) ⊕ (Y6 ⊕ ((Unit) × (Unit)))) :=
bif (decide ((v.1.1 : Int) < v.1.2.2.1)) then (bif (decide ((0 : Int) ≤ v.1.1)) then
bif (decide (0 ≤ v.1.1.toNat ∧ v.1.1.toNat ≤ v.2.1.length)) then
bif (decide (0 + v.1.1.toNat ≤ v.2.1.length)) then
bif (decide (0 + ((v.2.1.drop 0).take v.1.1.toNat).length ≤ 4294967296)) then
bif (decide ((0 : Int) ≤ (w64 (v.1.1 + 1)))) then
bif (decide ((w64 (v.1.1 + 1)).toNat ≤ v.2.1.length ∧ v.2.1.length ≤ v.2.1.length)) then
bif (decide ((w64 (v.1.1 + 1)).toNat + (v.2.1.length - (w64 (v.1.1 + 1)).toNat) ≤ v.2.1.length)) then
bif (decide (((v.2.1.drop 0).take v.1.1.toNat).length + ((v.2.1.drop (w64 (v.1.1 + 1)).toNat).take (v.2.1.length - (w64 (v.1.1 + 1)).toNat)).length ≤ 4294967296)) then
let x142 := (((v.2.1.drop 0).take v.1.1.toNat) ++ ((v.2.1.drop (w64 (v.1.1 + 1)).toNat).take (v.2.1.length - (w64 (v.1.1 + 1)).toNat)))
bif (decide ((0 : Int) ≤ v.1.1 ∧ (v.1.1 : Int) < v.2.1.length)) then
(v.2.1[v.1.1.toNat]?).bind fun e143 =>
(m19 ((v.1.2.1, (x142, (e143, ()))), ())).bind fun u144 =>
bif u144.1.1 then (some (.inr (.inl ((false, ()), ()))))
else (some (.inl (((w64 (v.1.1 + 1)), (v.1.2.1, (v.1.2.2.1, ()))), (v.2.1, ()))))
else none
else none
else none
else none
else none
else none
else none
else none
else none)
else (some (.inr (.inr ((), ()))))

/- pagewatch/pagewatchlaw39.ConstraintImplied -/
def i6 : Abs.Sg := ⟨[0], (.dat (.row (.int .i64)) .nil), .nil⟩

def o6 : Abs.Sg := ⟨[2], (.dat .bool .nil), .nil⟩

def m6 (v : (((List Int) × Unit) × (Unit))) : Option Y6 :=
(m8 ((v.1.1, ()), ())).bind fun u117 =>
bif (!u117.1.1) then ((m9 ((), ())).bind fun u118 =>
some ((u118.1.1, ()), ()))
else ((m10 ((v.1.1, ()), ())).bind fun u119 =>
(m11 ((6, ()), ((u119.2.1.1, ()), ()))).bind fun u120 =>
(m12 (((w64 (1 + u120.1.1)), ()), ((u120.2.1.1, ()), ()))).bind fun u121 =>
(m18 (((w64 (1 + u120.1.1)), (u121.2.2.1, ())), ())).bind fun u122 =>
bif (!(cloB (w64 (1 + u120.1.1)) u121.2.2.1)) then (((bif ((((u122.2.1.length : Nat) : Int) : Int) == 0) then ((m9 ((), ())).bind fun u123 =>
some ((u123.1.1, ()), ()))
else (some ((false, ()), ()))) : Option Y6).bind fun v124 =>
some ((v124.1.1, ()), ()))
else ((loopT l6_0_13 ((0, ((-1), ((w64 (1 + u120.1.1)), ((cloL (w64 (1 + u120.1.1)) u121.2.2.1), (((u122.2.1.length : Nat) : Int), ()))))), (u121.2.2.1, ([], (u122.2.1, ((u121.2.1.1, ()), ())))))).bind fun d130 =>
sumE d130 (fun d131 => (some ((d131.1.1, ()), ()))) (fun d132 => ((m11 ((d132.1.1, ()), ((d132.2.2.2.1.1, ()), ()))).bind fun u133 =>
(m11 ((d132.1.1, ()), ((u133.2.1.1, ()), ()))).bind fun u134 =>
(m11 ((40, ()), ((u134.2.1.1, ()), ()))).bind fun u135 =>
bif (decide (0 + d132.2.2.1.length ≤ 4294967296)) then
bif (decide (d132.2.2.1.length + ([(u133.1.1, (u134.1.1, ((w64 (u135.1.1 - 10)), ())))] : List Y7).length ≤ 4294967296)) then
let x136 := (d132.2.2.1 ++ ([(u133.1.1, (u134.1.1, ((w64 (u135.1.1 - 10)), ())))] : List Y7))
(m19 ((d132.1.1, (d132.2.2.1, ((u133.1.1, (u134.1.1, ((w64 (u135.1.1 - 10)), ()))), ()))), ())).bind fun u137 =>
((bif (cloB d132.1.1 x136) then ((m20 (((cloL d132.1.1 x136), (d132.1.2.1, ())), ())).bind fun u138 =>
some (((!(u137.1.1 == u138.1.1)), (d132.1.1, (d132.1.2.1, ()))), (d132.2.1, ())))
else (some (((!(u137.1.1 == false)), (d132.1.1, (d132.1.2.1, ()))), (d132.2.1, ())))) : Option ((Bool × Int × (List (List Int)) × Unit) × (Y2 × Unit))).bind fun v139 =>
bif v139.1.1 then (some ((false, ()), ()))
else (((bif (!(cloB v139.1.2.1 v139.2.1)) then (some ((true, (v139.1.2.1, ())), (v139.2.1, ())))
else ((m20 (((cloL v139.1.2.1 v139.2.1), (v139.1.2.2.1, ())), ())).bind fun u140 =>
some (((!u140.1.1), (v139.1.2.1, ())), (v139.2.1, ())))) : Option ((Bool × Int × Unit) × (Y2 × Unit))).bind fun v141 =>
bif v141.1.1 then (some ((false, ()), ()))
else ((loopT l6_0_28 ((0, (v141.1.2.1, (((v141.2.1.length : Nat) : Int), ()))), (v141.2.1, ()))).bind fun d145 =>
sumE d145 (fun d146 => (some ((d146.1.1, ()), ()))) (fun d147 => ((m9 ((), ())).bind fun u148 =>
some ((u148.1.1, ()), ())))))
else none
else none))))

def sp6 : Abs.Spec := ⟨0, i6, o6, m6⟩

def an6 : Nat → Abs.FAn
  | 0 => Abs.FAn.mk (fun
    | 25 => some ⟨[119, 9, 4], (.dat .bool (.st (.own Z1 (0, 0)) (.dat (.int .i64) .nil))), (.arr Z1 true .nil)⟩
    | 22 => some ⟨[105, 9, 4, 6], (.dat .bool (.st (.own Z1 (0, 0)) (.dat (.int .i64) (.dat Z3 .nil)))), (.arr Z1 false .nil)⟩
    | 15 => some ⟨[64, 5, 50, 4, 6, 3, 51, 52, 12, 9], (.dat .bool (.st (.own Z1 (0, 0)) (.st (.own (.int .i64) (1, 0)) (.dat (.int .i64) (.dat Z3 (.st (.ptr (2, 0) 2 0 0) (.dat (.int .i64) (.dat (.int .i64) (.dat (.int .i64) (.st (.own Z1 (3, 0)) .nil)))))))))), (.arr Z1 true (.arr (.int .i64) false (.box 2 (.dat Z4 .nil) (.arr Z1 false .nil))))⟩
    | 9 => some ⟨[2], (.dat .bool .nil), .nil⟩
    | _ => none) (fun _ => none) (fun
    | 28 => some ⟨⟨[122, 9, 4, 121], (.dat (.int .i64) (.st (.own Z1 (0, 0)) (.dat (.int .i64) (.dat (.int .i64) .nil)))), (.arr Z1 true .nil)⟩, (.more .ret ⟨[2], (.dat .bool .nil), .nil⟩ (.one (.exit 2) ⟨[], .nil, .nil⟩))⟩
    | 13 => some ⟨⟨[52, 5, 9, 10, 50, 4, 6, 3, 51], (.dat (.int .i64) (.st (.own Z1 (0, 0)) (.st (.own Z1 (1, 0)) (.dat (.int .i64) (.st (.own (.int .i64) (2, 0)) (.dat (.int .i64) (.dat Z3 (.st (.ptr (3, 0) 2 0 0) (.dat (.int .i64) .nil))))))))), (.arr Z1 true (.arr Z1 false (.arr (.int .i64) false (.box 2 (.dat Z4 .nil) .nil))))⟩, (.more .ret ⟨[2], (.dat .bool .nil), .nil⟩ (.one (.exit 0) ⟨[9, 4, 6, 5, 3], (.st (.own Z1 (0, 0)) (.dat (.int .i64) (.dat Z3 (.st (.own Z1 (1, 0)) (.st (.ptr (2, 0) 2 0 0) .nil))))), (.arr Z1 false (.arr Z1 true (.box 2 (.dat Z4 .nil) .nil)))⟩))⟩
    | _ => none) (fun _ _ => 0)
  | _ => {}

theorem ok6 : Abs.SpecOK Try.prog 6 sp6 :=
  Abs.specOC_of (C := ctab) (mv := mvtab) ctab_ok (n := 12) (an := an6) (T := Abs.tabOf [(8, sp8), (9, sp9), (10, sp10), (11, sp11), (12, sp12), (18, sp18), (19, sp19), (20, sp20)]) good foll (Abs.tabOf_ok _ (by simp only [List.forall_mem_cons]; exact ⟨ok8, ok9, ok10, ok11, ok12, ok18, ok19, ok20, fun _ h => by cases h⟩)) rfl (by intro v; kernel_rfl)

end
end Go.Proofs.Ytcklpclgiaeopaa

namespace Go.Proofs.Ytcklpclgiaeopaa
open Go Go.Abs Go.FW Go.Plain
abbrev Dice := List Int × Int × Unit

def DOK (d : Dice) : Prop := 0 ≤ d.2.1 ∧ d.2.1 ≤ d.1.length ∧ d.1.length ≤ 500

theorem dok0 {l : List Int} (h : l.length ≤ 500) : DOK (l, 0, ()) := ⟨Int.le_refl _, Int.natCast_nonneg _, h⟩

theorem next_spec (n : Int) (d : Dice) (hd : DOK d) (hn : n ≤ 9223372036854775807) :
    ∃ (r : Int) (d' : Dice), m11 ((n, ()), ((d, ()), ())) = some ((r, ()), ((d', ()), ())) ∧ DOK d' ∧ (1 ≤ n → 0 ≤ r ∧ r < n) ∧ (n < 1 → r = 0) := by
  obtain ⟨l, at_, u⟩ := d
  obtain ⟨h1, h2, h3⟩ := hd
  simp only at h1 h2 h3
  unfold m11
  simp only [rowAt_G]
  by_cases c1 : at_ ≥ (l.length : Int)
  · refine ⟨0, (l, at_, ()), ?_, ⟨h1, h2, h3⟩, fun h => ⟨by omega, by omega⟩, fun _ => rfl⟩
    simp only [decide_eq_true c1, sumE, sS]
  · by_cases c2 : n < 1
    · refine ⟨0, (l, at_, ()), ?_, ⟨h1, h2, h3⟩, fun h => ⟨by omega, by omega⟩, fun _ => rfl⟩
      simp only [decide_eq_false c1, decide_eq_true c2, sumE, sS]
    · have hat : w64 (at_ + 1) = at_ + 1 := w64_id (by omega) (by omega)
      have hne : n ≠ 0 := by omega
      obtain ⟨e, he⟩ := getD_some (l := l) (i := at_.toNat) (by omega)
      have hb := Int.tmod_lt_of_pos e (show (0 : Int) < n by omega)
      have hb2 : -n < e.tmod n := by
        have := Int.lt_tmod_of_pos e (show (0 : Int) < n by omega)
        omega
      by_cases c3 : e.tmod n < 0
      · refine ⟨e.tmod n + n, (l, at_ + 1, ()), ?_, ⟨by simp only; omega, by simp only; omega, h3⟩, fun h => ⟨by omega, by omega⟩, fun h => by omega⟩
        simp only [decide_eq_false c1, decide_eq_false c2, sumE, sS, rowG_int h1 he, decide_eq_true hne, decide_eq_true c3, hat, w64_id (x := e.tmod n + n) (by omega) (by omega)]
      · refine ⟨e.tmod n, (l, at_ + 1, ()), ?_, ⟨by simp only; omega, by simp only; omega, h3⟩, fun h => ⟨by omega, by omega⟩, fun h => by omega⟩
        simp only [decide_eq_false c1, decide_eq_false c2, sumE, sS, rowG_int h1 he, decide_eq_true hne, decide_eq_false c3, hat]

theorem sane9 : m9 ((), ()) = some ((true, ()), ()) := by kernel_rfl

theorem light8 (l : List Int) : m8 ((l, ()), ()) = some ((decide (l.length ≤ 500), ()), ()) := by
  unfold m8
  rw [show decide (((l.length : Int) : Int) ≤ 500) = decide (l.length ≤ 500) from decide_eq_decide.2 (by omega)]

theorem roll10 (l : List Int) : m10 ((l, ()), ()) = some ((), (((l, (0, ())), ()), ())) := rfl

/-- An element of a row of one's own. -/
theorem blk_G {A B : Type} {l : List A} {n : Int} (F : A → Option B) : (bif decide ((0 : Int) ≤ n ∧ (n : Int) < l.length) then (l[n.toNat]?).bind F else none) = rowG l n F := by
  unfold rowG
  by_cases h : 0 ≤ n
  · by_cases g : n < l.length
    · rw [decide_eq_true (And.intro h g), decide_eq_true h]
    · rw [decide_eq_false (fun e : _ ∧ _ => g e.2), decide_eq_true h, List.getElem?_eq_none (by omega)]; rfl
  · rw [decide_eq_false (fun e : _ ∧ _ => h e.1), decide_eq_false h]

theorem grid_at {n m : Nat} {M : Nat → Nat → Int} {i : Nat} (h : i < n) : (gridL n m M)[i]? = some ((List.range m).map (M i)) := by
  unfold gridL
  rw [List.getElem?_map, List.getElem?_range h]; rfl

theorem line_at {m : Nat} {f : Nat → Int} {i : Nat} (h : i < m) : ((List.range m).map f)[i]? = some (f i) := by
  rw [List.getElem?_map, List.getElem?_range h]; rfl

theorem grid_I {B : Type} {n m : Nat} {M : Nat → Nat → Int} {i j : Int} (h0 : 0 ≤ i) (h : i < n) (g0 : 0 ≤ j) (g : j < m) (F : Int → Option B) : (rowG (gridL n m M) i fun e => rowG e j F) = F (M i.toNat j.toNat) := by
  rw [rowG_int h0 (grid_at (by omega)), rowG_int g0 (line_at (by omega))]

theorem grid_len (n m : Nat) (M : Nat → Nat → Int) : (gridL n m M).length = n := by
  unfold gridL
  rw [List.length_map, List.length_range]

theorem m36_eq' (a b c : Int) : m36 ((a, b, c, ()), ()) = some ((decide (b ≤ a ∧ a ≤ c), ()), ()) := by
  unfold m36
  by_cases h : a ≥ b
  · by_cases g : a ≤ c
    · simp only [decide_eq_true h, decide_eq_true g, decide_eq_true (show b ≤ a ∧ a ≤ c from ⟨h, g⟩), sumE, sS]
    · simp only [decide_eq_true h, decide_eq_false g, decide_eq_false (show ¬ (b ≤ a ∧ a ≤ c) from fun e => g e.2), sumE, sS]
  · simp only [decide_eq_false h, decide_eq_false (show ¬ (b ≤ a ∧ a ≤ c) from fun e => h e.1), sumE, sS]

end Go.Proofs.Ytcklpclgiaeopaa

namespace Go.Proofs.Ytcklpclgiaeopaa
open Go Go.Abs Go.FW Go.Plain
/-- What the drawn bounds are: of the places, small, and the hidden numbers fulfil them. -/
structure HidOK (n : Nat) (h : List Int) (l : List DT) : Prop where
  ok : ∀ c ∈ l, okD n c = true
  sol : Sol l fun i => h.getD i 0

end Go.Proofs.Ytcklpclgiaeopaa

namespace Go.Proofs.Ytcklpclgiaeopaa
open Go Go.Abs Go.FW Go.Plain
/-- What the drawn bounds are. -/
def SmallC (n : Nat) (c : DT) : Prop := (0 ≤ c.1 ∧ c.1 < n) ∧ (0 ≤ c.2.1 ∧ c.2.1 < n) ∧ -100 ≤ c.2.2.1 ∧ c.2.2.1 ≤ 100

theorem SmallC.ok {n : Nat} {c : DT} (h : SmallC n c) : okD n c = true := by
  obtain ⟨h1, h2, h3⟩ := h
  refine okD_iff.2 ⟨by omega, by omega, ?_⟩
  unfold DMX; omega

theorem small_add {n : Nat} {l : List DT} (h : ∀ c ∈ l, SmallC n c) {a b m : Int} (ha : 0 ≤ a ∧ a < n) (hb : 0 ≤ b ∧ b < n) (h1 : -100 ≤ m) (h2 : m ≤ 100) : ∀ c ∈ l ++ [(a, b, m, ())], SmallC n c := fun c hc => by
  rcases List.mem_append.1 hc with hc | hc
  · exact h c hc
  · rw [List.mem_singleton] at hc; subst hc; exact ⟨ha, hb, h1, h2⟩

theorem loop123 {n : Nat} (hn : n ≤ 41) (d : Dice) (hd : DOK d) : ∃ b, loopT l12_0_3 ((0, ((n : Int), ())), ((d, ()), ([], ()))) = some b ∧
    ∃ (h : List Int) (d' : Dice), b = (((n : Int), ()), ((d', ()), (h, ()))) ∧ DOK d' ∧ h.length = n ∧ ∀ e ∈ h, 0 ≤ e ∧ e < 40 := by
  refine loop_ind (f := l12_0_3) (fun i a => ∃ (h : List Int) (d : Dice), a = (((i : Int), ((n : Int), ())), ((d, ()), (h, ()))) ∧ DOK d ∧ h.length = i ∧ ∀ e ∈ h, 0 ≤ e ∧ e < 40) n (fun i a hi ha => ?_) (fun a ha => ?_) _ ⟨[], d, rfl, hd, rfl, fun e he => by cases he⟩
  · obtain ⟨h, d, rfl, hd, hl, hb⟩ := ha
    obtain ⟨r, d', e1, hd', hr, _⟩ := next_spec 40 d hd (by omega)
    refine ⟨_, ?_, h ++ [r], d', rfl, hd', by simp [hl], fun e he => ?_⟩
    · simp only [l12_0_3, lt_t hi, e1, sumE, sS]
      rw [decide_eq_true (by simp; omega), cond_true, w64_nat (by omega)]
    · rcases List.mem_append.1 he with he | he
      · exact hb e he
      · rw [List.mem_singleton] at he; subst he; exact hr (by omega)
  · obtain ⟨h, d, rfl, hd, hl, hb⟩ := ha
    refine ⟨_, ?_, h, d, rfl, hd, hl, hb⟩
    simp only [l12_0_3, lt_f, sumE, sS]

theorem loop128 {n : Nat} (hn : n ≤ 41) (hn1 : 1 ≤ n) (h : List Int) (hl : h.length = n) (hb : ∀ e ∈ h, 0 ≤ e ∧ e < 40) (k : Nat) (hk : k ≤ 100) (d : Dice) (hd : DOK d) : ∃ b, loopT l12_0_8 (((k : Int), ((n : Int), ())), ((d, ()), (h, ([], ())))) = some b ∧
    ∃ (l : List DT) (d' : Dice), b = (((n : Int), ()), ((d', ()), (l, ()))) ∧ DOK d' ∧ (∀ c ∈ l, SmallC n c) ∧ l.length = k := by
  refine loop_ind (f := l12_0_8) (fun i a => ∃ (l : List DT) (d : Dice), a = (((k : Int) - i, ((n : Int), ())), ((d, ()), (h, (l, ())))) ∧ DOK d ∧ (∀ c ∈ l, SmallC n c) ∧ l.length = i) k
    (fun i a hi ha => ?_) (fun a ha => ?_) _ ⟨[], d, by rw [Int.natCast_zero, Int.sub_zero], hd, fun c hc => (by cases hc), rfl⟩
  · obtain ⟨l, d, rfl, hd, H, hll⟩ := ha
    obtain ⟨x, d1, e1, hd1, hx, _⟩ := next_spec n d hd (by omega)
    have hx := hx (by omega)
    obtain ⟨y, d2, e2, hd2, hy, _⟩ := next_spec n d1 hd1 (by omega)
    have hy := hy (by omega)
    obtain ⟨r, d3, e3, hd3, hr, _⟩ := next_spec 6 d2 hd2 (by omega)
    have hr := hr (by omega)
    obtain ⟨u, hu⟩ := getD_some (l := h) (i := x.toNat) (by omega)
    obtain ⟨v, hv⟩ := getD_some (l := h) (i := y.toNat) (by omega)
    have hub := hb u (List.mem_of_getElem? hu)
    have hvb := hb v (List.mem_of_getElem? hv)
    refine ⟨_, ?_, l ++ [(x, y, v - u + r, ())], d3, rfl, hd3, small_add H hx hy (by omega) (by omega), by simp [hll]⟩
    simp only [l12_0_8, decide_eq_true (show (k : Int) - i > 0 by omega), e1, e2, e3, sumE, sS, blk_G, rowG_int hx.1 hu, rowG_int hy.1 hv]
    rw [decide_eq_true (by simp; omega), cond_true, w64_id (x := v - u) (by omega) (by omega), w64_id (x := v - u + r) (by omega) (by omega), w64_id (by omega) (by omega), show (k : Int) - i - 1 = (k : Int) - (i + 1 : Nat) by omega]
  · obtain ⟨l, d, rfl, hd, H, hll⟩ := ha
    refine ⟨_, ?_, l, d, rfl, hd, H, hll⟩
    rw [Int.sub_self]
    simp only [l12_0_8, decide_eq_false (show ¬ (0 : Int) > 0 by omega), sumE, sS]

theorem diffs12 {n : Nat} (hn : n ≤ 41) (hn1 : 1 ≤ n) (d : Dice) (hd : DOK d) : ∃ (l : List DT) (d' : Dice), m12 (((n : Int), ()), ((d, ()), ())) = some ((), ((d', ()), (l, ()))) ∧ DOK d' ∧ (∀ c ∈ l, SmallC n c) ∧ l.length ≤ 100 := by
  obtain ⟨_, f1, h, d1, rfl, hd1, hl, hb⟩ := loop123 hn d hd
  obtain ⟨k, d2, e2, hd2, hk, _⟩ := next_spec 14 d1 hd1 (by omega)
  have hk := hk (by omega)
  obtain ⟨m, hm⟩ : ∃ q : Nat, (q : Int) = k := ⟨k.toNat, by omega⟩
  subst hm
  obtain ⟨_, f3, l, d3, rfl, hd3, H, hll⟩ := loop128 hn hn1 h hl hb m (by omega) d2 hd2
  obtain ⟨q, d4, e4, hd4, _, _⟩ := next_spec 4 d3 hd3 (by omega)
  unfold m12
  simp only [f1, e2, f3, e4, sumE, sS]
  cases hq : (q == 0)
  · exact ⟨l, d4, by simp only [sumE, sS], hd4, H, by omega⟩
  · obtain ⟨x, d5, e5, hd5, hx, _⟩ := next_spec n d4 hd4 (by omega)
    obtain ⟨y, d6, e6, hd6, hy, _⟩ := next_spec n d5 hd5 (by omega)
    obtain ⟨r, d7, e7, hd7, hr, _⟩ := next_spec 20 d6 hd6 (by omega)
    have hr := hr (by omega)
    refine ⟨l ++ [(x, y, r - 15, ())], d7, ?_, hd7, small_add H (hx (by omega)) (hy (by omega)) (by omega) (by omega), by simp; omega⟩
    simp only [e5, e6, e7, sumE, sS]
    rw [decide_eq_true (by simp; omega), cond_true, w64_id (x := r - 15) (by omega) (by omega)]
    rfl

section
variable {n : Nat} {A S X : Nat → Nat → Int} {p : Bool}
end
theorem cloL_true {n : Nat} {l : List DT} (h : closeB n l = true) : cloL (n : Int) l = gridL n n (rounds (W0 l) n) := by
  unfold cloL
  rw [h, if_pos rfl, Int.toNat_natCast]

end Go.Proofs.Ytcklpclgiaeopaa

namespace Go.Proofs.Ytcklpclgiaeopaa
open Go Go.Abs Go.FW Go.Plain
/-- The closure of a list keeps the bounds of another. -/
def Dom (n : Nat) (l l' : List DT) : Prop := ∀ d ∈ l', rounds (W0 l) n d.1.toNat d.2.1.toNat ≤ d.2.2.1

theorem closN {n : Nat} {l : List DT} (h : closeB n l = true) : Clos l n (rounds (W0 l) n) := by
  have C := closeB_clos h
  rwa [Int.toNat_natCast] at C

theorem W0_def (l : List DT) (i j : Nat) : W0 l i j = if i = j then min (dirM l i j) 0 else dirM l i j := rfl

theorem dom_walk {n : Nat} {l l' : List DT} (hc : closeB n l = true) (hv : validC n l' = true) (hd : Dom n l l') {i j : Nat} {w : Int} (hw : Wk (W0 l') n i j w) : i < n → j < n → rounds (W0 l) n i j ≤ w ∧ rounds (W0 l) n i j < INF := by
  have C := closN hc
  induction hw with
  | edge i j hf =>
    intro hi hj
    rw [W0_def] at hf
    rw [W0_def l']
    have key : dirM l' i j < INF → rounds (W0 l) n i j ≤ dirM l' i j := fun h => by
      obtain ⟨d, hd', e1, e2, he⟩ := dir_some h
      have := hd d hd'
      rw [e1, e2, Int.toNat_natCast, Int.toNat_natCast] at this
      omega
    by_cases e : i = j
    · subst e
      rw [if_pos rfl] at hf ⊢
      have hz := C.zero i hi
      rw [hz]
      by_cases h : dirM l' i i < INF
      · have := key h
        rw [hz] at this
        unfold INF; omega
      · unfold INF at *; omega
    · rw [if_neg e] at hf ⊢
      have := key hf
      omega
  | step i q j u v _ hq _ ih1 ih2 =>
    intro hi hj
    obtain ⟨a1, a2⟩ := ih1 hi hq
    obtain ⟨b1, b2⟩ := ih2 hq hj
    obtain ⟨c1, c2⟩ := C.tri i q j hi hq hj a2 b2
    exact ⟨by omega, c2⟩

theorem dom_ok {n : Nat} {l l' : List DT} (hc : closeB n l = true) (hv : validC n l' = true) (hd : Dom n l l') : closeB n l' = true := by
  refine closeB_iff.2 ⟨hv, fun i hi => ?_⟩
  rw [Int.toNat_natCast] at hi ⊢
  have hf : rounds (W0 l') n i i < INF := by
    have := rounds_diag l' n i
    unfold INF; omega
  have := (dom_walk hc hv hd (rounds_walk (W0 l') n i i hf) hi hi).1
  have := (closN hc).zero i hi
  omega

theorem dom_le {n : Nat} {l l' : List DT} (hc : closeB n l = true) (hc' : closeB n l' = true) (hd : Dom n l l') {i j : Nat} (hi : i < n) (hj : j < n) : rounds (W0 l) n i j ≤ rounds (W0 l') n i j := by
  by_cases hf : rounds (W0 l') n i j < INF
  · exact (dom_walk hc (closeB_iff.1 hc').1 hd ((closN hc').walk i j hf) hi hj).1
  · have := (closN hc).inf i j
    omega

theorem ok_places {n : Nat} {d : DT} (h : okD n d = true) : d.1.toNat < n ∧ d.2.1.toNat < n ∧ ((d.1.toNat : Nat) : Int) = d.1 ∧ ((d.2.1.toNat : Nat) : Int) = d.2.1 := by
  have := okD_iff.1 h
  omega

theorem dom_mem {n : Nat} {l l' : List DT} (hc : closeB n l = true) (h : ∀ d ∈ l', d ∈ l) : Dom n l l' := fun d hd => by
  have p := ok_places ((valid_iff.1 (closeB_iff.1 hc).1).2.2 d (h d hd))
  exact (closN hc).edge d (h d hd) _ _ p.2.2.1.symm p.2.2.2.symm

theorem dom_trans {n : Nat} {l l' l'' : List DT} (hc : closeB n l = true) (hc' : closeB n l' = true) (h1 : Dom n l l') (h2 : Dom n l' l'') (hv : validC n l'' = true) : Dom n l l'' := fun d hd => by
  have p := ok_places ((valid_iff.1 hv).2.2 d hd)
  exact Int.le_trans (dom_le hc hc' h1 p.1 p.2.1) (h2 d hd)

/-- Implied, among bounds that have a closure. -/
theorem imp19 {n : Nat} {l : List DT} {c : DT} (hc : closeB n l = true) (hok : okD n c = true) : m19 (((n : Int), (l, (c, ()))), ()) = some ((decide (rounds (W0 l) n c.1.toNat c.2.1.toNat ≤ c.2.2.1), ()), ()) := by
  have p := okD_iff.1 hok
  have C := closN hc
  obtain ⟨hv, _⟩ := closeB_iff.1 hc
  obtain ⟨hn, _, _⟩ := valid_iff.1 hv
  unfold m19 cloB
  have hw : w64 ((n : Int) - 1) = (n : Int) - 1 := w64_id (by omega) (by omega)
  have g := fun (B : Type) (F : Int → Option B) => grid_I (n := n) (m := n) (M := rounds (W0 l) n) (i := c.1) (j := c.2.1) (by omega) (by omega) (by omega) (by omega) F
  simp only [hc, m36_eq', hw, cloL_true hc, rowAt_G, decide_eq_true p.1, decide_eq_true p.2.1, sumE, sS]
  simp only [g]
  have hi := C.inf c.1.toNat c.2.1.toNat
  have hm := p.2.2
  unfold DMX at hm
  by_cases h : rounds (W0 l) n c.1.toNat c.2.1.toNat = 1099511627776
  · rw [h, decide_eq_false (show ¬ (1099511627776 : Int) ≤ c.2.2.1 by omega)]
    rfl
  · have : (rounds (W0 l) n c.1.toNat c.2.1.toNat != 1099511627776) = true := bne_iff_ne.2 h
    simp only [this, sumE, sS]

theorem loop_eq {A B E : Type} [DecidableEq E] {f : A → Option (A ⊕ B)} (a b : List E) (hl : a.length = b.length) (st : Nat → A) (no yes : B)
    (h1 : ∀ i x y, a[i]? = some x → b[i]? = some y → i < a.length → f (st i) = some (bif decide (x = y) then .inl (st (i + 1)) else .inr no)) (h2 : f (st a.length) = some (.inr yes)) :
    loopT f (st 0) = some (bif decide (a = b) then yes else no) := by
  have key : ∀ (k i : Nat), i + k = a.length → loopT f (st i) = some (bif decide (a.drop i = b.drop i) then yes else no) := by
    intro k
    induction k with
    | zero =>
      intro i h
      obtain rfl : i = a.length := by omega
      rw [List.drop_length, hl, List.drop_length, decide_eq_true rfl, ← hl]
      exact loopT_inr h2
    | succ k ih =>
      intro i h
      obtain ⟨x, hx, hd⟩ := drop_at (l := a) (i := i) (by omega)
      obtain ⟨y, hy, hd'⟩ := drop_at (l := b) (i := i) (by omega)
      have q := h1 i x y hx hy (by omega)
      rw [hd, hd']
      by_cases e : x = y
      · rw [decide_eq_true e] at q
        have := ih (i + 1) (by omega)
        rw [loopT_inl q, this]
        congr 2
        exact decide_eq_decide.2 ⟨fun h => by rw [e, h], fun h => (List.cons.inj h).2⟩
      · rw [decide_eq_false e] at q
        rw [decide_eq_false (fun h => e (List.cons.inj h).1)]
        exact loopT_inr q
  have := key a.length 0 (by omega)
  rwa [List.drop_zero, List.drop_zero] at this

theorem m26_eq (a b : List Int) (hl : a.length = b.length) (hn : a.length ≤ 100) : m26 ((a, (b, ())), ()) = some ((decide (a = b), ()), ()) := by
  have h := loop_eq (f := l26_0_4) a b hl (fun i => (((i : Int), (b, (a, ()))), ())) (.inl ((false, ()), ())) (.inr ((), ())) (fun i x y hx hy hi => by
    simp only [l26_0_4, rowAt_G, rowG_nat hx, rowG_nat hy, lt_t hi, sumE, sS, w64_nat (show i < 9223372036854775807 by omega)]
    by_cases e : x = y
    · subst e; simp only [sumE, sS]
    · rw [decide_eq_false e, bne_iff_ne.2 e]; rfl) (by simp only [l26_0_4, lt_f, sumE, sS])
  unfold m26
  rw [show (((a.length : Int) : Int) != (b.length : Int)) = false by rw [hl]; simp]
  simp only [sumE, sS]
  rw [show loopT l26_0_4 ((0, (b, (a, ()))), ()) = _ from h]
  cases decide (a = b) <;> rfl

theorem m20_eq (a b : List (List Int)) (hl : a.length = b.length) (hn : a.length ≤ 100) (hr : ∀ (i : Nat) x y, a[i]? = some x → b[i]? = some y → x.length = y.length ∧ x.length ≤ 100) : m20 ((a, (b, ())), ()) = some ((decide (a = b), ()), ()) := by
  have h := loop_eq (f := l20_0_4) a b hl (fun i => (((i : Int), (b, (a, ((a.length : Int), ())))), ())) (.inl ((false, ()), ())) (.inr ((), ())) (fun i x y hx hy hi => by
    obtain ⟨r1, r2⟩ := hr i x y hx hy
    simp only [l20_0_4, rowAt_G, rowG_nat hx, rowG_nat hy, lt_t hi, m26_eq x y r1 r2, sumE, sS, w64_nat (show i < 9223372036854775807 by omega)]
    cases decide (x = y) <;> rfl) (by simp only [l20_0_4, lt_f, sumE, sS])
  unfold m20
  rw [show (((a.length : Int) : Int) != (b.length : Int)) = false by rw [hl]; simp]
  simp only [sumE, sS]
  rw [show loopT l20_0_4 ((0, (b, (a, ((a.length : Int), ())))), ()) = _ from h]
  cases decide (a = b) <;> rfl

theorem grid_ext {n m : Nat} {f g : Nat → Nat → Int} (h : ∀ i j, i < n → j < m → f i j = g i j) : gridL n m f = gridL n m g := by
  unfold gridL
  refine List.map_congr_left (fun i hi => List.map_congr_left (fun j hj => ?_))
  exact h i j (List.mem_range.1 hi) (List.mem_range.1 hj)

theorem grid_inj {n m : Nat} {f g : Nat → Nat → Int} (h : gridL n m f = gridL n m g) {i j : Nat} (hi : i < n) (hj : j < m) : f i j = g i j := by
  have h1 := grid_at (M := f) (m := m) hi
  rw [h, grid_at hi] at h1
  have h2 := line_at (f := f i) hj
  rw [← Option.some.inj h1, line_at hj] at h2
  exact (Option.some.inj h2).symm

theorem same20 {n : Nat} (hn : n ≤ 41) (f g : Nat → Nat → Int) : m20 ((gridL n n f, (gridL n n g, ())), ()) = some ((decide (gridL n n f = gridL n n g), ()), ()) := by
  refine m20_eq _ _ (by rw [grid_len, grid_len]) (by rw [grid_len]; omega) (fun i x y hx hy => ?_)
  have hi := (List.getElem?_eq_some_iff.1 hx).1
  rw [grid_len] at hi
  rw [grid_at hi] at hx hy
  cases hx; cases hy
  rw [List.length_map, List.length_map, List.length_range]
  exact ⟨rfl, by omega⟩

/-- The bounds that are still wanted. -/
def Act (l : List DT) (fl : List Bool) (R : List DT) : Prop := ∀ d, d ∈ R ↔ ∃ j : Nat, l[j]? = some d ∧ fl[j]? = some true

theorem rest18 (l : List DT) (fl : List Bool) (hl : l.length ≤ 4000) (hf : fl.length = l.length) : ∃ R : List DT, loopT l18_1_2 ((0, (l, ((l.length : Int), ()))), ((l, ()), ((), (fl, ([], ()))))) = some ((), ((l, ()), ((), (fl, (R, ()))))) ∧ R.length ≤ l.length ∧ Act l fl R := by
  obtain ⟨b, h1, R, rfl, h2, h3⟩ := loop_ind (f := l18_1_2) (Q := fun b => ∃ R : List DT, b = ((), ((l, ()), ((), (fl, (R, ()))))) ∧ R.length ≤ l.length ∧ Act l fl R)
    (fun i a => ∃ R : List DT, a = (((i : Int), (l, ((l.length : Int), ()))), ((l, ()), ((), (fl, (R, ()))))) ∧ R.length ≤ i ∧ ∀ d, d ∈ R ↔ ∃ j : Nat, j < i ∧ l[j]? = some d ∧ fl[j]? = some true) l.length
    (fun i a hi ha => by
      obtain ⟨R, rfl, h1, h2⟩ := ha
      obtain ⟨c, hc⟩ := getD_some hi
      obtain ⟨q, hq⟩ := getD_some (l := fl) (i := i) (by omega)
      cases q
      · refine ⟨_, ?_, R, rfl, by omega, fun d => (h2 d).trans ⟨fun ⟨j, a, b⟩ => ⟨j, by omega, b⟩, fun ⟨j, a, b, e⟩ => ?_⟩⟩
        · simp only [l18_1_2, lt_t hi, rowAt_G, blk_G, rowG_nat hc, rowG_nat hq, sumE, sS, w64_nat (show i < 9223372036854775807 by omega)]
        · by_cases g : j = i
          · subst g; rw [hq] at e; cases e
          · exact ⟨j, by omega, b, e⟩
      · refine ⟨_, ?_, R ++ [c], rfl, by simp; omega, fun d => ⟨fun hd => ?_, fun ⟨j, a, b, e⟩ => ?_⟩⟩
        · have hg : decide (R.length + ([c] : List DT).length ≤ 4294967296) = true := decide_eq_true (by simp; omega)
          simp only [l18_1_2, lt_t hi, rowAt_G, blk_G, rowG_nat hc, rowG_nat hq, hg, sumE, sS, w64_nat (show i < 9223372036854775807 by omega)]
        · rcases List.mem_append.1 hd with hd | hd
          · obtain ⟨j, a, b⟩ := (h2 d).1 hd
            exact ⟨j, by omega, b⟩
          · rw [List.mem_singleton] at hd; subst hd
            exact ⟨i, by omega, hc, hq⟩
        · by_cases g : j = i
          · subst g; rw [hc] at b; cases b
            exact List.mem_append_right _ (List.mem_singleton.2 rfl)
          · exact List.mem_append_left _ ((h2 d).2 ⟨j, by omega, b, e⟩))
    (fun a ha => by
      obtain ⟨R, rfl, h1, h2⟩ := ha
      refine ⟨_, ?_, R, rfl, h1, fun d => (h2 d).trans ⟨fun ⟨j, a, b⟩ => ⟨j, b⟩, fun ⟨j, b, e⟩ => ⟨j, (List.getElem?_eq_some_iff.1 b).1, b, e⟩⟩⟩
      simp only [l18_1_2, lt_f, sumE, sS]) ((0, (l, ((l.length : Int), ()))), ((l, ()), ((), (fl, ([], ()))))) ⟨[], rfl, Nat.le_refl _, fun d => ⟨fun h => (by cases h), fun ⟨j, a, _⟩ => absurd a (by omega)⟩⟩
  exact ⟨R, h1, h2, h3⟩

/-- What holds while bounds are struck. -/
structure Need (n : Nat) (l : List DT) (i : Nat) (fl : List Bool) (K : List Int) : Prop where
  len : fl.length = l.length
  klen : K.length ≤ i
  kin : ∀ v ∈ K, 0 ≤ v ∧ v < i
  kup : K.Pairwise (· < ·)
  late : ∀ j, i ≤ j → j < l.length → fl[j]? = some true
  soon : ∀ j : Nat, j < i → (fl[j]? = some true ↔ (j : Int) ∈ K)
  dom : ∀ R : List DT, R.length ≤ 4000 → Act l fl R → Dom n R l
  wanted : ∀ v ∈ K, ∀ c, l[v.toNat]? = some c → ∀ R : List DT, closeB n R = true → (∀ d ∈ R, ∃ j : Nat, j ≠ v.toNat ∧ l[j]? = some d ∧ fl[j]? = some true) → ¬ rounds (W0 R) n c.1.toNat c.2.1.toNat ≤ c.2.2.1

theorem closeSub {n : Nat} {l R : List DT} (hc : closeB n l = true) (hl : R.length ≤ 4000) (h : ∀ d ∈ R, d ∈ l) : closeB n R = true := by
  have hv := valid_iff.1 (closeB_iff.1 hc).1
  exact dom_ok hc (valid_iff.2 ⟨hv.1, hl, fun d hd => hv.2.2 d (h d hd)⟩) (dom_mem hc h)

theorem act_in {l : List DT} {fl : List Bool} {R : List DT} (h : Act l fl R) : ∀ d ∈ R, d ∈ l := fun d hd => by
  obtain ⟨j, a, _⟩ := (h d).1 hd
  exact List.mem_of_getElem? a

theorem Need.strike {n : Nat} {l : List DT} {i : Nat} {fl : List Bool} {K : List Int} (hc : closeB n l = true) (hl : l.length ≤ 3000) (H : Need n l i fl K) (hi : i < l.length) {c : DT} (hci : l[i]? = some c) {R : List DT} (hR : Act l (fl.set i false) R) (hRl : R.length ≤ l.length)
    (himp : rounds (W0 R) n c.1.toNat c.2.1.toNat ≤ c.2.2.1) : Need n l (i + 1) (fl.set i false) K := by
  have hlen := H.len
  have hv := valid_iff.1 (closeB_iff.1 hc).1
  have hsub : ∀ j : Nat, (fl.set i false)[j]? = some true → j ≠ i ∧ fl[j]? = some true := fun j h => by
    by_cases e : j = i
    · subst e; rw [List.getElem?_set_self (by omega)] at h; cases h
    · rw [List.getElem?_set_ne (by omega)] at h; exact ⟨e, h⟩
  have hcR := closeSub hc (by omega) (act_in hR)
  refine ⟨by rw [List.length_set, hlen], by have := H.klen; omega, fun v hv => by have := H.kin v hv; omega, H.kup, fun j h1 h2 => ?_, fun j h1 => ?_, fun R' hl' hR' => ?_, fun v hv d hd R' hc' hR' => ?_⟩
  · rw [List.getElem?_set_ne (by omega)]
    exact H.late j (by omega) h2
  · by_cases e : j = i
    · subst e
      rw [List.getElem?_set_self (by omega)]
      exact ⟨fun h => (by cases h), fun h => (by have := H.kin _ h; omega)⟩
    · rw [List.getElem?_set_ne (by omega)]
      exact H.soon j (by omega)
  · have hact : Act l fl (R ++ [c]) := fun d => by
      constructor
      · intro hd
        rcases List.mem_append.1 hd with hd | hd
        · obtain ⟨j, a, b⟩ := (hR d).1 hd
          exact ⟨j, a, (hsub j b).2⟩
        · rw [List.mem_singleton] at hd; subst hd
          exact ⟨i, hci, H.late i (Nat.le_refl _) hi⟩
      · intro ⟨j, a, b⟩
        by_cases e : j = i
        · subst e; rw [hci] at a; cases a
          exact List.mem_append_right _ (List.mem_singleton.2 rfl)
        · refine List.mem_append_left _ ((hR d).2 ⟨j, a, ?_⟩)
          rw [List.getElem?_set_ne (by omega)]; exact b
    have hcc := closeSub hc (R := R ++ [c]) (by simp; omega) (act_in hact)
    have d1 := H.dom (R ++ [c]) (by simp; omega) hact
    have d2 : Dom n R (R ++ [c]) := fun d hd => by
      rcases List.mem_append.1 hd with hd | hd
      · exact dom_mem hcR (fun d h => h) d hd
      · rw [List.mem_singleton] at hd; subst hd; exact himp
    have d3 : Dom n R l := dom_trans hcR hcc d2 d1 (closeB_iff.1 hc).1
    have hcR' := closeSub hc hl' (act_in hR')
    exact dom_trans hcR' hcR (dom_mem hcR' (fun d hd => (hR' d).2 ((hR d).1 hd))) d3 (closeB_iff.1 hc).1
  · refine H.wanted v hv d hd R' hc' (fun x hx => ?_)
    obtain ⟨j, a, b, e⟩ := hR' x hx
    exact ⟨j, a, b, (hsub j e).2⟩

theorem Need.keep {n : Nat} {l : List DT} {i : Nat} {fl : List Bool} {K : List Int} (hc : closeB n l = true) (hl : l.length ≤ 3000) (H : Need n l i fl K) (hi : i < l.length) {c : DT} (hci : l[i]? = some c) {R : List DT} (hR : Act l (fl.set i false) R) (hRl : R.length ≤ l.length)
    (himp : ¬ rounds (W0 R) n c.1.toNat c.2.1.toNat ≤ c.2.2.1) : Need n l (i + 1) ((fl.set i false).set i true) (K ++ [(i : Int)]) := by
  have hlen := H.len
  have hfi := H.late i (Nat.le_refl _) hi
  have hset : (fl.set i false).set i true = fl := by
    rw [List.set_set]
    refine List.ext_getElem? (fun j => ?_)
    by_cases e : j = i
    · subst e; rw [List.getElem?_set_self (by omega), hfi]
    · rw [List.getElem?_set_ne (by omega)]
  rw [hset]
  have hok := (valid_iff.1 (closeB_iff.1 hc).1).2.2
  refine ⟨hlen, by have := H.klen; simp; omega, fun v hv => ?_, ?_, fun j h1 h2 => H.late j (by omega) h2, fun j h1 => ?_, H.dom, fun v hv d hd R' hc' hR' => ?_⟩
  · rcases List.mem_append.1 hv with hv | hv
    · have := H.kin v hv; omega
    · rw [List.mem_singleton] at hv; omega
  · refine List.pairwise_append.2 ⟨H.kup, List.pairwise_singleton _ _, fun a ha b hb => ?_⟩
    rw [List.mem_singleton] at hb
    have := H.kin a ha; omega
  · by_cases e : j = i
    · subst e
      exact ⟨fun _ => List.mem_append_right _ (List.mem_singleton.2 rfl), fun _ => hfi⟩
    · refine (H.soon j (by omega)).trans ⟨fun h => List.mem_append_left _ h, fun h => ?_⟩
      rcases List.mem_append.1 h with h | h
      · exact h
      · rw [List.mem_singleton] at h; omega
  · rcases List.mem_append.1 hv with hv | hv
    · exact H.wanted v hv d hd R' hc' hR'
    · rw [List.mem_singleton] at hv
      subst hv
      rw [Int.toNat_natCast] at hd hR'
      rw [hci] at hd; cases hd
      have hcR := closeSub hc (by omega) (act_in hR)
      have p := ok_places (hok c (List.mem_of_getElem? hci))
      have := dom_le hcR hc' (dom_mem hcR (fun x hx => by
        obtain ⟨j, a, b, e⟩ := hR' x hx
        refine (hR x).2 ⟨j, b, ?_⟩
        rw [List.getElem?_set_ne (by omega)]; exact e)) p.1 p.2.1
      omega

theorem needed18 {n : Nat} {l : List DT} (hc : closeB n l = true) (hl : l.length ≤ 3000) : ∃ (K : List Int) (fl : List Bool), m18 (((n : Int), (l, ())), ()) = some ((), (K, ())) ∧ Need n l l.length fl K := by
  have hok := (valid_iff.1 (closeB_iff.1 hc).1).2.2
  have a : loopT l18_0_6 ((0, ((n : Int), ((l.length : Int), ()))), ((), ((l, ()), (List.replicate l.length false, ())))) = some ((((n : Int), ()), ((), ((l, ()), (List.replicate l.length true, ()))))) := by
    refine drop_e (loop_ind (f := l18_0_6) (Q := fun b => b = (((n : Int), ()), ((), ((l, ()), (List.replicate l.length true, ())))))
      (fun i a => ∃ m : List Bool, a = (((i : Int), ((n : Int), ((l.length : Int), ()))), ((), ((l, ()), (m, ())))) ∧ m.length = l.length ∧ ∀ j, j < i → m[j]? = some true) l.length
      (fun i a hi ha => ?_) (fun a ha => ?_) _ ⟨List.replicate l.length false, rfl, List.length_replicate .., fun j hj => (by omega)⟩)
    · obtain ⟨m, rfl, h1, h2⟩ := ha
      refine ⟨_, ?_, m.set i true, rfl, by rw [List.length_set, h1], fun j hj => ?_⟩
      · have g1 : decide ((0 : Int) ≤ (i : Int) ∧ (i : Int) < (m.length : Int)) = true := decide_eq_true (by omega)
        have g2 : decide ((i : Int).toNat < m.length) = true := decide_eq_true (by omega)
        simp only [l18_0_6, lt_t hi, g1, g2, sumE, sS, w64_nat (show i < 9223372036854775807 by omega)]
        rfl
      · by_cases e : j = i
        · subst e; rw [List.getElem?_set_self (by omega)]
        · rw [List.getElem?_set_ne (by omega)]; exact h2 j (by omega)
    · obtain ⟨m, rfl, h1, h2⟩ := ha
      have : m = List.replicate l.length true := by
        refine List.ext_getElem? (fun j => ?_)
        by_cases hj : j < l.length
        · rw [h2 j hj, List.getElem?_replicate, if_pos hj]
        · rw [List.getElem?_eq_none (by omega), List.getElem?_eq_none (by rw [List.length_replicate]; omega)]
      subst this
      refine ⟨_, ?_, rfl⟩
      simp only [l18_0_6, lt_f, sumE, sS]
  obtain ⟨b, h1, K, fl, rfl, H⟩ := loop_ind (f := l18_0_13) (Q := fun b => ∃ (K : List Int) (fl : List Bool), b = ((), (K, ())) ∧ Need n l l.length fl K)
    (fun i a => ∃ (K : List Int) (fl : List Bool), a = (((i : Int), ((n : Int), (l, ((l.length : Int), ())))), (K, ((), ((l, ()), (fl, ()))))) ∧ Need n l i fl K) l.length
    (fun i a hi ha => by
      obtain ⟨K, fl, rfl, H⟩ := ha
      have hlen := H.len
      have hkl := H.klen
      obtain ⟨c, hci⟩ := getD_some hi
      obtain ⟨R, f1, hRl, hR⟩ := rest18 l (fl.set i false) (by omega) (by rw [List.length_set, hlen])
      have hcR := closeSub hc (by omega) (act_in hR)
      have f2 := imp19 hcR (hok c (List.mem_of_getElem? hci))
      have g1 : decide ((0 : Int) ≤ (i : Int) ∧ (i : Int) < (fl.length : Int)) = true := decide_eq_true (by omega)
      have g2 : decide ((i : Int).toNat < fl.length) = true := decide_eq_true (by omega)
      have g3 : decide ((fl.set i false).length = (fl.set (i : Int).toNat false).length) = true := decide_eq_true (by rw [Int.toNat_natCast])
      have g4 : decide ((0 : Int) ≤ (i : Int) ∧ (i : Int) < ((fl.set i false).length : Int)) = true := decide_eq_true (by rw [List.length_set]; omega)
      have g5 : decide ((i : Int).toNat < (fl.set i false).length) = true := decide_eq_true (by rw [List.length_set]; omega)
      have g6 : decide (K.length + [(i : Int)].length ≤ 4294967296) = true := decide_eq_true (by simp; omega)
      have ht : (i : Int).toNat = i := Int.toNat_natCast i
      have hcut : ∀ (α : Type) (o : Option α), (bif decide ((fl.set i false).length = (fl.set i false).length) && true then o else none) = o := fun α o => by rw [decide_eq_true rfl]; rfl
      by_cases himp : rounds (W0 R) n c.1.toNat c.2.1.toNat ≤ c.2.2.1
      · refine ⟨_, ?_, K, fl.set i false, rfl, H.strike hc hl hi hci hR hRl himp⟩
        rw [decide_eq_true himp] at f2
        simp only [l18_0_13, lt_t hi, rowAt_G, rowG_nat hci, g1, g2, sumE, sS]
        rw [ht, f1]
        simp only [sumE, sS, f2, w64_nat (show i < 9223372036854775807 by omega)]
      · refine ⟨_, ?_, K ++ [(i : Int)], (fl.set i false).set i true, rfl, H.keep hc hl hi hci hR hRl himp⟩
        rw [decide_eq_false himp] at f2
        simp only [l18_0_13, lt_t hi, rowAt_G, rowG_nat hci, g1, g2, sumE, sS]
        rw [ht, f1]
        simp only [sumE, sS, f2, g4, g6, w64_nat (show i < 9223372036854775807 by omega)]
        rw [ht] at g5
        simp only [g5, sumE, sS, w64_nat (show i < 9223372036854775807 by omega)])
    (fun a ha => by
      obtain ⟨K, fl, rfl, H⟩ := ha
      refine ⟨_, ?_, K, fl, rfl, H⟩
      simp only [l18_0_13, lt_f, sumE, sS]) ((0, ((n : Int), (l, ((l.length : Int), ())))), ([], ((), ((l, ()), (List.replicate l.length true, ()))))) ⟨[], List.replicate l.length true, rfl,
      ⟨List.length_replicate .., Nat.le_refl _, fun v hv => (by cases hv), List.Pairwise.nil, fun j _ hj => by rw [List.getElem?_replicate, if_pos hj], fun j hj => (by omega), fun R hR hA => dom_mem (closeSub hc hR (act_in hA)) (fun d hd => by
        obtain ⟨j, hj⟩ := List.getElem?_of_mem hd
        exact (hA d).2 ⟨j, hj, by rw [List.getElem?_replicate, if_pos (List.getElem?_eq_some_iff.1 hj).1]⟩), fun v hv => (by cases hv)⟩⟩
  refine ⟨K, fl, ?_, H⟩
  unfold m18 cloB
  have g1 : decide ((0 : Int) ≤ (l.length : Int) ∧ ((l.length : Int) : Int) ≤ (l.length : Int) ∧ ((l.length : Int) : Int) ≤ 4294967296) = true := decide_eq_true (by omega)
  simp only [hc, g1, Int.toNat_natCast, List.length_replicate, sumE, sS, a, h1]

theorem needed18n {n : Nat} {l : List DT} (hc : closeB n l = false) : m18 (((n : Int), (l, ())), ()) = some ((), ([], ())) := by
  unfold m18 cloB
  rw [hc]; rfl

end Go.Proofs.Ytcklpclgiaeopaa

namespace Go.Proofs.Ytcklpclgiaeopaa
open Go Go.Abs Go.FW Go.Plain
theorem bt {A : Type} {p : Prop} [Decidable p] {a b : A} (h : p) : (bif decide p then a else b) = a := by rw [decide_eq_true h]; rfl

theorem loop613 {n : Int} {rows : List (List Int)} (l : List DT) (hl : l.length ≤ 3000) (K : List Int) (hkl : K.length ≤ l.length) (hin : ∀ v ∈ K, 0 ≤ v ∧ v < l.length) (hup : K.Pairwise (· < ·)) (d : Dice) :
    ∃ k : List DT, loopT l6_0_13 ((0, (-1, (n, (rows, ((K.length : Int), ()))))), (l, ([], (K, ((d, ()), ()))))) = some (.inr ((n, (rows, ())), (k, (l, ((d, ()), ()))))) ∧ k.length = K.length ∧ ∀ (q : Nat) (v : Int), K[q]? = some v → k[q]? = l[v.toNat]? := by
  obtain ⟨b, h1, k, rfl, h2⟩ := loop_ind (f := l6_0_13) (Q := fun b => ∃ k : List DT, b = .inr ((n, (rows, ())), (k, (l, ((d, ()), ())))) ∧ k.length = K.length ∧ ∀ (q : Nat) (v : Int), K[q]? = some v → k[q]? = l[v.toNat]?)
    (fun i a => ∃ (last : Int) (k : List DT), a = (((i : Int), (last, (n, (rows, ((K.length : Int), ()))))), (l, (k, (K, ((d, ()), ()))))) ∧ k.length = i ∧ (∀ (q : Nat) (v : Int), q < i → K[q]? = some v → k[q]? = l[v.toNat]?) ∧ ∀ (q : Nat) v, i ≤ q → K[q]? = some v → last < v) K.length
    (fun i a hi ha => by
      obtain ⟨last, k, rfl, h1, h2, h3⟩ := ha
      obtain ⟨v, hv⟩ := getD_some hi
      have hvi := hin v (List.mem_of_getElem? hv)
      have hlv := h3 i v (Nat.le_refl _) hv
      obtain ⟨c, hc⟩ := getD_some (l := l) (i := v.toNat) (by omega)
      refine ⟨_, ?_, v, k ++ [c], rfl, by simp [h1], fun q u hq hu => ?_, fun q u hq hu => ?_⟩
      · have hg : decide (k.length + ([c] : List DT).length ≤ 4294967296) = true := decide_eq_true (by simp; omega)
        simp only [l6_0_13, lt_t hi, blk_G, rowG_nat hv, decide_eq_false (show ¬ v ≤ last by omega), decide_eq_false (show ¬ v ≥ (l.length : Int) by omega), rowG_int hvi.1 hc, hg, sumE, sS, w64_nat (show i < 9223372036854775807 by omega)]
      · by_cases e : q = i
        · subst e
          rw [hv] at hu; cases hu
          rw [List.getElem?_append_right (by omega), h1, Nat.sub_self, hc]; rfl
        · rw [List.getElem?_append_left (by omega)]
          exact h2 q u (by omega) hu
      · have hq' := (List.getElem?_eq_some_iff.1 hu).1
        have := (List.pairwise_iff_getElem.1 hup) i q hi hq' (by omega)
        rw [List.getElem?_eq_getElem hi] at hv
        rw [List.getElem?_eq_getElem hq'] at hu
        cases hv; cases hu
        exact this)
    (fun a ha => by
      obtain ⟨last, k, rfl, h1, h2, h3⟩ := ha
      refine ⟨_, ?_, k, rfl, h1, fun q v hv => h2 q v (List.getElem?_eq_some_iff.1 hv).1 hv⟩
      simp only [l6_0_13, lt_f, sumE, sS]) ((0, (-1, (n, (rows, ((K.length : Int), ()))))), (l, ([], (K, ((d, ()), ()))))) ⟨-1, [], rfl, rfl, fun q v hq => (by omega), fun q v _ hv => by have := hin v (List.mem_of_getElem? hv); omega⟩
  exact ⟨k, h1, h2⟩

/-- The bounds without one. -/
def cut (k : List DT) (i : Nat) : List DT := ((k.drop 0).take i) ++ ((k.drop (i + 1)).take (k.length - (i + 1)))

theorem cut_mem {k : List DT} {i : Nat} {d : DT} (h : d ∈ cut k i) : ∃ q : Nat, q ≠ i ∧ k[q]? = some d := by
  unfold cut at h
  rcases List.mem_append.1 h with h | h
  · obtain ⟨q, hq⟩ := List.getElem?_of_mem h
    rw [List.drop_zero, List.getElem?_take] at hq
    split at hq
    · exact ⟨q, by omega, hq⟩
    · cases hq
  · obtain ⟨q, hq⟩ := List.getElem?_of_mem h
    rw [List.getElem?_take] at hq
    split at hq
    · rw [List.getElem?_drop] at hq
      exact ⟨i + 1 + q, by omega, hq⟩
    · cases hq

theorem loop628 {n : Nat} (k : List DT) (hk : k.length ≤ 3000) (h : ∀ (i : Nat) c, k[i]? = some c → m19 (((n : Int), (cut k i, (c, ()))), ()) = some ((false, ()), ())) :
    loopT l6_0_28 ((0, ((n : Int), ((k.length : Int), ()))), (k, ())) = some (.inr ((), ())) := by
  refine drop_e (loop_ind (f := l6_0_28) (Q := fun b => b = .inr ((), ())) (fun i a => a = (((i : Int), ((n : Int), ((k.length : Int), ()))), (k, ()))) k.length (fun i a hi ha => ?_) (fun a ha => ?_) _ rfl)
  · subst ha
    refine ⟨_, ?_, rfl⟩
    obtain ⟨c, hc⟩ := getD_some hi
    have hm := h i c hc
    unfold cut at hm
    have hw : w64 ((i : Int) + 1) = ((i + 1 : Nat) : Int) := w64_nat (by omega)
    have h0 : (((i + 1 : Nat) : Int)).toNat = i + 1 := Int.toNat_natCast _
    unfold l6_0_28
    simp only [lt_t hi, hw, Int.toNat_natCast, h0, cond_true]
    refine (bt (by omega)).trans ?_
    refine (bt (by omega)).trans ?_
    refine (bt (by omega)).trans ?_
    refine (bt (by simp; omega)).trans ?_
    refine (bt (by omega)).trans ?_
    refine (bt (by omega)).trans ?_
    refine (bt (by omega)).trans ?_
    refine (bt (by simp; omega)).trans ?_
    refine (bt (by omega)).trans ?_
    rw [hc]
    simp only [hm, sumE, sS]
  · subst ha
    refine ⟨_, ?_, rfl⟩
    simp only [l6_0_28, lt_f, sumE, sS]

theorem law6 : ∀ x, Abs.InRs [.row (.int .i64)] x → m6 (x, ()) = some ((true, ()), ()) := by
  intro x _
  have ex : x = ((show List Int from x.1), ()) := rfl
  rw [ex]
  generalize (show List Int from x.1) = ds
  clear ex
  unfold m6
  simp only [light8, sane9, roll10, sumE, sS]
  by_cases hds : ds.length ≤ 500
  · obtain ⟨r, d1, e1, hd1, hr, _⟩ := next_spec 6 (ds, 0, ()) (dok0 hds) (by omega)
    have hr := hr (by omega)
    obtain ⟨n, hn⟩ : ∃ n : Nat, (n : Int) = 1 + r := ⟨(1 + r).toNat, by omega⟩
    have hw : w64 (1 + r) = (n : Int) := by rw [w64_id (by omega) (by omega), hn]
    obtain ⟨l, d2, e2, hd2, H, hl⟩ := diffs12 (n := n) (by omega) (by omega) d1 hd1
    cases hc : closeB n l
    · have f := needed18n hc
      simp only [decide_eq_true hds, e1, hw, e2, f, cloB, hc, sumE, sS]
      rfl
    · obtain ⟨K, fl, f, N⟩ := needed18 hc (by omega)
      have hkl := N.klen
      obtain ⟨k, f1, k1, k2⟩ := loop613 (n := n) (rows := cloL n l) l (by omega) K (by omega) N.kin N.kup d2
      obtain ⟨a, d3, e3, hd3, ha, _⟩ := next_spec n d2 hd2 (by omega)
      have ha := ha (by omega)
      obtain ⟨b, d4, e4, hd4, hb, _⟩ := next_spec n d3 hd3 (by omega)
      have hb := hb (by omega)
      obtain ⟨m, d5, e5, hd5, hm, _⟩ := next_spec 40 d4 hd4 (by omega)
      have hm := hm (by omega)
      have hw5 : w64 (m - 10) = m - 10 := w64_id (by omega) (by omega)
      have kat : ∀ (q : Nat) d, k[q]? = some d → ∃ v : Int, K[q]? = some v ∧ 0 ≤ v ∧ l[v.toNat]? = some d := fun q d hq => by
        obtain ⟨v, hv⟩ := getD_some (l := K) (i := q) (by have := (List.getElem?_eq_some_iff.1 hq).1; omega)
        exact ⟨v, hv, (N.kin v (List.mem_of_getElem? hv)).1, (k2 q v hv).symm.trans hq⟩
      have hact : Act l fl k := fun d => by
        constructor
        · intro hd
          obtain ⟨q, hq⟩ := List.getElem?_of_mem hd
          obtain ⟨v, v1, v2, v3⟩ := kat q d hq
          have hvl := (List.getElem?_eq_some_iff.1 v3).1
          refine ⟨v.toNat, v3, (N.soon v.toNat hvl).2 ?_⟩
          rw [Int.toNat_of_nonneg v2]
          exact List.mem_of_getElem? v1
        · intro ⟨j, j1, j2⟩
          have := (N.soon j (List.getElem?_eq_some_iff.1 j1).1).1 j2
          obtain ⟨q, hq⟩ := List.getElem?_of_mem this
          have := k2 q _ hq
          rw [Int.toNat_natCast, j1] at this
          exact List.mem_of_getElem? this
      have hck := closeSub hc (by omega) (act_in hact)
      have dk : Dom n k l := N.dom k (by omega) hact
      have kl : ∀ i j, i < n → j < n → rounds (W0 k) n i j = rounds (W0 l) n i j := fun i j hi hj => by
        have h1 := dom_le hck hc dk hi hj
        have h2 := dom_le hc hck (dom_mem hc (act_in hact)) hi hj
        omega
      have Hc : SmallC n (a, b, m - 10, ()) := ⟨ha, hb, by simp only; omega, by simp only; omega⟩
      have hok : ∀ d ∈ l ++ [(a, b, m - 10, ())], okD n d = true := fun d hd => by
        rcases List.mem_append.1 hd with hd | hd
        · exact (H d hd).ok
        · rw [List.mem_singleton] at hd; subst hd; exact Hc.ok
      have hv' : validC n (l ++ [(a, b, m - 10, ())]) = true := valid_iff.2 ⟨by omega, by simp; omega, hok⟩
      have f2 := imp19 hc Hc.ok
      simp only at f2
      have hg1 : decide (0 + l.length ≤ 4294967296) = true := decide_eq_true (by omega)
      have hg2 : decide (l.length + ([(a, (b, ((m - 10), ())))] : List DT).length ≤ 4294967296) = true := decide_eq_true (by simp; omega)
      have f3 : m20 ((cloL n k, (cloL n l, ())), ()) = some ((true, ()), ()) := by
        rw [cloL_true hck, cloL_true hc, same20 (by omega), decide_eq_true (grid_ext kl)]
      have f4 : loopT l6_0_28 ((0, ((n : Int), ((k.length : Int), ()))), (k, ())) = some (.inr ((), ())) := by
        refine loop628 (n := n) k (by omega) (fun i c hi => ?_)
        obtain ⟨v, v1, v2, v3⟩ := kat i c hi
        have hcut : ∀ d ∈ cut k i, ∃ j : Nat, j ≠ v.toNat ∧ l[j]? = some d ∧ fl[j]? = some true := fun d hd => by
          obtain ⟨q, q1, q2⟩ := cut_mem hd
          obtain ⟨u, u1, u2, u3⟩ := kat q d q2
          have hul := (List.getElem?_eq_some_iff.1 u3).1
          refine ⟨u.toNat, fun e => ?_, u3, (N.soon u.toNat hul).2 ?_⟩
          · have hq := (List.getElem?_eq_some_iff.1 u1).1
            have hi := (List.getElem?_eq_some_iff.1 v1).1
            have e' : u = v := by omega
            rw [List.getElem?_eq_getElem hq] at u1
            rw [List.getElem?_eq_getElem hi] at v1
            have p := List.pairwise_iff_getElem.1 N.kup
            rcases Nat.lt_or_gt_of_ne q1 with g | g
            · have := p q i hq hi g
              rw [Option.some.inj u1, Option.some.inj v1] at this
              omega
            · have := p i q hi hq g
              rw [Option.some.inj u1, Option.some.inj v1] at this
              omega
          · rw [Int.toNat_of_nonneg u2]
            exact List.mem_of_getElem? u1
        have hcc := closeSub hc (R := cut k i) (by unfold cut; simp; omega) (fun d hd => by
          obtain ⟨j, _, j2, _⟩ := hcut d hd
          exact List.mem_of_getElem? j2)
        rw [imp19 hcc (H c (List.mem_of_getElem? v3)).ok, decide_eq_false (N.wanted v (List.mem_of_getElem? v1) c v3 (cut k i) hcc hcut)]
      have pa := ok_places Hc.ok
      simp only at pa
      simp only [decide_eq_true hds, e1, hw, e2, f, cloB, hc, f1, e3, e4, e5, hw5, hg1, hg2, f2, sumE, sS]
      cases hc' : closeB n (l ++ [(a, b, m - 10, ())])
      · have hi : decide (rounds (W0 l) n a.toNat b.toNat ≤ m - 10) = false := decide_eq_false (fun h => by
          have := dom_ok hc hv' (fun d hd => by
            rcases List.mem_append.1 hd with hd | hd
            · exact dom_mem hc (fun d h => h) d hd
            · rw [List.mem_singleton] at hd; subst hd; exact h)
          rw [hc'] at this; cases this)
        simp only [hi, hck, f3, f4, sumE, sS]
      · have hi : decide (rounds (W0 l) n a.toNat b.toNat ≤ m - 10) = decide (gridL n n (rounds (W0 (l ++ [(a, b, m - 10, ())])) n) = gridL n n (rounds (W0 l) n)) := decide_eq_decide.2 ⟨fun h => ?_, fun h => ?_⟩
        · have f5 : m20 ((cloL n (l ++ [(a, b, m - 10, ())]), (cloL n l, ())), ()) = some ((decide (gridL n n (rounds (W0 (l ++ [(a, b, m - 10, ())])) n) = gridL n n (rounds (W0 l) n)), ()), ()) := by
            rw [cloL_true hc', cloL_true hc, same20 (by omega)]
          simp only [hi, f5, hck, f3, f4, sumE, sS]
        · refine grid_ext (fun i j hi hj => ?_)
          have h1 := dom_le hc hc' (fun d hd => by
            rcases List.mem_append.1 hd with hd | hd
            · exact dom_mem hc (fun d h => h) d hd
            · rw [List.mem_singleton] at hd; subst hd; exact h) hi hj
          have h2 := dom_le hc' hc (dom_mem hc' (fun d hd => List.mem_append_left _ hd)) hi hj
          omega
        · have h1 := grid_inj h pa.1 pa.2.1
          have h3 := dom_mem hc' (fun d h => h) (a, b, m - 10, ()) (List.mem_append_right _ (List.mem_singleton.2 rfl))
          simp only at h3
          omega
  · simp only [decide_eq_false hds, sumE, sS]

end Go.Proofs.Ytcklpclgiaeopaa
