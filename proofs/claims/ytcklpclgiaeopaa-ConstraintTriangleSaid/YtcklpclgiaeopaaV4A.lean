/- Lemmas for the statement of the last text of this claim. -/
import Derived.Test.YtcklpclgiaeopaaPxK
import Derived.Test.YtcklpclgiaeopaaPxQ
import Derived.Test.YtcklpclgiaeopaaChecked
import Derived.ProofKit
import Derived.WalkKit
import Derived.BigCall
import Derived.Deep.LoopGhost
import Derived.Deep.OwnRows
import Derived.Test.YtcklpclgiaeopaaPxR
set_option linter.unusedSimpArgs false
set_option linter.unusedVariables false
namespace Go.FW
/-- What stands for no bound; the greatest bound of one constraint. -/
abbrev INF : Int := 1099511627776

abbrev DMX : Int := 17179869184

section
variable (W : Nat → Nat → Int)
/-- A walk whose inner places are less than k, and its weight. -/
inductive Wk (k : Nat) : Nat → Nat → Int → Prop where
  | edge (i j : Nat) (h : W i j < INF) : Wk k i j (W i j)
  | step (i q j : Nat) (u v : Int) (h1 : Wk k i q u) (hq : q < k) (h2 : Wk k q j v) : Wk k i j (u + v)

/-- A sum of closed walks at a place. -/
inductive Loops (k : Nat) : Int → Prop where
  | nil : Loops k 0
  | cons (c s : Int) (h : Wk W k k k c) (t : Loops k s) : Loops k (c + s)

end
variable {W : Nat → Nat → Int}
theorem Loops.append {k : Nat} {s t : Int} (h : Loops W k s) (g : Loops W k t) : Loops W k (s + t) := by
  induction h with
  | nil => simpa using g
  | cons c s h _ ih => rw [Int.add_assoc]; exact .cons c _ h ih

theorem Loops.nonneg {k : Nat} {s : Int} (h : Loops W k s) (hc : ∀ c, Wk W k k k c → 0 ≤ c) : 0 ≤ s := by
  induction h with
  | nil => exact Int.le_refl _
  | cons c s h _ ih => have := hc c h; omega

/-- A walk through places up to k: one through lesser places, or one that comes to k, goes round there, and goes on. -/
theorem Wk.split {k i j : Nat} {w : Int} (h : Wk W (k + 1) i j w) : Wk W k i j w ∨ ∃ u s v, Wk W k i k u ∧ Loops W k s ∧ Wk W k k j v ∧ w = u + s + v := by
  induction h with
  | edge i j h => exact .inl (.edge i j h)
  | step i q j u v h1 hq h2 ih1 ih2 =>
    by_cases e : q = k
    · subst e
      have a : ∃ u1 s1, Wk W q i q u1 ∧ Loops W q s1 ∧ u = u1 + s1 := by
        rcases ih1 with h | ⟨u1, s, v1, g1, g2, g3, rfl⟩
        · exact ⟨u, 0, h, .nil, by omega⟩
        · exact ⟨u1, s + (v1 + 0), g1, g2.append (.cons v1 0 g3 .nil), by omega⟩
      have b : ∃ s2 v2, Loops W q s2 ∧ Wk W q q j v2 ∧ v = s2 + v2 := by
        rcases ih2 with h | ⟨u1, s, v1, g1, g2, g3, rfl⟩
        · exact ⟨0, v, .nil, h, by omega⟩
        · exact ⟨u1 + s, v1, .cons u1 s g1 g2, g3, by omega⟩
      obtain ⟨u1, s1, a1, a2, rfl⟩ := a
      obtain ⟨s2, v2, b1, b2, rfl⟩ := b
      exact .inr ⟨u1, s1 + s2, v2, a1, a2.append b1, b2, by omega⟩
    · have hq : q < k := by omega
      rcases ih1 with h1 | ⟨u1, s1, v1, a1, a2, a3, rfl⟩
      · rcases ih2 with h2 | ⟨u2, s2, v2, b1, b2, b3, rfl⟩
        · exact .inl (.step i q j u v h1 hq h2)
        · exact .inr ⟨u + u2, s2, v2, .step i q k u u2 h1 hq b1, b2, b3, by omega⟩
      · rcases ih2 with h2 | ⟨u2, s2, v2, b1, b2, b3, rfl⟩
        · exact .inr ⟨u1, s1, v1 + v, a1, a2, .step k q j v1 v a3 hq h2, by omega⟩
        · exact .inr ⟨u1, s1 + (v1 + u2 + s2), v2, a1, a2.append (.cons (v1 + u2) s2 (.step k q k v1 u2 a3 hq b1) b2), b3, by omega⟩

theorem Wk.mono {k m i j : Nat} {w : Int} (h : Wk W k i j w) (hm : k ≤ m) : Wk W m i j w := by
  induction h with
  | edge i j h => exact .edge i j h
  | step i q j u v _ hq _ ih1 ih2 => exact .step i q j u v ih1 (by omega) ih2

/-- One round. -/
def relax (M : Nat → Nat → Int) (k : Nat) : Nat → Nat → Int := fun i j => if M i k < INF ∧ M k j < INF then min (M i j) (M i k + M k j) else M i j

/-- The rounds before k. -/
def rounds (W : Nat → Nat → Int) : Nat → Nat → Nat → Int
  | 0 => W
  | k + 1 => relax (rounds W k) k

theorem relax_le (M : Nat → Nat → Int) (k i j : Nat) : relax M k i j ≤ M i j := by
  unfold relax
  split
  · exact Int.min_le_left _ _
  · exact Int.le_refl _

theorem rounds_le (W : Nat → Nat → Int) (i j : Nat) : ∀ {k m : Nat}, k ≤ m → rounds W m i j ≤ rounds W k i j := by
  intro k m h
  induction m with
  | zero => obtain rfl : k = 0 := by omega
            exact Int.le_refl _
  | succ m ih =>
    by_cases e : k = m + 1
    · subst e; exact Int.le_refl _
    · exact Int.le_trans (relax_le _ _ _ _) (ih (by omega))

/-- What the rounds hold is a walk. -/
theorem rounds_walk (W : Nat → Nat → Int) : ∀ (k i j : Nat), rounds W k i j < INF → Wk W k i j (rounds W k i j)
  | 0, i, j, h => .edge i j h
  | k + 1, i, j, h => by
    have old : rounds W (k + 1) i j = rounds W k i j → Wk W (k + 1) i j (rounds W (k + 1) i j) := fun e => by
      rw [e] at h ⊢
      exact (rounds_walk W k i j h).mono (by omega)
    by_cases hc : rounds W k i k < INF ∧ rounds W k k j < INF
    · have e : rounds W (k + 1) i j = min (rounds W k i j) (rounds W k i k + rounds W k k j) := by
        show relax (rounds W k) k i j = _
        unfold relax; rw [if_pos hc]
      by_cases hm : rounds W k i j ≤ rounds W k i k + rounds W k k j
      · exact old (by rw [e]; omega)
      · have e2 : rounds W (k + 1) i j = rounds W k i k + rounds W k k j := by rw [e]; omega
        rw [e2]
        exact .step i k j _ _ ((rounds_walk W k i k hc.1).mono (by omega)) (by omega) ((rounds_walk W k k j hc.2).mono (by omega))
    · exact old (by show relax (rounds W k) k i j = _; unfold relax; rw [if_neg hc])

/-- No number on the diagonal was negative up to here. -/
def Good (W : Nat → Nat → Int) (k : Nat) : Prop := ∀ q, q < k → 0 ≤ rounds W q q q

theorem Good.mono {k m : Nat} (h : Good W m) (hk : k ≤ m) : Good W k := fun q hq => h q (by omega)

/-! ### Walks as lists -/
/-- The weight of a walk with the inner places p. -/
def wl (W : Nat → Nat → Int) : Nat → List Nat → Nat → Int
  | i, [], j => W i j
  | i, q :: p, j => W i q + wl W q p j

def fin (W : Nat → Nat → Int) : Nat → List Nat → Nat → Prop
  | i, [], j => W i j < INF
  | i, q :: p, j => W i q < INF ∧ fin W q p j

theorem wl_append (W : Nat → Nat → Int) : ∀ (a : List Nat) (i q : Nat) (b : List Nat) (j : Nat), wl W i (a ++ q :: b) j = wl W i a q + wl W q b j
  | [], i, q, b, j => rfl
  | x :: a, i, q, b, j => by
    rw [List.cons_append, wl, wl, wl_append W a x q b j]; omega

theorem fin_append (W : Nat → Nat → Int) : ∀ (a : List Nat) (i q : Nat) (b : List Nat) (j : Nat), fin W i (a ++ q :: b) j ↔ fin W i a q ∧ fin W q b j
  | [], i, q, b, j => Iff.rfl
  | x :: a, i, q, b, j => by
    rw [List.cons_append, fin, fin, fin_append W a x q b j]
    exact and_assoc.symm

theorem Wk.list {k i j : Nat} {w : Int} (h : Wk W k i j w) : ∃ p, (∀ q ∈ p, q < k) ∧ fin W i p j ∧ w = wl W i p j := by
  induction h with
  | edge i j h => exact ⟨[], fun q hq => (by cases hq), h, rfl⟩
  | step i q j u v h1 hq h2 ih1 ih2 =>
    obtain ⟨a, a1, a2, rfl⟩ := ih1
    obtain ⟨b, b1, b2, rfl⟩ := ih2
    refine ⟨a ++ q :: b, fun x hx => ?_, (fin_append W a i q b j).2 ⟨a2, b2⟩, (wl_append W a i q b j).symm⟩
    rcases List.mem_append.1 hx with h | h
    · exact a1 x h
    · rcases List.mem_cons.1 h with rfl | h
      · exact hq
      · exact b1 x h

theorem list_walk {k : Nat} : ∀ (p : List Nat) {i j : Nat}, (∀ q ∈ p, q < k) → fin W i p j → Wk W k i j (wl W i p j)
  | [], i, j, _, h => .edge i j h
  | q :: p, i, j, hp, h => .step i q j _ _ (.edge i q h.1) (hp q (List.mem_cons_self ..)) (list_walk p (fun x hx => hp x (List.mem_cons_of_mem _ hx)) h.2)

/-- Bounds of single constraints. -/
def Small (W : Nat → Nat → Int) : Prop := ∀ i j, W i j < INF → -DMX ≤ W i j ∧ W i j ≤ DMX

theorem wl_bound (hW : Small W) : ∀ (p : List Nat) (i j : Nat), fin W i p j → -(((p.length : Int) + 1) * DMX) ≤ wl W i p j ∧ wl W i p j ≤ ((p.length : Int) + 1) * DMX
  | [], i, j, h => by
    have := hW i j h
    simp only [wl, List.length_nil]
    omega
  | q :: p, i, j, h => by
    have a := hW i q h.1
    have b := wl_bound hW p q j h.2
    simp only [wl, List.length_cons, Int.natCast_add, Int.add_mul] at b ⊢
    omega

theorem nodup_len : ∀ {k : Nat} {p : List Nat}, p.Nodup → (∀ q ∈ p, q < k) → p.length ≤ k := by
  intro k
  induction k with
  | zero =>
    intro p _ hp
    cases p with
    | nil => exact Nat.le_refl _
    | cons q p => have := hp q (List.mem_cons_self ..); omega
  | succ k ih =>
    intro p hn hp
    have h := ih (p := p.erase k) (hn.erase k) (fun q hq => by
      have := (hn.mem_erase_iff).1 hq
      have := hp q this.2
      omega)
    have := List.length_erase (a := k) (l := p)
    split at this <;> omega

theorem dup_split : ∀ {p : List Nat}, ¬ p.Nodup → ∃ a q b c, p = a ++ q :: (b ++ q :: c)
  | [], h => absurd List.nodup_nil h
  | x :: r, h => by
    by_cases hx : x ∈ r
    · obtain ⟨b, c, rfl⟩ := List.append_of_mem hx
      exact ⟨[], x, b, c, rfl⟩
    · have : ¬ r.Nodup := fun hr => h (List.nodup_cons.2 ⟨hx, hr⟩)
      obtain ⟨a, q, b, c, rfl⟩ := dup_split this
      exact ⟨x :: a, q, b, c, rfl⟩

/-- Closed walks among the places before k are not negative. -/
def NoNeg (W : Nat → Nat → Int) (k : Nat) : Prop := ∀ q w, q < k → Wk W k q q w → 0 ≤ w

theorem shorten {k : Nat} (hk : NoNeg W k) : ∀ (n : Nat) (p : List Nat) (i j : Nat), p.length ≤ n → (∀ q ∈ p, q < k) → fin W i p j → ∃ p', p'.Nodup ∧ (∀ q ∈ p', q < k) ∧ fin W i p' j ∧ wl W i p' j ≤ wl W i p j := by
  intro n
  induction n with
  | zero =>
    intro p i j hn hp hf
    have : p = [] := List.length_eq_zero_iff.1 (by omega)
    subst this
    exact ⟨[], List.nodup_nil, hp, hf, Int.le_refl _⟩
  | succ n ih =>
    intro p i j hn hp hf
    by_cases hd : p.Nodup
    · exact ⟨p, hd, hp, hf, Int.le_refl _⟩
    · obtain ⟨a, q, b, c, rfl⟩ := dup_split hd
      obtain ⟨f1, f2⟩ := (fin_append W a i q _ j).1 hf
      obtain ⟨f3, f4⟩ := (fin_append W b q q c j).1 f2
      have hq : q < k := hp q (by simp)
      have hcl := hk q _ hq (list_walk b (fun x hx => hp x (by simp [hx])) f3)
      obtain ⟨p', h1, h2, h3, h4⟩ := ih (a ++ q :: c) i j (by simp at hn ⊢; omega) (fun x hx => hp x (by
        simp at hx ⊢
        rcases hx with h | h | h <;> simp [h])) ((fin_append W a i q c j).2 ⟨f1, f4⟩)
      refine ⟨p', h1, h2, h3, ?_⟩
      rw [wl_append] at h4 ⊢
      rw [wl_append]
      omega

theorem simple_le (hW : Small W) : ∀ (k : Nat), k ≤ 60 → ∀ (p : List Nat) (i j : Nat), p.Nodup → (∀ q ∈ p, q < k) → fin W i p j → rounds W k i j ≤ wl W i p j ∧ rounds W k i j < INF := by
  intro k
  induction k with
  | zero =>
    intro _ p i j _ hp hf
    cases p with
    | nil => exact ⟨Int.le_refl _, hf⟩
    | cons q p => have := hp q (List.mem_cons_self ..); omega
  | succ k ih =>
    intro hk p i j hn hp hf
    by_cases hm : k ∈ p
    · obtain ⟨a, b, rfl⟩ := List.append_of_mem hm
      obtain ⟨f1, f2⟩ := (fin_append W a i k b j).1 hf
      obtain ⟨n1, n2, n3⟩ := List.nodup_append.1 hn
      obtain ⟨n4, n5⟩ := List.nodup_cons.1 n2
      have ha : ∀ q ∈ a, q < k := fun q hq => by
        have := hp q (List.mem_append_left _ hq)
        have : q ≠ k := n3 q hq k (List.mem_cons_self ..)
        omega
      have hb : ∀ q ∈ b, q < k := fun q hq => by
        have := hp q (List.mem_append_right _ (List.mem_cons_of_mem _ hq))
        have : q ≠ k := fun e => n4 (e ▸ hq)
        omega
      obtain ⟨g1, g2⟩ := ih (by omega) a i k n1 ha f1
      obtain ⟨g3, g4⟩ := ih (by omega) b k j n5 hb f2
      have hl := nodup_len hn hp
      have hw := (wl_bound hW _ i j hf).2
      have e : rounds W (k + 1) i j = min (rounds W k i j) (rounds W k i k + rounds W k k j) := by
        show relax (rounds W k) k i j = _
        unfold relax; rw [if_pos ⟨g2, g4⟩]
      rw [wl_append] at hw ⊢
      have : (((a ++ k :: b).length : Int) + 1) * DMX ≤ 61 * DMX + DMX := by
        have : ((a ++ k :: b).length : Int) ≤ 60 := by omega
        unfold DMX at *
        omega
      unfold DMX at *
      unfold INF
      rw [e]
      omega
    · have hp' : ∀ q ∈ p, q < k := fun q hq => by
        have := hp q hq
        have : q ≠ k := fun e => hm (e ▸ hq)
        omega
      obtain ⟨g1, g2⟩ := ih (by omega) p i j hn hp' hf
      have := rounds_le W i j (show k ≤ k + 1 by omega)
      exact ⟨Int.le_trans this g1, Int.lt_of_le_of_lt this g2⟩

/-- No walk is less, closed walks are not negative. -/
theorem rounds_least (hW : Small W) : ∀ {k : Nat}, k ≤ 60 → Good W k → NoNeg W k ∧ ∀ {i j : Nat} {w : Int}, Wk W k i j w → rounds W k i j ≤ w ∧ rounds W k i j < INF := by
  have fromN : ∀ {k : Nat}, k ≤ 60 → NoNeg W k → ∀ {i j : Nat} {w : Int}, Wk W k i j w → rounds W k i j ≤ w ∧ rounds W k i j < INF := by
    intro k hk hn i j w h
    obtain ⟨p, h1, h2, rfl⟩ := h.list
    obtain ⟨p', g1, g2, g3, g4⟩ := shorten hn p.length p i j (Nat.le_refl _) h1 h2
    obtain ⟨e1, e2⟩ := simple_le hW k hk p' i j g1 g2 g3
    exact ⟨Int.le_trans e1 g4, e2⟩
  intro k
  induction k with
  | zero =>
    intro hk _
    have : NoNeg W 0 := fun q w hq => by omega
    exact ⟨this, fromN hk this⟩
  | succ k ih =>
    intro hk hg
    obtain ⟨hn, hc⟩ := ih (by omega) (hg.mono (by omega))
    have hkk : ∀ c, Wk W k k k c → 0 ≤ c := fun c h => Int.le_trans (hg k (by omega)) (hc h).1
    have hN : NoNeg W (k + 1) := by
      intro q w hq h
      rcases h.split with h | ⟨u, s, v, h1, h2, h3, rfl⟩
      · by_cases e : q = k
        · subst e; exact hkk w h
        · exact hn q w (by omega) h
      · have hs := h2.nonneg hkk
        by_cases e : q = k
        · subst e
          have := hkk u h1
          have := hkk v h3
          omega
        · have := hkk (v + u) (.step k q k v u h3 (by omega) h1)
          omega
    exact ⟨hN, fromN hk hN⟩

/-- How large a bound can be. -/
theorem rounds_bound (hW : Small W) {k : Nat} (hk : k ≤ 60) (hg : Good W k) {i j : Nat} (h : rounds W k i j < INF) : -(61 * DMX) ≤ rounds W k i j ∧ rounds W k i j ≤ 61 * DMX := by
  obtain ⟨hn, hc⟩ := rounds_least hW hk hg
  obtain ⟨p, h1, h2, h3⟩ := (rounds_walk W k i j h).list
  obtain ⟨p', g1, g2, g3, g4⟩ := shorten hn p.length p i j (Nat.le_refl _) h1 h2
  have hl := nodup_len g1 g2
  have hb := wl_bound hW p' i j g3
  have hs := (simple_le hW k hk p' i j g1 g2 g3).1
  have : ((p'.length : Int) + 1) * DMX ≤ 61 * DMX := by
    have : (p'.length : Int) ≤ 60 := by omega
    unfold DMX
    omega
  omega

end Go.FW

namespace Go.FW
/-- A constraint: x[to] - x[from] is at most max. -/
abbrev DT : Type := Int × Int × Int × Unit

/-- The least bound of a pair, among constraints. -/
def dirM (l : List DT) (i j : Nat) : Int := l.foldl (fun m d => if d.1 = (i : Int) ∧ d.2.1 = (j : Int) then min m d.2.2.1 else m) INF

/-- .. and 0 on the diagonal. -/
def W0 (l : List DT) (i j : Nat) : Int := if i = j then min (dirM l i j) 0 else dirM l i j

def okD (n : Int) (d : DT) : Bool := decide (0 ≤ d.1 ∧ d.1 ≤ n - 1) && (decide (0 ≤ d.2.1 ∧ d.2.1 ≤ n - 1) && decide (-DMX ≤ d.2.2.1 ∧ d.2.2.1 ≤ DMX))

def validC (n : Int) (l : List DT) : Bool := decide (1 ≤ n ∧ n ≤ 41) && (decide (l.length ≤ 4000) && l.all (okD n))

def closeB (n : Int) (l : List DT) : Bool := validC n l && (List.range n.toNat).all fun i => decide (0 ≤ rounds (W0 l) n.toNat i i)

theorem foldl_min (i j : Nat) : ∀ (l : List DT) (m : Int), l.foldl (fun m d => if d.1 = (i : Int) ∧ d.2.1 = (j : Int) then min m d.2.2.1 else m) m = m ∨ ∃ d ∈ l, d.1 = (i : Int) ∧ d.2.1 = (j : Int) ∧ l.foldl (fun m d => if d.1 = (i : Int) ∧ d.2.1 = (j : Int) then min m d.2.2.1 else m) m = d.2.2.1
  | [], m => .inl rfl
  | d :: l, m => by
    rw [List.foldl_cons]
    by_cases h : d.1 = (i : Int) ∧ d.2.1 = (j : Int)
    · rw [if_pos h]
      rcases foldl_min i j l (min m d.2.2.1) with e | ⟨y, h1, h2⟩
      · by_cases hm : m ≤ d.2.2.1
        · left; rw [e]; omega
        · right; exact ⟨d, List.mem_cons_self .., h.1, h.2, by rw [e]; omega⟩
      · right; exact ⟨y, List.mem_cons_of_mem _ h1, h2⟩
    · rw [if_neg h]
      rcases foldl_min i j l m with e | ⟨y, h1, h2⟩
      · left; exact e
      · right; exact ⟨y, List.mem_cons_of_mem _ h1, h2⟩

theorem foldl_le (i j : Nat) : ∀ (l : List DT) (m : Int), l.foldl (fun m d => if d.1 = (i : Int) ∧ d.2.1 = (j : Int) then min m d.2.2.1 else m) m ≤ m ∧ ∀ d ∈ l, d.1 = (i : Int) → d.2.1 = (j : Int) → l.foldl (fun m d => if d.1 = (i : Int) ∧ d.2.1 = (j : Int) then min m d.2.2.1 else m) m ≤ d.2.2.1
  | [], m => ⟨Int.le_refl _, fun d h => by cases h⟩
  | x :: l, m => by
    rw [List.foldl_cons]
    obtain ⟨h1, h2⟩ := foldl_le i j l (if x.1 = (i : Int) ∧ x.2.1 = (j : Int) then min m x.2.2.1 else m)
    have hm : (if x.1 = (i : Int) ∧ x.2.1 = (j : Int) then min m x.2.2.1 else m) ≤ m := by split <;> omega
    refine ⟨Int.le_trans h1 hm, fun d hd e1 e2 => ?_⟩
    rcases List.mem_cons.1 hd with rfl | hd
    · rw [if_pos ⟨e1, e2⟩] at h1 ⊢
      omega
    · exact h2 d hd e1 e2

theorem dir_some {l : List DT} {i j : Nat} (h : dirM l i j < INF) : ∃ d ∈ l, d.1 = (i : Int) ∧ d.2.1 = (j : Int) ∧ dirM l i j = d.2.2.1 := by
  rcases foldl_min i j l INF with e | h1
  · unfold dirM at h; rw [e] at h; omega
  · exact h1

theorem dir_le {l : List DT} {d : DT} (hd : d ∈ l) {i j : Nat} (h1 : d.1 = (i : Int)) (h2 : d.2.1 = (j : Int)) : dirM l i j ≤ d.2.2.1 := (foldl_le i j l INF).2 d hd h1 h2

theorem dir_inf (l : List DT) (i j : Nat) : dirM l i j ≤ INF := (foldl_le i j l INF).1

theorem okD_iff {n : Int} {d : DT} : okD n d = true ↔ (0 ≤ d.1 ∧ d.1 ≤ n - 1) ∧ (0 ≤ d.2.1 ∧ d.2.1 ≤ n - 1) ∧ (-DMX ≤ d.2.2.1 ∧ d.2.2.1 ≤ DMX) := by
  unfold okD
  rw [Bool.and_eq_true, Bool.and_eq_true, decide_eq_true_eq, decide_eq_true_eq, decide_eq_true_eq]

theorem valid_iff {n : Int} {l : List DT} : validC n l = true ↔ (1 ≤ n ∧ n ≤ 41) ∧ l.length ≤ 4000 ∧ ∀ d ∈ l, okD n d = true := by
  unfold validC
  rw [Bool.and_eq_true, Bool.and_eq_true, decide_eq_true_eq, decide_eq_true_eq, List.all_eq_true]

theorem w_small {n : Int} {l : List DT} (h : ∀ d ∈ l, okD n d = true) : Small (W0 l) := by
  intro i j hf
  unfold W0 at hf ⊢
  by_cases e : i = j
  · rw [if_pos e] at hf ⊢
    by_cases hd : dirM l i j < INF
    · obtain ⟨d, hd, _, _, he⟩ := dir_some hd
      have := (okD_iff.1 (h d hd)).2.2
      unfold DMX at *
      omega
    · unfold DMX INF at *
      omega
  · rw [if_neg e] at hf ⊢
    obtain ⟨d, hd, _, _, he⟩ := dir_some hf
    have := (okD_iff.1 (h d hd)).2.2
    omega

theorem w_diag (l : List DT) (i : Nat) : W0 l i i ≤ 0 := by
  unfold W0
  rw [if_pos rfl]
  omega

theorem w_inf (l : List DT) (i j : Nat) : W0 l i j ≤ INF := by
  unfold W0
  have := dir_inf l i j
  split
  · unfold INF at *; omega
  · exact this

theorem rounds_inf (l : List DT) (k i j : Nat) : rounds (W0 l) k i j ≤ INF := Int.le_trans (rounds_le _ i j (Nat.zero_le k)) (w_inf l i j)

theorem rounds_diag (l : List DT) (k i : Nat) : rounds (W0 l) k i i ≤ 0 := Int.le_trans (rounds_le _ i i (Nat.zero_le k)) (w_diag l i)

/-- A closure. -/
structure Clos (l : List DT) (n : Nat) (D : Nat → Nat → Int) : Prop where
  zero : ∀ i, i < n → D i i = 0
  tri : ∀ i j k, i < n → j < n → k < n → D i j < INF → D j k < INF → D i k ≤ D i j + D j k ∧ D i k < INF
  edge : ∀ d ∈ l, ∀ i j : Nat, d.1 = (i : Int) → d.2.1 = (j : Int) → D i j ≤ d.2.2.1
  walk : ∀ i j, D i j < INF → Wk (W0 l) n i j (D i j)
  least : ∀ i j w, Wk (W0 l) n i j w → D i j ≤ w ∧ D i j < INF
  inf : ∀ i j, D i j ≤ INF
  bound : ∀ i j, D i j < INF → -(61 * DMX) ≤ D i j ∧ D i j ≤ 61 * DMX

theorem good_of {l : List DT} {n : Nat} (h : ∀ i, i < n → 0 ≤ rounds (W0 l) n i i) : Good (W0 l) n := fun q hq => Int.le_trans (h q hq) (rounds_le _ q q (by omega))

theorem clos_of {l : List DT} {n : Nat} (hn : n ≤ 60) (hW : Small (W0 l)) (h : ∀ i, i < n → 0 ≤ rounds (W0 l) n i i) : Clos l n (rounds (W0 l) n) := by
  have hg := good_of h
  obtain ⟨hN, hc⟩ := rounds_least hW hn hg
  have hwalk := rounds_walk (W0 l) n
  refine ⟨fun i hi => ?_, fun i j k hi hj hk h1 h2 => ?_, fun d hd i j e1 e2 => ?_, hwalk, fun i j w => hc, rounds_inf l n, fun i j hf => rounds_bound hW hn hg hf⟩
  · have := h i hi
    have := rounds_diag l n i
    omega
  · exact hc (.step i j k _ _ (hwalk i j h1) hj (hwalk j k h2))
  · have h1 := rounds_le (W0 l) i j (Nat.zero_le n)
    have h2 : W0 l i j ≤ d.2.2.1 ∨ W0 l i j ≤ d.2.2.1 := by
      left
      unfold W0
      have := dir_le hd e1 e2
      split <;> omega
    rcases h2 with h2 | h2 <;> exact Int.le_trans h1 h2

/-- Whether numbers fulfil constraints. -/
def Sol (l : List DT) (x : Nat → Int) : Prop := ∀ d ∈ l, x d.2.1.toNat - x d.1.toNat ≤ d.2.2.1

theorem sol_walk {n : Int} {l : List DT} (hl : ∀ d ∈ l, okD n d = true) {x : Nat → Int} (hx : Sol l x) {k i j : Nat} {w : Int} (h : Wk (W0 l) k i j w) : x j - x i ≤ w := by
  induction h with
  | edge i j h =>
    unfold W0 at h ⊢
    by_cases e : i = j
    · subst e
      rw [if_pos rfl] at h ⊢
      by_cases hd : dirM l i i < INF
      · obtain ⟨d, hd, e1, e2, he⟩ := dir_some hd
        have := hx d hd
        rw [e1, e2] at this
        simp only [Int.toNat_natCast] at this
        omega
      · unfold INF at *; omega
    · rw [if_neg e] at h ⊢
      obtain ⟨d, hd, e1, e2, he⟩ := dir_some h
      have := hx d hd
      rw [e1, e2] at this
      simp only [Int.toNat_natCast] at this
      omega
  | step i q j u v _ _ _ ih1 ih2 => omega

/-- With a solution there is a closure. -/
theorem sol_ok {n : Int} {l : List DT} (h : validC n l = true) {x : Nat → Int} (hx : Sol l x) : closeB n l = true := by
  obtain ⟨h1, h2, h3⟩ := valid_iff.1 h
  unfold closeB
  rw [h, Bool.true_and, List.all_eq_true]
  intro i _
  refine decide_eq_true ?_
  have hi : rounds (W0 l) n.toNat i i < INF := by
    have := rounds_diag l n.toNat i
    unfold INF; omega
  have := sol_walk h3 hx (rounds_walk (W0 l) n.toNat i i hi)
  omega

theorem closeB_iff {n : Int} {l : List DT} : closeB n l = true ↔ validC n l = true ∧ ∀ i, i < n.toNat → 0 ≤ rounds (W0 l) n.toNat i i := by
  unfold closeB
  rw [Bool.and_eq_true, List.all_eq_true]
  simp only [List.mem_range, decide_eq_true_eq]

theorem closeB_clos {n : Int} {l : List DT} (h : closeB n l = true) : Clos l n.toNat (rounds (W0 l) n.toNat) := by
  obtain ⟨h1, h2⟩ := closeB_iff.1 h
  obtain ⟨h3, _, h4⟩ := valid_iff.1 h1
  exact clos_of (by omega) (w_small h4) h2

end Go.FW

namespace Go.FW
open Go Go.Abs
/-- No number on the diagonal is negative behind the rounds before k. -/
def AllD (W : Nat → Nat → Int) (n k : Nat) : Prop := ∀ i, i < n → 0 ≤ rounds W k i i

theorem AllD.good {W : Nat → Nat → Int} {n k : Nat} (h : AllD W n k) (hk : k ≤ n) : Good W k := fun q hq => Int.le_trans (h q (by omega)) (rounds_le W q q (by omega))

theorem AllD.mono {W : Nat → Nat → Int} {n k m : Nat} (h : AllD W n m) (hk : k ≤ m) : AllD W n k := fun i hi => Int.le_trans (h i hi) (rounds_le W i i hk)

/-- A round under way: the pairs before (i, j) are done. -/
def part (M : Nat → Nat → Int) (k i j : Nat) : Nat → Nat → Int := fun a b => if a < i ∨ (a = i ∧ b < j) then relax M k a b else M a b

def upd (M : Nat → Nat → Int) (i j : Nat) (v : Int) : Nat → Nat → Int := fun a b => if a = i ∧ b = j then v else M a b

/-- The state of a round in place. -/
structure PS (W : Nat → Nat → Int) (n k i j : Nat) (c : Nat → Nat → Int) : Prop where
  inf : ∀ a b, a < n → b < n → c a b ≤ INF
  good : AllD W n k → ∀ a b, a < n → b < n → c a b = part (rounds W k) k i j a b
  bad : ¬ AllD W n k → ∃ q, q < n ∧ c q q < 0

theorem relax_row {M : Nat → Nat → Int} {k : Nat} (h : M k k = 0) (j : Nat) : relax M k k j = M k j := by
  unfold relax
  split
  · rw [h]; omega
  · rfl

theorem relax_col {M : Nat → Nat → Int} {k : Nat} (h : M k k = 0) (i : Nat) : relax M k i k = M i k := by
  unfold relax
  split
  · rw [h]; omega
  · rfl

theorem part_row {M : Nat → Nat → Int} {k : Nat} (h : M k k = 0) (i j b : Nat) : part M k i j k b = M k b := by
  unfold part
  split
  · exact relax_row h b
  · rfl

theorem part_col {M : Nat → Nat → Int} {k : Nat} (h : M k k = 0) (i j a : Nat) : part M k i j a k = M a k := by
  unfold part
  split
  · exact relax_col h a
  · rfl

theorem part_here (M : Nat → Nat → Int) (k i j : Nat) : part M k i j i j = M i j := by
  unfold part
  rw [if_neg (by omega)]

theorem part_next (M : Nat → Nat → Int) (k i j a b : Nat) : part M k i (j + 1) a b = if a = i ∧ b = j then relax M k i j else part M k i j a b := by
  unfold part
  by_cases h : a = i ∧ b = j
  · rw [if_pos h, h.1, h.2, if_pos (by omega)]
  · rw [if_neg h]
    by_cases g : a < i ∨ (a = i ∧ b < j)
    · rw [if_pos g, if_pos (by omega)]
    · rw [if_neg g, if_neg (by omega)]

theorem exists_neg {W : Nat → Nat → Int} {n k : Nat} (h : ¬ AllD W n k) : ∃ q, q < n ∧ rounds W k q q < 0 := by
  by_cases g : ∃ q, q < n ∧ rounds W k q q < 0
  · exact g
  · exact absurd (fun i hi => by
      by_cases hh : 0 ≤ rounds W k i i
      · exact hh
      · exact absurd ⟨i, hi, by omega⟩ g) h

theorem PS.start {l : List DT} {n : Nat} {c : Nat → Nat → Int} (h : ∀ a b, a < n → b < n → c a b = W0 l a b) : PS (W0 l) n 0 0 0 c := by
  refine ⟨fun a b ha hb => by rw [h a b ha hb]; exact w_inf l a b, fun _ a b ha hb => ?_, fun hb => ?_⟩
  · rw [h a b ha hb]
    unfold part
    rw [if_neg (by omega)]
    rfl
  · obtain ⟨q, hq, hn⟩ := exists_neg hb
    exact ⟨q, hq, by rw [h q q hq hq]; exact hn⟩

theorem diag_zero {l : List DT} {n k : Nat} (h : AllD (W0 l) n k) (hk : k < n) : rounds (W0 l) k k k = 0 := by
  have := h k hk
  have := rounds_diag l k k
  omega

theorem PS.skip {l : List DT} {n k i j : Nat} {c : Nat → Nat → Int} (h : PS (W0 l) n k i j c) (hk : k < n) (hi : i < n) (hj : j < n) (hs : c i k = INF ∨ c k j = INF) : PS (W0 l) n k i (j + 1) c := by
  refine ⟨h.inf, fun hg a b ha hb => ?_, h.bad⟩
  have hz := diag_zero hg hk
  rw [part_next, h.good hg a b ha hb]
  by_cases e : a = i ∧ b = j
  · rw [if_pos e, e.1, e.2, part_here]
    have h1 := h.good hg i k hi hk
    have h2 := h.good hg k j hk hj
    rw [part_col hz] at h1
    rw [part_row hz] at h2
    unfold relax
    rw [if_neg (by rw [← h1, ← h2]; omega)]
  · rw [if_neg e]

theorem PS.store {l : List DT} {n k i j : Nat} {c : Nat → Nat → Int} (hW : Small (W0 l)) (hn : n ≤ 60) (h : PS (W0 l) n k i j c) (hk : k < n) (hi : i < n) (hj : j < n) (h1 : c i k ≠ INF) (h2 : c k j ≠ INF) :
    PS (W0 l) n k i (j + 1) (upd c i j (min (c i j) (w64 (c i k + c k j)))) := by
  refine ⟨fun a b ha hb => ?_, fun hg a b ha hb => ?_, fun hb => ?_⟩
  · unfold upd
    split
    · have := h.inf i j hi hj; omega
    · exact h.inf a b ha hb
  · have hz := diag_zero hg hk
    have g1 := h.good hg i k hi hk
    have g2 := h.good hg k j hk hj
    have g3 := h.good hg i j hi hj
    rw [part_col hz] at g1
    rw [part_row hz] at g2
    rw [part_here] at g3
    have f1 : rounds (W0 l) k i k < INF := by have := rounds_inf l k i k; omega
    have f2 : rounds (W0 l) k k j < INF := by have := rounds_inf l k k j; omega
    have b1 := rounds_bound hW (show k ≤ 60 by omega) (hg.good (by omega)) f1
    have b2 := rounds_bound hW (show k ≤ 60 by omega) (hg.good (by omega)) f2
    rw [part_next]
    unfold upd
    by_cases e : a = i ∧ b = j
    · rw [if_pos e, if_pos e, g1, g2, g3, w64_id (by unfold DMX at *; omega) (by unfold DMX at *; omega)]
      unfold relax
      rw [if_pos ⟨f1, f2⟩]
    · rw [if_neg e, if_neg e]
      exact h.good hg a b ha hb
  · obtain ⟨q, hq, hneg⟩ := h.bad hb
    refine ⟨q, hq, ?_⟩
    unfold upd
    split
    · rename_i e
      rw [← e.1, ← e.2]
      omega
    · exact hneg

theorem PS.row_end {W : Nat → Nat → Int} {n k i : Nat} {c : Nat → Nat → Int} (h : PS W n k i n c) : PS W n k (i + 1) 0 c := by
  refine ⟨h.inf, fun hg a b ha hb => ?_, h.bad⟩
  rw [h.good hg a b ha hb]
  unfold part
  by_cases e : a < i ∨ (a = i ∧ b < n)
  · rw [if_pos e, if_pos (by omega)]
  · rw [if_neg e, if_neg (by omega)]

theorem PS.done {W : Nat → Nat → Int} {n k : Nat} {c : Nat → Nat → Int} (h : PS W n k n 0 c) (hg : AllD W n k) (a b : Nat) (ha : a < n) (hb : b < n) : c a b = rounds W (k + 1) a b := by
  rw [h.good hg a b ha hb]
  unfold part
  rw [if_pos (by omega)]
  rfl

theorem PS.round_end {W : Nat → Nat → Int} {n k : Nat} {c : Nat → Nat → Int} (h : PS W n k n 0 c) : PS W n (k + 1) 0 0 c := by
  refine ⟨h.inf, fun hg a b ha hb => ?_, fun hb => ?_⟩
  · rw [h.done (hg.mono (by omega)) a b ha hb]
    unfold part
    rw [if_neg (by omega)]
  · by_cases hg : AllD W n k
    · obtain ⟨q, hq, hneg⟩ := exists_neg hb
      exact ⟨q, hq, by rw [h.done hg q q hq hq]; exact hneg⟩
    · exact h.bad hg

/-- A negative number on the diagonal behind a round. -/
theorem PS.neg {W : Nat → Nat → Int} {n k q : Nat} {c : Nat → Nat → Int} (h : PS W n (k + 1) 0 0 c) (hk : k < n) (hq : q < n) (hneg : c q q < 0) : ¬ AllD W n n := by
  intro hall
  have hg := hall.mono (show k + 1 ≤ n by omega)
  have := h.good hg q q hq hq
  unfold part at this
  rw [if_neg (by omega)] at this
  have := hg q hq
  omega

theorem PS.final {W : Nat → Nat → Int} {n : Nat} {c : Nat → Nat → Int} (h : PS W n n 0 0 c) (hd : ∀ q, q < n → 0 ≤ c q q) : AllD W n n ∧ ∀ a b, a < n → b < n → c a b = rounds W n a b := by
  have hg : AllD W n n := by
    by_cases g : AllD W n n
    · exact g
    · obtain ⟨q, hq, hneg⟩ := h.bad g
      have := hd q hq
      omega
  refine ⟨hg, fun a b ha hb => ?_⟩
  rw [h.good hg a b ha hb]
  unfold part
  rw [if_neg (by omega)]

theorem PS.final_neg {W : Nat → Nat → Int} {n q : Nat} {c : Nat → Nat → Int} (h : PS W n n 0 0 c) (hq : q < n) (hneg : c q q < 0) : ¬ AllD W n n := by
  intro hg
  have := h.good hg q q hq hq
  unfold part at this
  rw [if_neg (by omega)] at this
  have := hg q hq
  omega

end Go.FW

namespace Go.FW
open Go Go.Abs
/-- The edges that have been looked at in this round, at (i, j). -/
def seen (r i j u v : Nat) : Nat := if u < i ∨ (u = i ∧ v < j) then r else r - 1

/-- What holds while distances fall; R: the round, T: the time of a place's last fall. -/
structure BF (W : Nat → Nat → Int) (n r i j : Nat) (dist : Nat → Int) (frm : Nat → Nat) (last : Nat) (R T : Nat → Nat) (clk : Nat) : Prop where
  low : ∀ x, x < n → dist x ≤ 0 ∧ -((clk : Int) * DMX) ≤ dist x
  par : ∀ x, x < n → R x = 0 ∨ (W (frm x) x < INF ∧ dist (frm x) + W (frm x) x ≤ dist x ∧ (T x ≤ T (frm x) → dist (frm x) + W (frm x) x < dist x) ∧ R x ≤ R (frm x) + 1)
  edge : ∀ u v, u < n → v < n → W u v < INF → seen r i j u v ≤ R u ∨ dist v ≤ dist u + W u v
  inn : ∀ x, x < n → frm x < n
  lst : last < n
  cur : (∃ x, x < n ∧ R x = r) → R last = r
  top : ∀ x, x < n → R x ≤ r
  old : ∀ x, x < n → T x ≤ clk

def setN {A : Type} (f : Nat → A) (i : Nat) (v : A) : Nat → A := fun a => if a = i then v else f a

variable {W : Nat → Nat → Int} {n r i j : Nat} {dist : Nat → Int} {frm : Nat → Nat} {last : Nat} {R T : Nat → Nat} {clk : Nat}
theorem seen_next (r i j u v : Nat) (hr : 1 ≤ r) : seen r i (j + 1) u v = if u = i ∧ v = j then r else seen r i j u v := by
  unfold seen
  by_cases h : u = i ∧ v = j
  · rw [if_pos h, if_pos (by omega)]
  · rw [if_neg h]
    by_cases g : u < i ∨ (u = i ∧ v < j)
    · rw [if_pos g, if_pos (by omega)]
    · rw [if_neg g, if_neg (by omega)]

/-- An edge that does not shorten. -/
theorem BF.skip (h : BF W n r i j dist frm last R T clk) (hr : 1 ≤ r) (hs : ¬ (W i j < INF ∧ dist i + W i j < dist j)) : BF W n r i (j + 1) dist frm last R T clk := by
  refine ⟨h.low, h.par, fun u v hu hv hf => ?_, h.inn, h.lst, h.cur, h.top, h.old⟩
  rw [seen_next r i j u v hr]
  by_cases e : u = i ∧ v = j
  · rw [if_pos e]
    right
    rw [e.1, e.2] at hf ⊢
    omega
  · rw [if_neg e]
    exact h.edge u v hu hv hf

/-- An edge that shortens. -/
theorem BF.fall (hW : ∀ i j, W i j < INF → -DMX ≤ W i j) (h : BF W n r i j dist frm last R T clk) (hr : 1 ≤ r) (hi : i < n) (hj : j < n) (hf : W i j < INF) (hs : dist i + W i j < dist j) :
    BF W n r i (j + 1) (setN dist j (dist i + W i j)) (setN frm j i) j (setN R j r) (setN T j (clk + 1)) (clk + 1) := by
  have hRi : r - 1 ≤ R i := by
    rcases h.edge i j hi hj hf with g | g
    · unfold seen at g
      rw [if_neg (by omega)] at g
      exact g
    · omega
  have hle : ∀ x, setN dist j (dist i + W i j) x ≤ dist x := fun x => by
    unfold setN
    split
    · rename_i e; subst e; omega
    · exact Int.le_refl _
  have hRle : ∀ x, x < n → R x ≤ setN R j r x := fun x hx => by
    unfold setN
    split
    · rename_i e; subst e; exact h.top _ hx
    · exact Nat.le_refl _
  refine ⟨fun x hx => ?_, fun x hx => ?_, fun u v hu hv hf' => ?_, fun x hx => ?_, hj, fun _ => by simp [setN], fun x hx => ?_, fun x hx => ?_⟩
  · have hl := h.low x hx
    have hd := hle x
    refine ⟨by omega, ?_⟩
    rw [Int.natCast_add, Int.add_mul]
    unfold setN
    split
    · have := h.low i hi
      have := hW i j hf
      unfold DMX at *
      omega
    · unfold DMX at *
      omega
  · by_cases e : x = j
    · subst e
      right
      have e1 : setN frm x i x = i := by simp [setN]
      have e2 : setN dist x (dist i + W i x) x = dist i + W i x := by simp [setN]
      rw [e1, e2]
      refine ⟨hf, ?_, fun ht => ?_, ?_⟩
      · have := hle i; omega
      · by_cases ei : i = x
        · subst ei
          rw [e2]
          omega
        · exfalso
          have t1 : setN T x (clk + 1) x = clk + 1 := by simp [setN]
          have t2 : setN T x (clk + 1) i = T i := by simp [setN, ei]
          rw [t1, t2] at ht
          have := h.old i hi
          omega
      · have a1 : setN R x r x = r := by simp [setN]
        have := hRle i hi
        omega
    · have f1 : setN frm j i x = frm x := by simp [setN, e]
      have f2 : setN dist j (dist i + W i j) x = dist x := by simp [setN, e]
      have f3 : setN R j r x = R x := by simp [setN, e]
      have f4 : setN T j (clk + 1) x = T x := by simp [setN, e]
      rw [f1, f2, f3, f4]
      rcases h.par x hx with g | ⟨g1, g2, g3, g4⟩
      · exact .inl g
      · right
        have hd := hle (frm x)
        refine ⟨g1, by omega, fun ht => ?_, ?_⟩
        · by_cases ep : frm x = j
          · have : setN dist j (dist i + W i j) (frm x) = dist i + W i j := by rw [ep]; simp [setN]
            have : dist (frm x) = dist j := by rw [ep]
            omega
          · have : setN T j (clk + 1) (frm x) = T (frm x) := by simp [setN, ep]
            rw [this] at ht
            have := g3 ht
            omega
        · have := hRle (frm x) (h.inn x hx)
          omega
  · rw [seen_next r i j u v hr]
    by_cases e : u = i ∧ v = j
    · rw [if_pos e, e.1, e.2]
      by_cases ei : i = j
      · left
        have : setN R j r i = r := by rw [ei]; simp [setN]
        omega
      · right
        have a1 : setN dist j (dist i + W i j) j = dist i + W i j := by simp [setN]
        have a2 : setN dist j (dist i + W i j) i = dist i := by simp [setN, ei]
        omega
    · rw [if_neg e]
      by_cases eu : u = j
      · left
        have : setN R j r u = r := by rw [eu]; simp [setN]
        rw [this]
        unfold seen
        split <;> omega
      · rcases h.edge u v hu hv hf' with g | g
        · left
          have := hRle u hu
          omega
        · right
          have a2 : setN dist j (dist i + W i j) u = dist u := by simp [setN, eu]
          have := hle v
          omega
  · unfold setN
    split
    · exact hi
    · exact h.inn x hx
  · unfold setN
    split
    · exact Nat.le_refl _
    · exact h.top x hx
  · unfold setN
    split
    · exact Nat.le_refl _
    · have := h.old x hx; omega

theorem BF.row_end (h : BF W n r i n dist frm last R T clk) : BF W n r (i + 1) 0 dist frm last R T clk := by
  refine ⟨h.low, h.par, fun u v hu hv hf => ?_, h.inn, h.lst, h.cur, h.top, h.old⟩
  have e : seen r (i + 1) 0 u v = seen r i n u v := by
    unfold seen
    by_cases g : u < i ∨ (u = i ∧ v < n)
    · rw [if_pos g, if_pos (by omega)]
    · rw [if_neg g, if_neg (by omega)]
  rw [e]
  exact h.edge u v hu hv hf

theorem BF.round_end (h : BF W n r n 0 dist frm last R T clk) : BF W n (r + 1) 0 0 dist frm last R T clk := by
  refine ⟨h.low, h.par, fun u v hu hv hf => ?_, h.inn, h.lst, fun ⟨x, hx, hR⟩ => ?_, fun x hx => by have := h.top x hx; omega, h.old⟩
  · have e : seen (r + 1) 0 0 u v = seen r n 0 u v := by
      unfold seen
      rw [if_pos (show u < n ∨ (u = n ∧ v < 0) by omega), if_neg (by omega)]
      omega
    rw [e]
    exact h.edge u v hu hv hf
  · have := h.top x hx; omega

theorem BF.start {W : Nat → Nat → Int} {n : Nat} (hn : 0 < n) : BF W n 1 0 0 (fun _ => 0) (fun _ => 0) 0 (fun _ => 0) (fun _ => 0) 0 := by
  refine ⟨fun x _ => ⟨Int.le_refl _, by simp⟩, fun x _ => .inl rfl, fun u v hu hv hf => .inl ?_, fun x _ => hn, hn, fun ⟨x, _, hx⟩ => by simp at hx, fun x _ => Nat.zero_le _, fun x _ => Nat.le_refl _⟩
  unfold seen
  rw [if_neg (by omega)]
  exact Nat.zero_le _

/-- Without a fall in a round the distances are a solution. -/
theorem BF.sol {l : List DT} {m : Int} (hv : ∀ d ∈ l, okD m d = true) {n : Nat} (hn : m.toNat = n) (h : BF (dirM l) n r n 0 dist frm last R T clk) (hR : ∀ x, x < n → R x ≠ r) (hr : 1 ≤ r) : Sol l dist := by
  intro d hd
  have ho := okD_iff.1 (hv d hd)
  have hdir := dir_le hd (i := d.1.toNat) (j := d.2.1.toNat) (by omega) (by omega)
  have hf : dirM l d.1.toNat d.2.1.toNat < INF := by unfold DMX INF at *; omega
  rcases h.edge d.1.toNat d.2.1.toNat (by omega) (by omega) hf with g | g
  · unfold seen at g
    rw [if_pos (by omega)] at g
    have := h.top d.1.toNat (by omega)
    have := hR d.1.toNat (by omega)
    omega
  · omega

/-- Behind n + 1 rounds without a closure the last place fell in the last one. -/
theorem BF.fell {l : List DT} {m : Int} (hv : validC m l = true) (hc : closeB m l = false) {n : Nat} (hn : m.toNat = n) (h : BF (dirM l) n (n + 1) n 0 dist frm last R T clk) : R last = n + 1 := by
  refine h.cur ?_
  by_cases g : ∃ x, x < n ∧ R x = n + 1
  · exact g
  · have hs := h.sol (valid_iff.1 hv).2.2 hn (fun x hx e => g ⟨x, hx, e⟩) (by omega)
    rw [sol_ok hv hs] at hc
    cases hc

/-- The places back from one. -/
def back (frm : Nat → Nat) (x : Nat) : Nat → Nat
  | 0 => x
  | k + 1 => frm (back frm x k)

theorem back_add (frm : Nat → Nat) (x a : Nat) : ∀ b, back frm x (a + b) = back frm (back frm x a) b
  | 0 => rfl
  | b + 1 => by show frm (back frm x (a + b)) = frm (back frm (back frm x a) b); rw [back_add frm x a b]

theorem BF.chain (h : BF W n r i j dist frm last R T clk) {x : Nat} (hx : x < n) : ∀ k, back frm x k < n ∧ R x ≤ R (back frm x k) + k
  | 0 => ⟨hx, by show R x ≤ R x + 0; omega⟩
  | k + 1 => by
    obtain ⟨a, b⟩ := h.chain hx k
    refine ⟨h.inn _ a, ?_⟩
    show R x ≤ R (frm (back frm x k)) + (k + 1)
    rcases h.par _ a with g | ⟨_, _, _, g⟩ <;> omega

/-- The weight of the way back. -/
def backW (W : Nat → Nat → Int) (frm : Nat → Nat) (x : Nat) : Nat → Int
  | 0 => 0
  | k + 1 => backW W frm x k + W (frm (back frm x k)) (back frm x k)

theorem rep_of {f : Nat → Nat} {n : Nat} (hf : ∀ k, k ≤ n → f k < n) : ∃ a b, a < b ∧ b ≤ n ∧ f a = f b := by
  by_cases h : ∃ a b, a < b ∧ b ≤ n ∧ f a = f b
  · exact h
  · exfalso
    have hnd : ((List.range (n + 1)).map f).Nodup := by
      refine List.pairwise_map.2 (List.Pairwise.imp_of_mem ?_ List.pairwise_lt_range)
      intro a b ha hb hab e
      exact h ⟨a, b, hab, by have := List.mem_range.1 hb; omega, e⟩
    have := nodup_len hnd (fun q hq => by
      obtain ⟨k, hk, rfl⟩ := List.mem_map.1 hq
      exact hf k (by have := List.mem_range.1 hk; omega))
    rw [List.length_map, List.length_range] at this
    omega

/-- n steps back from the last place there is a cycle. -/
theorem BF.cycle (h : BF W n r i j dist frm last R T clk) (hR : n + 1 ≤ R last) : ∃ p, 0 < p ∧ p ≤ n ∧ back frm (back frm last n) p = back frm last n ∧ (∀ q, 0 < q → q < p → back frm (back frm last n) q ≠ back frm last n) ∧
    ∀ k, back frm (back frm last n) k < n ∧ R (back frm (back frm last n) k) ≠ 0 := by
  have hch := h.chain h.lst
  obtain ⟨a, b, hab, hb, he⟩ := rep_of (f := back frm last) (n := n) (fun k _ => (hch k).1)
  have per : ∀ k, back frm last (a + k + (b - a)) = back frm last (a + k) := fun k => by
    rw [show a + k + (b - a) = b + k by omega, back_add, back_add, he]
  -- every place from a on is one of the first n + 1
  have red : ∀ k, ∃ m, m ≤ n ∧ back frm last (a + k) = back frm last m := by
    intro k
    induction k using Nat.strongRecOn with
    | _ k ih =>
      by_cases hk : a + k ≤ n
      · exact ⟨a + k, hk, rfl⟩
      · obtain ⟨m, h1, h2⟩ := ih (k - (b - a)) (by omega)
        refine ⟨m, h1, ?_⟩
        rw [← h2, ← per (k - (b - a))]
        congr 1; omega
  have touched : ∀ k, R (back frm (back frm last n) k) ≠ 0 := by
    intro k
    rw [← back_add]
    obtain ⟨m, h1, h2⟩ := red (n + k - a)
    rw [show n + k = a + (n + k - a) by omega, h2]
    have := (hch m).2
    omega
  have hx : back frm (back frm last n) (b - a) = back frm last n := by
    have := per (n - a)
    rw [show a + (n - a) + (b - a) = n + (b - a) by omega, show a + (n - a) = n by omega] at this
    rw [← back_add]; exact this
  have hlt : ∀ k, back frm (back frm last n) k < n := fun k => by rw [← back_add]; exact (hch _).1
  -- the least period
  have least : ∀ m, 0 < m → back frm (back frm last n) m = back frm last n → ∃ p, 0 < p ∧ p ≤ m ∧ back frm (back frm last n) p = back frm last n ∧ ∀ q, 0 < q → q < p → back frm (back frm last n) q ≠ back frm last n := by
    intro m
    induction m using Nat.strongRecOn with
    | _ m ih =>
      intro hm he
      by_cases g : ∃ q, 0 < q ∧ q < m ∧ back frm (back frm last n) q = back frm last n
      · obtain ⟨q, q1, q2, q3⟩ := g
        obtain ⟨p, p1, p2, p3, p4⟩ := ih q q2 q1 q3
        exact ⟨p, p1, by omega, p3, p4⟩
      · exact ⟨m, hm, Nat.le_refl _, he, fun q h1 h2 h3 => g ⟨q, h1, h2, h3⟩⟩
  obtain ⟨p, p1, p2, p3, p4⟩ := least (b - a) (by omega) hx
  exact ⟨p, p1, by omega, p3, p4, fun k => ⟨hlt k, touched k⟩⟩

/-- A cycle of parents is negative. -/
theorem BF.negative (h : BF W n r i j dist frm last R T clk) {x p : Nat} (hp : 0 < p) (hx : back frm x p = x) (ht : ∀ k, back frm x k < n ∧ R (back frm x k) ≠ 0) : backW W frm x p < 0 ∧ ∀ k, W (frm (back frm x k)) (back frm x k) < INF := by
  have hpar : ∀ k, W (frm (back frm x k)) (back frm x k) < INF ∧ dist (back frm x (k + 1)) + W (frm (back frm x k)) (back frm x k) ≤ dist (back frm x k) ∧ (T (back frm x k) ≤ T (back frm x (k + 1)) → dist (back frm x (k + 1)) + W (frm (back frm x k)) (back frm x k) < dist (back frm x k)) := fun k => by
    rcases h.par _ (ht k).1 with g | ⟨g1, g2, g3, _⟩
    · exact absurd g (ht k).2
    · exact ⟨g1, g2, g3⟩
  have sum : ∀ k, dist (back frm x k) + backW W frm x k ≤ dist x := by
    intro k
    induction k with
    | zero => show dist x + 0 ≤ dist x; omega
    | succ k ih =>
      have := (hpar k).2.1
      show dist (back frm x (k + 1)) + (backW W frm x k + W (frm (back frm x k)) (back frm x k)) ≤ dist x
      omega
  refine ⟨?_, fun k => (hpar k).1⟩
  -- somewhere the time does not fall
  have some : ∃ k, k < p ∧ T (back frm x k) ≤ T (back frm x (k + 1)) := by
    by_cases g : ∃ k, k < p ∧ T (back frm x k) ≤ T (back frm x (k + 1))
    · exact g
    · exfalso
      have dec : ∀ k, k ≤ p → T (back frm x k) + k ≤ T x := by
        intro k
        induction k with
        | zero => intro _; show T x + 0 ≤ T x; omega
        | succ k ih =>
          intro hk
          have := ih (by omega)
          by_cases hh : T (back frm x k) ≤ T (back frm x (k + 1))
          · exact absurd ⟨k, by omega, hh⟩ g
          · omega
      have := dec p (Nat.le_refl _)
      rw [hx] at this
      omega
  obtain ⟨k0, hk0, hT⟩ := some
  have strict : ∀ k, k0 < k → dist (back frm x k) + backW W frm x k < dist x := by
    intro k
    induction k with
    | zero => intro h; omega
    | succ k ih =>
      intro hk
      show dist (back frm x (k + 1)) + (backW W frm x k + W (frm (back frm x k)) (back frm x k)) < dist x
      by_cases e : k = k0
      · subst e
        have := (hpar k).2.2 hT
        have := sum k
        omega
      · have := ih (by omega)
        have := (hpar k).2.1
        omega
  have := strict p hk0
  rw [hx] at this
  omega

end Go.FW

namespace Go.Abs
open Go
/-- The direct bounds, the closure. -/
def dirL (n : Int) (l : List FW.DT) : List (List Int) := gridL n.toNat n.toNat (FW.dirM l)

def cloB (n : Int) (l : List FW.DT) : Bool := FW.closeB n l

def cloL (n : Int) (l : List FW.DT) : List (List Int) := if FW.closeB n l then gridL n.toNat n.toNat (FW.rounds (FW.W0 l) n.toNat) else []

def vldB (n : Int) (l : List FW.DT) : Bool := FW.validC n l

def hfDir : List SV → Tr SV
  | [.int .i64 n, .row (.cons (.int .i64) (.cons (.int .i64) (.cons (.int .i64) .unit))) l _] => .need (vldB n l) (.ret (.row (.row (.int .i64)) (dirL n l) false))
  | _ => .fail

def hfClose : List SV → Tr SV
  | [.int .i64 n, .row (.cons (.int .i64) (.cons (.int .i64) (.cons (.int .i64) .unit))) l _] => .ret (.tup [.row (.row (.int .i64)) (cloL n l) false, .bool (cloB n l)])
  | _ => .fail

end Go.Abs

namespace Go.Proofs.Ytcklpclgiaeopaa.Pre
open Go Go.Abs
noncomputable section
def note : FuncId → Abs.Note
  | 2 => ⟨true, [], false, fun _ => []⟩
  | 3 => ⟨true, [0, 1, 4, 5, 6, 7, 8, 9, 10, 11, 12, 13, 14, 15, 16, 17, 20, 58, 59, 60, 90, 96, 101, 157], false, fun _ => []⟩
  | 4 => ⟨true, [0, 2, 3, 4, 5, 6, 7, 8, 9, 10, 11, 12, 13, 14, 17, 34, 54, 57, 76, 81, 97, 102, 147, 175, 196], false, fun _ => []⟩
  | 5 => ⟨true, [0, 2, 3, 4, 5, 6, 7, 8, 9, 10, 11, 12, 13, 14, 17, 26, 38, 56, 116, 119, 130], false, fun | 15 => [(3, 7)] | 20 => [(6, 13), (10, 13)] | _ => []⟩
  | 6 => ⟨true, [0, 2, 3, 4, 5, 6, 7, 8, 9, 10, 12, 13, 14, 15, 16, 17, 18, 19, 20, 23, 43, 50, 51, 52, 53, 64, 105, 119, 121, 122, 123, 140], false, fun | 20 => [(2, 3), (2, 4)] | _ => []⟩
  | 7 => ⟨true, [0, 1, 2, 3, 4, 9, 10, 11, 12, 13, 14, 15, 17, 19, 20, 21, 22, 23, 24, 25, 26, 27, 28, 29, 30, 32, 45, 59, 90, 91, 92, 93, 101, 102, 103, 104, 108, 171, 205, 224, 225, 226, 227, 238, 259], false, fun | 9 => [(8, 14), (9, 14), (6, 15), (8, 15), (9, 15)] | 34 => [(3, 6), (13, 16)] | _ => []⟩
  | 8 => ⟨true, [0, 2], false, fun _ => []⟩
  | 9 => ⟨true, [0, 1, 2, 3, 4], false, fun _ => []⟩
  | 10 => ⟨true, [0, 2], false, fun _ => []⟩
  | 11 => ⟨true, [0, 1, 4, 5, 19, 40], false, fun _ => []⟩
  | 12 => ⟨true, [0, 1, 4, 5, 6, 7, 8, 9, 10, 13, 24, 53], false, fun | 11 => [(6, 13), (10, 13)] | _ => []⟩
  | 13 => ⟨true, [0, 1, 4, 5, 6, 7, 8, 9, 10, 11, 15, 19, 20, 21, 38, 39, 40, 42, 43, 44, 46, 47, 48, 67, 106, 108, 109, 110, 119], false, fun _ => []⟩
  | 14 => ⟨true, [0, 1, 4, 5, 7, 8, 9, 10, 11, 12, 13, 14, 15, 28, 37, 38, 39, 40, 41, 42, 44, 45, 46, 74, 98, 99, 100, 114], false, fun | 5 => [(1, 3)] | _ => []⟩
  | 15 => ⟨true, [0, 1, 2, 6, 7, 8, 9, 10, 11, 20, 24, 44, 48, 89, 96], false, fun _ => []⟩
  | 16 => ⟨true, [0, 1, 2, 5, 6, 20], false, fun _ => []⟩
  | 17 => ⟨true, [0, 1, 4, 5, 6, 7, 8, 9, 17, 18, 19, 20, 28], false, fun _ => []⟩
  | 18 => ⟨true, [0, 1, 3, 4, 6, 7, 8, 9, 10, 11, 12, 20, 25, 26, 27, 34, 35, 36, 37, 49], false, fun | 16 => [(2, 3)] | _ => []⟩
  | 19 => ⟨true, [0, 1, 2, 5, 6, 7, 8], false, fun _ => []⟩
  | 20 => ⟨true, [0, 1, 4, 5, 10, 12, 13, 14, 25], false, fun _ => []⟩
  | 21 => ⟨true, [0, 1, 4], false, fun _ => []⟩
  | 22 => ⟨true, [0, 1, 4, 5, 6, 7, 8, 9, 10, 11, 12, 13, 14, 18, 21, 26, 42, 98, 101, 106, 111, 131, 163, 173], false, fun _ => []⟩
  | 23 => ⟨true, [0, 1, 4, 5, 6, 7, 8, 9, 17, 20, 29], false, fun _ => []⟩
  | 24 => ⟨true, [0, 1, 2, 4, 12], false, fun _ => []⟩
  | 25 => ⟨true, [0, 1, 4, 5, 13, 17, 48], false, fun _ => []⟩
  | 26 => ⟨true, [0, 1, 4, 5, 10, 14, 25], false, fun _ => []⟩
  | 27 => ⟨true, [0, 1, 4, 6, 7, 8, 9, 10, 11, 12, 20, 27, 33, 45, 66, 73], false, fun _ => []⟩
  | 28 => ⟨true, [0, 1, 2, 6, 7, 8, 18, 21, 29, 33, 58], false, fun _ => []⟩
  | 29 => ⟨true, [0, 1, 2, 5, 6, 7, 8], false, fun _ => []⟩
  | 30 => ⟨true, [0, 1, 4, 5, 6, 7, 9, 13, 14, 15, 26, 27, 28, 38, 39, 40, 41], false, fun _ => []⟩
  | 31 => ⟨true, [0, 2, 3, 9], false, fun _ => []⟩
  | 32 => ⟨true, [0, 1, 2, 6], false, fun _ => []⟩
  | 33 => ⟨true, [0, 1, 4, 5, 9, 17], false, fun _ => []⟩
  | 34 => ⟨true, [0, 1, 4], false, fun _ => []⟩
  | 35 => ⟨true, [0, 2], true, fun _ => []⟩
  | 36 => ⟨true, [0, 1, 2, 6], false, fun _ => []⟩
  | 37 => ⟨true, [0, 1, 4], false, fun _ => []⟩
  | 38 => ⟨true, [0, 1, 2, 3], false, fun _ => []⟩
  | 39 => ⟨true, [0, 1, 2, 3, 4, 5, 6, 7, 8, 15], true, fun _ => []⟩
  | 40 => ⟨true, [0, 1, 2, 3], true, fun _ => []⟩
  | 41 => ⟨true, [0, 1, 3, 4, 9], false, fun _ => []⟩
  | 42 => ⟨true, [0, 1, 4, 5, 7, 8, 9, 16], false, fun _ => []⟩
  | 43 => ⟨true, [0, 1, 4, 5, 7, 8, 9, 16], false, fun _ => []⟩
  | _ => ⟨false, [], false, fun _ => []⟩

theorem good : Abs.Good Try.prog note := Abs.good_of (by kernel_rfl)

theorem foll : (Try.prog).follows .mixedOrders = true := by kernel_rfl

def i36 : Abs.Sg := ⟨[0, 1, 2], (.dat (.int .i64) (.dat (.int .i64) (.dat (.int .i64) .nil))), .nil⟩

def o36 : Abs.Sg := ⟨[6], (.dat .bool .nil), .nil⟩

def m36 (v : ((Int × Int × Int × Unit) × (Unit))) : Option ((Bool × Unit) × (Unit)) :=
((bif (decide ((v.1.1 : Int) ≥ v.1.2.1)) then (some (((decide ((v.1.1 : Int) ≤ v.1.2.2.1)), ()), ()))
else (some ((false, ()), ()))) : Option ((Bool × Unit) × (Unit))).bind fun v1 =>
some ((v1.1.1, ()), ())

def sp36 : Abs.Spec := ⟨0, i36, o36, m36⟩

def an36 : Nat → Abs.FAn
  | 0 => Abs.FAn.mk (fun
    | 1 => some ⟨[6], (.dat .bool .nil), .nil⟩
    | _ => none) (fun _ => none) (fun _ => none) (fun _ _ => 0)
  | _ => {}

theorem ok36 : Abs.SpecOK Try.prog 36 sp36 :=
  Abs.specOK_of (n := 12) (an := an36) (T := Abs.tabOf []) good foll (Abs.tabOf_ok _ (fun _ h => by cases h)) rfl (by intro v; kernel_rfl)

def l24_2_2 (v : ((Int × (List (Int × Int × Int × Unit)) × Int × Unit) × ((Int × Unit) × Unit))) : Option (((Int × (List (Int × Int × Int × Unit)) × Int × Unit) × ((Int × Unit) × Unit)) ⊕ (((Int × Unit) × ((Int × Unit) × Unit)) ⊕ ((Unit) × ((Int × Unit) × Unit)))) :=
bif (decide ((v.1.1 : Int) < v.1.2.2.1)) then (Abs.rowAt v.1.2.1 v.1.1 fun e67 _ =>
(((m36 ((e67.1, (0, ((w64 (v.2.1.1 - 1)), ()))), ())).bind fun u68 =>
bif (!u68.1.1) then (some ((true, ()), ((v.2.1.1, ()), ())))
else ((m36 ((e67.2.1, (0, ((w64 (v.2.1.1 - 1)), ()))), ())).bind fun u69 =>
bif (!u69.1.1) then (some ((true, ()), ((v.2.1.1, ()), ())))
else ((m36 ((e67.2.2.1, ((-17179869184), (17179869184, ()))), ())).bind fun u70 =>
some (((!u70.1.1), ()), ((v.2.1.1, ()), ()))))) : Option ((Bool × Unit) × ((Int × Unit) × Unit))).bind fun v71 =>
bif v71.1.1 then (some (.inr (.inl ((v.1.1, ()), ((v71.2.1.1, ()), ())))))
else (some (.inl (((w64 (v.1.1 + 1)), (v.1.2.1, (v.1.2.2.1, ()))), ((v71.2.1.1, ()), ())))))
else (some (.inr (.inr ((), ((v.2.1.1, ()), ())))))

def i24 : Abs.Sg := ⟨[0, 1], (.dat (.int .i64) (.dat (.row (.cons (.int .i64) (.cons (.int .i64) (.cons (.int .i64) .unit)))) .nil)), .nil⟩

def o24 : Abs.Sg := ⟨[4], (.dat .bool .nil), .nil⟩

def m24 (v : ((Int × (List (Int × Int × Int × Unit)) × Unit) × (Unit))) : Option ((Bool × Unit) × (Unit)) :=
(((m36 ((v.1.1, (1, (41, ()))), ())).bind fun u65 =>
bif (!u65.1.1) then (some ((true, (v.1.2.1, ())), ((v.1.1, ()), ())))
else (some (((decide (((v.1.2.1.length : Int) : Int) > 4000)), (v.1.2.1, ())), ((v.1.1, ()), ())))) : Option ((Bool × (List (Int × Int × Int × Unit)) × Unit) × ((Int × Unit) × Unit))).bind fun v66 =>
bif v66.1.1 then (some ((false, ()), ()))
else ((((loopT l24_2_2 ((0, (v66.1.2.1, ((v66.1.2.1.length : Int), ()))), ((v66.2.1.1, ()), ()))).bind fun d72 =>
sumE d72 (fun d73 => (some (((decide ((d73.1.1 : Int) ≥ 0)), ()), ((d73.2.1.1, ()), ())))) (fun d74 => (some ((false, ()), ((d74.2.1.1, ()), ()))))) : Option ((Bool × Unit) × ((Int × Unit) × Unit))).bind fun v75 =>
some (((!v75.1.1), ()), ()))

def sp24 : Abs.Spec := ⟨0, i24, o24, m24⟩

def an24 : Nat → Abs.FAn
  | 0 => Abs.FAn.mk (fun
    | 1 => some ⟨[12, 2, 1], (.dat .bool (.st (.ptr (0, 0) 1 0 0) (.dat (.row (.cons (.int .i64) (.cons (.int .i64) (.cons (.int .i64) .unit)))) .nil))), (.box 1 (.dat (.int .i64) .nil) .nil)⟩
    | _ => none) (fun _ => none) (fun _ => none) (fun
    | 3, 2 => 1
    | _, _ => 0)
  | 1 => Abs.FAn.mk (fun
    | 1 => some ⟨[4], (.dat .bool .nil), (.box 1 (.dat (.int .i64) .nil) .nil)⟩
    | _ => none) (fun _ => none) (fun _ => none) (fun
    | 1, 2 => 2
    | _, _ => 0)
  | 2 => Abs.FAn.mk (fun _ => none) (fun _ => none) (fun
    | 2 => some ⟨⟨[8, 0, 1, 7], (.dat (.int .i64) (.dat (.row (.cons (.int .i64) (.cons (.int .i64) (.cons (.int .i64) .unit)))) (.st (.clo 40 [((0, 0), 1, 0, 0)]) (.dat (.int .i64) .nil)))), (.box 1 (.dat (.int .i64) .nil) .nil)⟩, (.more .ret ⟨[4], (.dat (.int .i64) .nil), (.box 1 (.dat (.int .i64) .nil) .nil)⟩ (.one (.exit 0) ⟨[], .nil, (.box 1 (.dat (.int .i64) .nil) .nil)⟩))⟩
    | _ => none) (fun
    | 4, 5 => 3
    | _, _ => 0)
  | 3 => Abs.FAn.mk (fun
    | 1 => some ⟨[3], (.dat .bool .nil), (.box 1 (.dat (.int .i64) .nil) .nil)⟩
    | _ => none) (fun _ => none) (fun _ => none) (fun _ _ => 0)
  | _ => {}

theorem ok24 : Abs.SpecOK Try.prog 24 sp24 :=
  Abs.specOK_of (n := 12) (an := an24) (T := Abs.tabOf [(36, sp36)]) good foll (Abs.tabOf_ok _ (by simp only [List.forall_mem_cons]; exact ⟨ok36, fun _ h => by cases h⟩)) rfl (by intro v; kernel_rfl)

def i32 : Abs.Sg := ⟨[0, 1, 2], (.dat (.int .i64) (.dat (.int .i64) (.dat (.int .i64) .nil))), .nil⟩

def o32 : Abs.Sg := ⟨[6], (.dat .bool .nil), .nil⟩

def m32 (v : ((Int × Int × Int × Unit) × (Unit))) : Option ((Bool × Unit) × (Unit)) :=
((bif (decide ((v.1.1 : Int) ≥ v.1.2.1)) then (some (((decide ((v.1.1 : Int) ≤ v.1.2.2.1)), ()), ()))
else (some ((false, ()), ()))) : Option ((Bool × Unit) × (Unit))).bind fun v1 =>
some ((v1.1.1, ()), ())

def sp32 : Abs.Spec := ⟨0, i32, o32, m32⟩

def an32 : Nat → Abs.FAn
  | 0 => Abs.FAn.mk (fun
    | 1 => some ⟨[6], (.dat .bool .nil), .nil⟩
    | _ => none) (fun _ => none) (fun _ => none) (fun _ _ => 0)
  | _ => {}

theorem ok32 : Abs.SpecOK Try.prog 32 sp32 :=
  Abs.specOK_of (n := 12) (an := an32) (T := Abs.tabOf []) good foll (Abs.tabOf_ok _ (fun _ h => by cases h)) rfl (by intro v; kernel_rfl)

def l25_0_4 (v : ((Int × (List (Int × Int × Int × Unit)) × Int × Unit) × (Unit))) : Option (((Int × (List (Int × Int × Int × Unit)) × Int × Unit) × (Unit)) ⊕ (((Bool × Unit) × (Unit)) ⊕ ((Unit) × (Unit)))) :=
let x62 := (decide ((v.1.1 : Int) < (v.1.2.1.length : Int)))
bif x62 then (((Abs.rowAt v.1.2.1 v.1.1 fun e63 _ =>
(m32 ((e63.1, (0, ((w64 (v.1.2.2.1 - 1)), ()))), ())).bind fun u64 =>
bif (!u64.1.1) then (some ((true, (v.1.2.1, (v.1.2.2.1, (v.1.1, ())))), ()))
else (Abs.rowAt v.1.2.1 v.1.1 fun e65 _ =>
(m32 ((e65.2.1, (0, ((w64 (v.1.2.2.1 - 1)), ()))), ())).bind fun u66 =>
bif (!u66.1.1) then (some ((true, (v.1.2.1, (v.1.2.2.1, (v.1.1, ())))), ()))
else (Abs.rowAt v.1.2.1 v.1.1 fun e67 _ =>
(m32 ((e67.2.2.1, ((-17179869184), (17179869184, ()))), ())).bind fun u68 =>
some (((!u68.1.1), (v.1.2.1, (v.1.2.2.1, (v.1.1, ())))), ())))) : Option ((Bool × (List (Int × Int × Int × Unit)) × Int × Int × Unit) × (Unit))).bind fun v69 =>
bif v69.1.1 then (some (.inr (.inl ((false, ()), ()))))
else (some (.inl (((w64 (v69.1.2.2.2.1 + 1)), (v69.1.2.1, (v69.1.2.2.1, ()))), ()))))
else (some (.inr (.inr ((), ()))))

def i25 : Abs.Sg := ⟨[0, 1], (.dat (.int .i64) (.dat (.row (.cons (.int .i64) (.cons (.int .i64) (.cons (.int .i64) .unit)))) .nil)), .nil⟩

def o25 : Abs.Sg := ⟨[4], (.dat .bool .nil), .nil⟩

def m25 (v : ((Int × (List (Int × Int × Int × Unit)) × Unit) × (Unit))) : Option ((Bool × Unit) × (Unit)) :=
(((m32 ((v.1.1, (1, (41, ()))), ())).bind fun u60 =>
bif (!u60.1.1) then (some ((true, (v.1.2.1, (v.1.1, ()))), ()))
else (some (((decide (((v.1.2.1.length : Int) : Int) > 4000)), (v.1.2.1, (v.1.1, ()))), ()))) : Option ((Bool × (List (Int × Int × Int × Unit)) × Int × Unit) × (Unit))).bind fun v61 =>
bif v61.1.1 then (some ((false, ()), ()))
else ((loopT l25_0_4 ((0, (v61.1.2.1, (v61.1.2.2.1, ()))), ())).bind fun d70 =>
sumE d70 (fun d71 => (some ((d71.1.1, ()), ()))) (fun d72 => (some ((true, ()), ()))))

def sp25 : Abs.Spec := ⟨0, i25, o25, m25⟩

def an25 : Nat → Abs.FAn
  | 0 => Abs.FAn.mk (fun
    | 6 => some ⟨[48, 1, 0, 5], (.dat .bool (.dat (.row (.cons (.int .i64) (.cons (.int .i64) (.cons (.int .i64) .unit)))) (.dat (.int .i64) (.dat (.int .i64) .nil)))), .nil⟩
    | 1 => some ⟨[13, 1, 0], (.dat .bool (.dat (.row (.cons (.int .i64) (.cons (.int .i64) (.cons (.int .i64) .unit)))) (.dat (.int .i64) .nil))), .nil⟩
    | _ => none) (fun _ => none) (fun
    | 4 => some ⟨⟨[5, 1, 0], (.dat (.int .i64) (.dat (.row (.cons (.int .i64) (.cons (.int .i64) (.cons (.int .i64) .unit)))) (.dat (.int .i64) .nil))), .nil⟩, (.more .ret ⟨[4], (.dat .bool .nil), .nil⟩ (.one (.exit 0) ⟨[], .nil, .nil⟩))⟩
    | _ => none) (fun _ _ => 0)
  | _ => {}

theorem ok25 : Abs.SpecOK Try.prog 25 sp25 :=
  Abs.specOK_of (n := 12) (an := an25) (T := Abs.tabOf [(32, sp32)]) good foll (Abs.tabOf_ok _ (by simp only [List.forall_mem_cons]; exact ⟨ok32, fun _ h => by cases h⟩)) rfl (by intro v; kernel_rfl)

end
end Go.Proofs.Ytcklpclgiaeopaa.Pre

namespace Go.Proofs.Ytcklpclgiaeopaa
open Go Go.Abs Go.RowKit Go.FW
theorem Try.info3 : (Try.prog.info? 3).map (fun i => (i.zero, i.size, i.bytes)) = some (some (.int .i64 0), 1, 8) := by kernel_rfl

theorem Try.info22 : (Try.prog.info? 22).map (fun i => (i.zero, i.size, i.bytes)) = some (some (.slice none 0 0), 1, 24) := by kernel_rfl

/-- The matrix's own row, c rows made. -/
def top (N n c : Nat) : Nat → Value := fun j => if j < c then .slice (some ⟨N + 1 + j, 0, none⟩) n n else .slice none 0 0

structure Outer (w wr : World) (n c : Nat) : Prop where
  since : w.Since w.heap.size wr
  size : wr.heap.size = w.heap.size + 1 + c
  top : wr.rowIs w.heap.size 22 n (top w.heap.size n c)
  done : ∀ j, j < c → wr.rowIs (w.heap.size + 1 + j) 3 n (fun _ => .int .i64 INF)

structure Inner (w wi : World) (n c r : Nat) : Prop where
  since : w.Since w.heap.size wi
  size : wi.heap.size = w.heap.size + 1 + c + 1
  top : wi.rowIs w.heap.size 22 n (top w.heap.size n (c + 1))
  done : ∀ j, j < c → wi.rowIs (w.heap.size + 1 + j) 3 n (fun _ => .int .i64 INF)
  cur : wi.rowIs (w.heap.size + 1 + c) 3 n (fun i => if i < r then .int .i64 INF else .int .i64 0)

theorem outer_start (w : World) (n : Nat) : Outer w (w.alloc (.cells (madeCells #[.slice none 0 0] n) 22)) n 0 :=
  ⟨(World.Since.refl _ _).alloc (Nat.le_refl _) _, by simp, (World.rowIs_made w _ n 22).congr (fun j _ => by simp [top]), fun j hj => absurd hj (Nat.not_lt_zero _)⟩

theorem inner_start {w wr : World} {n c : Nat} (h : Outer w wr n c) :
    Inner w ((wr.alloc (.cells (madeCells #[.int .i64 0] n) 3)).setCell ⟨w.heap.size, c, none⟩ (.slice (some ⟨w.heap.size + 1 + c, 0, none⟩) n n)) n c 0 := by
  have hnew := World.rowIs_made wr (.int .i64 0) n 3
  rw [h.size] at hnew
  refine ⟨(h.since.alloc (by rw [h.size]; omega) _).setCell (Nat.le_refl _) _, by simp [h.size], ((h.top.alloc _).set c _).congr (fun j _ => ?_), fun j hj => ((h.done j hj).alloc _).setOther (by show w.heap.size + 1 + j ≠ w.heap.size; omega) _,
    (hnew.setOther (by show w.heap.size + 1 + c ≠ w.heap.size; omega) _).congr (fun i _ => by simp)⟩
  simp only [top]
  by_cases e : j = c
  · subst e; simp
  · rw [if_neg e]
    by_cases hlt : j < c
    · rw [if_pos hlt, if_pos (by omega)]
    · rw [if_neg hlt, if_neg (by omega)]

theorem inner_step {w wi : World} {n c r : Nat} (h : Inner w wi n c r) :
    Inner w (wi.setCell ⟨w.heap.size + 1 + c, r, none⟩ (.int .i64 INF)) n c (r + 1) := by
  refine ⟨h.since.setCell (by show w.heap.size ≤ w.heap.size + 1 + c; omega) _, by simp [h.size], h.top.setOther (by show w.heap.size ≠ w.heap.size + 1 + c; omega) _,
    fun j hj => (h.done j hj).setOther (by show w.heap.size + 1 + j ≠ w.heap.size + 1 + c; omega) _, (h.cur.set r _).congr (fun i _ => ?_)⟩
  by_cases e : i = r
  · subst e; simp
  · rw [if_neg e]
    by_cases hlt : i < r
    · rw [if_pos hlt, if_pos (by omega)]
    · rw [if_neg hlt, if_neg (by omega)]

theorem inner_done {w wi : World} {n c : Nat} (h : Inner w wi n c n) : Outer w wi n (c + 1) :=
  ⟨h.since, by rw [h.size]; omega, h.top, fun j hj => by
    by_cases e : j = c
    · subst e
      exact h.cur.congr (fun i hi => by rw [if_pos hi])
    · exact h.done j (by omega)⟩

/-- The matrix under way. -/
structure Mat (w wr : World) (n : Nat) (M : Nat → Nat → Int) : Prop where
  since : w.Since w.heap.size wr
  lt : w.heap.size + n < wr.heap.size
  grid : Grid wr w.heap.size 22 3 n n (fun i => w.heap.size + 1 + i) (fun _ => n) M

theorem Outer.mat {w wr : World} {n : Nat} (h : Outer w wr n n) : Mat w wr n (fun _ _ => INF) :=
  ⟨h.since, by rw [h.size]; omega, ⟨(RowGe.of_is h.top).congr (fun i hi => by simp [Ytcklpclgiaeopaa.top, hi]), fun i hi => RowGe.of_is (h.done i hi), fun i j _ _ e => by omega, fun i _ => by omega, fun _ _ => Nat.le_refl _⟩⟩

theorem Grid.alloc {w : World} {b To Ti n m : Nat} {R C : Nat → Nat} {M : Nat → Nat → Int} (h : Grid w b To Ti n m R C M) (X : Obj) : Grid (w.alloc X) b To Ti n m R C M :=
  ⟨h.top.alloc X, fun i hi => (h.row i hi).alloc X, h.inj, h.apart, h.cap⟩

theorem Mat.alloc {w wr : World} {n : Nat} {M : Nat → Nat → Int} (h : Mat w wr n M) (X : Obj) : Mat w (wr.alloc X) n M :=
  ⟨h.since.alloc (by have := h.lt; omega) X, by have := h.lt; simp; omega, Grid.alloc h.grid X⟩

theorem Mat.drew {w wr : World} {n : Nat} {M : Nat → Nat → Int} (h : Mat w wr n M) : Mat w wr.drew n M := ⟨h.since.drew, h.lt, h.grid.drew⟩

theorem Mat.set {w wr : World} {n : Nat} {M : Nat → Nat → Int} (h : Mat w wr n M) {i j : Nat} (hi : i < n) (v : Int) : Mat w (wr.setCell ⟨w.heap.size + 1 + i, j, none⟩ (.int .i64 v)) n (FW.upd M i j v) :=
  ⟨h.since.setCell (by show w.heap.size ≤ w.heap.size + 1 + i; omega) _, by have := h.lt; simpa using this, h.grid.set hi v⟩

theorem Mat.congr {w wr : World} {n : Nat} {M N : Nat → Nat → Int} (h : Mat w wr n M) (e : ∀ i j, i < n → j < n → M i j = N i j) : Mat w wr n N := ⟨h.since, h.lt, h.grid.congr e⟩

theorem dir_snoc {l : List DT} {p f t : Nat} {z : Int} (h : l[p]? = some ((f : Int), (t : Int), z, ())) (a b : Nat) : dirM (l.take (p + 1)) a b = if a = f ∧ b = t then min (dirM (l.take p) a b) z else dirM (l.take p) a b := by
  rw [List.take_add_one, h]
  unfold dirM
  rw [List.foldl_append]
  simp only [Option.toList_some, List.foldl_cons, List.foldl_nil]
  by_cases e : a = f ∧ b = t
  · rw [if_pos e, if_pos ⟨by rw [e.1], by rw [e.2]⟩]
  · rw [if_neg e, if_neg (fun g => e ⟨by omega, by omega⟩)]

theorem dir_upd {l : List DT} {p f t : Nat} {z v : Int} (h : l[p]? = some ((f : Int), (t : Int), z, ())) (hv : v = min (dirM (l.take p) f t) z) (a b : Nat)  : FW.upd (dirM (l.take p)) f t v a b = dirM (l.take (p + 1)) a b := by
  rw [dir_snoc h]
  unfold FW.upd
  by_cases e : a = f ∧ b = t
  · rw [if_pos e, if_pos e, hv, e.1, e.2]
  · rw [if_neg e, if_neg e]

set_option maxHeartbeats 6400000 in
set_option maxRecDepth 1000000 in
theorem direct_walk (n : Nat) (hn : n ≤ 41) (a : Option Addr) (b o cap : Nat) (l : List DT) (hl : l.length ≤ 4000) (ha : l ≠ [] → a = some ⟨b, o, none⟩) (w : World)
    (hc : ∀ (p : Nat) (d : DT), l[p]? = some d → w.cell? ⟨b, o + p * 3, none⟩ = some (.int .i64 d.1) ∧ w.cell? ⟨b, o + p * 3 + 1, none⟩ = some (.int .i64 d.2.1) ∧ w.cell? ⟨b, o + p * 3 + 2, none⟩ = some (.int .i64 d.2.2.1))
    (hv : ∀ d ∈ l, okD n d = true) :
    Calls Try.prog 30 #[.int .i64 n, .slice a l.length cap] w fun e w' => e = .returned (.slice (some ⟨w.heap.size, 0, none⟩) n n) ∧ Mat w w' n (dirM l) := by
  have hmk := run_make_row' (P := Try.prog) 30 22 (.slice none 0 0) 24 Try.underlying30 Try.info22 rfl .i64 .i64 n (by omega) (by omega)
  go_enter Try.func30, Try.ntmps30
  go_wp2
  clear hmk
  go_loopg [14] n (fun g i wr => ∃ c : Nat, c ≤ n ∧ g = n - c ∧ i = .int .i64 c ∧ Outer w wr n c)
  case atStart => exact ⟨0, Nat.zero_le _, rfl, rfl, outer_start w n⟩
  case round =>
    obtain ⟨c, hc', rfl, rfl, hO⟩ := hrel
    have hsize := hO.size
    have hmk2 := run_make_row' (P := Try.prog) 22 3 (.int .i64 0) 8 Try.underlying22 Try.info3 rfl .i64 .i64 n (by omega) (by omega)
    have hst1 : c < n → ∀ o, (wr.alloc o).cell? ⟨w.heap.size, c, none⟩ = some (top w.heap.size n c c) := fun h o => (hO.top.alloc o).cell h
    have hst2 : ∀ o, (wr.alloc o).frozen? ⟨w.heap.size, c, none⟩ = false := fun o => (hO.top.alloc o).frozen c
    go_wp2
    · -- the inner loop
      have hc2 : c < n := by assumption
      have hI0 := inner_start hO
      clear hmk2 hst1 hst2 hsize hO
      have hrow : ((wr.alloc (.cells (madeCells #[.int .i64 0] n) 3)).setCell ⟨w.heap.size, c, none⟩ (.slice (some ⟨w.heap.size + 1 + c, 0, none⟩) n n)).cell? ⟨w.heap.size, c, none⟩ = some (.slice (some ⟨w.heap.size + 1 + c, 0, none⟩) n n) := by simpa [top] using hI0.top.cell hc2
      go_wp2
      clear hrow
      go_loopg [27] n (fun g i wi => ∃ r : Nat, r ≤ n ∧ g = n - r ∧ i = .int .i64 r ∧ Inner w wi n c r)
      case atStart => exact ⟨0, Nat.zero_le _, rfl, rfl, hI0⟩
      case round =>
        obtain ⟨r, hr, rfl, rfl, hI⟩ := hrel
        clear hI0
        have g1 : wr.cell? ⟨w.heap.size, c, none⟩ = some (.slice (some ⟨w.heap.size + 1 + c, 0, none⟩) n n) := by simpa [top] using hI.top.cell hc2
        have g4 : r < n → wr.cell? ⟨w.heap.size + 1 + c, r, none⟩ = some (.int .i64 0) := fun h => by simpa using hI.cur.cell h
        have g5 : wr.frozen? ⟨w.heap.size + 1 + c, r, none⟩ = false := hI.cur.frozen r
        go_wp2
        · go_roundg (n - (r + 1))
          case measure => omega
          case rel => exact ⟨r + 1, by omega, rfl, by simp, inner_step hI⟩
        · have hrn : r = n := by omega
          subst hrn
          go_roundg (r - (c + 1))
          case measure => omega
          case rel => exact ⟨c + 1, by omega, rfl, by simp, inner_done hI⟩
    · have hcn : c = n := by omega
      generalize decide (c < n) = s15
      subst hcn
      have hM := hO.mat
      clear hmk2 hst1 hst2 hsize hO
      go_loopg [40] l.length (fun g i wr => ∃ p : Nat, p ≤ l.length ∧ g = l.length - p ∧ i = .int .i64 p ∧ Mat w wr c (dirM (l.take p)))
      case atStart => exact ⟨0, Nat.zero_le _, rfl, rfl, hM⟩
      case round =>
        obtain ⟨p, hp, rfl, rfl, hM⟩ := hrel
        by_cases hlt : p < l.length
        · obtain ⟨d, hd⟩ : ∃ d, l[p]? = some d := ⟨_, List.getElem?_eq_getElem hlt⟩
          have hne : l ≠ [] := fun e => by rw [e] at hlt; simp at hlt
          have := ha hne
          subst this
          obtain ⟨c1, c2, c3⟩ := hc p d hd
          have hb : b < w.heap.size := World.block_lt_of_cell? _ _ c1
          obtain ⟨⟨o1, o2⟩, ⟨o3, o4⟩, _⟩ := okD_iff.1 (hv d (List.mem_of_getElem? hd))
          obtain ⟨x, y, z, ⟨⟩⟩ := d
          simp only at o1 o2 o3 o4 c1 c2 c3
          obtain ⟨f, rfl⟩ : ∃ f : Nat, x = (f : Int) := ⟨x.toNat, by omega⟩
          obtain ⟨t, rfl⟩ : ∃ t : Nat, y = (t : Int) := ⟨y.toNat, by omega⟩
          have k1 : wr.cell? ⟨b, o + p * 3, none⟩ = some (.int .i64 f) := by rw [hM.since.cell (a := ⟨b, o + p * 3, none⟩) hb]; exact c1
          have k2 : wr.cell? ⟨b, o + p * 3 + 1, none⟩ = some (.int .i64 t) := by rw [hM.since.cell (a := ⟨b, o + p * 3 + 1, none⟩) hb]; exact c2
          have k3 : wr.cell? ⟨b, o + p * 3 + 2, none⟩ = some (.int .i64 z) := by rw [hM.since.cell (a := ⟨b, o + p * 3 + 2, none⟩) hb]; exact c3
          have hf : f < c := by omega
          have ht : t < c := by omega
          have j1 : ∀ X, (wr.alloc X).cell? ⟨w.heap.size, f, none⟩ = some (.slice (some ⟨w.heap.size + 1 + f, 0, none⟩) c c) := fun X => (hM.grid.top.alloc X).cell hf
          have j2 : ∀ X, (wr.alloc X).cell? ⟨w.heap.size + 1 + f, t, none⟩ = some (.int .i64 (dirM (l.take p) f t)) := fun X => ((hM.grid.row f hf).alloc X).cell ht
          have j3 : ∀ X, (wr.alloc X).frozen? ⟨w.heap.size + 1 + f, t, none⟩ = false := fun X => ((hM.grid.row f hf).alloc X).frozen t
          clear ha hc hv c1 c2 c3
          go_wp2
          go_region
          all_goals go_wp2
          all_goals (
            go_roundg (l.length - (p + 1))
            case measure => omega
            case rel => exact ⟨p + 1, by omega, rfl, by simp, (((hM.alloc _).set hf _).drew).congr fun a b _ _ => dir_upd hd (by omega) a b⟩)
        · have e : p = l.length := by omega
          subst e
          rw [List.take_length] at hM
          go_wp2
          go_ret
          exact ⟨rfl, hM⟩

end Go.Proofs.Ytcklpclgiaeopaa

namespace Go.Proofs.Ytcklpclgiaeopaa
open Go Go.Abs Go.FW Go.Plain
theorem m36_eq (a b c : Int) : Pre.m36 ((a, b, c, ()), ()) = some ((decide (b ≤ a ∧ a ≤ c), ()), ()) := by
  unfold Pre.m36
  by_cases h : a ≥ b
  · by_cases g : a ≤ c
    · simp only [decide_eq_true h, decide_eq_true g, decide_eq_true (show b ≤ a ∧ a ≤ c from ⟨h, g⟩), sumE, sS]
    · simp only [decide_eq_true h, decide_eq_false g, decide_eq_false (show ¬ (b ≤ a ∧ a ≤ c) from fun e => g e.2), sumE, sS]
  · simp only [decide_eq_false h, decide_eq_false (show ¬ (b ≤ a ∧ a ≤ c) from fun e => h e.1), sumE, sS]

theorem okD_def (n : Int) (d : DT) : okD n d = (decide (0 ≤ d.1 ∧ d.1 ≤ n - 1) && (decide (0 ≤ d.2.1 ∧ d.2.1 ≤ n - 1) && decide (-17179869184 ≤ d.2.2.1 ∧ d.2.2.1 ≤ 17179869184))) := rfl

theorem valid24 (n : Int) (l : List DT) : Pre.m24 ((n, l, ()), ()) = some ((validC n l, ()), ()) := by
  unfold Pre.m24 validC
  simp only [m36_eq, sumE, sS]
  by_cases h1 : 1 ≤ n ∧ n ≤ 41
  · by_cases h2 : (l.length : Int) > 4000
    · simp only [decide_eq_true h1, decide_eq_true h2, decide_eq_false (show ¬ l.length ≤ 4000 by omega), sumE, sS]
    · have hw1 : w64 (n - 1) = n - 1 := w64_id (by omega) (by omega)
      have h := loop_list0 (f := Pre.l24_2_2) l (fun i (_ : Unit) => (((i : Int), l, (l.length : Int), ()), ((n, ()), ()))) (fun i _ d => bif !okD n d then .inr (.inl (((i : Int), ()), ((n, ()), ()))) else .inl ()) (fun _ => .inr ((), ((n, ()), ()))) ?_ ?_ ()
      · obtain ⟨j, _, hj⟩ := runL_any (fun d => !okD n d) (fun i : Nat => (Sum.inl (((i : Int), ()), ((n, ()), ())) : ((Int × Unit) × ((Int × Unit) × Unit)) ⊕ (Unit × ((Int × Unit) × Unit)))) (.inr ((), ((n, ()), ()))) l 0
        simp only [decide_eq_true h1, decide_eq_false h2, decide_eq_true (show l.length ≤ 4000 by omega), sumE, sS]
        rw [show loopT Pre.l24_2_2 ((0, l, (l.length : Int), ()), ((n, ()), ())) = _ from h.trans (congrArg some hj), any_not]
        have hj0 : decide ((j : Int) ≥ 0) = true := decide_eq_true (by omega)
        cases l.all (okD n) <;> simp only [sumE, sS, hj0, Bool.not_true, Bool.not_false]
      · intro i d _ hd hi
        have hw : w64 ((i : Int) + 1) = ((i + 1 : Nat) : Int) := w64_nat (by omega)
        rw [okD_def]
        simp only [Pre.l24_2_2, rowAt_G, rowG_nat hd, lt_t hi, m36_eq, hw1, sumE, sS]
        cases decide (0 ≤ d.1 ∧ d.1 ≤ n - 1) <;> cases decide (0 ≤ d.2.1 ∧ d.2.1 ≤ n - 1) <;> cases decide (-17179869184 ≤ d.2.2.1 ∧ d.2.2.1 ≤ 17179869184) <;> simp only [sumE, sS, hw, Bool.not_true, Bool.not_false]
      · intro _
        simp only [Pre.l24_2_2, lt_f, sumE, sS]
  · simp only [decide_eq_false h1, sumE, sS]

abbrev tD : Ty := .cons (.int .i64) (.cons (.int .i64) (.cons (.int .i64) .unit))

theorem rel_args {w : World} {n : Int} {l : List DT} {tg : Bool} {v : Value} (h : PR w noX v (rowAV tD l false)) (ℓ : Lens) (i : Nat) (u : SV) (hu : ((datS [.int .i64, .row tD]).un (n, l, ()))[i]? = some u) : ∃ x, (#[Value.int .i64 n, v] : Array Value).toList[i]? = some x ∧ PR w noX x (dV ℓ u) := by
  match i with
  | 0 => cases hu; exact ⟨_, rfl, .int _ _⟩
  | 1 => cases hu; exact ⟨_, rfl, h⟩
  | i + 2 => exact absurd (show (none : Option SV) = some u from hu) (by simp)

theorem calls24 {w : World} {n : Int} {l : List DT} {v : Value} (h : PR w noX v (rowAV tD l false)) : Calls Try.prog 24 #[.int .i64 n, v] w fun e w' => e = .returned (.bool (validC n l)) ∧ RowKit.Below w.heap.size w w' :=
  bool_calls (tys := [.int .i64, .row tD]) (x := (n, l, ())) Try.func24 rfl Pre.ok24 (by decide) (by cases validC n l <;> kernel_rfl) (valid24 n l) rfl (rel_args (tg := false) h)

end Go.Proofs.Ytcklpclgiaeopaa

namespace Go.Proofs.Ytcklpclgiaeopaa
open Go Go.Abs Go.RowKit Go.FW
/-- What a constraint list's slice holds. -/
theorem row_diff {w : World} {X : XT} {v : Value} {l : List DT} {tg : Bool} (h : PR w X v (rowAV tD l tg)) :
    ∃ a b o cap, v = .slice a l.length cap ∧ (l ≠ [] → a = some ⟨b, o, none⟩) ∧ ∀ (p : Nat) (d : DT), l[p]? = some d → w.cell? ⟨b, o + p * 3, none⟩ = some (.int .i64 d.1) ∧ w.cell? ⟨b, o + p * 3 + 1, none⟩ = some (.int .i64 d.2.1) ∧ w.cell? ⟨b, o + p * 3 + 2, none⟩ = some (.int .i64 d.2.2.1) := by
  cases hl : l with
  | nil =>
    rw [hl] at h
    have h : PR w X v (.lst 0 [] tg) := h
    cases h with
    | lst0 a cap sz t ht => exact ⟨a, 0, 0, cap, rfl, fun e => absurd rfl e, fun p d hd => by simp at hd⟩
    | lst b o n cap sz t xs f hn hc ht hsz hx hr => simp at hn; subst hn; exact ⟨_, 0, 0, cap, rfl, fun e => absurd rfl e, fun p d hd => by simp at hd⟩
  | cons y r =>
    rw [← hl]
    have h : PR w X v (.lst (lsz 3 (@List.map (Ty.den tD) AV (enc tD) l)) (@List.map (Ty.den tD) AV (enc tD) l) tg) := h
    have hz : lsz 3 (@List.map (Ty.den tD) AV (enc tD) l) = 3 := by rw [hl]; rfl
    rw [hz] at h
    generalize hxs : (@List.map (Ty.den tD) AV (enc tD) l) = xs at h
    have hlen : xs.length = l.length := by rw [← hxs]; exact List.length_map ..
    cases h with
    | lst0 a cap sz t ht => rw [hl] at hlen; simp at hlen
    | lst b o n cap sz t xs f hn hc ht hsz hx hr =>
      refine ⟨some ⟨b, o, none⟩, b, o, cap, by rw [← hlen, hn], fun _ => rfl, fun p d hd => ?_⟩
      have hxp : xs[p]? = some (.agg [.int .i64 d.1, .int .i64 d.2.1, .int .i64 d.2.2.1]) := by
        rw [← hxs]
        refine (List.getElem?_map ..).trans ?_
        exact (congrArg (Option.map (enc tD)) (show (show List (Ty.den tD) from l)[p]? = some d from hd)).trans rfl
      have c := fun j u hj => hx p _ hxp j u hj
      have e := fun j u hj => hr p _ hxp j u hj
      obtain ⟨_, c0, _⟩ := c 0 _ rfl
      obtain ⟨_, c1, _⟩ := c 1 _ rfl
      obtain ⟨_, c2, _⟩ := c 2 _ rfl
      rw [PR.int_inv (e 0 _ rfl)] at c0
      rw [PR.int_inv (e 1 _ rfl)] at c1
      rw [PR.int_inv (e 2 _ rfl)] at c2
      exact ⟨c0, c1, c2⟩

/-- A world in which nothing old has turned. -/
theorem since_of_below {w w' : World} (h : Below w.heap.size w w') : w.Since w.heap.size w' := ⟨h.os, h.tape, h.output, h.size, fun i hi => h.block i hi⟩

/-- What Close makes. -/
def CloseR (n : Int) (l : List DT) (w : World) (e : Ending) (w' : World) : Prop := ∃ u, e = .returned (.tuple #[u, .bool (closeB n l)]) ∧ w.Since w.heap.size w' ∧
  if closeB n l then ∃ B, w.heap.size ≤ B ∧ u = .slice (some ⟨B, 0, none⟩) n.toNat n.toNat ∧ Grid w' B 22 3 n.toNat n.toNat (fun i => B + 1 + i) (fun _ => n.toNat) (rounds (W0 l) n.toNat) else u = .slice none 0 0

theorem close_no {n : Int} {l : List DT} {w w' : World} (h : closeB n l = false) (hs : w.Since w.heap.size w') : CloseR n l w (.returned (.tuple #[.slice none 0 0, .bool false])) w' :=
  ⟨.slice none 0 0, by rw [h], hs, by rw [h]; rfl⟩

theorem valid_no {n : Int} {l : List DT} (h : validC n l = false) : closeB n l = false := by unfold closeB; rw [h]; rfl

/-- The matrix, the diagonal at most 0 before c. -/
def diagM (l : List DT) (c : Nat) : Nat → Nat → Int := fun a b => if a = b ∧ a < c then min (dirM l a b) 0 else dirM l a b

theorem diag_start (l : List DT) : diagM l 0 = dirM l := by funext a b; unfold diagM; rw [if_neg (by omega)]

theorem diag_step (l : List DT) (c : Nat) {v : Int} (hv : v = min (dirM l c c) 0) (a b : Nat) : FW.upd (diagM l c) c c v a b = diagM l (c + 1) a b := by
  unfold FW.upd diagM
  by_cases e : a = c ∧ b = c
  · rw [if_pos e, if_pos (by omega), hv, e.1, e.2]
  · rw [if_neg e]
    by_cases g : a = b ∧ a < c
    · rw [if_pos g, if_pos (by omega)]
    · rw [if_neg g, if_neg (by omega)]

theorem diag_end (l : List DT) {n a b : Nat} (ha : a < n) : diagM l n a b = W0 l a b := by
  unfold diagM W0
  by_cases e : a = b
  · rw [if_pos ⟨e, ha⟩, if_pos e]
  · rw [if_neg (fun g => e g.1), if_neg e]

theorem diag_here (l : List DT) (c : Nat) : diagM l c c c = dirM l c c := by unfold diagM; rw [if_neg (by omega)]

theorem since_trans {w w1 w2 : World} (h : Below w.heap.size w w1) (g : w1.Since w1.heap.size w2) : w.Since w.heap.size w2 :=
  ⟨g.os.trans h.os, g.tape.trans h.tape, g.output.trans h.output, Nat.le_trans h.size g.size, fun i hi => (g.block i (Nat.lt_of_lt_of_le hi h.size)).trans (h.block i hi)⟩

theorem alld_no {N : Nat} {l : List DT} (h : ¬ AllD (W0 l) N N) : closeB (N : Int) l = false := by
  cases hc : closeB (N : Int) l
  · rfl
  · exact absurd (fun i hi => (closeB_iff.1 hc).2 i hi) h

theorem close_yes {N : Nat} {l : List DT} {w w1 w2 : World} {M : Nat → Nat → Int} (hv : validC (N : Int) l = true) (h : Below w.heap.size w w1) (hM : Mat w1 w2 N M) (hP : PS (W0 l) N N 0 0 M) (hd : ∀ q, q < N → 0 ≤ M q q) :
    CloseR (N : Int) l w (.returned (.tuple #[.slice (some ⟨w1.heap.size, 0, none⟩) N N, .bool true])) w2 := by
  obtain ⟨g1, g2⟩ := hP.final hd
  have hc : closeB (N : Int) l = true := closeB_iff.2 ⟨hv, g1⟩
  refine ⟨_, by rw [hc], since_trans h hM.since, ?_⟩
  rw [hc]
  exact ⟨w1.heap.size, h.size, rfl, hM.grid.congr g2⟩

theorem neg_round {N k i : Nat} {l : List DT} {M : Nat → Nat → Int} (hP : PS (W0 l) N k i 0 M) (hi : i = N) (hk : k < N) (hneg : M k k < 0) : closeB (N : Int) l = false := by
  subst hi
  exact alld_no (hP.round_end.neg hk hk hneg)

theorem row_done {N k i j : Nat} {l : List DT} {M : Nat → Nat → Int} (hP : PS (W0 l) N k i j M) (hj : j = N) : PS (W0 l) N k (i + 1) 0 M := by
  subst hj; exact hP.row_end

theorem round_done {N k i : Nat} {l : List DT} {M : Nat → Nat → Int} (hP : PS (W0 l) N k i 0 M) (hi : i = N) : PS (W0 l) N (k + 1) 0 0 M := by
  subst hi; exact hP.round_end

set_option maxHeartbeats 6400000 in
set_option maxRecDepth 1000000 in
theorem close_walk (n : Int) (v : Value) (l : List DT) (w : World) (hv : PR w noX v (rowAV tD l false)) : Calls Try.prog 13 #[.int .i64 n, v] w (CloseR n l w) := by
  have hval := calls24 (n := n) hv
  obtain ⟨a, b, o, cap, rfl, ha, hc⟩ := row_diff hv
  have H : Hid ((l ≠ [] → a = some ⟨b, o, none⟩) ∧ ∀ (p : Nat) (d : DT), l[p]? = some d → w.cell? ⟨b, o + p * 3, none⟩ = some (.int .i64 d.1) ∧ w.cell? ⟨b, o + p * 3 + 1, none⟩ = some (.int .i64 d.2.1) ∧ w.cell? ⟨b, o + p * 3 + 2, none⟩ = some (.int .i64 d.2.2.1)) := ⟨ha, hc⟩
  clear ha hc hv
  have hcl : validC n l = false → closeB n l = false := valid_no
  obtain ⟨vb, hvb⟩ : ∃ vb, vb = validC n l := ⟨_, rfl⟩
  rw [← hvb] at hval
  have Hv : Hid (vb = validC n l) := hvb
  clear hvb hcl
  go_enter Try.func13, Try.ntmps13
  go_wp2_with (go_at_call 24; refine hval.mono ?_; rintro e w1 ⟨rfl, hw1⟩)
  · go_ret2
    have hvb := Hv.out
    exact close_no (valid_no (by rw [← hvb]; simpa using ‹(!vb) = true›)) (since_of_below hw1)
  · have hvb := Hv.out
    have hvt : validC n l = true := by rw [← hvb]; simpa using ‹(!vb) = false›
    obtain ⟨⟨n1, n2⟩, n3, n4⟩ := valid_iff.1 hvt
    obtain ⟨N, rfl⟩ := Int.eq_ofNat_of_zero_le (show 0 ≤ n by omega)
    have hN : N ≤ 41 := by omega
    have HV : Hid (validC (N : Int) l = true) := hvt
    refine (direct_walk N hN a b o cap l n3 H.out.1 w1 (fun p d hd => ?_) n4).mono ?_
    · obtain ⟨c1, c2, c3⟩ := H.out.2 p d hd
      have hb : b < w.heap.size := World.block_lt_of_cell? _ _ c1
      have hs := since_of_below hw1
      exact ⟨by rw [hs.cell (a := ⟨b, o + p * 3, none⟩) hb]; exact c1, by rw [hs.cell (a := ⟨b, o + p * 3 + 1, none⟩) hb]; exact c2, by rw [hs.cell (a := ⟨b, o + p * 3 + 2, none⟩) hb]; exact c3⟩
    rintro e w2 ⟨rfl, hM⟩
    have HN : Hid (1 ≤ N ∧ N ≤ 41 ∧ ∀ d ∈ l, okD (N : Int) d = true) := ⟨by omega, hN, n4⟩
    clear hval hvb hvt n1 n2 n3 n4 H Hv
    go_wp2
    go_loopg [20] N (fun g i wr => ∃ c : Nat, c ≤ N ∧ g = N - c ∧ i = .int .i64 c ∧ Mat w1 wr N (diagM l c))
    case atStart => exact ⟨0, Nat.zero_le _, rfl, rfl, by rw [diag_start]; exact hM⟩
    case round =>
      clear hM
      obtain ⟨c, hc', rfl, rfl, hM⟩ := hrel
      by_cases hlt : c < N
      · have j1 : wr.cell? ⟨w1.heap.size, c, none⟩ = some (.slice (some ⟨w1.heap.size + 1 + c, 0, none⟩) N N) := hM.grid.top.cell hlt
        have j2 : wr.cell? ⟨w1.heap.size + 1 + c, c, none⟩ = some (.int .i64 (dirM l c c)) := by rw [← diag_here]; exact (hM.grid.row c hlt).cell hlt
        have j3 : wr.frozen? ⟨w1.heap.size + 1 + c, c, none⟩ = false := (hM.grid.row c hlt).frozen c
        go_wp2
        go_region
        all_goals go_wp2
        all_goals (
          go_roundg (N - (c + 1))
          case measure => omega
          case rel => exact ⟨c + 1, by omega, rfl, by simp, (((hM.set hlt _).drew).congr fun a b _ _ => diag_step l c (by omega) a b)⟩)
      · generalize decide (c < N) = s21
        have e : c = N := by omega
        subst e
        go_wp2
        have HP : Hid (PS (W0 l) c 0 0 0 (diagM l c)) := PS.start (fun a b ha _ => diag_end l ha)
        go_loopg [39] c (fun g i wr => ∃ k : Nat, k ≤ c ∧ g = c - k ∧ i = .int .i64 k ∧ ∃ M, Hid (PS (W0 l) c k 0 0 M) ∧ Mat w1 wr c M)
        case atStart => exact ⟨0, Nat.zero_le _, rfl, rfl, _, HP, hM⟩
        case round =>
          clear HP hM
          obtain ⟨k, hk, rfl, rfl, M, HP, hM⟩ := hrel
          by_cases hkc : k < c
          · go_wp2
            go_loopg [43] c (fun g i wr => ∃ i' : Nat, i' ≤ c ∧ g = c - i' ∧ i = .int .i64 i' ∧ ∃ M, Hid (PS (W0 l) c k i' 0 M) ∧ Mat w1 wr c M)
            case atStart => exact ⟨0, Nat.zero_le _, rfl, rfl, _, HP, hM⟩
            case round =>
              clear HP hM
              obtain ⟨i, hi, rfl, rfl, M, HP, hM⟩ := hrel
              by_cases hic : i < c
              · go_wp2
                go_loopg [47] c (fun g i' wr => ∃ j : Nat, j ≤ c ∧ g = c - j ∧ i' = .int .i64 j ∧ ∃ M, Hid (PS (W0 l) c k i j M) ∧ Mat w1 wr c M)
                case atStart => exact ⟨0, Nat.zero_le _, rfl, rfl, _, HP, hM⟩
                case round =>
                  clear HP hM
                  obtain ⟨j, hj, rfl, rfl, M, HP, hM⟩ := hrel
                  by_cases hjc : j < c
                  · have j1 : wr.cell? ⟨w1.heap.size, i, none⟩ = some (.slice (some ⟨w1.heap.size + 1 + i, 0, none⟩) c c) := hM.grid.top.cell hic
                    have j2 : wr.cell? ⟨w1.heap.size, k, none⟩ = some (.slice (some ⟨w1.heap.size + 1 + k, 0, none⟩) c c) := hM.grid.top.cell hkc
                    have j3 : wr.cell? ⟨w1.heap.size + 1 + i, k, none⟩ = some (.int .i64 (M i k)) := (hM.grid.row i hic).cell hkc
                    have j4 : wr.cell? ⟨w1.heap.size + 1 + k, j, none⟩ = some (.int .i64 (M k j)) := (hM.grid.row k hkc).cell hjc
                    have j5 : wr.cell? ⟨w1.heap.size + 1 + i, j, none⟩ = some (.int .i64 (M i j)) := (hM.grid.row i hic).cell hjc
                    have j6 : wr.frozen? ⟨w1.heap.size + 1 + i, j, none⟩ = false := (hM.grid.row i hic).frozen j
                    by_cases h1 : M i k = 1099511627776
                    · go_wp2
                      go_roundg (c - (j + 1))
                      case measure => omega
                      case rel => exact ⟨j + 1, by omega, rfl, by simp, M, HP.out.skip hkc hic hjc (.inl h1), hM⟩
                    · by_cases h2 : M k j = 1099511627776
                      · go_wp2
                        go_roundg (c - (j + 1))
                        case measure => omega
                        case rel => exact ⟨j + 1, by omega, rfl, by simp, M, HP.out.skip hkc hic hjc (.inr h2), hM⟩
                      · go_wp2
                        · go_region
                          all_goals go_wp2
                          all_goals (
                            go_roundg (c - (j + 1))
                            case measure => omega
                            case rel => exact ⟨j + 1, by omega, rfl, by simp, FW.upd M i j (min (M i j) (w64 (M i k + M k j))), HP.out.store (w_small HN.out.2.2) (by omega) hkc hic hjc h1 h2,
                              ((hM.set hic _).drew).congr fun a b _ _ => congrFun (congrFun (congrArg (FW.upd M i j) (by rw [show w64 (M i k + M k j) = wrap64 (M i k + M k j) by unfold wrap64; exact IntKind.wrap_i64 _]; omega)) a) b⟩)
                        · exfalso
                          rcases ‹(M i k != 1099511627776) = false ∨ (M k j != 1099511627776) = false› with h | h
                          · exact h1 (by simpa using h)
                          · exact h2 (by simpa using h)
                  · go_wp2
                    go_roundg (c - (i + 1))
                    case measure => omega
                    case rel => exact ⟨i + 1, by omega, rfl, by simp, M, row_done HP.out (by omega), hM⟩
              · have j2 : wr.cell? ⟨w1.heap.size, k, none⟩ = some (.slice (some ⟨w1.heap.size + 1 + k, 0, none⟩) c c) := hM.grid.top.cell hkc
                have j3 : wr.cell? ⟨w1.heap.size + 1 + k, k, none⟩ = some (.int .i64 (M k k)) := (hM.grid.row k hkc).cell hkc
                by_cases hneg : M k k < 0
                · go_wp2
                  go_ret2
                  exact close_no (neg_round HP.out (by omega) hkc hneg) (since_trans hw1 hM.since)
                · go_wp2
                  go_roundg (c - (k + 1))
                  case measure => omega
                  case rel => exact ⟨k + 1, by omega, rfl, by simp, M, round_done HP.out (by omega), hM⟩
          · have HP2 : Hid (PS (W0 l) c c 0 0 M) := (show k = c by omega) ▸ HP.out
            clear HP
            go_wp2
            generalize decide (k < c) = s40
            go_loopg [109] c (fun g i wr => ∃ q : Nat, q ≤ c ∧ g = c - q ∧ i = .int .i64 q ∧ Hid (∀ x, x < q → 0 ≤ M x x) ∧ Mat w1 wr c M)
            case atStart => exact ⟨0, Nat.zero_le _, rfl, rfl, fun x hx => absurd hx (Nat.not_lt_zero _), hM⟩
            case round =>
              clear hM
              obtain ⟨q, hq, rfl, rfl, HD, hM⟩ := hrel
              by_cases hqc : q < c
              · have j2 : wr.cell? ⟨w1.heap.size, q, none⟩ = some (.slice (some ⟨w1.heap.size + 1 + q, 0, none⟩) c c) := hM.grid.top.cell hqc
                have j3 : wr.cell? ⟨w1.heap.size + 1 + q, q, none⟩ = some (.int .i64 (M q q)) := (hM.grid.row q hqc).cell hqc
                by_cases hneg : M q q < 0
                · go_wp2
                  go_ret2
                  exact close_no (alld_no (HP2.out.final_neg hqc hneg)) (since_trans hw1 hM.since)
                · go_wp2
                  go_roundg (c - (q + 1))
                  case measure => omega
                  case rel => exact ⟨q + 1, by omega, rfl, by simp, fun x hx => by
                    by_cases ex : x = q
                    · subst ex; omega
                    · exact HD.out x (by omega), hM⟩
              · go_wp2
                go_ret2
                exact close_yes HV.out hw1 hM HP2.out (fun x hx => HD.out x (by omega))

end Go.Proofs.Ytcklpclgiaeopaa

namespace Go.Proofs.Ytcklpclgiaeopaa
open Go Go.Abs Go.RowKit Go.FW
theorem two_vals' {vals : Array Value} {n : Int} {v : Value} (hsz : vals.size = 2) (h0 : vals.getD 0 undef = .int .i64 n) (h1 : vals.getD 1 undef = v) : vals = #[.int .i64 n, v] := by
  rw [two_vals hsz, h0, h1]

theorem pr_no {w : World} {X : XT} {v : Value} {x : AV} (h : PR w X v x) : PR w noX v x := h.mono ((Stable.refl w X).less fun b o _ hx => hx.elim)

theorem pr_tight {w : World} {X : XT} {v : Value} {sz : Nat} {xs : List AV} {t : Bool} (h : PR w X v (.lst sz xs t)) : PR w X v (.lst sz xs false) := by
  cases h with
  | lst0 a cap sz t ht => exact .lst0 a cap sz false (fun e => by cases e)
  | lst b o n cap sz t xs f hn hc ht hsz hx hr => exact .lst b o n cap sz false xs f hn hc (fun e => by cases e) hsz hx hr

theorem hand30 : CallOK Try.prog 30 (pureC hfDir) := new_ok (entered Try.func30 rfl (by decide)) (by
  intro args v h
  unfold hfDir at h
  split at h
  · rename_i n l tg
    obtain ⟨hc, h⟩ := Tr.mean_need h
    have := Tr.mean_ret h
    subst this
    intro w X vals hsz hv
    have h0 := PR.int_inv (hv 0 _ rfl)
    have h1 := hv 1 _ rfl
    obtain ⟨a, b, o, cap, e1, ha, hcell⟩ := row_diff (l := l) (tg := tg) (pr_no h1)
    have hvv := two_vals' (by simpa using hsz) h0 e1
    obtain ⟨⟨n1, n2⟩, n3, n4⟩ := valid_iff.1 (show validC n l = true from hc)
    obtain ⟨N, rfl⟩ := Int.eq_ofNat_of_zero_le (show 0 ≤ n by omega)
    rw [hvv]
    refine (direct_walk N (by omega) a b o cap l n3 ha w hcell n4).mono ?_
    rintro e w' ⟨rfl, hM⟩
    refine ⟨_, rfl, Kept.of_since hM.since, fun X' ρ ℓ hX => ?_⟩
    have hx : ∀ b o, w.heap.size ≤ b → ¬ X' b o := fun b o hb hx => by have := hX b o hx; omega
    exact .pur _ _ (hM.grid.rel (fun o => hx _ o (Nat.le_refl _)) (fun i o _ => hx _ o (by omega)) N (Nat.le_refl _) ℓ)
  · exact (Tr.mean_fail h).elim)

theorem hand13 : CallOK Try.prog 13 (pureC hfClose) := new_ok (entered Try.func13 rfl (by decide)) (by
  intro args v h
  unfold hfClose at h
  split at h
  · rename_i n l tg
    have := Tr.mean_ret h
    subst this
    intro w X vals hsz hv
    have h0 := PR.int_inv (hv 0 _ rfl)
    have h1 := pr_tight (pr_no (hv 1 _ rfl))
    have hvv := two_vals' (v := vals.getD 1 undef) (by simpa using hsz) h0 rfl
    rw [hvv]
    refine (close_walk n (vals.getD 1 undef) l w h1).mono ?_
    rintro e w' ⟨u, rfl, hs, hu⟩
    refine ⟨_, rfl, Kept.of_since hs, fun X' ρ ℓ hX => ?_⟩
    have hx : ∀ b o, w.heap.size ≤ b → ¬ X' b o := fun b o hb hx => by have := hX b o hx; omega
    have key : PR w' X' u (d1 ℓ (.row (.row (.int .i64)) (cloL n l) false)) := by
      unfold cloL
      cases hc : closeB n l
      · rw [hc] at hu
        rw [show u = .slice none 0 0 from hu]
        exact .lst0 none 0 _ false (fun e => by cases e)
      · rw [hc] at hu
        obtain ⟨B, b1, rfl, hg⟩ := hu
        exact hg.rel (fun o => hx _ o b1) (fun i o _ => hx _ o (by omega)) _ (Nat.le_refl _) ℓ
    refine .tup _ _ rfl (fun i x hi => ?_)
    match i with
    | 0 => cases hi; exact .pur _ _ key
    | 1 => cases hi; exact .pur _ _ (.bool _)
    | i + 2 => exact absurd (show (none : Option AV) = some x from hi) (by simp)
  · exact (Tr.mean_fail h).elim)

end Go.Proofs.Ytcklpclgiaeopaa

namespace Go.Proofs.Ytcklpclgiaeopaa
open Go Go.Abs
noncomputable section
abbrev Z1 : Abs.Ty := (.cons (.int .i64) (.cons (.int .i64) (.cons (.int .i64) .unit)))

abbrev Z3 : Abs.Ty := (.row (.row (.int .i64)))

abbrev Z4 : Abs.Ty := (.cons (.row (.int .i64)) (.cons (.int .i64) .unit))

abbrev Y5 : Type := (((List Int) × Int × Unit) × Unit)

abbrev Y6 : Type := ((Bool × Unit) × (Unit))

abbrev Y7 : Type := (Int × Int × Int × Unit)

abbrev Y2 : Type := (List Y7)

abbrev Y8 : Type := ((List Int) × (List Int) × Unit)

def note : FuncId → Abs.Note
  | 2 => ⟨true, [], false, fun _ => []⟩
  | 3 => ⟨true, [0, 1, 4, 5, 6, 7, 8, 9, 10, 11, 12, 13, 14, 15, 16, 17, 20, 58, 59, 60, 90, 96, 101, 157], false, fun _ => []⟩
  | 4 => ⟨true, [0, 2, 3, 4, 5, 6, 7, 8, 9, 10, 11, 12, 13, 14, 17, 34, 54, 57, 76, 81, 97, 102, 147, 175, 196], false, fun _ => []⟩
  | 5 => ⟨true, [0, 2, 3, 4, 5, 6, 7, 8, 9, 10, 11, 12, 13, 14, 17, 26, 38, 56, 116, 119, 130], false, fun | 15 => [(3, 7)] | 20 => [(6, 13), (10, 13)] | _ => []⟩
  | 6 => ⟨true, [0, 2, 3, 4, 5, 6, 7, 8, 9, 10, 12, 13, 14, 15, 16, 17, 18, 19, 20, 23, 43, 50, 51, 52, 53, 64, 105, 119, 121, 122, 123, 140], false, fun | 20 => [(2, 3), (2, 4)] | _ => []⟩
  | 7 => ⟨true, [0, 1, 2, 3, 4, 9, 10, 11, 12, 13, 14, 15, 17, 19, 20, 21, 22, 23, 24, 25, 26, 27, 28, 29, 30, 32, 45, 59, 90, 91, 92, 93, 101, 102, 103, 104, 108, 171, 205, 224, 225, 226, 227, 238, 259], false, fun | 9 => [(8, 14), (9, 14), (6, 15), (8, 15), (9, 15)] | 34 => [(3, 6), (13, 16)] | _ => []⟩
  | 8 => ⟨true, [0, 2], false, fun _ => []⟩
  | 9 => ⟨true, [0, 1, 2, 3, 4], false, fun _ => []⟩
  | 10 => ⟨true, [0, 2], false, fun _ => []⟩
  | 11 => ⟨true, [0, 1, 4, 5, 19, 40], false, fun _ => []⟩
  | 12 => ⟨true, [0, 1, 4, 5, 6, 7, 8, 9, 10, 13, 24, 53], false, fun | 11 => [(6, 13), (10, 13)] | _ => []⟩
  | 13 => ⟨true, [0, 1, 4, 5, 6, 7, 8, 9, 10, 11, 15, 19, 20, 21, 38, 39, 40, 42, 43, 44, 46, 47, 48, 67, 106, 108, 109, 110, 119], false, fun _ => []⟩
  | 14 => ⟨true, [0, 1, 4, 5, 7, 8, 9, 10, 11, 12, 13, 14, 15, 28, 37, 38, 39, 40, 41, 42, 44, 45, 46, 74, 98, 99, 100, 114], false, fun | 5 => [(1, 3)] | _ => []⟩
  | 15 => ⟨true, [0, 1, 2, 6, 7, 8, 9, 10, 11, 20, 24, 44, 48, 89, 96], false, fun _ => []⟩
  | 16 => ⟨true, [0, 1, 2, 5, 6, 20], false, fun _ => []⟩
  | 17 => ⟨true, [0, 1, 4, 5, 6, 7, 8, 9, 17, 18, 19, 20, 28], false, fun _ => []⟩
  | 18 => ⟨true, [0, 1, 3, 4, 6, 7, 8, 9, 10, 11, 12, 20, 25, 26, 27, 34, 35, 36, 37, 49], false, fun | 16 => [(2, 3)] | _ => []⟩
  | 19 => ⟨true, [0, 1, 2, 5, 6, 7, 8], false, fun _ => []⟩
  | 20 => ⟨true, [0, 1, 4, 5, 10, 12, 13, 14, 25], false, fun _ => []⟩
  | 21 => ⟨true, [0, 1, 4], false, fun _ => []⟩
  | 22 => ⟨true, [0, 1, 4, 5, 6, 7, 8, 9, 10, 11, 12, 13, 14, 18, 21, 26, 42, 98, 101, 106, 111, 131, 163, 173], false, fun _ => []⟩
  | 23 => ⟨true, [0, 1, 4, 5, 6, 7, 8, 9, 17, 20, 29], false, fun _ => []⟩
  | 24 => ⟨true, [0, 1, 2, 4, 12], false, fun _ => []⟩
  | 25 => ⟨true, [0, 1, 4, 5, 13, 17, 48], false, fun _ => []⟩
  | 26 => ⟨true, [0, 1, 4, 5, 10, 14, 25], false, fun _ => []⟩
  | 27 => ⟨true, [0, 1, 4, 6, 7, 8, 9, 10, 11, 12, 20, 27, 33, 45, 66, 73], false, fun _ => []⟩
  | 28 => ⟨true, [0, 1, 2, 6, 7, 8, 18, 21, 29, 33, 58], false, fun _ => []⟩
  | 29 => ⟨true, [0, 1, 2, 5, 6, 7, 8], false, fun _ => []⟩
  | 30 => ⟨true, [0, 1, 4, 5, 6, 7, 9, 13, 14, 15, 26, 27, 28, 38, 39, 40, 41], false, fun _ => []⟩
  | 31 => ⟨true, [0, 2, 3, 9], true, fun _ => []⟩
  | 32 => ⟨true, [0, 1, 2, 6], false, fun _ => []⟩
  | 33 => ⟨true, [0, 1, 4, 5, 9, 17], false, fun _ => []⟩
  | 34 => ⟨true, [0, 1, 4], false, fun _ => []⟩
  | 35 => ⟨true, [0, 2], true, fun _ => []⟩
  | 36 => ⟨true, [0, 1, 2, 6], false, fun _ => []⟩
  | 37 => ⟨true, [0, 1, 4], false, fun _ => []⟩
  | 38 => ⟨true, [0, 1, 2, 3], false, fun _ => []⟩
  | 39 => ⟨true, [0, 1, 2, 3, 4, 5, 6, 7, 8, 15], true, fun _ => []⟩
  | 40 => ⟨true, [0, 1, 2, 3], true, fun _ => []⟩
  | 41 => ⟨true, [0, 1, 3, 4, 9], false, fun _ => []⟩
  | 42 => ⟨true, [0, 1, 4, 5, 7, 8, 9, 16], false, fun _ => []⟩
  | 43 => ⟨true, [0, 1, 4, 5, 7, 8, 9, 16], false, fun _ => []⟩
  | _ => ⟨false, [], false, fun _ => []⟩

theorem good : Abs.Good Try.prog note := Abs.good_of (by kernel_rfl)

theorem foll : (Try.prog).follows .mixedOrders = true := by kernel_rfl

def mvtab (f : FuncId) : Bool := [].contains f

def ctab : FuncId → Option Abs.SCall := Abs.ctabOf [(13, Abs.pureC Abs.hfClose), (30, Abs.pureC Abs.hfDir)]

theorem ctab_ok : ∀ f q, ctab f = some q → Abs.CallOK Try.prog f q := Abs.ctabOf_ok _ (by
  intro p hp
  simp only [List.mem_cons, List.not_mem_nil, or_false] at hp
  rcases hp with rfl | rfl
  · exact hand13
  · exact hand30
)

/- pagewatch/pagewatchmade.Light -/
def i8 : Abs.Sg := ⟨[0], (.dat (.row (.int .i64)) .nil), .nil⟩

def o8 : Abs.Sg := ⟨[2], (.dat .bool .nil), .nil⟩

def m8 (v : (((List Int) × Unit) × (Unit))) : Option Y6 :=
some (((decide (((v.1.1.length : Int) : Int) ≤ 500)), ()), ())

def sp8 : Abs.Spec := ⟨0, i8, o8, m8⟩

def an8 : Nat → Abs.FAn
  | _ => {}

theorem ok8 : Abs.SpecOK Try.prog 8 sp8 :=
  Abs.specOC_of (C := ctab) (mv := mvtab) ctab_ok (n := 12) (an := an8) (T := Abs.tabOf []) good foll (Abs.tabOf_ok _ (fun _ h => by cases h)) rfl (by intro v; kernel_rfl)

/- 13 pagewatch/constraint.Close: not told by a law: run where it is called -/

def l17_0_6 (v : ((Int × (List (List Int)) × Int × Unit) × ((List Int) × Unit))) : Option (((Int × (List (List Int)) × Int × Unit) × ((List Int) × Unit)) ⊕ (((Bool × Unit) × ((List Int) × Unit)) ⊕ ((Unit) × ((List Int) × Unit)))) :=
bif (decide ((v.1.1 : Int) < v.1.2.2.1)) then (Abs.rowAt v.1.2.1 v.1.1 fun e31 _ =>
Abs.rowAt e31 0 fun e32 _ =>
bif ((e32 : Int) == 1099511627776) then (some (.inr (.inl ((false, ()), ([], ())))))
else (Abs.rowAt v.1.2.1 v.1.1 fun e33 _ =>
Abs.rowAt e33 0 fun e34 _ =>
bif (decide (v.2.1.length + [(w64 (0 - e34))].length ≤ 4294967296)) then
some (.inl (((w64 (v.1.1 + 1)), (v.1.2.1, (v.1.2.2.1, ()))), ((v.2.1 ++ [(w64 (0 - e34))]), ())))
else none))
else (some (.inr (.inr ((), (v.2.1, ())))))

/- pagewatch/constraint.Earliest -/
def i17 : Abs.Sg := ⟨[0, 1], (.dat (.int .i64) (.dat (.row Z1) .nil)), .nil⟩

def o17 : Abs.Sg := ⟨[4, 5], (.st (.own (.int .i64) (0, 0)) (.dat .bool .nil)), (.arr (.int .i64) false .nil)⟩

def m17 (v : ((Int × Y2 × Unit) × (Unit))) : Option ((Bool × Unit) × ((List Int) × Unit)) :=
bif (!(cloB v.1.1 v.1.2.1)) then (some ((false, ()), ([], ())))
else ((loopT l17_0_6 ((0, ((cloL v.1.1 v.1.2.1), (v.1.1, ()))), ([], ()))).bind fun d35 =>
sumE d35 (fun d36 => (some ((d36.1.1, ()), (d36.2.1, ())))) (fun d37 => (some ((true, ()), (d37.2.1, ())))))

def sp17 : Abs.Spec := ⟨0, i17, o17, m17⟩

def an17 : Nat → Abs.FAn
  | 0 => Abs.FAn.mk (fun _ => none) (fun _ => none) (fun
    | 6 => some ⟨⟨[19, 6, 8, 18], (.dat (.int .i64) (.dat Z3 (.st (.own (.int .i64) (0, 0)) (.dat (.int .i64) .nil)))), (.arr (.int .i64) false .nil)⟩, (.more .ret ⟨[4, 5], (.st (.own (.int .i64) (0, 0)) (.dat .bool .nil)), (.arr (.int .i64) false .nil)⟩ (.one (.exit 0) ⟨[8], (.st (.own (.int .i64) (0, 0)) .nil), (.arr (.int .i64) false .nil)⟩))⟩
    | _ => none) (fun _ _ => 0)
  | _ => {}

theorem ok17 : Abs.SpecOK Try.prog 17 sp17 :=
  Abs.specOC_of (C := ctab) (mv := mvtab) ctab_ok (n := 12) (an := an17) (T := Abs.tabOf []) good foll (Abs.tabOf_ok _ (fun _ h => by cases h)) rfl (by intro v; kernel_rfl)

/- pagewatch/constraint.in -/
def i36 : Abs.Sg := ⟨[0, 1, 2], (.dat (.int .i64) (.dat (.int .i64) (.dat (.int .i64) .nil))), .nil⟩

def o36 : Abs.Sg := ⟨[6], (.dat .bool .nil), .nil⟩

def m36 (v : (Y7 × (Unit))) : Option Y6 :=
((bif (decide ((v.1.1 : Int) ≥ v.1.2.1)) then (some (((decide ((v.1.1 : Int) ≤ v.1.2.2.1)), ()), ()))
else (some ((false, ()), ()))) : Option Y6).bind fun v1 =>
some ((v1.1.1, ()), ())

def sp36 : Abs.Spec := ⟨0, i36, o36, m36⟩

def an36 : Nat → Abs.FAn
  | 0 => Abs.FAn.mk (fun
    | 1 => some ⟨[6], (.dat .bool .nil), .nil⟩
    | _ => none) (fun _ => none) (fun _ => none) (fun _ _ => 0)
  | _ => {}

theorem ok36 : Abs.SpecOK Try.prog 36 sp36 :=
  Abs.specOC_of (C := ctab) (mv := mvtab) ctab_ok (n := 12) (an := an36) (T := Abs.tabOf []) good foll (Abs.tabOf_ok _ (fun _ h => by cases h)) rfl (by intro v; kernel_rfl)

/- 40 pagewatch/constraint.Valid$1: not told by a law: a closure -/

/- 43 slices.IndexFunc[[]pagewatch/api.Diff,pagewatch/api.Diff]: not told by a law: a parameter -/

/- 37 slices.ContainsFunc[[]pagewatch/api.Diff,pagewatch/api.Diff]: not told by a law: a parameter -/

def l24_2_2 (v : ((Int × Y2 × Int × Unit) × ((Int × Unit) × Unit))) : Option (((Int × Y2 × Int × Unit) × ((Int × Unit) × Unit)) ⊕ (((Int × Unit) × ((Int × Unit) × Unit)) ⊕ ((Unit) × ((Int × Unit) × Unit)))) :=
bif (decide ((v.1.1 : Int) < v.1.2.2.1)) then (Abs.rowAt v.1.2.1 v.1.1 fun e67 _ =>
(((m36 ((e67.1, (0, ((w64 (v.2.1.1 - 1)), ()))), ())).bind fun u68 =>
bif (!u68.1.1) then (some ((true, ()), ((v.2.1.1, ()), ())))
else ((m36 ((e67.2.1, (0, ((w64 (v.2.1.1 - 1)), ()))), ())).bind fun u69 =>
bif (!u69.1.1) then (some ((true, ()), ((v.2.1.1, ()), ())))
else ((m36 ((e67.2.2.1, ((-17179869184), (17179869184, ()))), ())).bind fun u70 =>
some (((!u70.1.1), ()), ((v.2.1.1, ()), ()))))) : Option ((Bool × Unit) × ((Int × Unit) × Unit))).bind fun v71 =>
bif v71.1.1 then (some (.inr (.inl ((v.1.1, ()), ((v71.2.1.1, ()), ())))))
else (some (.inl (((w64 (v.1.1 + 1)), (v.1.2.1, (v.1.2.2.1, ()))), ((v71.2.1.1, ()), ())))))
else (some (.inr (.inr ((), ((v.2.1.1, ()), ())))))

/- pagewatch/constraint.Valid -/
def i24 : Abs.Sg := ⟨[0, 1], (.dat (.int .i64) (.dat (.row Z1) .nil)), .nil⟩

def o24 : Abs.Sg := ⟨[4], (.dat .bool .nil), .nil⟩

def m24 (v : ((Int × Y2 × Unit) × (Unit))) : Option Y6 :=
(((m36 ((v.1.1, (1, (41, ()))), ())).bind fun u65 =>
bif (!u65.1.1) then (some ((true, (v.1.2.1, ())), ((v.1.1, ()), ())))
else (some (((decide (((v.1.2.1.length : Int) : Int) > 4000)), (v.1.2.1, ())), ((v.1.1, ()), ())))) : Option ((Bool × Y2 × Unit) × ((Int × Unit) × Unit))).bind fun v66 =>
bif v66.1.1 then (some ((false, ()), ()))
else ((((loopT l24_2_2 ((0, (v66.1.2.1, ((v66.1.2.1.length : Int), ()))), ((v66.2.1.1, ()), ()))).bind fun d72 =>
sumE d72 (fun d73 => (some (((decide ((d73.1.1 : Int) ≥ 0)), ()), ((d73.2.1.1, ()), ())))) (fun d74 => (some ((false, ()), ((d74.2.1.1, ()), ()))))) : Option ((Bool × Unit) × ((Int × Unit) × Unit))).bind fun v75 =>
some (((!v75.1.1), ()), ()))

def sp24 : Abs.Spec := ⟨0, i24, o24, m24⟩

def an24 : Nat → Abs.FAn
  | 0 => Abs.FAn.mk (fun
    | 1 => some ⟨[12, 2, 1], (.dat .bool (.st (.ptr (0, 0) 1 0 0) (.dat (.row Z1) .nil))), (.box 1 (.dat (.int .i64) .nil) .nil)⟩
    | _ => none) (fun _ => none) (fun _ => none) (fun
    | 3, 2 => 1
    | _, _ => 0)
  | 1 => Abs.FAn.mk (fun
    | 1 => some ⟨[4], (.dat .bool .nil), (.box 1 (.dat (.int .i64) .nil) .nil)⟩
    | _ => none) (fun _ => none) (fun _ => none) (fun
    | 1, 2 => 2
    | _, _ => 0)
  | 2 => Abs.FAn.mk (fun _ => none) (fun _ => none) (fun
    | 2 => some ⟨⟨[8, 0, 1, 7], (.dat (.int .i64) (.dat (.row Z1) (.st (.clo 40 [((0, 0), 1, 0, 0)]) (.dat (.int .i64) .nil)))), (.box 1 (.dat (.int .i64) .nil) .nil)⟩, (.more .ret ⟨[4], (.dat (.int .i64) .nil), (.box 1 (.dat (.int .i64) .nil) .nil)⟩ (.one (.exit 0) ⟨[], .nil, (.box 1 (.dat (.int .i64) .nil) .nil)⟩))⟩
    | _ => none) (fun
    | 4, 5 => 3
    | _, _ => 0)
  | 3 => Abs.FAn.mk (fun
    | 1 => some ⟨[3], (.dat .bool .nil), (.box 1 (.dat (.int .i64) .nil) .nil)⟩
    | _ => none) (fun _ => none) (fun _ => none) (fun _ _ => 0)
  | _ => {}

theorem ok24 : Abs.SpecOK Try.prog 24 sp24 :=
  Abs.specOC_of (C := ctab) (mv := mvtab) ctab_ok (n := 12) (an := an24) (T := Abs.tabOf [(36, sp36)]) good foll (Abs.tabOf_ok _ (by simp only [List.forall_mem_cons]; exact ⟨ok36, fun _ h => by cases h⟩)) rfl (by intro v; kernel_rfl)

/- 30 pagewatch/constraint.direct: not told by a law: run where it is called -/

/- warnings: store: pointer &e16.0 -/

def l14_0_13 (v : ((Int × Int × (List (List Int)) × Int × Int × Int × Int × Int × Int × Int × Unit) × Y8)) : Option (((Int × Int × (List (List Int)) × Int × Int × Int × Int × Int × Int × Int × Unit) × Y8) ⊕ (((List (List Int)) × Int × Int × Int × Int × Int × Int × Unit) × Y8)) :=
let x170 := (decide ((v.1.1 : Int) < v.1.2.2.2.2.2.2.2.2.2.1))
bif x170 then (((((Abs.rowAt v.1.2.2.1 v.1.2.1 fun e171 _ =>
Abs.rowAt e171 v.1.1 fun e172 _ =>
bif ((e172 : Int) != 1099511627776) then (bif (decide ((0 : Int) ≤ v.1.2.1 ∧ (v.1.2.1 : Int) < v.2.1.length)) then
(v.2.1[v.1.2.1.toNat]?).bind fun e173 =>
Abs.rowAt v.1.2.2.1 v.1.2.1 fun e174 _ =>
Abs.rowAt e174 v.1.1 fun e175 _ =>
bif (decide ((0 : Int) ≤ v.1.1 ∧ (v.1.1 : Int) < v.2.1.length)) then
(v.2.1[v.1.1.toNat]?).bind fun e176 =>
some (((decide (((w64 (e173 + e175)) : Int) < e176)), (v.1.2.1, (v.1.2.2.1, (v.1.2.2.2.1, (v.1.2.2.2.2.2.1, (v.1.2.2.2.2.2.2.1, (v.1.2.2.2.2.2.2.2.1, (v.1.2.2.2.2.2.2.2.2.1, (v.1.2.2.2.2.2.2.2.2.2.1, (v.1.1, (v.1.1, (v.1.2.2.2.2.1, ())))))))))))), (v.2.1, (v.2.2.1, ())))
else none
else none)
else (some ((false, (v.1.2.1, (v.1.2.2.1, (v.1.2.2.2.1, (v.1.2.2.2.2.2.1, (v.1.2.2.2.2.2.2.1, (v.1.2.2.2.2.2.2.2.1, (v.1.2.2.2.2.2.2.2.2.1, (v.1.2.2.2.2.2.2.2.2.2.1, (v.1.1, (v.1.1, (v.1.2.2.2.2.1, ())))))))))))), (v.2.1, (v.2.2.1, ()))))) : Option ((Bool × Int × (List (List Int)) × Int × Int × Int × Int × Int × Int × Int × Int × Int × Unit) × Y8)).bind fun v177 =>
bif v177.1.1 then (bif (decide ((0 : Int) ≤ v177.1.2.1 ∧ (v177.1.2.1 : Int) < v177.2.1.length)) then
(v177.2.1[v177.1.2.1.toNat]?).bind fun e178 =>
Abs.rowAt v177.1.2.2.1 v177.1.2.1 fun e179 _ =>
Abs.rowAt e179 v177.1.2.2.2.2.2.2.2.2.2.2.1 fun e180 _ =>
bif (decide ((0 : Int) ≤ v177.1.2.2.2.2.2.2.2.2.2.2.1 ∧ (v177.1.2.2.2.2.2.2.2.2.2.2.1 : Int) < v177.2.1.length)) then
bif (decide (v177.1.2.2.2.2.2.2.2.2.2.2.1.toNat < v177.2.1.length)) then
bif (decide ((0 : Int) ≤ v177.1.2.2.2.2.2.2.2.2.2.2.1 ∧ (v177.1.2.2.2.2.2.2.2.2.2.2.1 : Int) < v177.2.2.1.length)) then
bif (decide (v177.1.2.2.2.2.2.2.2.2.2.2.1.toNat < v177.2.2.1.length)) then
some ((v177.1.2.1, (v177.1.2.2.1, (v177.1.2.2.2.1, (v177.1.2.2.2.2.2.2.2.2.2.2.1, (v177.1.2.2.2.2.1, (v177.1.2.2.2.2.2.1, (v177.1.2.2.2.2.2.2.1, (v177.1.2.2.2.2.2.2.2.1, (v177.1.2.2.2.2.2.2.2.2.1, (v177.1.2.2.2.2.2.2.2.2.2.1, ())))))))))), ((v177.2.1.set v177.1.2.2.2.2.2.2.2.2.2.2.1.toNat (w64 (e178 + e180))), ((v177.2.2.1.set v177.1.2.2.2.2.2.2.2.2.2.2.1.toNat v177.1.2.1), ())))
else none
else none
else none
else none
else none)
else (some ((v177.1.2.1, (v177.1.2.2.1, (v177.1.2.2.2.1, (v177.1.2.2.2.2.2.2.2.2.2.2.2.1, (v177.1.2.2.2.2.1, (v177.1.2.2.2.2.2.1, (v177.1.2.2.2.2.2.2.1, (v177.1.2.2.2.2.2.2.2.1, (v177.1.2.2.2.2.2.2.2.2.1, (v177.1.2.2.2.2.2.2.2.2.2.1, ())))))))))), (v177.2.1, (v177.2.2.1, ()))))) : Option ((Int × (List (List Int)) × Int × Int × Int × Int × Int × Int × Int × Int × Unit) × Y8)).bind fun v181 =>
some (.inl (((w64 (v181.1.2.2.2.2.2.2.2.2.2.1 + 1)), (v181.1.1, (v181.1.2.1, (v181.1.2.2.1, (v181.1.2.2.2.1, (v181.1.2.2.2.2.1, (v181.1.2.2.2.2.2.1, (v181.1.2.2.2.2.2.2.1, (v181.1.2.2.2.2.2.2.2.1, (v181.1.2.2.2.2.2.2.2.2.1, ())))))))))), (v181.2.1, (v181.2.2.1, ())))))
else (some (.inr ((v.1.2.2.1, (v.1.2.2.2.1, (v.1.2.2.2.2.1, (v.1.2.2.2.2.2.1, (v.1.2.2.2.2.2.2.1, (v.1.2.2.2.2.2.2.2.1, (v.1.2.2.2.2.2.2.2.2.1, ()))))))), (v.2.1, (v.2.2.1, ())))))

def l14_0_10 (v : (((List (List Int)) × Int × Int × Int × Int × Int × Int × Unit) × Y8)) : Option ((((List (List Int)) × Int × Int × Int × Int × Int × Int × Unit) × Y8) ⊕ (((List (List Int)) × Int × Int × Int × Int × Unit) × Y8)) :=
bif (decide ((v.1.2.1 : Int) < v.1.2.2.2.2.2.2.1)) then ((loopT l14_0_13 ((0, (v.1.2.1, (v.1.1, (v.1.2.2.1, (v.1.2.2.2.1, (v.1.2.2.2.2.1, (v.1.2.2.2.2.2.1, (v.1.2.2.2.2.2.2.1, (v.1.2.1, (v.1.2.2.1, ())))))))))), (v.2.1, (v.2.2.1, ())))).bind fun d182 =>
some (.inl ((d182.1.1, ((w64 (d182.1.2.2.2.2.2.2.1 + 1)), (d182.1.2.1, (d182.1.2.2.1, (d182.1.2.2.2.1, (d182.1.2.2.2.2.1, (d182.1.2.2.2.2.2.1, ()))))))), (d182.2.1, (d182.2.2.1, ())))))
else (some (.inr ((v.1.1, (v.1.2.2.1, (v.1.2.2.2.1, (v.1.2.2.2.2.1, (v.1.2.2.2.2.2.1, ()))))), (v.2.1, (v.2.2.1, ())))))

def l14_0_8 (v : (((List (List Int)) × Int × Int × Int × Int × Unit) × Y8)) : Option ((((List (List Int)) × Int × Int × Int × Int × Unit) × Y8) ⊕ ((Int × Int × Unit) × ((List Int) × Unit))) :=
bif (decide ((v.1.2.2.1 : Int) < v.1.2.2.2.2.1)) then ((loopT l14_0_10 ((v.1.1, (0, (v.1.2.1, (v.1.2.2.2.1, (v.1.2.2.2.2.1, (v.1.2.2.1, (v.1.2.1, ()))))))), (v.2.1, (v.2.2.1, ())))).bind fun d183 =>
some (.inl ((d183.1.1, (d183.1.2.1, ((w64 (d183.1.2.2.2.2.1 + 1)), (d183.1.2.2.1, (d183.1.2.2.2.1, ()))))), (d183.2.1, (d183.2.2.1, ())))))
else (some (.inr ((v.1.2.2.2.1, (v.1.2.1, ())), (v.2.2.1, ()))))

def l14_0_21 (v : (Y7 × ((List Int) × Unit))) : Option ((Y7 × ((List Int) × Unit)) ⊕ ((Int × Unit) × ((List Int) × Unit))) :=
bif (decide ((v.1.1 : Int) < v.1.2.2.1)) then (bif (decide ((0 : Int) ≤ v.1.2.1 ∧ (v.1.2.1 : Int) < v.2.1.length)) then
(v.2.1[v.1.2.1.toNat]?).bind fun e185 =>
some (.inl (((w64 (v.1.1 + 1)), (e185, (v.1.2.2.1, ()))), (v.2.1, ())))
else none)
else (some (.inr ((v.1.2.1, ()), (v.2.1, ()))))

def l14_0_26 (v : ((Int × Int × Unit) × Y8)) : Option (((Int × Int × Unit) × Y8) ⊕ ((Unit) × ((List Int) × Unit))) :=
((bif ((((v.2.2.1.length : Nat) : Int) : Int) == 0) then (some ((true, (v.1.2.1, (v.1.1, ()))), (v.2.1, (v.2.2.1, ()))))
else (some ((((v.1.1 : Int) != v.1.2.1), (v.1.2.1, (v.1.1, ()))), (v.2.1, (v.2.2.1, ()))))) : Option ((Bool × Int × Int × Unit) × Y8)).bind fun v187 =>
bif v187.1.1 then (bif (decide (v187.2.2.1.length + [v187.1.2.2.1].length ≤ 4294967296)) then
bif (decide ((0 : Int) ≤ v187.1.2.2.1 ∧ (v187.1.2.2.1 : Int) < v187.2.1.length)) then
(v187.2.1[v187.1.2.2.1.toNat]?).bind fun e188 =>
some (.inl ((e188, (v187.1.2.1, ())), (v187.2.1, ((v187.2.2.1 ++ [v187.1.2.2.1]), ()))))
else none
else none)
else (some (.inr ((), (v187.2.2.1, ()))))

def l14_1_1 (v : ((Int × Int × Unit) × ((List Int) × Unit))) : Option (((Int × Int × Unit) × ((List Int) × Unit)) ⊕ ((Unit) × ((List Int) × Unit))) :=
bif (decide ((v.1.2.1 : Int) < v.1.1)) then (bif (decide ((0 : Int) ≤ v.1.1 ∧ (v.1.1 : Int) < v.2.1.length)) then
(v.2.1[v.1.1.toNat]?).bind fun e190 =>
bif (decide ((0 : Int) ≤ v.1.2.1 ∧ (v.1.2.1 : Int) < v.2.1.length)) then
(v.2.1[v.1.2.1.toNat]?).bind fun e191 =>
bif (decide ((0 : Int) ≤ v.1.2.1 ∧ (v.1.2.1 : Int) < v.2.1.length)) then
bif (decide (v.1.2.1.toNat < v.2.1.length)) then
bif (decide ((0 : Int) ≤ v.1.1 ∧ (v.1.1 : Int) < (v.2.1.set v.1.2.1.toNat e190).length)) then
bif (decide (v.1.1.toNat < (v.2.1.set v.1.2.1.toNat e190).length)) then
some (.inl (((w64 (v.1.1 - 1)), ((w64 (v.1.2.1 + 1)), ())), (((v.2.1.set v.1.2.1.toNat e190).set v.1.1.toNat e191), ())))
else none
else none
else none
else none
else none
else none)
else (some (.inr ((), (v.2.1, ()))))

/- pagewatch/constraint.Cycle -/
def i14 : Abs.Sg := ⟨[0, 1], (.dat (.int .i64) (.dat (.row Z1) .nil)), .nil⟩

def o14 : Abs.Sg := ⟨[4, 5], (.st (.own (.int .i64) (0, 0)) (.dat .bool .nil)), (.arr (.int .i64) false .nil)⟩

def m14 (v : ((Int × Y2 × Unit) × (Unit))) : Option ((Bool × Unit) × ((List Int) × Unit)) :=
((bif (cloB v.1.1 v.1.2.1) then (some ((true, (v.1.1, (v.1.2.1, ()))), ()))
else ((m24 ((v.1.1, (v.1.2.1, ())), ())).bind fun u168 =>
some (((!u168.1.1), (v.1.1, (v.1.2.1, ()))), ()))) : Option ((Bool × Int × Y2 × Unit) × (Unit))).bind fun v169 =>
bif v169.1.1 then (some ((false, ()), ([], ())))
else (bif (vldB v169.1.2.1 v169.1.2.2.1) then
bif (decide ((0 : Int) ≤ v169.1.2.1 ∧ (v169.1.2.1 : Int) ≤ v169.1.2.1 ∧ (v169.1.2.1 : Int) ≤ 4294967296)) then
bif (decide ((0 : Int) ≤ v169.1.2.1 ∧ (v169.1.2.1 : Int) ≤ v169.1.2.1 ∧ (v169.1.2.1 : Int) ≤ 4294967296)) then
(loopT l14_0_8 (((dirL v169.1.2.1 v169.1.2.2.1), (v169.1.2.1, (0, (0, ((w64 (v169.1.2.1 + 1)), ()))))), ((List.replicate v169.1.2.1.toNat (0 : Int)), ((List.replicate v169.1.2.1.toNat (0 : Int)), ())))).bind fun d184 =>
(loopT l14_0_21 ((0, (d184.1.1, (d184.1.2.1, ()))), (d184.2.1, ()))).bind fun d186 =>
(loopT l14_0_26 ((d186.1.1, (d186.1.1, ())), (d186.2.1, ([], ())))).bind fun d189 =>
(loopT l14_1_1 (((w64 (((d189.2.1.length : Nat) : Int) - 1)), (0, ())), (d189.2.1, ()))).bind fun d192 =>
bif (decide (d192.2.1.length = d189.2.1.length) && true) then
some ((true, ()), (d192.2.1, ()))
else none
else none
else none
else none)

def sp14 : Abs.Spec := ⟨0, i14, o14, m14⟩

def an14 : Nat → Abs.FAn
  | 0 => Abs.FAn.mk (fun
    | 26 => some ⟨[114, 10, 11, 15, 14], (.dat .bool (.st (.own (.int .i64) (0, 0)) (.dat (.int .i64) (.dat (.int .i64) (.st (.own (.int .i64) (1, 0)) .nil))))), (.arr (.int .i64) false (.arr (.int .i64) false .nil))⟩
    | 15 => some ⟨[74, 12, 8, 9, 10, 0, 37, 38, 40, 41, 44, 45, 13, 11], (.dat .bool (.dat (.int .i64) (.dat Z3 (.st (.own (.int .i64) (0, 0)) (.st (.own (.int .i64) (1, 0)) (.dat (.int .i64) (.dat (.int .i64) (.dat (.int .i64) (.dat (.int .i64) (.dat (.int .i64) (.dat (.int .i64) (.dat (.int .i64) (.dat (.int .i64) (.dat (.int .i64) .nil)))))))))))))), (.arr (.int .i64) false (.arr (.int .i64) false .nil))⟩
    | 2 => some ⟨[28, 0, 1], (.dat .bool (.dat (.int .i64) (.dat (.row Z1) .nil))), .nil⟩
    | _ => none) (fun
    | 17 => some (⟨[12, 8, 9, 10, 0, 11, 37, 38, 40, 41, 44, 45], (.dat (.int .i64) (.dat Z3 (.st (.own (.int .i64) (0, 0)) (.st (.own (.int .i64) (1, 0)) (.dat (.int .i64) (.dat (.int .i64) (.dat (.int .i64) (.dat (.int .i64) (.dat (.int .i64) (.dat (.int .i64) (.dat (.int .i64) (.dat (.int .i64) .nil)))))))))))), (.arr (.int .i64) false (.arr (.int .i64) false .nil))⟩, none)
    | _ => none) (fun
    | 26 => some ⟨⟨[15, 10, 14, 11], (.dat (.int .i64) (.st (.own (.int .i64) (0, 0)) (.st (.own (.int .i64) (1, 0)) (.dat (.int .i64) .nil)))), (.arr (.int .i64) false (.arr (.int .i64) false .nil))⟩, (.one (.exit 8) ⟨[14], (.st (.own (.int .i64) (0, 0)) .nil), (.arr (.int .i64) false .nil)⟩)⟩
    | 21 => some ⟨⟨[99, 11, 10, 98], (.dat (.int .i64) (.dat (.int .i64) (.st (.own (.int .i64) (0, 0)) (.dat (.int .i64) .nil)))), (.arr (.int .i64) false .nil)⟩, (.one (.exit 6) ⟨[10, 11], (.st (.own (.int .i64) (0, 0)) (.dat (.int .i64) .nil)), (.arr (.int .i64) false .nil)⟩)⟩
    | 8 => some ⟨⟨[8, 9, 10, 0, 38, 11, 37], (.dat Z3 (.st (.own (.int .i64) (0, 0)) (.st (.own (.int .i64) (1, 0)) (.dat (.int .i64) (.dat (.int .i64) (.dat (.int .i64) (.dat (.int .i64) .nil))))))), (.arr (.int .i64) false (.arr (.int .i64) false .nil))⟩, (.one (.exit 0) ⟨[11, 10, 0], (.dat (.int .i64) (.st (.own (.int .i64) (0, 0)) (.dat (.int .i64) .nil))), (.arr (.int .i64) false .nil)⟩)⟩
    | 10 => some ⟨⟨[8, 9, 10, 41, 0, 11, 37, 38, 40], (.dat Z3 (.st (.own (.int .i64) (0, 0)) (.st (.own (.int .i64) (1, 0)) (.dat (.int .i64) (.dat (.int .i64) (.dat (.int .i64) (.dat (.int .i64) (.dat (.int .i64) (.dat (.int .i64) .nil))))))))), (.arr (.int .i64) false (.arr (.int .i64) false .nil))⟩, (.one (.exit 2) ⟨[8, 9, 10, 0, 11, 37, 38], (.dat Z3 (.st (.own (.int .i64) (0, 0)) (.st (.own (.int .i64) (1, 0)) (.dat (.int .i64) (.dat (.int .i64) (.dat (.int .i64) (.dat (.int .i64) .nil))))))), (.arr (.int .i64) false (.arr (.int .i64) false .nil))⟩)⟩
    | 13 => some ⟨⟨[45, 12, 8, 9, 10, 0, 11, 37, 38, 40, 41, 44], (.dat (.int .i64) (.dat (.int .i64) (.dat Z3 (.st (.own (.int .i64) (0, 0)) (.st (.own (.int .i64) (1, 0)) (.dat (.int .i64) (.dat (.int .i64) (.dat (.int .i64) (.dat (.int .i64) (.dat (.int .i64) (.dat (.int .i64) (.dat (.int .i64) .nil)))))))))))), (.arr (.int .i64) false (.arr (.int .i64) false .nil))⟩, (.one (.exit 4) ⟨[8, 9, 10, 0, 11, 37, 38, 40, 41], (.dat Z3 (.st (.own (.int .i64) (0, 0)) (.st (.own (.int .i64) (1, 0)) (.dat (.int .i64) (.dat (.int .i64) (.dat (.int .i64) (.dat (.int .i64) (.dat (.int .i64) (.dat (.int .i64) .nil))))))))), (.arr (.int .i64) false (.arr (.int .i64) false .nil))⟩)⟩
    | _ => none) (fun
    | 29, 1 => 1
    | _, _ => 0)
  | 1 => Abs.FAn.mk (fun _ => none) (fun _ => none) (fun
    | 1 => some ⟨⟨[3, 2, 0], (.dat (.int .i64) (.dat (.int .i64) (.st (.own (.int .i64) (0, 0)) .nil))), (.arr (.int .i64) false .nil)⟩, (.one (.exit 0) ⟨[], .nil, (.arr (.int .i64) false .nil)⟩)⟩
    | _ => none) (fun _ _ => 0)
  | _ => {}

theorem ok14 : Abs.SpecOK Try.prog 14 sp14 :=
  Abs.specOC_of (C := ctab) (mv := mvtab) ctab_ok (n := 12) (an := an14) (T := Abs.tabOf [(24, sp24)]) good foll (Abs.tabOf_ok _ (by simp only [List.forall_mem_cons]; exact ⟨ok24, fun _ h => by cases h⟩)) rfl (by intro v; kernel_rfl)

def l26_0_4 (v : ((Int × (List Int) × (List Int) × Unit) × (Unit))) : Option (((Int × (List Int) × (List Int) × Unit) × (Unit)) ⊕ (Y6 ⊕ ((Unit) × (Unit)))) :=
let x29 := (decide ((v.1.1 : Int) < (v.1.2.2.1.length : Int)))
bif x29 then (Abs.rowAt v.1.2.2.1 v.1.1 fun e30 _ =>
Abs.rowAt v.1.2.1 v.1.1 fun e31 _ =>
bif ((e30 : Int) != e31) then (some (.inr (.inl ((false, ()), ()))))
else (some (.inl (((w64 (v.1.1 + 1)), (v.1.2.1, (v.1.2.2.1, ()))), ()))))
else (some (.inr (.inr ((), ()))))

/- pagewatch/pagewatchref25.Same -/
def i26 : Abs.Sg := ⟨[0, 1], (.dat (.row (.int .i64)) (.dat (.row (.int .i64)) .nil)), .nil⟩

def o26 : Abs.Sg := ⟨[4], (.dat .bool .nil), .nil⟩

def m26 (v : (Y8 × (Unit))) : Option Y6 :=
let x28 := (((v.1.1.length : Int) : Int) != (v.1.2.1.length : Int))
bif x28 then (some ((false, ()), ()))
else ((loopT l26_0_4 ((0, (v.1.2.1, (v.1.1, ()))), ())).bind fun d32 =>
sumE d32 (fun d33 => (some ((d33.1.1, ()), ()))) (fun d34 => (some ((true, ()), ()))))

def sp26 : Abs.Spec := ⟨0, i26, o26, m26⟩

def an26 : Nat → Abs.FAn
  | 0 => Abs.FAn.mk (fun _ => none) (fun _ => none) (fun
    | 4 => some ⟨⟨[5, 1, 0], (.dat (.int .i64) (.dat (.row (.int .i64)) (.dat (.row (.int .i64)) .nil))), .nil⟩, (.more .ret ⟨[4], (.dat .bool .nil), .nil⟩ (.one (.exit 0) ⟨[], .nil, .nil⟩))⟩
    | _ => none) (fun _ _ => 0)
  | _ => {}

theorem ok26 : Abs.SpecOK Try.prog 26 sp26 :=
  Abs.specOC_of (C := ctab) (mv := mvtab) ctab_ok (n := 12) (an := an26) (T := Abs.tabOf []) good foll (Abs.tabOf_ok _ (fun _ h => by cases h)) rfl (by intro v; kernel_rfl)

/- pagewatch/pagewatchlaw39.sane -/
def i9 : Abs.Sg := ⟨[], .nil, .nil⟩

def o9 : Abs.Sg := ⟨[0], (.dat .bool .nil), .nil⟩

def m9 (v : ((Unit) × (Unit))) : Option Y6 :=
(m17 ((2, (([(0, (1, (5, ()))), (1, (0, ((-3), ())))] : List Y7), ())), ())).bind fun u9 =>
(m14 ((2, (([(0, (1, (2, ()))), (1, (0, ((-3), ())))] : List Y7), ())), ())).bind fun u10 =>
((bif u9.1.1 then ((m26 ((u9.2.1, ([0, 3], ())), ())).bind fun u11 =>
bif u11.1.1 then (bif u10.1.1 then (some ((((((u10.2.1.length : Nat) : Int) : Int) == 2), ()), ()))
else (some ((false, ()), ())))
else (some ((false, ()), ())))
else (some ((false, ()), ()))) : Option Y6).bind fun v12 =>
some ((v12.1.1, ()), ())

def sp9 : Abs.Spec := ⟨0, i9, o9, m9⟩

def an9 : Nat → Abs.FAn
  | 0 => Abs.FAn.mk (fun
    | 3 => some ⟨[0], (.dat .bool .nil), .nil⟩
    | _ => none) (fun _ => none) (fun _ => none) (fun _ _ => 0)
  | _ => {}

theorem ok9 : Abs.SpecOK Try.prog 9 sp9 :=
  Abs.specOC_of (C := ctab) (mv := mvtab) ctab_ok (n := 12) (an := an9) (T := Abs.tabOf [(17, sp17), (14, sp14), (26, sp26)]) good foll (Abs.tabOf_ok _ (by simp only [List.forall_mem_cons]; exact ⟨ok17, ok14, ok26, fun _ h => by cases h⟩)) rfl (by intro v; kernel_rfl)

/- pagewatch/pagewatchmade.Roll -/
def i10 : Abs.Sg := ⟨[0], (.dat (.row (.int .i64)) .nil), .nil⟩

def o10 : Abs.Sg := ⟨[2], (.st (.ptr (0, 0) 2 0 0) .nil), (.box 2 (.dat Z4 .nil) .nil)⟩

def m10 (v : (((List Int) × Unit) × (Unit))) : Option ((Unit) × (Y5 × Unit)) :=
some ((), (((v.1.1, (0, ())), ()), ()))

def sp10 : Abs.Spec := ⟨0, i10, o10, m10⟩

def an10 : Nat → Abs.FAn
  | _ => {}

theorem ok10 : Abs.SpecOK Try.prog 10 sp10 :=
  Abs.specOC_of (C := ctab) (mv := mvtab) ctab_ok (n := 12) (an := an10) (T := Abs.tabOf []) good foll (Abs.tabOf_ok _ (fun _ h => by cases h)) rfl (by intro v; kernel_rfl)

/- (*pagewatch/pagewatchmade.Dice).Next -/
def i11 : Abs.Sg := ⟨[0, 1], (.st (.ptr (0, 0) 2 0 0) (.dat (.int .i64) .nil)), (.box 2 (.dat Z4 .nil) .nil)⟩

def o11 : Abs.Sg := ⟨[4], (.dat (.int .i64) .nil), (.box 2 (.dat Z4 .nil) .nil)⟩

def m11 (v : ((Int × Unit) × (Y5 × Unit))) : Option ((Int × Unit) × (Y5 × Unit)) :=
((let x15 := (decide ((v.2.1.1.2.1 : Int) ≥ (v.2.1.1.1.length : Int)))
bif x15 then (some ((true, (v.1.1, ())), ((v.2.1.1, ()), ())))
else (some (((decide ((v.1.1 : Int) < 1)), (v.1.1, ())), ((v.2.1.1, ()), ())))) : Option ((Bool × Int × Unit) × (Y5 × Unit))).bind fun v16 =>
bif v16.1.1 then (some ((0, ()), ((v16.2.1.1, ()), ())))
else (Abs.rowAt v16.2.1.1.1 v16.2.1.1.2.1 fun e17 _ =>
bif (decide (v16.1.2.1 ≠ (0 : Int))) then
((let x18 := (decide ((((e17 : Int).tmod v16.1.2.1) : Int) < 0))
bif x18 then (some (((w64 (((e17 : Int).tmod v16.1.2.1) + v16.1.2.1)), ()), (((v16.2.1.1.1, ((w64 (v16.2.1.1.2.1 + 1)), ())), ()), ())))
else (some ((((e17 : Int).tmod v16.1.2.1), ()), (((v16.2.1.1.1, ((w64 (v16.2.1.1.2.1 + 1)), ())), ()), ())))) : Option ((Int × Unit) × (Y5 × Unit))).bind fun v19 =>
some ((v19.1.1, ()), ((v19.2.1.1, ()), ()))
else none)

def sp11 : Abs.Spec := ⟨1, i11, o11, m11⟩

def an11 : Nat → Abs.FAn
  | 0 => Abs.FAn.mk (fun
    | 1 => some ⟨[19, 1, 0], (.dat .bool (.dat (.int .i64) (.st (.ptr (0, 0) 2 0 0) .nil))), (.box 2 (.dat Z4 .nil) .nil)⟩
    | _ => none) (fun
    | 7 => some (⟨[5], (.dat (.int .i64) .nil), (.box 2 (.dat Z4 .nil) .nil)⟩, none)
    | _ => none) (fun _ => none) (fun _ _ => 0)
  | _ => {}

theorem ok11 : Abs.SpecOK Try.prog 11 sp11 :=
  Abs.specOC_of (C := ctab) (mv := mvtab) ctab_ok (n := 12) (an := an11) (T := Abs.tabOf []) good foll (Abs.tabOf_ok _ (fun _ h => by cases h)) rfl (by intro v; kernel_rfl)

def l12_0_3 (v : ((Int × Int × Unit) × (Y5 × (List Int) × Unit))) : Option (((Int × Int × Unit) × (Y5 × (List Int) × Unit)) ⊕ ((Int × Unit) × (Y5 × (List Int) × Unit))) :=
bif (decide ((v.1.1 : Int) < v.1.2.1)) then ((m11 ((40, ()), ((v.2.1.1, ()), ()))).bind fun u65 =>
bif (decide (v.2.2.1.length + [u65.1.1].length ≤ 4294967296)) then
some (.inl (((w64 (v.1.1 + 1)), (v.1.2.1, ())), ((u65.2.1.1, ()), ((v.2.2.1 ++ [u65.1.1]), ()))))
else none)
else (some (.inr ((v.1.2.1, ()), ((v.2.1.1, ()), (v.2.2.1, ())))))

def l12_0_8 (v : ((Int × Int × Unit) × (Y5 × (List Int) × Y2 × Unit))) : Option (((Int × Int × Unit) × (Y5 × (List Int) × Y2 × Unit)) ⊕ ((Int × Unit) × (Y5 × Y2 × Unit))) :=
bif (decide ((v.1.1 : Int) > 0)) then ((m11 ((v.1.2.1, ()), ((v.2.1.1, ()), ()))).bind fun u68 =>
(m11 ((v.1.2.1, ()), ((u68.2.1.1, ()), ()))).bind fun u69 =>
bif (decide ((0 : Int) ≤ u69.1.1 ∧ (u69.1.1 : Int) < v.2.2.1.length)) then
(v.2.2.1[u69.1.1.toNat]?).bind fun e70 =>
bif (decide ((0 : Int) ≤ u68.1.1 ∧ (u68.1.1 : Int) < v.2.2.1.length)) then
(v.2.2.1[u68.1.1.toNat]?).bind fun e71 =>
(m11 ((6, ()), ((u69.2.1.1, ()), ()))).bind fun u72 =>
bif (decide (v.2.2.2.1.length + ([(u68.1.1, (u69.1.1, ((w64 ((w64 (e70 - e71)) + u72.1.1)), ())))] : List Y7).length ≤ 4294967296)) then
let x73 := (v.2.2.2.1 ++ ([(u68.1.1, (u69.1.1, ((w64 ((w64 (e70 - e71)) + u72.1.1)), ())))] : List Y7))
some (.inl (((w64 (v.1.1 - 1)), (v.1.2.1, ())), ((u72.2.1.1, ()), (v.2.2.1, (x73, ())))))
else none
else none
else none)
else (some (.inr ((v.1.2.1, ()), ((v.2.1.1, ()), (v.2.2.2.1, ())))))

/- (*pagewatch/pagewatchmade.Dice).Diffs -/
def i12 : Abs.Sg := ⟨[0, 1], (.st (.ptr (0, 0) 2 0 0) (.dat (.int .i64) .nil)), (.box 2 (.dat Z4 .nil) .nil)⟩

def o12 : Abs.Sg := ⟨[4], (.st (.own Z1 (1, 0)) .nil), (.box 2 (.dat Z4 .nil) (.arr Z1 false .nil))⟩

def m12 (v : ((Int × Unit) × (Y5 × Unit))) : Option ((Unit) × (Y5 × Y2 × Unit)) :=
(loopT l12_0_3 ((0, (v.1.1, ())), ((v.2.1.1, ()), ([], ())))).bind fun d66 =>
(m11 ((14, ()), ((d66.2.1.1, ()), ()))).bind fun u67 =>
(loopT l12_0_8 ((u67.1.1, (d66.1.1, ())), ((u67.2.1.1, ()), (d66.2.2.1, ([], ()))))).bind fun d74 =>
(((m11 ((4, ()), ((d74.2.1.1, ()), ()))).bind fun u75 =>
bif ((u75.1.1 : Int) == 0) then ((m11 ((d74.1.1, ()), ((u75.2.1.1, ()), ()))).bind fun u76 =>
(m11 ((d74.1.1, ()), ((u76.2.1.1, ()), ()))).bind fun u77 =>
(m11 ((20, ()), ((u77.2.1.1, ()), ()))).bind fun u78 =>
bif (decide (d74.2.2.1.length + ([(u76.1.1, (u77.1.1, ((w64 (u78.1.1 - 15)), ())))] : List Y7).length ≤ 4294967296)) then
let x79 := (d74.2.2.1 ++ ([(u76.1.1, (u77.1.1, ((w64 (u78.1.1 - 15)), ())))] : List Y7))
some ((), ((u78.2.1.1, ()), (x79, ())))
else none)
else (some ((), ((u75.2.1.1, ()), (d74.2.2.1, ()))))) : Option ((Unit) × (Y5 × Y2 × Unit))).bind fun v80 =>
some ((), ((v80.2.1.1, ()), (v80.2.2.1, ())))

def sp12 : Abs.Spec := ⟨1, i12, o12, m12⟩

def an12 : Nat → Abs.FAn
  | 0 => Abs.FAn.mk (fun _ => none) (fun
    | 14 => some (⟨[7], (.st (.own Z1 (1, 0)) .nil), (.box 2 (.dat Z4 .nil) (.arr Z1 false .nil))⟩, none)
    | _ => none) (fun
    | 8 => some ⟨⟨[8, 0, 5, 7, 1], (.dat (.int .i64) (.st (.ptr (0, 0) 2 0 0) (.st (.own (.int .i64) (1, 0)) (.st (.own Z1 (2, 0)) (.dat (.int .i64) .nil))))), (.box 2 (.dat Z4 .nil) (.arr (.int .i64) false (.arr Z1 false .nil)))⟩, (.one (.exit 2) ⟨[0, 1, 7], (.st (.ptr (0, 0) 2 0 0) (.dat (.int .i64) (.st (.own Z1 (1, 0)) .nil))), (.box 2 (.dat Z4 .nil) (.arr Z1 false .nil))⟩)⟩
    | 3 => some ⟨⟨[6, 0, 5, 1], (.dat (.int .i64) (.st (.ptr (0, 0) 2 0 0) (.st (.own (.int .i64) (1, 0)) (.dat (.int .i64) .nil)))), (.box 2 (.dat Z4 .nil) (.arr (.int .i64) false .nil))⟩, (.one (.exit 0) ⟨[0, 5, 1], (.st (.ptr (0, 0) 2 0 0) (.st (.own (.int .i64) (1, 0)) (.dat (.int .i64) .nil))), (.box 2 (.dat Z4 .nil) (.arr (.int .i64) false .nil))⟩)⟩
    | _ => none) (fun _ _ => 0)
  | _ => {}

theorem ok12 : Abs.SpecOK Try.prog 12 sp12 :=
  Abs.specOC_of (C := ctab) (mv := mvtab) ctab_ok (n := 12) (an := an12) (T := Abs.tabOf [(11, sp11)]) good foll (Abs.tabOf_ok _ (by simp only [List.forall_mem_cons]; exact ⟨ok11, fun _ h => by cases h⟩)) rfl (by intro v; kernel_rfl)

def o3 : Abs.Sg := ⟨[4], (.dat .bool .nil), .nil⟩

/- pagewatch/pagewatchref25.In -/
def i32 : Abs.Sg := ⟨[0, 1, 2], (.dat (.int .i64) (.dat (.int .i64) (.dat (.int .i64) .nil))), .nil⟩

def o32 : Abs.Sg := ⟨[6], (.dat .bool .nil), .nil⟩

def m32 (v : (Y7 × (Unit))) : Option Y6 :=
((bif (decide ((v.1.1 : Int) ≥ v.1.2.1)) then (some (((decide ((v.1.1 : Int) ≤ v.1.2.2.1)), ()), ()))
else (some ((false, ()), ()))) : Option Y6).bind fun v1 =>
some ((v1.1.1, ()), ())

def sp32 : Abs.Spec := ⟨0, i32, o32, m32⟩

def an32 : Nat → Abs.FAn
  | 0 => Abs.FAn.mk (fun
    | 1 => some ⟨[6], (.dat .bool .nil), .nil⟩
    | _ => none) (fun _ => none) (fun _ => none) (fun _ _ => 0)
  | _ => {}

theorem ok32 : Abs.SpecOK Try.prog 32 sp32 :=
  Abs.specOC_of (C := ctab) (mv := mvtab) ctab_ok (n := 12) (an := an32) (T := Abs.tabOf []) good foll (Abs.tabOf_ok _ (fun _ h => by cases h)) rfl (by intro v; kernel_rfl)

def l25_0_4 (v : ((Int × Y2 × Int × Unit) × (Unit))) : Option (((Int × Y2 × Int × Unit) × (Unit)) ⊕ (Y6 ⊕ ((Unit) × (Unit)))) :=
let x62 := (decide ((v.1.1 : Int) < (v.1.2.1.length : Int)))
bif x62 then (((Abs.rowAt v.1.2.1 v.1.1 fun e63 _ =>
(m32 ((e63.1, (0, ((w64 (v.1.2.2.1 - 1)), ()))), ())).bind fun u64 =>
bif (!u64.1.1) then (some ((true, (v.1.2.1, (v.1.2.2.1, (v.1.1, ())))), ()))
else (Abs.rowAt v.1.2.1 v.1.1 fun e65 _ =>
(m32 ((e65.2.1, (0, ((w64 (v.1.2.2.1 - 1)), ()))), ())).bind fun u66 =>
bif (!u66.1.1) then (some ((true, (v.1.2.1, (v.1.2.2.1, (v.1.1, ())))), ()))
else (Abs.rowAt v.1.2.1 v.1.1 fun e67 _ =>
(m32 ((e67.2.2.1, ((-17179869184), (17179869184, ()))), ())).bind fun u68 =>
some (((!u68.1.1), (v.1.2.1, (v.1.2.2.1, (v.1.1, ())))), ())))) : Option ((Bool × Y2 × Int × Int × Unit) × (Unit))).bind fun v69 =>
bif v69.1.1 then (some (.inr (.inl ((false, ()), ()))))
else (some (.inl (((w64 (v69.1.2.2.2.1 + 1)), (v69.1.2.1, (v69.1.2.2.1, ()))), ()))))
else (some (.inr (.inr ((), ()))))

/- pagewatch/pagewatchref39.Valid -/
def i25 : Abs.Sg := ⟨[0, 1], (.dat (.int .i64) (.dat (.row Z1) .nil)), .nil⟩

def o25 : Abs.Sg := ⟨[4], (.dat .bool .nil), .nil⟩

def m25 (v : ((Int × Y2 × Unit) × (Unit))) : Option Y6 :=
(((m32 ((v.1.1, (1, (41, ()))), ())).bind fun u60 =>
bif (!u60.1.1) then (some ((true, (v.1.2.1, (v.1.1, ()))), ()))
else (some (((decide (((v.1.2.1.length : Int) : Int) > 4000)), (v.1.2.1, (v.1.1, ()))), ()))) : Option ((Bool × Y2 × Int × Unit) × (Unit))).bind fun v61 =>
bif v61.1.1 then (some ((false, ()), ()))
else ((loopT l25_0_4 ((0, (v61.1.2.1, (v61.1.2.2.1, ()))), ())).bind fun d70 =>
sumE d70 (fun d71 => (some ((d71.1.1, ()), ()))) (fun d72 => (some ((true, ()), ()))))

def sp25 : Abs.Spec := ⟨0, i25, o25, m25⟩

def an25 : Nat → Abs.FAn
  | 0 => Abs.FAn.mk (fun
    | 6 => some ⟨[48, 1, 0, 5], (.dat .bool (.dat (.row Z1) (.dat (.int .i64) (.dat (.int .i64) .nil)))), .nil⟩
    | 1 => some ⟨[13, 1, 0], (.dat .bool (.dat (.row Z1) (.dat (.int .i64) .nil))), .nil⟩
    | _ => none) (fun _ => none) (fun
    | 4 => some ⟨⟨[5, 1, 0], (.dat (.int .i64) (.dat (.row Z1) (.dat (.int .i64) .nil))), .nil⟩, (.more .ret ⟨[4], (.dat .bool .nil), .nil⟩ (.one (.exit 0) ⟨[], .nil, .nil⟩))⟩
    | _ => none) (fun _ _ => 0)
  | _ => {}

theorem ok25 : Abs.SpecOK Try.prog 25 sp25 :=
  Abs.specOC_of (C := ctab) (mv := mvtab) ctab_ok (n := 12) (an := an25) (T := Abs.tabOf [(32, sp32)]) good foll (Abs.tabOf_ok _ (by simp only [List.forall_mem_cons]; exact ⟨ok32, fun _ h => by cases h⟩)) rfl (by intro v; kernel_rfl)

def l33_0_2 (v : ((Int × Int × (List Int) × Unit) × (Unit))) : Option (((Int × Int × (List Int) × Unit) × (Unit)) ⊕ (Y6 ⊕ ((Unit) × (Unit)))) :=
let x18 := (decide ((v.1.1 : Int) < (v.1.2.2.1.length : Int)))
bif x18 then (Abs.rowAt v.1.2.2.1 v.1.1 fun e19 _ =>
bif ((e19 : Int) == v.1.2.1) then (some (.inr (.inl ((true, ()), ()))))
else (some (.inl (((w64 (v.1.1 + 1)), (v.1.2.1, (v.1.2.2.1, ()))), ()))))
else (some (.inr (.inr ((), ()))))

/- pagewatch/pagewatchref25.Has -/
def i33 : Abs.Sg := ⟨[0, 1], (.dat (.row (.int .i64)) (.dat (.int .i64) .nil)), .nil⟩

def o33 : Abs.Sg := ⟨[4], (.dat .bool .nil), .nil⟩

def m33 (v : (((List Int) × Int × Unit) × (Unit))) : Option Y6 :=
(loopT l33_0_2 ((0, (v.1.2.1, (v.1.1, ()))), ())).bind fun d20 =>
sumE d20 (fun d21 => (some ((d21.1.1, ()), ()))) (fun d22 => (some ((false, ()), ())))

def sp33 : Abs.Spec := ⟨0, i33, o33, m33⟩

def an33 : Nat → Abs.FAn
  | 0 => Abs.FAn.mk (fun _ => none) (fun _ => none) (fun
    | 2 => some ⟨⟨[5, 1, 0], (.dat (.int .i64) (.dat (.int .i64) (.dat (.row (.int .i64)) .nil))), .nil⟩, (.more .ret ⟨[4], (.dat .bool .nil), .nil⟩ (.one (.exit 0) ⟨[], .nil, .nil⟩))⟩
    | _ => none) (fun _ _ => 0)
  | _ => {}

theorem ok33 : Abs.SpecOK Try.prog 33 sp33 :=
  Abs.specOC_of (C := ctab) (mv := mvtab) ctab_ok (n := 12) (an := an33) (T := Abs.tabOf []) good foll (Abs.tabOf_ok _ (fun _ h => by cases h)) rfl (by intro v; kernel_rfl)

def l15_0_11 (v : ((Int × Y2 × Int × Bool × (List Int) × Int × Int × Int × Unit) × (Unit))) : Option (((Int × Y2 × Int × Bool × (List Int) × Int × Int × Int × Unit) × (Unit)) ⊕ ((Y2 × (List Int) × Int × Int × Int × Int × Bool × Unit) × (Unit))) :=
let x151 := (decide ((v.1.1 : Int) < (v.1.2.1.length : Int)))
bif x151 then (((((Abs.rowAt v.1.2.1 v.1.1 fun e152 _ =>
Abs.rowAt v.1.2.2.2.2.1 v.1.2.2.2.2.2.1 fun e153 _ =>
bif ((e152.1 : Int) == e153) then (Abs.rowAt v.1.2.1 v.1.1 fun e154 _ =>
bif (decide ((v.1.2.2.2.2.1.length : Int) ≠ (0 : Int))) then
let x155 := (((w64 (v.1.2.2.2.2.2.1 + 1)) : Int).tmod (v.1.2.2.2.2.1.length : Int))
Abs.rowAt v.1.2.2.2.2.1 x155 fun e156 _ =>
bif ((e154.2.1 : Int) == e156) then (bif (!v.1.2.2.2.1) then (some ((true, (v.1.2.1, (v.1.2.2.2.2.1, (v.1.2.2.2.2.2.1, (v.1.2.2.2.2.2.2.1, (v.1.2.2.2.2.2.2.2.1, (v.1.1, (v.1.2.2.1, (v.1.2.2.2.1, ()))))))))), ()))
else (Abs.rowAt v.1.2.1 v.1.1 fun e157 _ =>
some (((decide ((e157.2.2.1 : Int) < v.1.2.2.1)), (v.1.2.1, (v.1.2.2.2.2.1, (v.1.2.2.2.2.2.1, (v.1.2.2.2.2.2.2.1, (v.1.2.2.2.2.2.2.2.1, (v.1.1, (v.1.2.2.1, (v.1.2.2.2.1, ()))))))))), ())))
else (some ((false, (v.1.2.1, (v.1.2.2.2.2.1, (v.1.2.2.2.2.2.1, (v.1.2.2.2.2.2.2.1, (v.1.2.2.2.2.2.2.2.1, (v.1.1, (v.1.2.2.1, (v.1.2.2.2.1, ()))))))))), ()))
else none)
else (some ((false, (v.1.2.1, (v.1.2.2.2.2.1, (v.1.2.2.2.2.2.1, (v.1.2.2.2.2.2.2.1, (v.1.2.2.2.2.2.2.2.1, (v.1.1, (v.1.2.2.1, (v.1.2.2.2.1, ()))))))))), ()))) : Option ((Bool × Y2 × (List Int) × Int × Int × Int × Int × Int × Bool × Unit) × (Unit))).bind fun v158 =>
bif v158.1.1 then (Abs.rowAt v158.1.2.1 v158.1.2.2.2.2.2.2.1 fun e159 _ =>
some ((v158.1.2.1, (e159.2.2.1, (true, (v158.1.2.2.1, (v158.1.2.2.2.1, (v158.1.2.2.2.2.1, (v158.1.2.2.2.2.2.1, (v158.1.2.2.2.2.2.2.1, ())))))))), ()))
else (some ((v158.1.2.1, (v158.1.2.2.2.2.2.2.2.1, (v158.1.2.2.2.2.2.2.2.2.1, (v158.1.2.2.1, (v158.1.2.2.2.1, (v158.1.2.2.2.2.1, (v158.1.2.2.2.2.2.1, (v158.1.2.2.2.2.2.2.1, ())))))))), ()))) : Option ((Y2 × Int × Bool × (List Int) × Int × Int × Int × Int × Unit) × (Unit))).bind fun v160 =>
some (.inl (((w64 (v160.1.2.2.2.2.2.2.2.1 + 1)), (v160.1.1, (v160.1.2.1, (v160.1.2.2.1, (v160.1.2.2.2.1, (v160.1.2.2.2.2.1, (v160.1.2.2.2.2.2.1, (v160.1.2.2.2.2.2.2.1, ())))))))), ())))
else (some (.inr ((v.1.2.1, (v.1.2.2.2.2.1, (v.1.2.2.2.2.2.2.1, (v.1.2.2.2.2.2.1, (v.1.2.2.1, (v.1.2.2.2.2.2.2.2.1, (v.1.2.2.2.1, ()))))))), ())))

def l15_0_5 (v : ((Y2 × (List Int) × Int × Int × Int × Unit) × (Unit))) : Option (((Y2 × (List Int) × Int × Int × Int × Unit) × (Unit)) ⊕ (Y6 ⊕ ((Int × Unit) × (Unit)))) :=
let x145 := (decide ((v.1.2.2.1 : Int) < (v.1.2.1.length : Int)))
bif x145 then (((Abs.rowAt v.1.2.1 v.1.2.2.1 fun e146 _ =>
(m32 ((e146, (0, ((w64 (v.1.2.2.2.2.1 - 1)), ()))), ())).bind fun u147 =>
bif (!u147.1.1) then (some ((true, (v.1.1, (v.1.2.1, (v.1.2.2.1, (v.1.2.2.2.2.1, (v.1.2.2.2.1, ())))))), ()))
else (bif (decide ((0 : Int) ≤ v.1.2.2.1)) then
bif (decide (0 ≤ v.1.2.2.1.toNat ∧ v.1.2.2.1.toNat ≤ v.1.2.1.length)) then
Abs.rowAt v.1.2.1 v.1.2.2.1 fun e148 _ =>
(m33 (((v.1.2.1.take v.1.2.2.1.toNat), (e148, ())), ())).bind fun u149 =>
some ((u149.1.1, (v.1.1, (v.1.2.1, (v.1.2.2.1, (v.1.2.2.2.2.1, (v.1.2.2.2.1, ())))))), ())
else none
else none)) : Option ((Bool × Y2 × (List Int) × Int × Int × Int × Unit) × (Unit))).bind fun v150 =>
bif v150.1.1 then (some (.inr (.inl ((false, ()), ()))))
else ((loopT l15_0_11 ((0, (v150.1.2.1, (0, (false, (v150.1.2.2.1, (v150.1.2.2.2.1, (v150.1.2.2.2.2.1, (v150.1.2.2.2.2.2.1, ())))))))), ())).bind fun d161 =>
bif (!d161.1.2.2.2.2.2.2.1) then (some (.inr (.inl ((false, ()), ()))))
else (some (.inl ((d161.1.1, (d161.1.2.1, ((w64 (d161.1.2.2.2.1 + 1)), ((w64 (d161.1.2.2.2.2.2.1 + d161.1.2.2.2.2.1)), (d161.1.2.2.1, ()))))), ())))))
else (some (.inr (.inr ((v.1.2.2.2.1, ()), ()))))

/- pagewatch/pagewatchref39.Contradicts -/
def i15 : Abs.Sg := ⟨[0, 1, 2], (.dat (.int .i64) (.dat (.row Z1) (.dat (.row (.int .i64)) .nil))), .nil⟩

def o15 : Abs.Sg := ⟨[6], (.dat .bool .nil), .nil⟩

def m15 (v : ((Int × Y2 × (List Int) × Unit) × (Unit))) : Option Y6 :=
(((m25 ((v.1.1, (v.1.2.1, ())), ())).bind fun u143 =>
bif (!u143.1.1) then (some ((true, (v.1.2.1, (v.1.2.2.1, (v.1.1, ())))), ()))
else (some (((((v.1.2.2.1.length : Int) : Int) == 0), (v.1.2.1, (v.1.2.2.1, (v.1.1, ())))), ()))) : Option ((Bool × Y2 × (List Int) × Int × Unit) × (Unit))).bind fun v144 =>
bif v144.1.1 then (some ((false, ()), ()))
else ((loopT l15_0_5 ((v144.1.2.1, (v144.1.2.2.1, (0, (0, (v144.1.2.2.2.1, ()))))), ())).bind fun d162 =>
sumE d162 (fun d163 => (some ((d163.1.1, ()), ()))) (fun d164 => (some (((decide ((d164.1.1 : Int) < 0)), ()), ()))))

def sp15 : Abs.Spec := ⟨0, i15, o15, m15⟩

def an15 : Nat → Abs.FAn
  | 0 => Abs.FAn.mk (fun
    | 13 => some ⟨[89, 1, 2, 8, 0, 7, 11, 9, 10], (.dat .bool (.dat (.row Z1) (.dat (.row (.int .i64)) (.dat (.int .i64) (.dat (.int .i64) (.dat (.int .i64) (.dat (.int .i64) (.dat (.int .i64) (.dat .bool .nil))))))))), .nil⟩
    | 7 => some ⟨[44, 1, 2, 8, 0, 7], (.dat .bool (.dat (.row Z1) (.dat (.row (.int .i64)) (.dat (.int .i64) (.dat (.int .i64) (.dat (.int .i64) .nil)))))), .nil⟩
    | 1 => some ⟨[20, 1, 2, 0], (.dat .bool (.dat (.row Z1) (.dat (.row (.int .i64)) (.dat (.int .i64) .nil)))), .nil⟩
    | _ => none) (fun
    | 12 => some (⟨[1, 9, 10, 2, 8, 0, 7, 11], (.dat (.row Z1) (.dat (.int .i64) (.dat .bool (.dat (.row (.int .i64)) (.dat (.int .i64) (.dat (.int .i64) (.dat (.int .i64) (.dat (.int .i64) .nil)))))))), .nil⟩, none)
    | _ => none) (fun
    | 5 => some ⟨⟨[1, 2, 8, 7, 0], (.dat (.row Z1) (.dat (.row (.int .i64)) (.dat (.int .i64) (.dat (.int .i64) (.dat (.int .i64) .nil))))), .nil⟩, (.more .ret ⟨[6], (.dat .bool .nil), .nil⟩ (.one (.exit 0) ⟨[7], (.dat (.int .i64) .nil), .nil⟩))⟩
    | 11 => some ⟨⟨[11, 1, 9, 10, 2, 8, 0, 7], (.dat (.int .i64) (.dat (.row Z1) (.dat (.int .i64) (.dat .bool (.dat (.row (.int .i64)) (.dat (.int .i64) (.dat (.int .i64) (.dat (.int .i64) .nil)))))))), .nil⟩, (.one (.exit 2) ⟨[1, 2, 0, 8, 9, 7, 10], (.dat (.row Z1) (.dat (.row (.int .i64)) (.dat (.int .i64) (.dat (.int .i64) (.dat (.int .i64) (.dat (.int .i64) (.dat .bool .nil))))))), .nil⟩)⟩
    | _ => none) (fun _ _ => 0)
  | _ => {}

theorem ok15 : Abs.SpecOK Try.prog 15 sp15 :=
  Abs.specOC_of (C := ctab) (mv := mvtab) ctab_ok (n := 12) (an := an15) (T := Abs.tabOf [(25, sp25), (32, sp32), (33, sp33)]) good foll (Abs.tabOf_ok _ (by simp only [List.forall_mem_cons]; exact ⟨ok25, ok32, ok33, fun _ h => by cases h⟩)) rfl (by intro v; kernel_rfl)

/- 42 slices.IndexFunc[[]int,int]: not told by a law: a parameter -/

/- 34 slices.ContainsFunc[[]int,int]: not told by a law: a parameter -/

/- pagewatch/constraint.Fits$1 -/
def i35 : Abs.Sg := ⟨[0], (.dat (.int .i64) .nil), .nil⟩

def o35 : Abs.Sg := ⟨[2], (.dat .bool .nil), .nil⟩

def m35 (v : ((Int × Unit) × (Unit))) : Option Y6 :=
(m36 ((v.1.1, ((-1099511627776), (1099511627776, ()))), ())).bind fun u2 =>
some (((!u2.1.1), ()), ())

def sp35 : Abs.Spec := ⟨0, i35, o35, m35⟩

def an35 : Nat → Abs.FAn
  | _ => {}

theorem ok35 : Abs.SpecOK Try.prog 35 sp35 :=
  Abs.specOC_of (C := ctab) (mv := mvtab) ctab_ok (n := 12) (an := an35) (T := Abs.tabOf [(36, sp36)]) good foll (Abs.tabOf_ok _ (by simp only [List.forall_mem_cons]; exact ⟨ok36, fun _ h => by cases h⟩)) rfl (by intro v; kernel_rfl)

/- 38 pagewatch/constraint.Fits$2: not told by a law: a closure -/

def l16_2_2 (v : ((Int × (List Int) × Int × Unit) × (Unit))) : Option (((Int × (List Int) × Int × Unit) × (Unit)) ⊕ (((Int × Unit) × (Unit)) ⊕ ((Unit) × (Unit)))) :=
bif (decide ((v.1.1 : Int) < v.1.2.2.1)) then (Abs.rowAt v.1.2.1 v.1.1 fun e92 _ =>
(m35 ((e92, ()), ())).bind fun u93 =>
bif u93.1.1 then (some (.inr (.inl ((v.1.1, ()), ()))))
else (some (.inl (((w64 (v.1.1 + 1)), (v.1.2.1, (v.1.2.2.1, ()))), ()))))
else (some (.inr (.inr ((), ()))))

def l16_4_2 (v : ((Int × Y2 × Int × Unit) × (((List Int) × Unit) × Unit))) : Option (((Int × Y2 × Int × Unit) × (((List Int) × Unit) × Unit)) ⊕ (((Int × Unit) × (((List Int) × Unit) × Unit)) ⊕ ((Unit) × (((List Int) × Unit) × Unit)))) :=
bif (decide ((v.1.1 : Int) < v.1.2.2.1)) then (Abs.rowAt v.1.2.1 v.1.1 fun e99 _ =>
Abs.rowAt v.2.1.1 e99.2.1 fun e100 _ =>
Abs.rowAt v.2.1.1 e99.1 fun e101 _ =>
let x102 := (decide (((w64 (e100 - e101)) : Int) > e99.2.2.1))
bif x102 then (some (.inr (.inl ((v.1.1, ()), ((v.2.1.1, ()), ())))))
else (some (.inl (((w64 (v.1.1 + 1)), (v.1.2.1, (v.1.2.2.1, ()))), ((v.2.1.1, ()), ())))))
else (some (.inr (.inr ((), ((v.2.1.1, ()), ())))))

/- pagewatch/constraint.Fits -/
def i16 : Abs.Sg := ⟨[0, 1, 2], (.dat (.int .i64) (.dat (.row Z1) (.dat (.row (.int .i64)) .nil))), .nil⟩

def o16 : Abs.Sg := ⟨[6], (.dat .bool .nil), .nil⟩

def m16 (v : ((Int × Y2 × (List Int) × Unit) × (Unit))) : Option Y6 :=
(((m24 ((v.1.1, (v.1.2.1, ())), ())).bind fun u91 =>
bif (!u91.1.1) then (some ((true, (v.1.2.1, ())), ((v.1.2.2.1, ()), ())))
else (bif (((v.1.2.2.1.length : Int) : Int) != v.1.1) then (some ((true, (v.1.2.1, ())), ((v.1.2.2.1, ()), ())))
else ((((loopT l16_2_2 ((0, (v.1.2.2.1, ((v.1.2.2.1.length : Int), ()))), ())).bind fun d94 =>
sumE d94 (fun d95 => (some (((decide ((d95.1.1 : Int) ≥ 0)), ()), ()))) (fun d96 => (some ((false, ()), ())))) : Option Y6).bind fun v97 =>
some ((v97.1.1, (v.1.2.1, ())), ((v.1.2.2.1, ()), ()))))) : Option ((Bool × Y2 × Unit) × (((List Int) × Unit) × Unit))).bind fun v98 =>
bif v98.1.1 then (some ((false, ()), ()))
else ((((loopT l16_4_2 ((0, (v98.1.2.1, ((v98.1.2.1.length : Int), ()))), ((v98.2.1.1, ()), ()))).bind fun d103 =>
sumE d103 (fun d104 => (some (((decide ((d104.1.1 : Int) ≥ 0)), ()), ((d104.2.1.1, ()), ())))) (fun d105 => (some ((false, ()), ((d105.2.1.1, ()), ()))))) : Option ((Bool × Unit) × (((List Int) × Unit) × Unit))).bind fun v106 =>
some (((!v106.1.1), ()), ()))

def sp16 : Abs.Spec := ⟨0, i16, o16, m16⟩

def an16 : Nat → Abs.FAn
  | 0 => Abs.FAn.mk (fun
    | 1 => some ⟨[20, 5, 1], (.dat .bool (.st (.ptr (0, 0) 1 0 0) (.dat (.row Z1) .nil))), (.box 1 (.dat (.row (.int .i64)) .nil) .nil)⟩
    | _ => none) (fun _ => none) (fun _ => none) (fun
    | 3, 2 => 3
    | 1, 12 => 1
    | _, _ => 0)
  | 1 => Abs.FAn.mk (fun
    | 1 => some ⟨[4], (.dat .bool .nil), .nil⟩
    | _ => none) (fun _ => none) (fun _ => none) (fun
    | 1, 2 => 2
    | _, _ => 0)
  | 2 => Abs.FAn.mk (fun _ => none) (fun _ => none) (fun
    | 2 => some ⟨⟨[8, 0, 1, 7], (.dat (.int .i64) (.dat (.row (.int .i64)) (.st (.clo 35 []) (.dat (.int .i64) .nil)))), .nil⟩, (.more .ret ⟨[4], (.dat (.int .i64) .nil), .nil⟩ (.one (.exit 0) ⟨[], .nil, .nil⟩))⟩
    | _ => none) (fun _ _ => 0)
  | 3 => Abs.FAn.mk (fun
    | 1 => some ⟨[4], (.dat .bool .nil), (.box 1 (.dat (.row (.int .i64)) .nil) .nil)⟩
    | _ => none) (fun _ => none) (fun _ => none) (fun
    | 1, 2 => 4
    | _, _ => 0)
  | 4 => Abs.FAn.mk (fun _ => none) (fun _ => none) (fun
    | 2 => some ⟨⟨[8, 0, 1, 7], (.dat (.int .i64) (.dat (.row Z1) (.st (.clo 38 [((0, 0), 1, 0, 0)]) (.dat (.int .i64) .nil)))), (.box 1 (.dat (.row (.int .i64)) .nil) .nil)⟩, (.more .ret ⟨[4], (.dat (.int .i64) .nil), (.box 1 (.dat (.row (.int .i64)) .nil) .nil)⟩ (.one (.exit 0) ⟨[], .nil, (.box 1 (.dat (.row (.int .i64)) .nil) .nil)⟩))⟩
    | _ => none) (fun
    | 4, 5 => 5
    | _, _ => 0)
  | _ => {}

theorem ok16 : Abs.SpecOK Try.prog 16 sp16 :=
  Abs.specOC_of (C := ctab) (mv := mvtab) ctab_ok (n := 12) (an := an16) (T := Abs.tabOf [(24, sp24), (35, sp35)]) good foll (Abs.tabOf_ok _ (by simp only [List.forall_mem_cons]; exact ⟨ok24, ok35, fun _ h => by cases h⟩)) rfl (by intro v; kernel_rfl)

def l4_0_19 (v : ((Int × Int × (List (List Int)) × Int × Unit) × ((List Int) × Y2 × Unit))) : Option (((Int × Int × (List (List Int)) × Int × Unit) × ((List Int) × Y2 × Unit)) ⊕ (((List (List Int)) × Int × Int × Unit) × ((List Int) × Y2 × Unit))) :=
bif (decide ((v.1.1 : Int) < v.1.2.2.2.1)) then (Abs.rowAt v.1.2.2.1 v.1.2.1 fun e422 _ =>
Abs.rowAt e422 v.1.1 fun e423 _ =>
let x424 := (if (1000000 : Int) < e423 then 1000000 else e423)
bif (decide ((0 : Int) ≤ v.1.1 ∧ (v.1.1 : Int) < v.2.1.length)) then
bif (decide (v.1.1.toNat < v.2.1.length)) then
some (.inl (((w64 (v.1.1 + 1)), (v.1.2.1, (v.1.2.2.1, (v.1.2.2.2.1, ())))), ((v.2.1.set v.1.1.toNat x424), (v.2.2.1, ()))))
else none
else none)
else (some (.inr ((v.1.2.2.1, (v.1.2.1, (v.1.2.2.2.1, ()))), (v.2.1, (v.2.2.1, ())))))

def l4_0_26 (v : ((Int × Int × (List (List Int)) × Int × Int × Unit) × ((List Int) × Y2 × Unit))) : Option (((Int × Int × (List (List Int)) × Int × Int × Unit) × ((List Int) × Y2 × Unit)) ⊕ (Y6 ⊕ (((List (List Int)) × Int × Int × Int × Unit) × ((List Int) × Y2 × Unit)))) :=
bif (decide ((v.1.1 : Int) < v.1.2.2.2.2.1)) then (((((Abs.rowAt v.1.2.2.1 v.1.2.2.2.1 fun e426 _ =>
Abs.rowAt e426 v.1.2.1 fun e427 _ =>
bif (decide ((e427 : Int) < 1099511627776)) then (Abs.rowAt v.1.2.2.1 v.1.2.1 fun e428 _ =>
Abs.rowAt e428 v.1.1 fun e429 _ =>
bif (decide ((e429 : Int) < 1099511627776)) then (Abs.rowAt v.1.2.2.1 v.1.2.2.2.1 fun e430 _ =>
Abs.rowAt e430 v.1.1 fun e431 _ =>
Abs.rowAt v.1.2.2.1 v.1.2.2.2.1 fun e432 _ =>
Abs.rowAt e432 v.1.2.1 fun e433 _ =>
Abs.rowAt v.1.2.2.1 v.1.2.1 fun e434 _ =>
Abs.rowAt e434 v.1.1 fun e435 _ =>
some (((decide ((e431 : Int) > (w64 (e433 + e435)))), (v.1.2.1, (v.1.2.2.1, (v.1.2.2.2.1, (v.1.2.2.2.2.1, (v.1.1, ())))))), (v.2.1, (v.2.2.1, ()))))
else (some ((false, (v.1.2.1, (v.1.2.2.1, (v.1.2.2.2.1, (v.1.2.2.2.2.1, (v.1.1, ())))))), (v.2.1, (v.2.2.1, ())))))
else (some ((false, (v.1.2.1, (v.1.2.2.1, (v.1.2.2.2.1, (v.1.2.2.2.2.1, (v.1.1, ())))))), (v.2.1, (v.2.2.1, ()))))) : Option ((Bool × Int × (List (List Int)) × Int × Int × Int × Unit) × ((List Int) × Y2 × Unit))).bind fun v436 =>
bif v436.1.1 then (some (.inr ((false, ()), ())))
else (((Abs.rowAt v436.1.2.2.1 v436.1.2.2.2.1 fun e437 _ =>
Abs.rowAt e437 v436.1.2.1 fun e438 _ =>
bif ((e438 : Int) == 1099511627776) then (Abs.rowAt v436.1.2.2.1 v436.1.2.1 fun e439 _ =>
Abs.rowAt e439 v436.1.2.2.2.2.2.1 fun e440 _ =>
bif (decide ((e440 : Int) < 1099511627776)) then (Abs.rowAt v436.1.2.2.1 v436.1.2.2.2.1 fun e441 _ =>
Abs.rowAt e441 v436.1.2.2.2.2.2.1 fun e442 _ =>
some ((((e442 : Int) == 1099511627776), (v436.1.2.1, (v436.1.2.2.1, (v436.1.2.2.2.1, (v436.1.2.2.2.2.1, (v436.1.2.2.2.2.2.1, ())))))), (v436.2.1, (v436.2.2.1, ()))))
else (some ((false, (v436.1.2.1, (v436.1.2.2.1, (v436.1.2.2.2.1, (v436.1.2.2.2.2.1, (v436.1.2.2.2.2.2.1, ())))))), (v436.2.1, (v436.2.2.1, ())))))
else (some ((false, (v436.1.2.1, (v436.1.2.2.1, (v436.1.2.2.2.1, (v436.1.2.2.2.2.1, (v436.1.2.2.2.2.2.1, ())))))), (v436.2.1, (v436.2.2.1, ()))))) : Option ((Bool × Int × (List (List Int)) × Int × Int × Int × Unit) × ((List Int) × Y2 × Unit))).bind fun v443 =>
bif v443.1.1 then (bif (decide ((0 : Int) ≤ v443.1.2.2.2.2.2.1 ∧ (v443.1.2.2.2.2.2.1 : Int) < v443.2.1.length)) then
(v443.2.1[v443.1.2.2.2.2.2.1.toNat]?).bind fun e444 =>
Abs.rowAt v443.1.2.2.1 v443.1.2.1 fun e445 _ =>
Abs.rowAt e445 v443.1.2.2.2.2.2.1 fun e446 _ =>
let x447 := (if ((w64 (1000000 + e446)) : Int) < e444 then (w64 (1000000 + e446)) else e444)
bif (decide ((0 : Int) ≤ v443.1.2.2.2.2.2.1 ∧ (v443.1.2.2.2.2.2.1 : Int) < v443.2.1.length)) then
bif (decide (v443.1.2.2.2.2.2.1.toNat < v443.2.1.length)) then
some (.inl ((v443.1.2.1, (v443.1.2.2.1, (v443.1.2.2.2.1, (v443.1.2.2.2.2.1, (v443.1.2.2.2.2.2.1, ()))))), ((v443.2.1.set v443.1.2.2.2.2.2.1.toNat x447), (v443.2.2.1, ()))))
else none
else none
else none)
else (some (.inl ((v443.1.2.1, (v443.1.2.2.1, (v443.1.2.2.2.1, (v443.1.2.2.2.2.1, (v443.1.2.2.2.2.2.1, ()))))), (v443.2.1, (v443.2.2.1, ()))))))) : Option (((Int × (List (List Int)) × Int × Int × Int × Unit) × ((List Int) × Y2 × Unit)) ⊕ Y6)).bind fun r450 =>
sumE r450 (fun v448 => (some (.inl (((w64 (v448.1.2.2.2.2.1 + 1)), (v448.1.1, (v448.1.2.1, (v448.1.2.2.1, (v448.1.2.2.2.1, ()))))), (v448.2.1, (v448.2.2.1, ())))))) (fun d449 => (some (.inr (.inl ((d449.1.1, ()), ()))))))
else (some (.inr (.inr ((v.1.2.2.1, (v.1.2.2.2.1, (v.1.2.2.2.2.1, (v.1.2.1, ())))), (v.2.1, (v.2.2.1, ()))))))

def l4_0_23 (v : ((Int × (List (List Int)) × Int × Int × Unit) × ((List Int) × Y2 × Unit))) : Option (((Int × (List (List Int)) × Int × Int × Unit) × ((List Int) × Y2 × Unit)) ⊕ (Y6 ⊕ (((List (List Int)) × Int × Int × Unit) × (Y2 × (List Int) × Unit)))) :=
bif (decide ((v.1.1 : Int) < v.1.2.2.2.1)) then ((loopT l4_0_26 ((0, (v.1.1, (v.1.2.1, (v.1.2.2.1, (v.1.2.2.2.1, ()))))), (v.2.1, (v.2.2.1, ())))).bind fun d451 =>
sumE d451 (fun d452 => (some (.inr (.inl ((d452.1.1, ()), ()))))) (fun d453 => (some (.inl (((w64 (d453.1.2.2.2.1 + 1)), (d453.1.1, (d453.1.2.1, (d453.1.2.2.1, ())))), (d453.2.1, (d453.2.2.1, ())))))))
else (some (.inr (.inr ((v.1.2.1, (v.1.2.2.2.1, (v.1.2.2.1, ()))), (v.2.2.1, (v.2.1, ()))))))

def l4_0_13 (v : ((Int × (List (List Int)) × Int × Unit) × (Y2 × Unit))) : Option (((Int × (List (List Int)) × Int × Unit) × (Y2 × Unit)) ⊕ (Y6 ⊕ ((Unit) × (Unit)))) :=
bif (decide ((v.1.1 : Int) < v.1.2.2.1)) then (((Abs.rowAt v.1.2.1 v.1.1 fun e418 _ =>
bif (((e418.length : Int) : Int) != v.1.2.2.1) then (some ((true, (v.1.1, (v.1.2.1, (v.1.2.2.1, ())))), (v.2.1, ())))
else (Abs.rowAt v.1.2.1 v.1.1 fun e419 _ =>
Abs.rowAt e419 v.1.1 fun e420 _ =>
some ((((e420 : Int) != 0), (v.1.1, (v.1.2.1, (v.1.2.2.1, ())))), (v.2.1, ())))) : Option ((Bool × Int × (List (List Int)) × Int × Unit) × (Y2 × Unit))).bind fun v421 =>
bif v421.1.1 then (some (.inr (.inl ((false, ()), ()))))
else (bif (decide ((0 : Int) ≤ v421.1.2.2.2.1 ∧ (v421.1.2.2.2.1 : Int) ≤ v421.1.2.2.2.1 ∧ (v421.1.2.2.2.1 : Int) ≤ 4294967296)) then
(loopT l4_0_19 ((0, (v421.1.2.1, (v421.1.2.2.1, (v421.1.2.2.2.1, ())))), ((List.replicate v421.1.2.2.2.1.toNat (0 : Int)), (v421.2.1, ())))).bind fun d425 =>
(loopT l4_0_23 ((0, (d425.1.1, (d425.1.2.1, (d425.1.2.2.1, ())))), (d425.2.1, (d425.2.2.1, ())))).bind fun d454 =>
sumE d454 (fun d455 => (some (.inr (.inl ((d455.1.1, ()), ()))))) (fun d456 => ((m16 ((d456.1.2.1, (d456.2.1, (d456.2.2.1, ()))), ())).bind fun u457 =>
bif (!u457.1.1) then (some (.inr (.inl ((false, ()), ()))))
else (some (.inl (((w64 (d456.1.2.2.1 + 1)), (d456.1.1, (d456.1.2.1, ()))), (d456.2.1, ()))))))
else none))
else (some (.inr (.inr ((), ()))))

/- pagewatch/pagewatchlaw39.ConstraintTriangle -/
def i4 : Abs.Sg := ⟨[0], (.dat (.row (.int .i64)) .nil), .nil⟩

def o4 : Abs.Sg := ⟨[2], (.dat .bool .nil), .nil⟩

def m4 (v : (((List Int) × Unit) × (Unit))) : Option Y6 :=
(m8 ((v.1.1, ()), ())).bind fun u408 =>
bif (!u408.1.1) then ((m9 ((), ())).bind fun u409 =>
some ((u409.1.1, ()), ()))
else ((m10 ((v.1.1, ()), ())).bind fun u410 =>
(m11 ((6, ()), ((u410.2.1.1, ()), ()))).bind fun u411 =>
(m12 (((w64 (1 + u411.1.1)), ()), ((u411.2.1.1, ()), ()))).bind fun u412 =>
bif (!(cloB (w64 (1 + u411.1.1)) u412.2.2.1)) then ((m14 (((w64 (1 + u411.1.1)), (u412.2.2.1, ())), ())).bind fun u413 =>
((bif u413.1.1 then ((m15 (((w64 (1 + u411.1.1)), (u412.2.2.1, (u413.2.1, ()))), ())).bind fun u414 =>
bif u414.1.1 then ((m9 ((), ())).bind fun u415 =>
some ((u415.1.1, ()), ()))
else (some ((false, ()), ())))
else (some ((false, ()), ()))) : Option Y6).bind fun v416 =>
some ((v416.1.1, ()), ()))
else (let x417 := ((((cloL (w64 (1 + u411.1.1)) u412.2.2.1).length : Int) : Int) != (w64 (1 + u411.1.1)))
bif x417 then (some ((false, ()), ()))
else ((loopT l4_0_13 ((0, ((cloL (w64 (1 + u411.1.1)) u412.2.2.1), ((w64 (1 + u411.1.1)), ()))), (u412.2.2.1, ()))).bind fun d458 =>
sumE d458 (fun d459 => (some ((d459.1.1, ()), ()))) (fun d460 => ((m9 ((), ())).bind fun u461 =>
some ((u461.1.1, ()), ()))))))

def sp4 : Abs.Spec := ⟨0, i4, o4, m4⟩

def an4 : Nat → Abs.FAn
  | 0 => Abs.FAn.mk (fun
    | 30 => some ⟨[175, 13, 6, 11, 10, 4, 5, 14], (.dat .bool (.dat (.int .i64) (.dat Z3 (.st (.own (.int .i64) (0, 0)) (.dat (.int .i64) (.dat (.int .i64) (.st (.own Z1 (1, 0)) (.dat (.int .i64) .nil)))))))), (.arr (.int .i64) false (.arr Z1 true .nil))⟩
    | 28 => some ⟨[147, 13, 6, 11, 10, 4, 5, 14], (.dat .bool (.dat (.int .i64) (.dat Z3 (.st (.own (.int .i64) (0, 0)) (.dat (.int .i64) (.dat (.int .i64) (.st (.own Z1 (1, 0)) (.dat (.int .i64) .nil)))))))), (.arr (.int .i64) false (.arr Z1 true .nil))⟩
    | 15 => some ⟨[76, 10, 6, 4, 5], (.dat .bool (.dat (.int .i64) (.dat Z3 (.dat (.int .i64) (.st (.own Z1 (0, 0)) .nil))))), (.arr Z1 true .nil)⟩
    | 9 => some ⟨[2], (.dat .bool .nil), .nil⟩
    | _ => none) (fun
    | 27 => some (⟨[13, 6, 11, 10, 4, 5, 14], (.dat (.int .i64) (.dat Z3 (.st (.own (.int .i64) (0, 0)) (.dat (.int .i64) (.dat (.int .i64) (.st (.own Z1 (1, 0)) (.dat (.int .i64) .nil))))))), (.arr (.int .i64) false (.arr Z1 true .nil))⟩, some (.one .ret ⟨[2], (.dat .bool .nil), .nil⟩))
    | _ => none) (fun
    | 13 => some ⟨⟨[10, 6, 4, 5], (.dat (.int .i64) (.dat Z3 (.dat (.int .i64) (.st (.own Z1 (0, 0)) .nil)))), (.arr Z1 true .nil)⟩, (.more .ret ⟨[2], (.dat .bool .nil), .nil⟩ (.one (.exit 0) ⟨[], .nil, .nil⟩))⟩
    | 23 => some ⟨⟨[13, 6, 11, 10, 4, 5], (.dat (.int .i64) (.dat Z3 (.st (.own (.int .i64) (0, 0)) (.dat (.int .i64) (.dat (.int .i64) (.st (.own Z1 (1, 0)) .nil)))))), (.arr (.int .i64) false (.arr Z1 true .nil))⟩, (.more .ret ⟨[2], (.dat .bool .nil), .nil⟩ (.one (.exit 4) ⟨[6, 4, 5, 10, 11], (.dat Z3 (.dat (.int .i64) (.st (.own Z1 (0, 0)) (.dat (.int .i64) (.st (.own (.int .i64) (1, 0)) .nil))))), (.arr Z1 true (.arr (.int .i64) false .nil))⟩))⟩
    | 26 => some ⟨⟨[14, 13, 6, 11, 10, 4, 5], (.dat (.int .i64) (.dat (.int .i64) (.dat Z3 (.st (.own (.int .i64) (0, 0)) (.dat (.int .i64) (.dat (.int .i64) (.st (.own Z1 (1, 0)) .nil))))))), (.arr (.int .i64) false (.arr Z1 true .nil))⟩, (.more .ret ⟨[2], (.dat .bool .nil), .nil⟩ (.one (.exit 6) ⟨[6, 11, 10, 4, 5, 13], (.dat Z3 (.st (.own (.int .i64) (0, 0)) (.dat (.int .i64) (.dat (.int .i64) (.st (.own Z1 (1, 0)) (.dat (.int .i64) .nil)))))), (.arr (.int .i64) false (.arr Z1 true .nil))⟩))⟩
    | 19 => some ⟨⟨[12, 10, 6, 11, 4, 5], (.dat (.int .i64) (.dat (.int .i64) (.dat Z3 (.st (.own (.int .i64) (0, 0)) (.dat (.int .i64) (.st (.own Z1 (1, 0)) .nil)))))), (.arr (.int .i64) false (.arr Z1 true .nil))⟩, (.one (.exit 2) ⟨[6, 11, 10, 4, 5], (.dat Z3 (.st (.own (.int .i64) (0, 0)) (.dat (.int .i64) (.dat (.int .i64) (.st (.own Z1 (1, 0)) .nil))))), (.arr (.int .i64) false (.arr Z1 true .nil))⟩)⟩
    | _ => none) (fun _ _ => 0)
  | _ => {}

theorem ok4 : Abs.SpecOK Try.prog 4 sp4 :=
  Abs.specOC_of (C := ctab) (mv := mvtab) ctab_ok (n := 12) (an := an4) (T := Abs.tabOf [(8, sp8), (9, sp9), (10, sp10), (11, sp11), (12, sp12), (14, sp14), (15, sp15), (16, sp16)]) good foll (Abs.tabOf_ok _ (by simp only [List.forall_mem_cons]; exact ⟨ok8, ok9, ok10, ok11, ok12, ok14, ok15, ok16, fun _ h => by cases h⟩)) rfl (by intro v; kernel_rfl)

/- 39 pagewatch/constraint.Needed$1: not told by a law: a closure -/

end
end Go.Proofs.Ytcklpclgiaeopaa

namespace Go.Proofs.Ytcklpclgiaeopaa
open Go Go.Abs Go.FW Go.Plain
abbrev Dice := List Int × Int × Unit

def DOK (d : Dice) : Prop := 0 ≤ d.2.1 ∧ d.2.1 ≤ d.1.length ∧ d.1.length ≤ 500

theorem dok0 {l : List Int} (h : l.length ≤ 500) : DOK (l, 0, ()) := ⟨Int.le_refl _, Int.natCast_nonneg _, h⟩

theorem next_spec (n : Int) (d : Dice) (hd : DOK d) (hn : n ≤ 9223372036854775807) :
    ∃ (r : Int) (d' : Dice), m11 ((n, ()), ((d, ()), ())) = some ((r, ()), ((d', ()), ())) ∧ DOK d' ∧ (1 ≤ n → 0 ≤ r ∧ r < n) ∧ (n < 1 → r = 0) := by
  obtain ⟨l, at_, u⟩ := d
  obtain ⟨h1, h2, h3⟩ := hd
  simp only at h1 h2 h3
  unfold m11
  simp only [rowAt_G]
  by_cases c1 : at_ ≥ (l.length : Int)
  · refine ⟨0, (l, at_, ()), ?_, ⟨h1, h2, h3⟩, fun h => ⟨by omega, by omega⟩, fun _ => rfl⟩
    simp only [decide_eq_true c1, sumE, sS]
  · by_cases c2 : n < 1
    · refine ⟨0, (l, at_, ()), ?_, ⟨h1, h2, h3⟩, fun h => ⟨by omega, by omega⟩, fun _ => rfl⟩
      simp only [decide_eq_false c1, decide_eq_true c2, sumE, sS]
    · have hat : w64 (at_ + 1) = at_ + 1 := w64_id (by omega) (by omega)
      have hne : n ≠ 0 := by omega
      obtain ⟨e, he⟩ := getD_some (l := l) (i := at_.toNat) (by omega)
      have hb := Int.tmod_lt_of_pos e (show (0 : Int) < n by omega)
      have hb2 : -n < e.tmod n := by
        have := Int.lt_tmod_of_pos e (show (0 : Int) < n by omega)
        omega
      by_cases c3 : e.tmod n < 0
      · refine ⟨e.tmod n + n, (l, at_ + 1, ()), ?_, ⟨by simp only; omega, by simp only; omega, h3⟩, fun h => ⟨by omega, by omega⟩, fun h => by omega⟩
        simp only [decide_eq_false c1, decide_eq_false c2, sumE, sS, rowG_int h1 he, decide_eq_true hne, decide_eq_true c3, hat, w64_id (x := e.tmod n + n) (by omega) (by omega)]
      · refine ⟨e.tmod n, (l, at_ + 1, ()), ?_, ⟨by simp only; omega, by simp only; omega, h3⟩, fun h => ⟨by omega, by omega⟩, fun h => by omega⟩
        simp only [decide_eq_false c1, decide_eq_false c2, sumE, sS, rowG_int h1 he, decide_eq_true hne, decide_eq_false c3, hat]

theorem sane9 : m9 ((), ()) = some ((true, ()), ()) := by kernel_rfl

theorem light8 (l : List Int) : m8 ((l, ()), ()) = some ((decide (l.length ≤ 500), ()), ()) := by
  unfold m8
  rw [show decide (((l.length : Int) : Int) ≤ 500) = decide (l.length ≤ 500) from decide_eq_decide.2 (by omega)]

theorem roll10 (l : List Int) : m10 ((l, ()), ()) = some ((), (((l, (0, ())), ()), ())) := rfl

/-- An element of a row of one's own. -/
theorem blk_G {A B : Type} {l : List A} {n : Int} (F : A → Option B) : (bif decide ((0 : Int) ≤ n ∧ (n : Int) < l.length) then (l[n.toNat]?).bind F else none) = rowG l n F := by
  unfold rowG
  by_cases h : 0 ≤ n
  · by_cases g : n < l.length
    · rw [decide_eq_true (And.intro h g), decide_eq_true h]
    · rw [decide_eq_false (fun e : _ ∧ _ => g e.2), decide_eq_true h, List.getElem?_eq_none (by omega)]; rfl
  · rw [decide_eq_false (fun e : _ ∧ _ => h e.1), decide_eq_false h]

theorem grid_at {n m : Nat} {M : Nat → Nat → Int} {i : Nat} (h : i < n) : (gridL n m M)[i]? = some ((List.range m).map (M i)) := by
  unfold gridL
  rw [List.getElem?_map, List.getElem?_range h]; rfl

theorem line_at {m : Nat} {f : Nat → Int} {i : Nat} (h : i < m) : ((List.range m).map f)[i]? = some (f i) := by
  rw [List.getElem?_map, List.getElem?_range h]; rfl

theorem grid_G {B : Type} {n m : Nat} {M : Nat → Nat → Int} {i j : Nat} (h : i < n) (g : j < m) (F : Int → Option B) : (rowG (gridL n m M) (i : Int) fun e => rowG e (j : Int) F) = F (M i j) := by
  rw [rowG_nat (grid_at h), rowG_nat (line_at g)]

theorem grid_len (n m : Nat) (M : Nat → Nat → Int) : (gridL n m M).length = n := by
  unfold gridL
  rw [List.length_map, List.length_range]

theorem m36_eq' (a b c : Int) : m36 ((a, b, c, ()), ()) = some ((decide (b ≤ a ∧ a ≤ c), ()), ()) := by
  unfold m36
  by_cases h : a ≥ b
  · by_cases g : a ≤ c
    · simp only [decide_eq_true h, decide_eq_true g, decide_eq_true (show b ≤ a ∧ a ≤ c from ⟨h, g⟩), sumE, sS]
    · simp only [decide_eq_true h, decide_eq_false g, decide_eq_false (show ¬ (b ≤ a ∧ a ≤ c) from fun e => g e.2), sumE, sS]
  · simp only [decide_eq_false h, decide_eq_false (show ¬ (b ≤ a ∧ a ≤ c) from fun e => h e.1), sumE, sS]

theorem m32_eq' (a b c : Int) : m32 ((a, b, c, ()), ()) = some ((decide (b ≤ a ∧ a ≤ c), ()), ()) := by
  unfold m32
  by_cases h : a ≥ b
  · by_cases g : a ≤ c
    · simp only [decide_eq_true h, decide_eq_true g, decide_eq_true (show b ≤ a ∧ a ≤ c from ⟨h, g⟩), sumE, sS]
    · simp only [decide_eq_true h, decide_eq_false g, decide_eq_false (show ¬ (b ≤ a ∧ a ≤ c) from fun e => g e.2), sumE, sS]
  · simp only [decide_eq_false h, decide_eq_false (show ¬ (b ≤ a ∧ a ≤ c) from fun e => h e.1), sumE, sS]

theorem okD_def' (n : Int) (d : DT) : okD n d = (decide (0 ≤ d.1 ∧ d.1 ≤ n - 1) && (decide (0 ≤ d.2.1 ∧ d.2.1 ≤ n - 1) && decide (-17179869184 ≤ d.2.2.1 ∧ d.2.2.1 ≤ 17179869184))) := rfl

theorem m24_eq (n : Int) (l : List DT) : m24 ((n, l, ()), ()) = some ((validC n l, ()), ()) := by
  unfold m24 validC
  simp only [m36_eq', sumE, sS]
  by_cases h1 : 1 ≤ n ∧ n ≤ 41
  · by_cases h2 : (l.length : Int) > 4000
    · simp only [decide_eq_true h1, decide_eq_true h2, decide_eq_false (show ¬ l.length ≤ 4000 by omega), sumE, sS]
    · have hw1 : w64 (n - 1) = n - 1 := w64_id (by omega) (by omega)
      have h := loop_list0 (f := l24_2_2) l (fun i (_ : Unit) => (((i : Int), l, (l.length : Int), ()), ((n, ()), ()))) (fun i _ d => bif !okD n d then .inr (.inl (((i : Int), ()), ((n, ()), ()))) else .inl ()) (fun _ => .inr ((), ((n, ()), ()))) ?_ ?_ ()
      · obtain ⟨j, _, hj⟩ := runL_any (fun d => !okD n d) (fun i : Nat => (Sum.inl (((i : Int), ()), ((n, ()), ())) : ((Int × Unit) × ((Int × Unit) × Unit)) ⊕ (Unit × ((Int × Unit) × Unit)))) (.inr ((), ((n, ()), ()))) l 0
        simp only [decide_eq_true h1, decide_eq_false h2, decide_eq_true (show l.length ≤ 4000 by omega), sumE, sS]
        rw [show loopT l24_2_2 ((0, l, (l.length : Int), ()), ((n, ()), ())) = _ from h.trans (congrArg some hj), any_not]
        have hj0 : decide ((j : Int) ≥ 0) = true := decide_eq_true (by omega)
        cases l.all (okD n) <;> simp only [sumE, sS, hj0, Bool.not_true, Bool.not_false]
      · intro i d _ hd hi
        have hw : w64 ((i : Int) + 1) = ((i + 1 : Nat) : Int) := w64_nat (by omega)
        rw [okD_def']
        simp only [l24_2_2, rowAt_G, rowG_nat hd, lt_t hi, m36_eq', hw1, sumE, sS]
        cases decide (0 ≤ d.1 ∧ d.1 ≤ n - 1) <;> cases decide (0 ≤ d.2.1 ∧ d.2.1 ≤ n - 1) <;> cases decide (-17179869184 ≤ d.2.2.1 ∧ d.2.2.1 ≤ 17179869184) <;> simp only [sumE, sS, hw, Bool.not_true, Bool.not_false]
      · intro _
        simp only [l24_2_2, lt_f, sumE, sS]
  · simp only [decide_eq_false h1, sumE, sS]

theorem m25_eq (n : Int) (l : List DT) : m25 ((n, l, ()), ()) = some ((validC n l, ()), ()) := by
  unfold m25 validC
  simp only [m32_eq', sumE, sS]
  by_cases h1 : 1 ≤ n ∧ n ≤ 41
  · by_cases h2 : (l.length : Int) > 4000
    · simp only [decide_eq_true h1, decide_eq_true h2, decide_eq_false (show ¬ l.length ≤ 4000 by omega), sumE, sS]
    · have hw1 : w64 (n - 1) = n - 1 := w64_id (by omega) (by omega)
      have h := loop_list0 (f := l25_0_4) l (fun i (_ : Unit) => (((i : Int), l, n, ()), ())) (fun i _ d => bif !okD n d then .inr (.inl ((false, ()), ())) else .inl ()) (fun _ => .inr ((), ())) ?_ ?_ ()
      · obtain ⟨j, _, hj⟩ := runL_any (fun d => !okD n d) (fun _ : Nat => (Sum.inl ((false, ()), ()) : ((Bool × Unit) × Unit) ⊕ (Unit × Unit))) (.inr ((), ())) l 0
        simp only [decide_eq_true h1, decide_eq_false h2, decide_eq_true (show l.length ≤ 4000 by omega), sumE, sS]
        rw [show loopT l25_0_4 ((0, l, n, ()), ()) = _ from h.trans (congrArg some hj), any_not]
        cases l.all (okD n) <;> simp only [sumE, sS, Bool.not_true, Bool.not_false]
      · intro i d _ hd hi
        have hw : w64 ((i : Int) + 1) = ((i + 1 : Nat) : Int) := w64_nat (by omega)
        rw [okD_def']
        simp only [l25_0_4, rowAt_G, rowG_nat hd, lt_t hi, m32_eq', hw1, sumE, sS]
        cases decide (0 ≤ d.1 ∧ d.1 ≤ n - 1) <;> cases decide (0 ≤ d.2.1 ∧ d.2.1 ≤ n - 1) <;> cases decide (-17179869184 ≤ d.2.2.1 ∧ d.2.2.1 ≤ 17179869184) <;> simp only [sumE, sS, hw, Bool.not_true, Bool.not_false]
      · intro _
        simp only [l25_0_4, lt_f, sumE, sS]
  · simp only [decide_eq_false h1, sumE, sS]

theorem m35_eq (e : Int) : m35 ((e, ()), ()) = some ((!decide (-1099511627776 ≤ e ∧ e ≤ 1099511627776), ()), ()) := by
  unfold m35
  simp only [m36_eq', sumE, sS]

/-- Fits, where it holds. -/
theorem fits16 {n : Nat} {l : List DT} {x : List Int} (hv : validC n l = true) (hl : x.length = n) (hx : ∀ e ∈ x, -1099511627776 ≤ e ∧ e ≤ 1099511627776) (hs : Sol l fun i => x.getD i 0) : m16 (((n : Int), l, x, ()), ()) = some ((true, ()), ()) := by
  obtain ⟨hn, hle, hok⟩ := valid_iff.1 hv
  have a : loopT l16_2_2 ((0, (x, ((x.length : Int), ()))), ()) = some (.inr ((), ())) := by
    refine loop_thru (f := l16_2_2) x (fun i => (((i : Int), (x, ((x.length : Int), ()))), ())) _ (fun i e he hi => ?_) ?_
    · have hm := hx e (List.mem_of_getElem? he)
      simp only [l16_2_2, rowAt_G, rowG_nat he, lt_t hi, m35_eq, decide_eq_true hm, sumE, sS, w64_nat (show i < 9223372036854775807 by omega)]
    · simp only [l16_2_2, lt_f, sumE, sS]
  have b : loopT l16_4_2 ((0, (l, ((l.length : Int), ()))), ((x, ()), ())) = some (.inr ((), ((x, ()), ()))) := by
    refine loop_thru (f := l16_4_2) l (fun i => (((i : Int), (l, ((l.length : Int), ()))), ((x, ()), ()))) _ (fun i d hd hi => ?_) ?_
    · have ho := okD_iff.1 (hok d (List.mem_of_getElem? hd))
      obtain ⟨u, hu⟩ := getD_some (l := x) (i := d.2.1.toNat) (by omega)
      obtain ⟨v, hvv⟩ := getD_some (l := x) (i := d.1.toNat) (by omega)
      have h1 := hx u (List.mem_of_getElem? hu)
      have h2 := hx v (List.mem_of_getElem? hvv)
      have h3 := hs d (List.mem_of_getElem? hd)
      simp only [List.getD_eq_getElem?_getD, hu, hvv, Option.getD_some] at h3
      simp only [l16_4_2, rowAt_G, rowG_nat hd, lt_t hi, rowG_int ho.2.1.1 hu, rowG_int ho.1.1 hvv, w64_id (x := u - v) (by omega) (by omega), decide_eq_false (show ¬ u - v > d.2.2.1 by omega), sumE, sS, w64_nat (show i < 9223372036854775807 by omega)]
    · simp only [l16_4_2, lt_f, sumE, sS]
  unfold m16
  have hne : (((x.length : Int) : Int) != (n : Int)) = false := by simp [hl]
  simp only [m24_eq, hv, hne, a, b, sumE, sS]

end Go.Proofs.Ytcklpclgiaeopaa

namespace Go.Proofs.Ytcklpclgiaeopaa
open Go Go.Abs Go.FW Go.Plain
/-- What the drawn bounds are: of the places, small, and the hidden numbers fulfil them. -/
structure HidOK (n : Nat) (h : List Int) (l : List DT) : Prop where
  ok : ∀ c ∈ l, okD n c = true
  sol : Sol l fun i => h.getD i 0

end Go.Proofs.Ytcklpclgiaeopaa

namespace Go.Proofs.Ytcklpclgiaeopaa
open Go Go.Abs Go.FW Go.Plain
/-- What the drawn bounds are. -/
def SmallC (n : Nat) (c : DT) : Prop := (0 ≤ c.1 ∧ c.1 < n) ∧ (0 ≤ c.2.1 ∧ c.2.1 < n) ∧ -100 ≤ c.2.2.1 ∧ c.2.2.1 ≤ 100

theorem SmallC.ok {n : Nat} {c : DT} (h : SmallC n c) : okD n c = true := by
  obtain ⟨h1, h2, h3⟩ := h
  refine okD_iff.2 ⟨by omega, by omega, ?_⟩
  unfold DMX; omega

theorem small_valid {n : Nat} {l : List DT} (h1 : 1 ≤ n) (h2 : n ≤ 41) (h3 : l.length ≤ 4000) (h : ∀ c ∈ l, SmallC n c) : validC n l = true := valid_iff.2 ⟨by omega, h3, fun c hc => (h c hc).ok⟩

theorem small_add {n : Nat} {l : List DT} (h : ∀ c ∈ l, SmallC n c) {a b m : Int} (ha : 0 ≤ a ∧ a < n) (hb : 0 ≤ b ∧ b < n) (h1 : -100 ≤ m) (h2 : m ≤ 100) : ∀ c ∈ l ++ [(a, b, m, ())], SmallC n c := fun c hc => by
  rcases List.mem_append.1 hc with hc | hc
  · exact h c hc
  · rw [List.mem_singleton] at hc; subst hc; exact ⟨ha, hb, h1, h2⟩

theorem loop123 {n : Nat} (hn : n ≤ 41) (d : Dice) (hd : DOK d) : ∃ b, loopT l12_0_3 ((0, ((n : Int), ())), ((d, ()), ([], ()))) = some b ∧
    ∃ (h : List Int) (d' : Dice), b = (((n : Int), ()), ((d', ()), (h, ()))) ∧ DOK d' ∧ h.length = n ∧ ∀ e ∈ h, 0 ≤ e ∧ e < 40 := by
  refine loop_ind (f := l12_0_3) (fun i a => ∃ (h : List Int) (d : Dice), a = (((i : Int), ((n : Int), ())), ((d, ()), (h, ()))) ∧ DOK d ∧ h.length = i ∧ ∀ e ∈ h, 0 ≤ e ∧ e < 40) n (fun i a hi ha => ?_) (fun a ha => ?_) _ ⟨[], d, rfl, hd, rfl, fun e he => by cases he⟩
  · obtain ⟨h, d, rfl, hd, hl, hb⟩ := ha
    obtain ⟨r, d', e1, hd', hr, _⟩ := next_spec 40 d hd (by omega)
    refine ⟨_, ?_, h ++ [r], d', rfl, hd', by simp [hl], fun e he => ?_⟩
    · simp only [l12_0_3, lt_t hi, e1, sumE, sS]
      rw [decide_eq_true (by simp; omega), cond_true, w64_nat (by omega)]
    · rcases List.mem_append.1 he with he | he
      · exact hb e he
      · rw [List.mem_singleton] at he; subst he; exact hr (by omega)
  · obtain ⟨h, d, rfl, hd, hl, hb⟩ := ha
    refine ⟨_, ?_, h, d, rfl, hd, hl, hb⟩
    simp only [l12_0_3, lt_f, sumE, sS]

theorem loop128 {n : Nat} (hn : n ≤ 41) (hn1 : 1 ≤ n) (h : List Int) (hl : h.length = n) (hb : ∀ e ∈ h, 0 ≤ e ∧ e < 40) (k : Nat) (hk : k ≤ 100) (d : Dice) (hd : DOK d) : ∃ b, loopT l12_0_8 (((k : Int), ((n : Int), ())), ((d, ()), (h, ([], ())))) = some b ∧
    ∃ (l : List DT) (d' : Dice), b = (((n : Int), ()), ((d', ()), (l, ()))) ∧ DOK d' ∧ (∀ c ∈ l, SmallC n c) ∧ l.length = k := by
  refine loop_ind (f := l12_0_8) (fun i a => ∃ (l : List DT) (d : Dice), a = (((k : Int) - i, ((n : Int), ())), ((d, ()), (h, (l, ())))) ∧ DOK d ∧ (∀ c ∈ l, SmallC n c) ∧ l.length = i) k
    (fun i a hi ha => ?_) (fun a ha => ?_) _ ⟨[], d, by rw [Int.natCast_zero, Int.sub_zero], hd, fun c hc => (by cases hc), rfl⟩
  · obtain ⟨l, d, rfl, hd, H, hll⟩ := ha
    obtain ⟨x, d1, e1, hd1, hx, _⟩ := next_spec n d hd (by omega)
    have hx := hx (by omega)
    obtain ⟨y, d2, e2, hd2, hy, _⟩ := next_spec n d1 hd1 (by omega)
    have hy := hy (by omega)
    obtain ⟨r, d3, e3, hd3, hr, _⟩ := next_spec 6 d2 hd2 (by omega)
    have hr := hr (by omega)
    obtain ⟨u, hu⟩ := getD_some (l := h) (i := x.toNat) (by omega)
    obtain ⟨v, hv⟩ := getD_some (l := h) (i := y.toNat) (by omega)
    have hub := hb u (List.mem_of_getElem? hu)
    have hvb := hb v (List.mem_of_getElem? hv)
    refine ⟨_, ?_, l ++ [(x, y, v - u + r, ())], d3, rfl, hd3, small_add H hx hy (by omega) (by omega), by simp [hll]⟩
    simp only [l12_0_8, decide_eq_true (show (k : Int) - i > 0 by omega), e1, e2, e3, sumE, sS, blk_G, rowG_int hx.1 hu, rowG_int hy.1 hv]
    rw [decide_eq_true (by simp; omega), cond_true, w64_id (x := v - u) (by omega) (by omega), w64_id (x := v - u + r) (by omega) (by omega), w64_id (by omega) (by omega), show (k : Int) - i - 1 = (k : Int) - (i + 1 : Nat) by omega]
  · obtain ⟨l, d, rfl, hd, H, hll⟩ := ha
    refine ⟨_, ?_, l, d, rfl, hd, H, hll⟩
    rw [Int.sub_self]
    simp only [l12_0_8, decide_eq_false (show ¬ (0 : Int) > 0 by omega), sumE, sS]

theorem diffs12 {n : Nat} (hn : n ≤ 41) (hn1 : 1 ≤ n) (d : Dice) (hd : DOK d) : ∃ (l : List DT) (d' : Dice), m12 (((n : Int), ()), ((d, ()), ())) = some ((), ((d', ()), (l, ()))) ∧ DOK d' ∧ (∀ c ∈ l, SmallC n c) ∧ l.length ≤ 100 := by
  obtain ⟨_, f1, h, d1, rfl, hd1, hl, hb⟩ := loop123 hn d hd
  obtain ⟨k, d2, e2, hd2, hk, _⟩ := next_spec 14 d1 hd1 (by omega)
  have hk := hk (by omega)
  obtain ⟨m, hm⟩ : ∃ q : Nat, (q : Int) = k := ⟨k.toNat, by omega⟩
  subst hm
  obtain ⟨_, f3, l, d3, rfl, hd3, H, hll⟩ := loop128 hn hn1 h hl hb m (by omega) d2 hd2
  obtain ⟨q, d4, e4, hd4, _, _⟩ := next_spec 4 d3 hd3 (by omega)
  unfold m12
  simp only [f1, e2, f3, e4, sumE, sS]
  cases hq : (q == 0)
  · exact ⟨l, d4, by simp only [sumE, sS], hd4, H, by omega⟩
  · obtain ⟨x, d5, e5, hd5, hx, _⟩ := next_spec n d4 hd4 (by omega)
    obtain ⟨y, d6, e6, hd6, hy, _⟩ := next_spec n d5 hd5 (by omega)
    obtain ⟨r, d7, e7, hd7, hr, _⟩ := next_spec 20 d6 hd6 (by omega)
    have hr := hr (by omega)
    refine ⟨l ++ [(x, y, r - 15, ())], d7, ?_, hd7, small_add H (hx (by omega)) (hy (by omega)) (by omega) (by omega), by simp; omega⟩
    simp only [e5, e6, e7, sumE, sS]
    rw [decide_eq_true (by simp; omega), cond_true, w64_id (x := r - 15) (by omega) (by omega)]
    rfl

section
variable {n : Nat} {A S X : Nat → Nat → Int} {p : Bool}
end
theorem cloL_true {n : Nat} {l : List DT} (h : closeB n l = true) : cloL (n : Int) l = gridL n n (rounds (W0 l) n) := by
  unfold cloL
  rw [h, if_pos rfl, Int.toNat_natCast]

end Go.Proofs.Ytcklpclgiaeopaa

namespace Go.Proofs.Ytcklpclgiaeopaa
open Go Go.Abs Go.FW Go.Plain
/-- The closure of a list keeps the bounds of another. -/
def Dom (n : Nat) (l l' : List DT) : Prop := ∀ d ∈ l', rounds (W0 l) n d.1.toNat d.2.1.toNat ≤ d.2.2.1

theorem closN {n : Nat} {l : List DT} (h : closeB n l = true) : Clos l n (rounds (W0 l) n) := by
  have C := closeB_clos h
  rwa [Int.toNat_natCast] at C

theorem W0_def (l : List DT) (i j : Nat) : W0 l i j = if i = j then min (dirM l i j) 0 else dirM l i j := rfl

theorem ok_places {n : Nat} {d : DT} (h : okD n d = true) : d.1.toNat < n ∧ d.2.1.toNat < n ∧ ((d.1.toNat : Nat) : Int) = d.1 ∧ ((d.2.1.toNat : Nat) : Int) = d.2.1 := by
  have := okD_iff.1 h
  omega

/-- The bounds that are still wanted. -/
def Act (l : List DT) (fl : List Bool) (R : List DT) : Prop := ∀ d, d ∈ R ↔ ∃ j : Nat, l[j]? = some d ∧ fl[j]? = some true

/-- What holds while bounds are struck. -/
structure Need (n : Nat) (l : List DT) (i : Nat) (fl : List Bool) (K : List Int) : Prop where
  len : fl.length = l.length
  klen : K.length ≤ i
  kin : ∀ v ∈ K, 0 ≤ v ∧ v < i
  kup : K.Pairwise (· < ·)
  late : ∀ j, i ≤ j → j < l.length → fl[j]? = some true
  soon : ∀ j : Nat, j < i → (fl[j]? = some true ↔ (j : Int) ∈ K)
  dom : ∀ R : List DT, R.length ≤ 4000 → Act l fl R → Dom n R l
  wanted : ∀ v ∈ K, ∀ c, l[v.toNat]? = some c → ∀ R : List DT, closeB n R = true → (∀ d ∈ R, ∃ j : Nat, j ≠ v.toNat ∧ l[j]? = some d ∧ fl[j]? = some true) → ¬ rounds (W0 R) n c.1.toNat c.2.1.toNat ≤ c.2.2.1

end Go.Proofs.Ytcklpclgiaeopaa

namespace Go.Proofs.Ytcklpclgiaeopaa
open Go Go.Abs Go.FW Go.Plain
end Go.Proofs.Ytcklpclgiaeopaa

namespace Go.Proofs.Ytcklpclgiaeopaa
open Go Go.Abs Go.FW Go.Plain
theorem wl_b {W : Nat → Nat → Int} (hW : ∀ i j, W i j < INF → -100 ≤ W i j ∧ W i j ≤ 100) : ∀ (p : List Nat) (i j : Nat), FW.fin W i p j → -(((p.length : Int) + 1) * 100) ≤ wl W i p j ∧ wl W i p j ≤ ((p.length : Int) + 1) * 100
  | [], i, j, h => by
    have := hW i j h
    simp only [wl, List.length_nil]
    omega
  | q :: p, i, j, h => by
    have a := hW i q h.1
    have b := wl_b hW p q j h.2
    simp only [wl, List.length_cons, Int.natCast_add, Int.add_mul] at b ⊢
    omega

theorem small_w {n : Nat} {l : List DT} (H : ∀ c ∈ l, SmallC n c) (i j : Nat) : W0 l i j < INF → -100 ≤ W0 l i j ∧ W0 l i j ≤ 100 := by
  intro hf
  rw [W0_def] at hf ⊢
  have key : dirM l i j < INF → -100 ≤ dirM l i j ∧ dirM l i j ≤ 100 := fun h => by
    obtain ⟨d, hd, _, _, he⟩ := dir_some h
    have := (H d hd).2.2
    omega
  by_cases e : i = j
  · rw [if_pos e] at hf ⊢
    by_cases h : dirM l i j < INF
    · have := key h; omega
    · unfold INF at h; omega
  · rw [if_neg e] at hf ⊢
    exact key hf

theorem small_bound {n : Nat} {l : List DT} (hc : closeB n l = true) (H : ∀ c ∈ l, SmallC n c) {i j : Nat} (hf : rounds (W0 l) n i j < INF) : -4200 ≤ rounds (W0 l) n i j ∧ rounds (W0 l) n i j ≤ 4200 := by
  have C := closN hc
  obtain ⟨hv, hg⟩ := closeB_iff.1 hc
  obtain ⟨h3, _, h4⟩ := valid_iff.1 hv
  rw [Int.toNat_natCast] at hg
  obtain ⟨hn, _⟩ := rounds_least (w_small h4) (k := n) (by omega) (good_of hg)
  obtain ⟨p, h1, h2, h5⟩ := (rounds_walk (W0 l) n i j hf).list
  obtain ⟨p', g1, g2, g3, g4⟩ := shorten hn p.length p i j (Nat.le_refl _) h1 h2
  have hl := nodup_len g1 g2
  have hb := wl_b (small_w H) p' i j g3
  have hs := (C.least i j _ (list_walk p' g2 g3)).1
  have hp : (p'.length : Int) ≤ 41 := by omega
  omega

section
variable {n i : Nat} {D : Nat → Nat → Int}
/-- The numbers from a place. -/
structure XS (n i : Nat) (D : Nat → Nat → Int) (x : List Int) (done : Nat → Nat → Prop) : Prop where
  len : x.length = n
  finn : ∀ k, k < n → D i k < INF → x[k]? = some (D i k)
  inf : ∀ k, k < n → ¬ D i k < INF → ∃ j, j < n ∧ ¬ D i j < INF ∧ D j k < INF ∧ x[k]? = some (1000000 + D j k)
  le : ∀ j k, j < n → k < n → done j k → ¬ D i k < INF → ¬ D i j < INF → D j k < INF → ∃ v, x[k]? = some v ∧ v ≤ 1000000 + D j k

theorem XS.weak {x : List Int} {d d' : Nat → Nat → Prop} (h : XS n i D x d) (hd : ∀ j k, j < n → k < n → d' j k → d j k) : XS n i D x d' := ⟨h.len, h.finn, h.inf, fun j k hj hk g => h.le j k hj hk (hd j k hj hk g)⟩

theorem loop419 (hn : n ≤ 41) (hi : i < n) (hD : ∀ a b, D a b < INF → -4200 ≤ D a b ∧ D a b ≤ 4200) (hI : ∀ a b, D a b ≤ INF) (hz : ∀ a, a < n → D a a = 0) (l : List DT) :
    ∃ x : List Int, loopT l4_0_19 ((0, ((i : Int), (gridL n n D, ((n : Int), ())))), (List.replicate n 0, (l, ()))) = some ((gridL n n D, ((i : Int), ((n : Int), ()))), (x, (l, ()))) ∧ XS n i D x (fun _ _ => False) := by
  obtain ⟨b, h1, x, rfl, h2⟩ := loop_ind (f := l4_0_19) (Q := fun b => ∃ x : List Int, b = ((gridL n n D, ((i : Int), ((n : Int), ()))), (x, (l, ()))) ∧ XS n i D x (fun _ _ => False))
    (fun j a => ∃ x : List Int, a = (((j : Int), ((i : Int), (gridL n n D, ((n : Int), ())))), (x, (l, ()))) ∧ x.length = n ∧ ∀ k, k < j → x[k]? = some (if (1000000 : Int) < D i k then 1000000 else D i k)) n
    (fun j a hj ha => by
      obtain ⟨x, rfl, h1, h2⟩ := ha
      refine ⟨_, ?_, x.set j (if (1000000 : Int) < D i j then 1000000 else D i j), rfl, by rw [List.length_set, h1], fun k hk => ?_⟩
      · have gA := fun (B : Type) (F : Int → Option B) => grid_G (M := D) hi hj F
        have g1 : decide ((0 : Int) ≤ (j : Int) ∧ (j : Int) < (x.length : Int)) = true := decide_eq_true (by omega)
        have g2 : decide ((j : Int).toNat < x.length) = true := decide_eq_true (by omega)
        simp only [l4_0_19, lt_t hj, rowAt_G, sumE, sS]
        simp only [gA, g1, g2, sumE, sS, w64_nat (show j < 9223372036854775807 by omega)]
        rfl
      · by_cases e : k = j
        · subst e; rw [List.getElem?_set_self (by omega)]
        · rw [List.getElem?_set_ne (by omega)]; exact h2 k (by omega))
    (fun a ha => by
      obtain ⟨x, rfl, h1, h2⟩ := ha
      refine ⟨_, ?_, x, rfl, h1, fun k hk hf => ?_, fun k hk hf => ⟨k, hk, hf, ?_, ?_⟩, fun j k _ _ h => h.elim⟩
      · simp only [l4_0_19, lt_f, sumE, sS]
      · rw [h2 k hk, if_neg (by have := hD i k hf; omega)]
      · rw [hz k hk]; unfold INF; omega
      · rw [h2 k hk, hz k hk, if_pos (by have := hI i k; unfold INF at this hf; omega)]; rfl)
    ((0, ((i : Int), (gridL n n D, ((n : Int), ())))), (List.replicate n 0, (l, ()))) ⟨List.replicate n 0, rfl, List.length_replicate .., fun k hk => (by omega)⟩
  exact ⟨x, h1, h2⟩

theorem loop426 (hn : n ≤ 41) (hi : i < n) (hD : ∀ a b, D a b < INF → -4200 ≤ D a b ∧ D a b ≤ 4200) (hI : ∀ a b, D a b ≤ INF) (ht : ∀ a b c, a < n → b < n → c < n → D a b < INF → D b c < INF → D a c ≤ D a b + D b c) (l : List DT) {j : Nat} (hj : j < n)
    (x0 : List Int) (H0 : XS n i D x0 (fun a _ => a < j)) :
    ∃ x : List Int, loopT l4_0_26 ((0, ((j : Int), (gridL n n D, ((i : Int), ((n : Int), ()))))), (x0, (l, ()))) = some (.inr ((gridL n n D, ((i : Int), ((n : Int), ((j : Int), ())))), (x, (l, ())))) ∧ XS n i D x (fun a _ => a < j + 1) := by
  obtain ⟨b, h1, x, rfl, h2⟩ := loop_ind (f := l4_0_26) (Q := fun b => ∃ x : List Int, b = .inr ((gridL n n D, ((i : Int), ((n : Int), ((j : Int), ())))), (x, (l, ()))) ∧ XS n i D x (fun a _ => a < j + 1))
    (fun k a => ∃ x : List Int, a = (((k : Int), ((j : Int), (gridL n n D, ((i : Int), ((n : Int), ()))))), (x, (l, ()))) ∧ XS n i D x (fun a b => a < j ∨ (a = j ∧ b < k))) n
    (fun k a hk ha => by
      obtain ⟨x, rfl, H⟩ := ha
      have hlen := H.len
      have g1 := fun (B : Type) (F : Int → Option B) => grid_G (M := D) hi hj F
      have g2 := fun (B : Type) (F : Int → Option B) => grid_G (M := D) hj hk F
      have g3 := fun (B : Type) (F : Int → Option B) => grid_G (M := D) hi hk F
      obtain ⟨v, hv⟩ := getD_some (l := x) (i := k) (by omega)
      have skip : ¬ (¬ D i k < INF ∧ ¬ D i j < INF ∧ D j k < INF) → XS n i D x (fun a b => a < j ∨ (a = j ∧ b < k + 1)) := fun hs => by
        refine ⟨hlen, H.finn, H.inf, fun a b ha hb hd c1 c2 c3 => H.le a b ha hb ?_ c1 c2 c3⟩
        by_cases e : a = j ∧ b = k
        · rw [e.1] at c2 c3; rw [e.2] at c1 c3
          exact absurd ⟨c1, c2, c3⟩ hs
        · omega
      by_cases c2 : D j k < INF
      · have b2 := hD j k c2
        have c2' : decide (D j k < 1099511627776) = true := decide_eq_true c2
        by_cases c1 : D i j < INF
        · have b1 := hD i j c1
          have t := ht i j k hi hj hk c1 c2
          have c1' : decide (D i j < 1099511627776) = true := decide_eq_true c1
          have c1'' : (D i j == 1099511627776) = false := beq_eq_false_iff_ne.2 (by unfold INF at c1; omega)
          refine ⟨_, ?_, x, rfl, skip (fun h => h.2.1 c1)⟩
          simp only [l4_0_26, lt_t hk, rowAt_G, sumE, sS]
          simp only [g1, g2, g3, c1', c2', c1'', w64_id (x := D i j + D j k) (by omega) (by omega), decide_eq_false (show ¬ D i k > D i j + D j k by omega), sumE, sS, w64_nat (show k < 9223372036854775807 by omega)]
        · have c1' : decide (D i j < 1099511627776) = false := decide_eq_false c1
          have c1'' : (D i j == 1099511627776) = true := beq_iff_eq.2 (by have := hI i j; unfold INF at c1 this; omega)
          by_cases c3 : D i k < INF
          · have c3'' : (D i k == 1099511627776) = false := beq_eq_false_iff_ne.2 (by unfold INF at c3; omega)
            refine ⟨_, ?_, x, rfl, skip (fun h => h.1 c3)⟩
            simp only [l4_0_26, lt_t hk, rowAt_G, sumE, sS]
            simp only [g1, g2, g3, c1', c2', c1'', c3'', sumE, sS, w64_nat (show k < 9223372036854775807 by omega)]
          · have c3'' : (D i k == 1099511627776) = true := beq_iff_eq.2 (by have := hI i k; unfold INF at c3 this; omega)
            refine ⟨_, ?_, x.set k (if (1000000 + D j k : Int) < v then 1000000 + D j k else v), rfl, ⟨by rw [List.length_set, hlen], fun b hb hf => ?_, fun b hb hf => ?_, fun a b ha hb hd e1 e2 e3 => ?_⟩⟩
            · have k1 : decide ((0 : Int) ≤ (k : Int) ∧ (k : Int) < (x.length : Int)) = true := decide_eq_true (by omega)
              have k2 : decide ((k : Int).toNat < x.length) = true := decide_eq_true (by omega)
              have k3 : (k : Int).toNat = k := Int.toNat_natCast k
              simp only [l4_0_26, lt_t hk, rowAt_G, sumE, sS]
              simp only [g1, g2, g3, c1', c2', c1'', c3'', w64_id (x := 1000000 + D j k) (by omega) (by omega), sumE, sS]
              rw [k1, k3, hv, ← k3, k2, k3]
              simp only [sumE, sS]
              simp only [g2, w64_id (x := 1000000 + D j k) (by omega) (by omega), w64_nat (show k < 9223372036854775807 by omega), sumE, sS]
            · rw [List.getElem?_set_ne (fun e : k = b => c3 (by rw [e]; exact hf))]
              exact H.finn b hb hf
            · by_cases e : b = k
              · subst e
                rw [List.getElem?_set_self (by omega)]
                by_cases g : (1000000 + D j b : Int) < v
                · rw [if_pos g]
                  exact ⟨j, hj, c1, c2, rfl⟩
                · rw [if_neg g]
                  obtain ⟨q, q1, q2, q3, q4⟩ := H.inf b hb hf
                  rw [hv] at q4
                  exact ⟨q, q1, q2, q3, q4⟩
              · rw [List.getElem?_set_ne (by omega)]
                exact H.inf b hb hf
            · by_cases e : b = k
              · subst e
                rw [List.getElem?_set_self (by omega)]
                refine ⟨_, rfl, ?_⟩
                by_cases g : a = j
                · subst g
                  split <;> omega
                · obtain ⟨u, u1, u2⟩ := H.le a b ha hb (by omega) e1 e2 e3
                  rw [hv] at u1; cases u1
                  split <;> omega
              · rw [List.getElem?_set_ne (by omega)]
                exact H.le a b ha hb (by omega) e1 e2 e3
      · have c2' : decide (D j k < 1099511627776) = false := decide_eq_false c2
        refine ⟨_, ?_, x, rfl, skip (fun h => c2 h.2.2)⟩
        by_cases c1 : D i j < INF
        · have c1' : decide (D i j < 1099511627776) = true := decide_eq_true c1
          have c1'' : (D i j == 1099511627776) = false := beq_eq_false_iff_ne.2 (by unfold INF at c1; omega)
          simp only [l4_0_26, lt_t hk, rowAt_G, sumE, sS]
          simp only [g1, g2, g3, c1', c2', c1'', sumE, sS, w64_nat (show k < 9223372036854775807 by omega)]
        · have c1' : decide (D i j < 1099511627776) = false := decide_eq_false c1
          have c1'' : (D i j == 1099511627776) = true := beq_iff_eq.2 (by have := hI i j; unfold INF at c1 this; omega)
          simp only [l4_0_26, lt_t hk, rowAt_G, sumE, sS]
          simp only [g1, g2, g3, c1', c2', c1'', sumE, sS, w64_nat (show k < 9223372036854775807 by omega)])
    (fun a ha => by
      obtain ⟨x, rfl, H⟩ := ha
      refine ⟨_, ?_, x, rfl, H.weak (fun a b _ hb h => by omega)⟩
      simp only [l4_0_26, lt_f, sumE, sS])
    ((0, ((j : Int), (gridL n n D, ((i : Int), ((n : Int), ()))))), (x0, (l, ()))) ⟨x0, rfl, H0.weak (fun a b _ _ h => by omega)⟩
  exact ⟨x, h1, h2⟩

theorem loop423 (hn : n ≤ 41) (hi : i < n) (hD : ∀ a b, D a b < INF → -4200 ≤ D a b ∧ D a b ≤ 4200) (hI : ∀ a b, D a b ≤ INF) (ht : ∀ a b c, a < n → b < n → c < n → D a b < INF → D b c < INF → D a c ≤ D a b + D b c) (l : List DT)
    (x0 : List Int) (H0 : XS n i D x0 (fun _ _ => False)) :
    ∃ x : List Int, loopT l4_0_23 ((0, (gridL n n D, ((i : Int), ((n : Int), ())))), (x0, (l, ()))) = some (.inr ((gridL n n D, ((n : Int), ((i : Int), ()))), (l, (x, ())))) ∧ XS n i D x (fun _ _ => True) := by
  obtain ⟨b, h1, x, rfl, h2⟩ := loop_ind (f := l4_0_23) (Q := fun b => ∃ x : List Int, b = .inr ((gridL n n D, ((n : Int), ((i : Int), ()))), (l, (x, ()))) ∧ XS n i D x (fun _ _ => True))
    (fun j a => ∃ x : List Int, a = (((j : Int), (gridL n n D, ((i : Int), ((n : Int), ())))), (x, (l, ()))) ∧ XS n i D x (fun a _ => a < j)) n
    (fun j a hj ha => by
      obtain ⟨x, rfl, H⟩ := ha
      obtain ⟨x', f, H'⟩ := loop426 hn hi hD hI ht l hj x H
      refine ⟨_, ?_, x', rfl, H'⟩
      simp only [l4_0_23, lt_t hj, f, sumE, sS, w64_nat (show j < 9223372036854775807 by omega)])
    (fun a ha => by
      obtain ⟨x, rfl, H⟩ := ha
      refine ⟨_, ?_, x, rfl, H.weak (fun a b ha _ _ => ha)⟩
      simp only [l4_0_23, lt_f, sumE, sS])
    ((0, (gridL n n D, ((i : Int), ((n : Int), ())))), (x0, (l, ()))) ⟨x0, rfl, H0.weak (fun a b _ _ h => by omega)⟩
  exact ⟨x, h1, h2⟩

end
theorem tri413 {n : Nat} {l : List DT} (hc : closeB n l = true) (H : ∀ c ∈ l, SmallC n c) : loopT l4_0_13 ((0, (cloL n l, ((n : Int), ()))), (l, ())) = some (.inr ((), ())) := by
  have C := closN hc
  obtain ⟨hv, _⟩ := closeB_iff.1 hc
  obtain ⟨hn, _, hok⟩ := valid_iff.1 hv
  have hD : ∀ a b, rounds (W0 l) n a b < INF → -4200 ≤ rounds (W0 l) n a b ∧ rounds (W0 l) n a b ≤ 4200 := fun a b h => small_bound hc H h
  have ht : ∀ a b c, a < n → b < n → c < n → rounds (W0 l) n a b < INF → rounds (W0 l) n b c < INF → rounds (W0 l) n a c ≤ rounds (W0 l) n a b + rounds (W0 l) n b c := fun a b c h1 h2 h3 h4 h5 => (C.tri a b c h1 h2 h3 h4 h5).1
  rw [cloL_true hc]
  refine drop_e (loop_ind (f := l4_0_13) (Q := fun b => b = .inr ((), ())) (fun i a => a = (((i : Int), (gridL n n (rounds (W0 l) n), ((n : Int), ()))), (l, ()))) n (fun i a hi ha => ?_) (fun a ha => ?_) _ rfl)
  · subst ha
    refine ⟨_, ?_, rfl⟩
    obtain ⟨x0, f1, X0⟩ := loop419 (D := rounds (W0 l) n) (by omega) hi hD C.inf C.zero l
    obtain ⟨x, f2, X⟩ := loop423 (by omega) hi hD C.inf ht l x0 X0
    have hval : ∀ k, k < n → ∃ v, x[k]? = some v ∧ ((rounds (W0 l) n i k < INF ∧ v = rounds (W0 l) n i k) ∨ (¬ rounds (W0 l) n i k < INF ∧ ∃ j, j < n ∧ ¬ rounds (W0 l) n i j < INF ∧ rounds (W0 l) n j k < INF ∧ v = 1000000 + rounds (W0 l) n j k)) := fun k hk => by
      by_cases h : rounds (W0 l) n i k < INF
      · exact ⟨_, X.finn k hk h, .inl ⟨h, rfl⟩⟩
      · obtain ⟨j, j1, j2, j3, j4⟩ := X.inf k hk h
        exact ⟨_, j4, .inr ⟨h, j, j1, j2, j3, rfl⟩⟩
    have f3 := fits16 hv X.len (fun e he => by
      obtain ⟨k, hk⟩ := List.getElem?_of_mem he
      have hkn := (List.getElem?_eq_some_iff.1 hk).1
      rw [X.len] at hkn
      obtain ⟨v, v1, v2⟩ := hval k hkn
      rw [hk] at v1; cases v1
      rcases v2 with ⟨g1, rfl⟩ | ⟨_, j, _, _, g3, rfl⟩
      · have := hD _ _ g1; omega
      · have := hD _ _ g3; omega) (fun c hcm => by
      have Hc := H c hcm
      have p := ok_places (hok c hcm)
      have hedge : rounds (W0 l) n c.1.toNat c.2.1.toNat ≤ c.2.2.1 := C.edge c hcm _ _ p.2.2.1.symm p.2.2.2.symm
      have hefin : rounds (W0 l) n c.1.toNat c.2.1.toNat < INF := by have := Hc.2.2; unfold INF; omega
      obtain ⟨u, u1, u2⟩ := hval c.1.toNat p.1
      obtain ⟨v, v1, v2⟩ := hval c.2.1.toNat p.2.1
      simp only [List.getD_eq_getElem?_getD, u1, v1, Option.getD_some]
      rcases u2 with ⟨g1, rfl⟩ | ⟨g0, j, j1, j2, j3, rfl⟩
      · obtain ⟨t1, t2⟩ := C.tri i c.1.toNat c.2.1.toNat hi p.1 p.2.1 g1 hefin
        rcases v2 with ⟨_, rfl⟩ | ⟨h, _⟩
        · omega
        · exact absurd t2 h
      · obtain ⟨t1, t2⟩ := C.tri j c.1.toNat c.2.1.toNat j1 p.1 p.2.1 j3 hefin
        have b1 := hD _ _ j3
        have b2 := hD _ _ t2
        rcases v2 with ⟨g1, rfl⟩ | ⟨h, _⟩
        · have := hD _ _ g1
          have := Hc.2.2
          omega
        · obtain ⟨w, w1, w2⟩ := X.le j c.2.1.toNat j1 p.2.1 trivial h j2 t2
          rw [v1] at w1; cases w1
          omega)
    have hlen : (((((List.range n).map (rounds (W0 l) n i)).length : Int) : Int) != (n : Int)) = false := by simp
    have hz : (rounds (W0 l) n i i != 0) = false := by rw [C.zero i hi]; rfl
    have hg : decide ((0 : Int) ≤ (n : Int) ∧ (n : Int) ≤ (n : Int) ∧ (n : Int) ≤ 4294967296) = true := decide_eq_true (by omega)
    simp only [l4_0_13, lt_t hi, rowAt_G, sumE, sS]
    rw [rowG_nat (grid_at (m := n) (M := rounds (W0 l) n) hi)]
    simp only [hlen, cond_false]
    rw [rowG_nat (grid_at (m := n) (M := rounds (W0 l) n) hi), rowG_nat (line_at (f := rounds (W0 l) n i) hi)]
    simp only [hz, hg, Int.toNat_natCast, f1, f2, f3, sumE, sS, w64_nat (show i < 9223372036854775807 by omega)]
  · subst ha
    refine ⟨_, ?_, rfl⟩
    simp only [l4_0_13, lt_f, sumE, sS]

end Go.Proofs.Ytcklpclgiaeopaa

namespace Go.Proofs.Ytcklpclgiaeopaa
open Go Go.Abs Go.FW Go.Plain
/-- A row of numbers by their places. -/
def dL (n : Nat) (f : Nat → Int) : List Int := (List.range n).map f

theorem dL_len (n : Nat) (f : Nat → Int) : (dL n f).length = n := by unfold dL; rw [List.length_map, List.length_range]

theorem dL_at {n : Nat} {f : Nat → Int} {i : Nat} (h : i < n) : (dL n f)[i]? = some (f i) := line_at h

theorem dL_ext {n : Nat} {f g : Nat → Int} (h : ∀ i, i < n → f i = g i) : dL n f = dL n g := List.map_congr_left (fun i hi => h i (List.mem_range.1 hi))

theorem dL_set {n : Nat} {f : Nat → Int} {i : Nat} (h : i < n) (v : Int) : (dL n f).set i v = dL n (setN f i v) := by
  refine List.ext_getElem? (fun j => ?_)
  by_cases hj : j < n
  · rw [dL_at hj]
    by_cases e : j = i
    · subst e; rw [List.getElem?_set_self (by rw [dL_len]; omega)]; simp [setN]
    · rw [List.getElem?_set_ne (by omega), dL_at hj]; simp [setN, e]
  · rw [List.getElem?_eq_none (by rw [List.length_set, dL_len]; omega), List.getElem?_eq_none (by rw [dL_len]; omega)]

theorem dL_rep (n : Nat) : List.replicate n (0 : Int) = dL n (fun _ => 0) := by
  refine List.ext_getElem? (fun j => ?_)
  by_cases hj : j < n
  · rw [dL_at hj, List.getElem?_replicate, if_pos hj]
  · rw [List.getElem?_eq_none (by rw [List.length_replicate]; omega), List.getElem?_eq_none (by rw [dL_len]; omega)]

/-- A row of places. -/
def fL (n : Nat) (f : Nat → Nat) : List Int := dL n (fun x => (f x : Int))

theorem fL_set {n : Nat} {f : Nat → Nat} {i : Nat} (h : i < n) (v : Nat) : (fL n f).set i (v : Int) = fL n (setN f i v) := by
  unfold fL
  rw [dL_set h]
  refine dL_ext (fun j _ => ?_)
  unfold setN
  split <;> rfl

theorem fL_len (n : Nat) (f : Nat → Nat) : (fL n f).length = n := dL_len n _

theorem fL_at {n : Nat} {f : Nat → Nat} {i : Nat} (h : i < n) : (fL n f)[i]? = some ((f i : Nat) : Int) := dL_at h

section
variable {n : Nat} {l : List DT}
theorem dir_small (hv : validC n l = true) (i j : Nat) : dirM l i j < INF → -17179869184 ≤ dirM l i j ∧ dirM l i j ≤ 17179869184 := fun h => by
  obtain ⟨d, hd, _, _, he⟩ := dir_some h
  have := (okD_iff.1 ((valid_iff.1 hv).2.2 d hd)).2.2
  unfold DMX at this
  omega

theorem loop1413 (hv : validC n l = true) {r i : Nat} (hi : i < n) (n1 : Int) {dist : Nat → Int} {frm : Nat → Nat} {last : Nat} {R T : Nat → Nat} {clk c0 : Nat} (H : BF (dirM l) n (r + 1) i 0 dist frm last R T clk) (hc : clk ≤ c0) (hc0 : c0 ≤ 80000) :
    ∃ (dist' : Nat → Int) (frm' : Nat → Nat) (last' : Nat) (R' T' : Nat → Nat) (clk' : Nat), loopT l14_0_13 ((0, ((i : Int), (gridL n n (dirM l), ((n : Int), ((last : Int), (n1, ((r : Int), ((n : Int), ((i : Int), ((n : Int), ())))))))))), (dL n dist, (fL n frm, ()))) = some ((gridL n n (dirM l), ((n : Int), ((last' : Int), (n1, ((r : Int), ((n : Int), ((i : Int), ()))))))), (dL n dist', (fL n frm', ()))) ∧ BF (dirM l) n (r + 1) i n dist' frm' last' R' T' clk' ∧ clk' ≤ c0 + 41 := by
  obtain ⟨hn, _, _⟩ := valid_iff.1 hv
  obtain ⟨b, h1, dist', frm', last', R', T', clk', rfl, h2, h3⟩ := loop_ind (f := l14_0_13) (Q := fun b => ∃ (dist' : Nat → Int) (frm' : Nat → Nat) (last' : Nat) (R' T' : Nat → Nat) (clk' : Nat), b = ((gridL n n (dirM l), ((n : Int), ((last' : Int), (n1, ((r : Int), ((n : Int), ((i : Int), ()))))))), (dL n dist', (fL n frm', ()))) ∧ BF (dirM l) n (r + 1) i n dist' frm' last' R' T' clk' ∧ clk' ≤ c0 + 41)
    (fun j a => ∃ (dist : Nat → Int) (frm : Nat → Nat) (last : Nat) (R T : Nat → Nat) (clk : Nat), a = (((j : Int), ((i : Int), (gridL n n (dirM l), ((n : Int), ((last : Int), (n1, ((r : Int), ((n : Int), ((i : Int), ((n : Int), ())))))))))), (dL n dist, (fL n frm, ()))) ∧ BF (dirM l) n (r + 1) i j dist frm last R T clk ∧ clk ≤ c0 + j) n
    (fun j a hj ha => by
      obtain ⟨dist, frm, last, R, T, clk, rfl, H, hc⟩ := ha
      have g := fun (B : Type) (F : Int → Option B) => grid_G (M := dirM l) hi hj F
      have hw := w64_nat (show j < 9223372036854775807 by omega)
      by_cases hf : dirM l i j < INF
      · have hd := dir_small hv i j hf
        have hne : (dirM l i j != 1099511627776) = true := bne_iff_ne.2 (by unfold INF at hf; omega)
        have l1 := H.low i hi
        have l2 := H.low j hj
        have hww : w64 (dist i + dirM l i j) = dist i + dirM l i j := by
          unfold DMX at l1
          exact w64_id (by omega) (by omega)
        by_cases hs : dist i + dirM l i j < dist j
        · refine ⟨_, ?_, setN dist j (dist i + dirM l i j), setN frm j i, j, setN R j (r + 1), setN T j (clk + 1), clk + 1, rfl, H.fall (fun a b h => by have := dir_small hv a b h; unfold DMX; omega) (by omega) hi hj hf hs, by omega⟩
          have k1 : decide ((0 : Int) ≤ (j : Int) ∧ (j : Int) < ((dL n dist).length : Int)) = true := decide_eq_true (by rw [dL_len]; omega)
          have k2 : decide ((j : Int).toNat < (dL n dist).length) = true := decide_eq_true (by rw [dL_len]; omega)
          have k3 : decide ((0 : Int) ≤ (j : Int) ∧ (j : Int) < ((fL n frm).length : Int)) = true := decide_eq_true (by rw [fL_len]; omega)
          have k4 : decide ((j : Int).toNat < (fL n frm).length) = true := decide_eq_true (by rw [fL_len]; omega)
          simp only [l14_0_13, lt_t hj, rowAt_G, blk_G, sumE, sS]
          simp only [g, hne, rowG_nat (dL_at hi), rowG_nat (dL_at hj), hww, decide_eq_true hs, sumE, sS]
          simp only [g, k1, k2, k3, k4, rowG_nat (dL_at hi), hww, hw, sumE, sS]
          rw [Int.toNat_natCast, dL_set hj, fL_set hj]
        · refine ⟨_, ?_, dist, frm, last, R, T, clk, rfl, H.skip (by omega) (fun h => hs h.2), by omega⟩
          simp only [l14_0_13, lt_t hj, rowAt_G, blk_G, sumE, sS]
          simp only [g, hne, rowG_nat (dL_at hi), rowG_nat (dL_at hj), hww, decide_eq_false hs, hw, sumE, sS]
      · have hne : (dirM l i j != 1099511627776) = false := by
          have := dir_inf l i j
          unfold INF at hf this
          rw [show dirM l i j = 1099511627776 by omega]; rfl
        refine ⟨_, ?_, dist, frm, last, R, T, clk, rfl, H.skip (by omega) (fun h => hf h.1), by omega⟩
        simp only [l14_0_13, lt_t hj, rowAt_G, blk_G, sumE, sS]
        simp only [g, hne, hw, sumE, sS])
    (fun a ha => by
      obtain ⟨dist, frm, last, R, T, clk, rfl, H, hc⟩ := ha
      refine ⟨_, ?_, dist, frm, last, R, T, clk, rfl, H, by omega⟩
      simp only [l14_0_13, lt_f, sumE, sS])
    ((0, ((i : Int), (gridL n n (dirM l), ((n : Int), ((last : Int), (n1, ((r : Int), ((n : Int), ((i : Int), ((n : Int), ())))))))))), (dL n dist, (fL n frm, ()))) ⟨dist, frm, last, R, T, clk, rfl, H, hc⟩
  exact ⟨dist', frm', last', R', T', clk', h1, h2, h3⟩

theorem loop1410 (hv : validC n l = true) {r : Nat} (n1 : Int) {dist : Nat → Int} {frm : Nat → Nat} {last : Nat} {R T : Nat → Nat} {clk c0 : Nat} (H : BF (dirM l) n (r + 1) 0 0 dist frm last R T clk) (hc : clk ≤ c0) (hc0 : c0 ≤ 75000) :
    ∃ (dist' : Nat → Int) (frm' : Nat → Nat) (last' : Nat) (R' T' : Nat → Nat) (clk' : Nat), loopT l14_0_10 ((gridL n n (dirM l), (0, ((n : Int), ((last : Int), (n1, ((r : Int), ((n : Int), ()))))))), (dL n dist, (fL n frm, ()))) = some ((gridL n n (dirM l), ((n : Int), ((last' : Int), (n1, ((r : Int), ()))))), (dL n dist', (fL n frm', ()))) ∧ BF (dirM l) n (r + 1) n 0 dist' frm' last' R' T' clk' ∧ clk' ≤ c0 + 1681 := by
  obtain ⟨hn, _, _⟩ := valid_iff.1 hv
  obtain ⟨b, h1, dist', frm', last', R', T', clk', rfl, h2, h3⟩ := loop_ind (f := l14_0_10) (Q := fun b => ∃ (dist' : Nat → Int) (frm' : Nat → Nat) (last' : Nat) (R' T' : Nat → Nat) (clk' : Nat), b = ((gridL n n (dirM l), ((n : Int), ((last' : Int), (n1, ((r : Int), ()))))), (dL n dist', (fL n frm', ()))) ∧ BF (dirM l) n (r + 1) n 0 dist' frm' last' R' T' clk' ∧ clk' ≤ c0 + 1681)
    (fun i a => ∃ (dist : Nat → Int) (frm : Nat → Nat) (last : Nat) (R T : Nat → Nat) (clk : Nat), a = ((gridL n n (dirM l), ((i : Int), ((n : Int), ((last : Int), (n1, ((r : Int), ((n : Int), ()))))))), (dL n dist, (fL n frm, ()))) ∧ BF (dirM l) n (r + 1) i 0 dist frm last R T clk ∧ clk ≤ c0 + 41 * i) n
    (fun i a hi ha => by
      obtain ⟨dist, frm, last, R, T, clk, rfl, H, hc⟩ := ha
      obtain ⟨dist', frm', last', R', T', clk', f, H', hc'⟩ := loop1413 hv hi n1 H hc (by omega)
      refine ⟨_, ?_, dist', frm', last', R', T', clk', rfl, H'.row_end, by omega⟩
      simp only [l14_0_10, lt_t hi, f, sumE, sS, w64_nat (show i < 9223372036854775807 by omega)])
    (fun a ha => by
      obtain ⟨dist, frm, last, R, T, clk, rfl, H, hc⟩ := ha
      refine ⟨_, ?_, dist, frm, last, R, T, clk, rfl, H, by omega⟩
      simp only [l14_0_10, lt_f, sumE, sS])
    ((gridL n n (dirM l), (0, ((n : Int), ((last : Int), (n1, ((r : Int), ((n : Int), ()))))))), (dL n dist, (fL n frm, ()))) ⟨dist, frm, last, R, T, clk, rfl, H, hc⟩
  exact ⟨dist', frm', last', R', T', clk', h1, h2, h3⟩

theorem loop148 (hv : validC n l = true) (hcl : closeB n l = false) :
    ∃ (dist : Nat → Int) (frm : Nat → Nat) (last : Nat) (R T : Nat → Nat) (clk q : Nat), loopT l14_0_8 ((gridL n n (dirM l), ((n : Int), (0, (0, (((n + 1 : Nat) : Int), ()))))), (dL n (fun _ => 0), (fL n (fun _ => 0), ()))) = some (((last : Int), ((n : Int), ())), (fL n frm, ())) ∧ BF (dirM l) n q 0 0 dist frm last R T clk ∧ R last = n + 1 := by
  obtain ⟨hn, _, _⟩ := valid_iff.1 hv
  obtain ⟨b, h1, dist, frm, last, R, T, clk, rfl, h2, h3⟩ := loop_ind (f := l14_0_8) (Q := fun b => ∃ (dist : Nat → Int) (frm : Nat → Nat) (last : Nat) (R T : Nat → Nat) (clk : Nat), b = (((last : Int), ((n : Int), ())), (fL n frm, ())) ∧ BF (dirM l) n (n + 2) 0 0 dist frm last R T clk ∧ R last = n + 1)
    (fun r a => ∃ (dist : Nat → Int) (frm : Nat → Nat) (last : Nat) (R T : Nat → Nat) (clk : Nat), a = ((gridL n n (dirM l), ((n : Int), ((r : Int), ((last : Int), (((n + 1 : Nat) : Int), ()))))), (dL n dist, (fL n frm, ()))) ∧ BF (dirM l) n (r + 1) 0 0 dist frm last R T clk ∧ clk ≤ 1681 * r ∧ (r = n + 1 → R last = n + 1)) (n + 1)
    (fun r a hr ha => by
      obtain ⟨dist, frm, last, R, T, clk, rfl, H, hc, _⟩ := ha
      obtain ⟨dist', frm', last', R', T', clk', f, H', hc'⟩ := loop1410 hv ((n + 1 : Nat) : Int) H hc (by omega)
      refine ⟨_, ?_, dist', frm', last', R', T', clk', rfl, H'.round_end, by omega, fun e => ?_⟩
      · simp only [l14_0_8, lt_t hr, f, sumE, sS, w64_nat (show r < 9223372036854775807 by omega)]
      · obtain rfl : r = n := by omega
        exact H'.fell hv hcl (Int.toNat_natCast _))
    (fun a ha => by
      obtain ⟨dist, frm, last, R, T, clk, rfl, H, hc, hR⟩ := ha
      refine ⟨_, ?_, dist, frm, last, R, T, clk, rfl, H, hR rfl⟩
      simp only [l14_0_8, lt_f, sumE, sS])
    ((gridL n n (dirM l), ((n : Int), (0, (0, (((n + 1 : Nat) : Int), ()))))), (dL n (fun _ => 0), (fL n (fun _ => 0), ()))) ⟨fun _ => 0, fun _ => 0, 0, fun _ => 0, fun _ => 0, 0, rfl, BF.start (by omega), Nat.zero_le _, fun e => (by omega)⟩
  exact ⟨dist, frm, last, R, T, clk, n + 2, h1, h2, h3⟩

theorem loop1421 (hn : n ≤ 41) {frm : Nat → Nat} {last : Nat} (hb : ∀ k, back frm last k < n) : loopT l14_0_21 ((0, ((last : Int), ((n : Int), ()))), (fL n frm, ())) = some ((((back frm last n : Nat) : Int), ()), (fL n frm, ())) := by
  refine drop_e (loop_ind (f := l14_0_21) (Q := fun b => b = ((((back frm last n : Nat) : Int), ()), (fL n frm, ()))) (fun k a => a = (((k : Int), (((back frm last k : Nat) : Int), ((n : Int), ()))), (fL n frm, ()))) n (fun k a hk ha => ?_) (fun a ha => ?_) _ rfl)
  · subst ha
    refine ⟨_, ?_, rfl⟩
    simp only [l14_0_21, lt_t hk, blk_G, rowG_nat (fL_at (hb k)), sumE, sS, w64_nat (show k < 9223372036854775807 by omega)]
    rfl
  · subst ha
    refine ⟨_, ?_, rfl⟩
    simp only [l14_0_21, lt_f, sumE, sS]

theorem loop1426 {frm : Nat → Nat} {x p : Nat} (hp : 0 < p) (hpn : p ≤ 41) (hx : back frm x p = x) (hl : ∀ q, 0 < q → q < p → back frm x q ≠ x) (hb : ∀ k, back frm x k < n) :
    loopT l14_0_26 (((x : Int), ((x : Int), ())), (fL n frm, ([], ()))) = some ((), (dL p (fun k => ((back frm x k : Nat) : Int)), ())) := by
  refine drop_e (loop_ind (f := l14_0_26) (Q := fun b => b = ((), (dL p (fun k => ((back frm x k : Nat) : Int)), ()))) (fun k a => a = ((((back frm x k : Nat) : Int), ((x : Int), ())), (fL n frm, (dL k (fun k => ((back frm x k : Nat) : Int)), ())))) p (fun k a hk ha => ?_) (fun a ha => ?_) _ rfl)
  · subst ha
    refine ⟨_, ?_, rfl⟩
    have hgo : (bif ((((dL k (fun k => ((back frm x k : Nat) : Int))).length : Nat) : Int) == 0) then true else ((((back frm x k : Nat) : Int)) != (x : Int))) = true := by
      rw [dL_len]
      by_cases e : k = 0
      · subst e; rfl
      · rw [beq_eq_false_iff_ne.2 (show ((k : Nat) : Int) ≠ 0 by omega), cond_false, bne_iff_ne]
        have := hl k (by omega) hk
        omega
    have hg : decide ((dL k (fun k => ((back frm x k : Nat) : Int))).length + [((back frm x k : Nat) : Int)].length ≤ 4294967296) = true := decide_eq_true (by rw [dL_len]; simp; omega)
    have hap : dL k (fun k => ((back frm x k : Nat) : Int)) ++ [((back frm x k : Nat) : Int)] = dL (k + 1) (fun k => ((back frm x k : Nat) : Int)) := by
      unfold dL
      rw [List.range_succ, List.map_append]; rfl
    unfold l14_0_26
    simp only [blk_G]
    cases h0 : ((((dL k (fun k => ((back frm x k : Nat) : Int))).length : Nat) : Int) == 0)
    · rw [h0, cond_false] at hgo
      simp only [hgo, hg, rowG_nat (fL_at (hb k)), hap, sumE, sS]
      rfl
    · simp only [hg, rowG_nat (fL_at (hb k)), hap, sumE, sS]
      rfl
  · subst ha
    refine ⟨_, ?_, rfl⟩
    have h0 : ((((dL p (fun k => ((back frm x k : Nat) : Int))).length : Nat) : Int) == 0) = false := by
      rw [dL_len]; exact beq_eq_false_iff_ne.2 (by omega)
    simp only [l14_0_26, h0, hx, sumE, sS]

theorem rev1411 {p : Nat} (hp : 0 < p) (hpn : p ≤ 41) (g : Nat → Int) : loopT l14_1_1 ((((p : Int) - 1), (0, ())), (dL p g, ())) = some ((), (dL p (fun k => g (p - 1 - k)), ())) := by
  refine drop_e (loop_ind (f := l14_1_1) (Q := fun b => b = ((), (dL p (fun k => g (p - 1 - k)), ()))) (fun b a => a = ((((p : Int) - 1 - b), ((b : Int), ())), (dL p (fun k => if k < b ∨ p - 1 - b < k then g (p - 1 - k) else g k), ()))) (p / 2) (fun b a hb ha => ?_) (fun a ha => ?_) _ ?_)
  · subst ha
    refine ⟨_, ?_, rfl⟩
    obtain ⟨q, hq⟩ : ∃ q : Nat, q = p - 1 - b := ⟨_, rfl⟩
    have e : (p : Int) - 1 - b = (q : Int) := by omega
    rw [e]
    have hqp : q < p := by omega
    have hbp : b < p := by omega
    generalize hF : (fun k => if k < b ∨ p - 1 - b < k then g (p - 1 - k) else g k) = F
    have k1 : decide ((0 : Int) ≤ (b : Int) ∧ (b : Int) < ((dL p F).length : Int)) = true := decide_eq_true (by rw [dL_len]; omega)
    have k2 : decide ((b : Int).toNat < (dL p F).length) = true := decide_eq_true (by rw [dL_len]; omega)
    have k3 : ∀ v, decide ((0 : Int) ≤ (q : Int) ∧ (q : Int) < ((((dL p F).set (b : Int).toNat v).length : Nat) : Int)) = true := fun v => decide_eq_true (by rw [List.length_set, dL_len]; omega)
    have k4 : ∀ v, decide ((q : Int).toNat < ((dL p F).set (b : Int).toNat v).length) = true := fun v => decide_eq_true (by rw [List.length_set, dL_len]; omega)
    have w1 : w64 ((q : Int) - 1) = (p : Int) - 1 - (b + 1 : Nat) := by rw [w64_id (by omega) (by omega)]; omega
    have hlt : decide ((b : Int) < (q : Int)) = true := decide_eq_true (by omega)
    simp only [l14_1_1, hlt, blk_G, rowG_nat (dL_at hqp), rowG_nat (dL_at hbp), sumE, sS]
    simp only [k1, k2, k3, k4, w1, w64_nat (show b < 9223372036854775807 by omega), sumE, sS]
    rw [Int.toNat_natCast, Int.toNat_natCast, dL_set hbp, dL_set hqp]
    refine congrArg (fun z => some (Sum.inl (((p : Int) - 1 - ((b + 1 : Nat) : Int), (((b + 1 : Nat) : Int), ())), (z, ())))) (dL_ext (fun k hk => ?_))
    subst hF
    unfold setN
    dsimp only
    by_cases e1 : k = q
    · rw [if_pos e1, if_neg (by omega), if_pos (by omega)]
      congr 1; omega
    · rw [if_neg e1]
      by_cases e2 : k = b
      · rw [if_pos e2, if_neg (by omega), if_pos (by omega)]
        congr 1; omega
      · rw [if_neg e2]
        by_cases e3 : k < b ∨ p - 1 - b < k
        · rw [if_pos e3, if_pos (by omega)]
        · rw [if_neg e3, if_neg (by omega)]
  · subst ha
    refine ⟨_, ?_, rfl⟩
    have hlt : decide (((p / 2 : Nat) : Int) < (p : Int) - 1 - ((p / 2 : Nat) : Int)) = false := decide_eq_false (by omega)
    simp only [l14_1_1, hlt, sumE, sS]
    refine congrArg (fun z => some (Sum.inr ((), (z, ())))) (dL_ext (fun k hk => ?_))
    by_cases e3 : k < p / 2 ∨ p - 1 - p / 2 < k
    · rw [if_pos e3]
    · rw [if_neg e3]
      congr 1; omega
  · have : dL p g = dL p (fun k => if k < 0 ∨ p - 1 - 0 < k then g (p - 1 - k) else g k) := dL_ext (fun k hk => by rw [if_neg (by omega)])
    rw [this, Int.natCast_zero, Int.sub_zero]

/-- Cycle, without a closure. -/
theorem cycle14 (hv : validC n l = true) (hcl : closeB n l = false) : ∃ (frm : Nat → Nat) (x p : Nat), m14 (((n : Int), (l, ())), ()) = some ((true, ()), (dL p (fun k => ((back frm x (p - 1 - k) : Nat) : Int)), ())) ∧ 0 < p ∧ p ≤ n ∧ back frm x p = x ∧ (∀ q, 0 < q → q < p → back frm x q ≠ x) ∧ (∀ k, back frm x k < n) ∧ backW (dirM l) frm x p < 0 ∧ ∀ k, dirM l (frm (back frm x k)) (back frm x k) < INF := by
  obtain ⟨hn, _, _⟩ := valid_iff.1 hv
  obtain ⟨dist, frm, last, R, T, clk, q, f1, H, hR⟩ := loop148 hv hcl
  obtain ⟨p, p1, p2, p3, p4, p5⟩ := H.cycle (by omega)
  obtain ⟨n1, n2⟩ := H.negative p1 p3 p5
  have hb := fun k => (p5 k).1
  have f2 := loop1421 (n := n) (by omega) (fun k => (H.chain H.lst k).1)
  have f3 := loop1426 (n := n) p1 (by omega) p3 p4 hb
  have f4 := rev1411 p1 (by omega) (fun k => ((back frm (back frm last n) k : Nat) : Int))
  refine ⟨frm, back frm last n, p, ?_, p1, p2, p3, p4, hb, n1, n2⟩
  unfold m14 cloB vldB
  have hg : decide ((0 : Int) ≤ (n : Int) ∧ (n : Int) ≤ (n : Int) ∧ (n : Int) ≤ 4294967296) = true := decide_eq_true (by omega)
  have hd : dirL (n : Int) l = gridL n n (dirM l) := by unfold dirL; rw [Int.toNat_natCast]
  have hr : List.replicate n (0 : Int) = fL n (fun _ => 0) := dL_rep n
  have hw : w64 ((p : Int) - 1) = (p : Int) - 1 := w64_id (by omega) (by omega)
  simp only [hcl, m24_eq, hv, hg, hd, Int.toNat_natCast, w64_nat (show n < 9223372036854775807 by omega), sumE, sS]
  rw [show ((List.replicate n (0 : Int)), ((List.replicate n (0 : Int)), ())) = (dL n (fun _ => 0), (fL n (fun _ => 0), ())) by rw [← dL_rep, ← hr]]
  rw [f1]
  simp only [f2, f3, dL_len, hw, f4, sumE, sS]

end
end Go.Proofs.Ytcklpclgiaeopaa

namespace Go.Proofs.Ytcklpclgiaeopaa
open Go Go.Abs Go.FW Go.Plain
theorem has33 (l : List Int) (e : Int) (hl : l.length ≤ 4000) (h : e ∉ l) : m33 ((l, (e, ())), ()) = some ((false, ()), ()) := by
  have a : loopT l33_0_2 ((0, (e, (l, ()))), ()) = some (.inr ((), ())) := by
    refine loop_thru (f := l33_0_2) l (fun i => (((i : Int), (e, (l, ()))), ())) _ (fun i x hx hi => ?_) ?_
    · have hne : (x == e) = false := beq_eq_false_iff_ne.2 (fun he => h (he ▸ List.mem_of_getElem? hx))
      simp only [l33_0_2, rowAt_G, rowG_nat hx, lt_t hi, hne, sumE, sS, w64_nat (show i < 9223372036854775807 by omega)]
    · simp only [l33_0_2, lt_f, sumE, sS]
  unfold m33
  rw [a]; rfl

def stepD (u v : Nat) (m : Int) (d : DT) : Int := if d.1 = (u : Int) ∧ d.2.1 = (v : Int) then min m d.2.2.1 else m

theorem best1511 {n : Nat} {l : List DT} (hv : validC n l = true) (cyc : List Int) (i : Nat) {u v : Nat} (hu : cyc[i]? = some (u : Int)) (hi1 : i + 1 ≤ 4000) (hcl : 0 < cyc.length) (hvv : rowG cyc ((((i + 1 : Nat) : Int)).tmod (cyc.length : Int)) (fun e => some e) = some (v : Int)) (N s : Int) (hf : dirM l u v < INF) :
    loopT l15_0_11 ((0, (l, (0, (false, (cyc, ((i : Int), (N, (s, ())))))))), ()) = some ((l, (cyc, (N, ((i : Int), (dirM l u v, (s, (true, ()))))))), ()) := by
  obtain ⟨hn, hll, hok⟩ := valid_iff.1 hv
  have hmod : ∃ t : Nat, (((i + 1 : Nat) : Int)).tmod (cyc.length : Int) = (t : Int) ∧ cyc[t]? = some (v : Int) := by
    refine ⟨(i + 1) % cyc.length, ?_, ?_⟩
    · rw [Int.tmod_eq_emod_of_nonneg (by omega)]; rfl
    · have e : (((i + 1 : Nat) : Int)).tmod (cyc.length : Int) = (((i + 1) % cyc.length : Nat) : Int) := by
        rw [Int.tmod_eq_emod_of_nonneg (by omega)]; rfl
      rw [e] at hvv
      obtain ⟨x, hx⟩ := getD_some (l := cyc) (i := (i + 1) % cyc.length) (Nat.mod_lt _ hcl)
      rw [rowG_nat hx] at hvv
      cases hvv
      exact hx
  obtain ⟨t, ht, htv⟩ := hmod
  have hw1 : w64 ((i : Int) + 1) = ((i + 1 : Nat) : Int) := w64_nat (by omega)
  have hne0 : decide ((cyc.length : Int) ≠ (0 : Int)) = true := decide_eq_true (by omega)
  refine drop_e (loop_ind (f := l15_0_11) (Q := fun b => b = ((l, (cyc, (N, ((i : Int), (dirM l u v, (s, (true, ()))))))), ()))
    (fun k a => ∃ (best : Int) (found : Bool), a = (((k : Int), (l, (best, (found, (cyc, ((i : Int), (N, (s, ())))))))), ()) ∧ ((found = false ∧ (l.take k).foldl (stepD u v) INF = INF) ∨ (found = true ∧ (l.take k).foldl (stepD u v) INF = best))) l.length
    (fun k a hk ha => ?_) (fun a ha => ?_) _ ⟨0, false, rfl, .inl ⟨rfl, rfl⟩⟩)
  · obtain ⟨best, found, rfl, hb⟩ := ha
    obtain ⟨d, hd⟩ := getD_some hk
    have hnext : (l.take (k + 1)).foldl (stepD u v) INF = stepD u v ((l.take k).foldl (stepD u v) INF) d := by
      rw [List.take_add_one, hd, List.foldl_append]; rfl
    have hdm := (okD_iff.1 (hok d (List.mem_of_getElem? hd))).2.2
    have hwk := w64_nat (show k < 9223372036854775807 by omega)
    by_cases c1 : d.1 = (u : Int)
    · by_cases c2 : d.2.1 = (v : Int)
      · have hst : ∀ m, stepD u v m d = min m d.2.2.1 := fun m => by unfold stepD; rw [if_pos ⟨c1, c2⟩]
        have e1 : (d.1 == (u : Int)) = true := beq_iff_eq.2 c1
        have e2 : (d.2.1 == (v : Int)) = true := beq_iff_eq.2 c2
        cases found
        · rcases hb with ⟨_, hb⟩ | ⟨h, _⟩
          · refine ⟨_, ?_, d.2.2.1, true, rfl, .inr ⟨rfl, ?_⟩⟩
            · simp only [l15_0_11, lt_t hk, rowAt_G, rowG_nat hd, rowG_nat hu, hw1, ht, rowG_nat htv, hne0, e1, e2, hwk, sumE, sS]
            · rw [hnext, hb, hst]
              unfold INF; unfold DMX at hdm; omega
          · cases h
        · rcases hb with ⟨h, _⟩ | ⟨_, hb⟩
          · cases h
          · by_cases c3 : d.2.2.1 < best
            · refine ⟨_, ?_, d.2.2.1, true, rfl, .inr ⟨rfl, ?_⟩⟩
              · simp only [l15_0_11, lt_t hk, rowAt_G, rowG_nat hd, rowG_nat hu, hw1, ht, rowG_nat htv, hne0, e1, e2, hwk, decide_eq_true c3, sumE, sS]
              · rw [hnext, hb, hst]; omega
            · refine ⟨_, ?_, best, true, rfl, .inr ⟨rfl, ?_⟩⟩
              · simp only [l15_0_11, lt_t hk, rowAt_G, rowG_nat hd, rowG_nat hu, hw1, ht, rowG_nat htv, hne0, e1, e2, hwk, decide_eq_false c3, sumE, sS]
              · rw [hnext, hb, hst]; omega
      · have e1 : (d.1 == (u : Int)) = true := beq_iff_eq.2 c1
        have e2 : (d.2.1 == (v : Int)) = false := beq_eq_false_iff_ne.2 c2
        refine ⟨_, ?_, best, found, rfl, ?_⟩
        · simp only [l15_0_11, lt_t hk, rowAt_G, rowG_nat hd, rowG_nat hu, hw1, ht, rowG_nat htv, hne0, e1, e2, hwk, sumE, sS]
        · rw [hnext]; unfold stepD at *; rw [if_neg (fun h => c2 h.2)]; exact hb
    · have e1 : (d.1 == (u : Int)) = false := beq_eq_false_iff_ne.2 c1
      refine ⟨_, ?_, best, found, rfl, ?_⟩
      · simp only [l15_0_11, lt_t hk, rowAt_G, rowG_nat hd, rowG_nat hu, e1, hwk, sumE, sS]
      · rw [hnext]; unfold stepD at *; rw [if_neg (fun h => c1 h.1)]; exact hb
  · obtain ⟨best, found, rfl, hb⟩ := ha
    rw [List.take_length] at hb
    have hm : l.foldl (stepD u v) INF = dirM l u v := rfl
    rw [hm] at hb
    rcases hb with ⟨_, h⟩ | ⟨rfl, h⟩
    · omega
    · subst h
      refine ⟨_, ?_, rfl⟩
      simp only [l15_0_11, lt_f, sumE, sS]

theorem back_per {frm : Nat → Nat} {x p : Nat} (hx : back frm x p = x) (hl : ∀ q, 0 < q → q < p → back frm x q ≠ x) {a b : Nat} (hab : a < b) (hb : b < p) : back frm x a ≠ back frm x b := fun e => by
  have h1 : back frm x (a + (p - b)) = back frm x (b + (p - b)) := by rw [back_add, back_add, e]
  rw [show b + (p - b) = p by omega, hx] at h1
  exact hl (a + (p - b)) (by omega) (by omega) h1

theorem contra15 {n : Nat} {l : List DT} (hv : validC n l = true) {frm : Nat → Nat} {x p : Nat} (hp : 0 < p) (hpn : p ≤ n) (hx : back frm x p = x) (hl : ∀ q, 0 < q → q < p → back frm x q ≠ x) (hb : ∀ k, back frm x k < n) (hneg : backW (dirM l) frm x p < 0) (hfin : ∀ k, dirM l (frm (back frm x k)) (back frm x k) < INF) :
    m15 (((n : Int), (l, (dL p (fun k => ((back frm x (p - 1 - k) : Nat) : Int)), ()))), ()) = some ((true, ()), ()) := by
  obtain ⟨hn, hll, hok⟩ := valid_iff.1 hv
  generalize hC : dL p (fun k => ((back frm x (p - 1 - k) : Nat) : Int)) = cyc
  have hcl : cyc.length = p := by rw [← hC, dL_len]
  have hca : ∀ i, i < p → cyc[i]? = some ((back frm x (p - 1 - i) : Nat) : Int) := fun i hi => by rw [← hC]; exact dL_at hi
  have hsm : ∀ k, -17179869184 ≤ dirM l (frm (back frm x k)) (back frm x k) ∧ dirM l (frm (back frm x k)) (back frm x k) ≤ 17179869184 := fun k => dir_small hv _ _ (hfin k)
  have hw : w64 ((n : Int) - 1) = (n : Int) - 1 := w64_id (by omega) (by omega)
  have key : ∃ b, loopT l15_0_5 ((l, (cyc, (0, (0, ((n : Int), ()))))), ()) = some b ∧ b = .inr ((backW (dirM l) frm x p, ()), ()) := by
    refine loop_ind (f := l15_0_5) (fun i a => ∃ s : Int, a = ((l, (cyc, ((i : Int), (s, ((n : Int), ()))))), ()) ∧ -(17179869184 * (i : Int)) ≤ s ∧ s ≤ 17179869184 * (i : Int) ∧ (i < p → s + backW (dirM l) frm x (p - 1 - i) = backW (dirM l) frm x (p - 1)) ∧ (i = p → s = backW (dirM l) frm x p)) p
      (fun i a hi ha => ?_) (fun a ha => ?_) _ ⟨0, rfl, by omega, by omega, fun _ => by rw [Int.zero_add, Nat.sub_zero], fun e => (by omega)⟩
    · obtain ⟨s, rfl, s1, s2, s3, _⟩ := ha
      have hci := hca i hi
      obtain ⟨k, hk⟩ : ∃ k : Nat, k = if i + 1 = p then p - 1 else p - 2 - i := ⟨_, rfl⟩
      -- the edge from this place to the next
      have hfrom : back frm x (p - 1 - i) = frm (back frm x k) := by
        by_cases e : i + 1 = p
        · rw [hk, if_pos e, show p - 1 - i = 0 by omega]
          show x = back frm x (p - 1 + 1)
          rw [show p - 1 + 1 = p by omega, hx]
        · rw [hk, if_neg e, show p - 1 - i = (p - 2 - i) + 1 by omega]; rfl
      have hto : rowG cyc ((((i + 1 : Nat) : Int)).tmod (cyc.length : Int)) (fun e => some e) = some ((back frm x k : Nat) : Int) := by
        rw [hcl, Int.tmod_eq_emod_of_nonneg (by omega), show (((i + 1 : Nat) : Int)) % (p : Int) = (((i + 1) % p : Nat) : Int) from rfl]
        by_cases e : i + 1 = p
        · rw [e, Nat.mod_self, rowG_nat (hca 0 hp), hk, if_pos e]; rfl
        · rw [Nat.mod_eq_of_lt (by omega), rowG_nat (hca (i + 1) (by omega)), hk, if_neg e, show p - 1 - (i + 1) = p - 2 - i by omega]
      have hfi := hfin k
      rw [← hfrom] at hfi
      have f1 := best1511 hv cyc i hci (by omega) (by omega) hto (n : Int) s hfi
      have hs := hsm k
      rw [← hfrom] at hs
      have hws : w64 (s + dirM l (back frm x (p - 1 - i)) (back frm x k)) = s + dirM l (back frm x (p - 1 - i)) (back frm x k) := w64_id (by omega) (by omega)
      have hin : decide ((0 : Int) ≤ ((back frm x (p - 1 - i) : Nat) : Int) ∧ ((back frm x (p - 1 - i) : Nat) : Int) ≤ (n : Int) - 1) = true := decide_eq_true (by have := hb (p - 1 - i); omega)
      have hnot : ((back frm x (p - 1 - i) : Nat) : Int) ∉ cyc.take i := fun hm => by
        obtain ⟨q, hq⟩ := List.getElem?_of_mem hm
        rw [List.getElem?_take] at hq
        split at hq
        · rw [hca q (by omega)] at hq
          have := back_per hx hl (a := p - 1 - i) (b := p - 1 - q) (by omega) (by omega)
          have := Option.some.inj hq
          omega
        · cases hq
      have f2 := has33 (cyc.take i) ((back frm x (p - 1 - i) : Nat) : Int) (by rw [List.length_take]; omega) hnot
      refine ⟨_, ?_, s + dirM l (back frm x (p - 1 - i)) (back frm x k), rfl, ?_, ?_, fun h => ?_, fun h => ?_⟩
      · have h1 : decide ((i : Int) < (cyc.length : Int)) = true := decide_eq_true (by omega)
        have h2 : decide ((0 : Int) ≤ (i : Int)) = true := decide_eq_true (by omega)
        have h3 : decide (0 ≤ i ∧ i ≤ cyc.length) = true := decide_eq_true (by omega)
        simp only [l15_0_5, h1, rowAt_G, rowG_nat hci, sumE, sS]
        simp only [m32_eq', hw, hin, h2, Int.toNat_natCast, h3, f2, f1, hws, sumE, sS, w64_nat (show i < 9223372036854775807 by omega)]
      · omega
      · omega
      · have := s3 hi
        have e : i + 1 ≠ p := by omega
        rw [hfrom]
        have hk' : k = p - 2 - i := by rw [hk, if_neg e]
        have hstep : backW (dirM l) frm x (p - 1 - i) = backW (dirM l) frm x k + dirM l (frm (back frm x k)) (back frm x k) := by
          rw [show p - 1 - i = k + 1 by omega]; rfl
        rw [show p - 1 - (i + 1) = k by omega]
        omega
      · have := s3 hi
        rw [hfrom]
        have hk' : k = p - 1 := by rw [hk, if_pos h]
        have hstep : backW (dirM l) frm x p = backW (dirM l) frm x k + dirM l (frm (back frm x k)) (back frm x k) := by
          rw [show p = k + 1 by omega]; rfl
        rw [show p - 1 - i = 0 by omega] at this
        have h0 : backW (dirM l) frm x 0 = 0 := rfl
        rw [hk'] at hstep ⊢
        omega
    · obtain ⟨s, rfl, _, _, _, s4⟩ := ha
      rw [s4 rfl]
      refine ⟨_, ?_, rfl⟩
      have h1 : decide ((p : Int) < (cyc.length : Int)) = false := decide_eq_false (by omega)
      simp only [l15_0_5, h1, sumE, sS]
  have key := drop_e key
  unfold m15
  have h0 : (((cyc.length : Int) : Int) == 0) = false := beq_eq_false_iff_ne.2 (by omega)
  simp only [m25_eq, hv, h0, key, decide_eq_true hneg, sumE, sS]

theorem law4 : ∀ x, Abs.InRs [.row (.int .i64)] x → m4 (x, ()) = some ((true, ()), ()) := by
  intro x _
  have ex : x = ((show List Int from x.1), ()) := rfl
  rw [ex]
  generalize (show List Int from x.1) = ds
  clear ex
  unfold m4
  simp only [light8, sane9, roll10, sumE, sS]
  by_cases hds : ds.length ≤ 500
  · obtain ⟨r, d1, e1, hd1, hr, _⟩ := next_spec 6 (ds, 0, ()) (dok0 hds) (by omega)
    have hr := hr (by omega)
    obtain ⟨n, hn⟩ : ∃ n : Nat, (n : Int) = 1 + r := ⟨(1 + r).toNat, by omega⟩
    have hw : w64 (1 + r) = (n : Int) := by rw [w64_id (by omega) (by omega), hn]
    obtain ⟨l, d2, e2, hd2, H, hl⟩ := diffs12 (n := n) (by omega) (by omega) d1 hd1
    have hv : validC n l = true := small_valid (by omega) (by omega) (by omega) H
    cases hc : closeB n l
    · obtain ⟨frm, x, p, f1, p1, p2, p3, p4, p5, p6, p7⟩ := cycle14 hv hc
      have f2 := contra15 hv p1 p2 p3 p4 p5 p6 p7
      simp only [decide_eq_true hds, e1, hw, e2, cloB, hc, f1, f2, sumE, sS]
    · have f := tri413 hc H
      have hlen : (((cloL (n : Int) l).length : Int) != (n : Int)) = false := by rw [cloL_true hc, grid_len]; simp
      simp only [decide_eq_true hds, e1, hw, e2, cloB, hc, hlen, f, sumE, sS]
  · simp only [decide_eq_false hds, sumE, sS]

end Go.Proofs.Ytcklpclgiaeopaa
