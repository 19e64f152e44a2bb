/- Lemmas for the statement of the last text of this claim. -/
import Derived.Test.YtcklpclgiaeopaaPxK
import Derived.Test.YtcklpclgiaeopaaPxQ
import Derived.Test.YtcklpclgiaeopaaChecked
import Derived.ProofKit
import Derived.WalkKit
import Derived.BigCall
import Derived.Deep.LoopGhost
import Derived.Deep.OwnRows
import Derived.Test.YtcklpclgiaeopaaPxR
import Derived.Deep.AppendLies
import Derived.Laws.OwnMore
import Derived.BigQuiet
set_option linter.unusedSimpArgs false
set_option linter.unusedVariables false
namespace Go.FW
/-- What stands for no bound; the greatest bound of one constraint. -/
abbrev INF : Int := 1099511627776

abbrev DMX : Int := 17179869184

section
variable (W : Nat → Nat → Int)
/-- A walk whose inner places are less than k, and its weight. -/
inductive Wk (k : Nat) : Nat → Nat → Int → Prop where
  | edge (i j : Nat) (h : W i j < INF) : Wk k i j (W i j)
  | step (i q j : Nat) (u v : Int) (h1 : Wk k i q u) (hq : q < k) (h2 : Wk k q j v) : Wk k i j (u + v)

/-- A sum of closed walks at a place. -/
inductive Loops (k : Nat) : Int → Prop where
  | nil : Loops k 0
  | cons (c s : Int) (h : Wk W k k k c) (t : Loops k s) : Loops k (c + s)

end
variable {W : Nat → Nat → Int}
theorem Loops.append {k : Nat} {s t : Int} (h : Loops W k s) (g : Loops W k t) : Loops W k (s + t) := by
  induction h with
  | nil => simpa using g
  | cons c s h _ ih => rw [Int.add_assoc]; exact .cons c _ h ih

theorem Loops.nonneg {k : Nat} {s : Int} (h : Loops W k s) (hc : ∀ c, Wk W k k k c → 0 ≤ c) : 0 ≤ s := by
  induction h with
  | nil => exact Int.le_refl _
  | cons c s h _ ih => have := hc c h; omega

/-- A walk through places up to k: one through lesser places, or one that comes to k, goes round there, and goes on. -/
theorem Wk.split {k i j : Nat} {w : Int} (h : Wk W (k + 1) i j w) : Wk W k i j w ∨ ∃ u s v, Wk W k i k u ∧ Loops W k s ∧ Wk W k k j v ∧ w = u + s + v := by
  induction h with
  | edge i j h => exact .inl (.edge i j h)
  | step i q j u v h1 hq h2 ih1 ih2 =>
    by_cases e : q = k
    · subst e
      have a : ∃ u1 s1, Wk W q i q u1 ∧ Loops W q s1 ∧ u = u1 + s1 := by
        rcases ih1 with h | ⟨u1, s, v1, g1, g2, g3, rfl⟩
        · exact ⟨u, 0, h, .nil, by omega⟩
        · exact ⟨u1, s + (v1 + 0), g1, g2.append (.cons v1 0 g3 .nil), by omega⟩
      have b : ∃ s2 v2, Loops W q s2 ∧ Wk W q q j v2 ∧ v = s2 + v2 := by
        rcases ih2 with h | ⟨u1, s, v1, g1, g2, g3, rfl⟩
        · exact ⟨0, v, .nil, h, by omega⟩
        · exact ⟨u1 + s, v1, .cons u1 s g1 g2, g3, by omega⟩
      obtain ⟨u1, s1, a1, a2, rfl⟩ := a
      obtain ⟨s2, v2, b1, b2, rfl⟩ := b
      exact .inr ⟨u1, s1 + s2, v2, a1, a2.append b1, b2, by omega⟩
    · have hq : q < k := by omega
      rcases ih1 with h1 | ⟨u1, s1, v1, a1, a2, a3, rfl⟩
      · rcases ih2 with h2 | ⟨u2, s2, v2, b1, b2, b3, rfl⟩
        · exact .inl (.step i q j u v h1 hq h2)
        · exact .inr ⟨u + u2, s2, v2, .step i q k u u2 h1 hq b1, b2, b3, by omega⟩
      · rcases ih2 with h2 | ⟨u2, s2, v2, b1, b2, b3, rfl⟩
        · exact .inr ⟨u1, s1, v1 + v, a1, a2, .step k q j v1 v a3 hq h2, by omega⟩
        · exact .inr ⟨u1, s1 + (v1 + u2 + s2), v2, a1, a2.append (.cons (v1 + u2) s2 (.step k q k v1 u2 a3 hq b1) b2), b3, by omega⟩

theorem Wk.mono {k m i j : Nat} {w : Int} (h : Wk W k i j w) (hm : k ≤ m) : Wk W m i j w := by
  induction h with
  | edge i j h => exact .edge i j h
  | step i q j u v _ hq _ ih1 ih2 => exact .step i q j u v ih1 (by omega) ih2

/-- One round. -/
def relax (M : Nat → Nat → Int) (k : Nat) : Nat → Nat → Int := fun i j => if M i k < INF ∧ M k j < INF then min (M i j) (M i k + M k j) else M i j

/-- The rounds before k. -/
def rounds (W : Nat → Nat → Int) : Nat → Nat → Nat → Int
  | 0 => W
  | k + 1 => relax (rounds W k) k

theorem relax_le (M : Nat → Nat → Int) (k i j : Nat) : relax M k i j ≤ M i j := by
  unfold relax
  split
  · exact Int.min_le_left _ _
  · exact Int.le_refl _

theorem rounds_le (W : Nat → Nat → Int) (i j : Nat) : ∀ {k m : Nat}, k ≤ m → rounds W m i j ≤ rounds W k i j := by
  intro k m h
  induction m with
  | zero => obtain rfl : k = 0 := by omega
            exact Int.le_refl _
  | succ m ih =>
    by_cases e : k = m + 1
    · subst e; exact Int.le_refl _
    · exact Int.le_trans (relax_le _ _ _ _) (ih (by omega))

/-- What the rounds hold is a walk. -/
theorem rounds_walk (W : Nat → Nat → Int) : ∀ (k i j : Nat), rounds W k i j < INF → Wk W k i j (rounds W k i j)
  | 0, i, j, h => .edge i j h
  | k + 1, i, j, h => by
    have old : rounds W (k + 1) i j = rounds W k i j → Wk W (k + 1) i j (rounds W (k + 1) i j) := fun e => by
      rw [e] at h ⊢
      exact (rounds_walk W k i j h).mono (by omega)
    by_cases hc : rounds W k i k < INF ∧ rounds W k k j < INF
    · have e : rounds W (k + 1) i j = min (rounds W k i j) (rounds W k i k + rounds W k k j) := by
        show relax (rounds W k) k i j = _
        unfold relax; rw [if_pos hc]
      by_cases hm : rounds W k i j ≤ rounds W k i k + rounds W k k j
      · exact old (by rw [e]; omega)
      · have e2 : rounds W (k + 1) i j = rounds W k i k + rounds W k k j := by rw [e]; omega
        rw [e2]
        exact .step i k j _ _ ((rounds_walk W k i k hc.1).mono (by omega)) (by omega) ((rounds_walk W k k j hc.2).mono (by omega))
    · exact old (by show relax (rounds W k) k i j = _; unfold relax; rw [if_neg hc])

/-- No number on the diagonal was negative up to here. -/
def Good (W : Nat → Nat → Int) (k : Nat) : Prop := ∀ q, q < k → 0 ≤ rounds W q q q

theorem Good.mono {k m : Nat} (h : Good W m) (hk : k ≤ m) : Good W k := fun q hq => h q (by omega)

/-! ### Walks as lists -/
/-- The weight of a walk with the inner places p. -/
def wl (W : Nat → Nat → Int) : Nat → List Nat → Nat → Int
  | i, [], j => W i j
  | i, q :: p, j => W i q + wl W q p j

def fin (W : Nat → Nat → Int) : Nat → List Nat → Nat → Prop
  | i, [], j => W i j < INF
  | i, q :: p, j => W i q < INF ∧ fin W q p j

theorem wl_append (W : Nat → Nat → Int) : ∀ (a : List Nat) (i q : Nat) (b : List Nat) (j : Nat), wl W i (a ++ q :: b) j = wl W i a q + wl W q b j
  | [], i, q, b, j => rfl
  | x :: a, i, q, b, j => by
    rw [List.cons_append, wl, wl, wl_append W a x q b j]; omega

theorem fin_append (W : Nat → Nat → Int) : ∀ (a : List Nat) (i q : Nat) (b : List Nat) (j : Nat), fin W i (a ++ q :: b) j ↔ fin W i a q ∧ fin W q b j
  | [], i, q, b, j => Iff.rfl
  | x :: a, i, q, b, j => by
    rw [List.cons_append, fin, fin, fin_append W a x q b j]
    exact and_assoc.symm

theorem Wk.list {k i j : Nat} {w : Int} (h : Wk W k i j w) : ∃ p, (∀ q ∈ p, q < k) ∧ fin W i p j ∧ w = wl W i p j := by
  induction h with
  | edge i j h => exact ⟨[], fun q hq => (by cases hq), h, rfl⟩
  | step i q j u v h1 hq h2 ih1 ih2 =>
    obtain ⟨a, a1, a2, rfl⟩ := ih1
    obtain ⟨b, b1, b2, rfl⟩ := ih2
    refine ⟨a ++ q :: b, fun x hx => ?_, (fin_append W a i q b j).2 ⟨a2, b2⟩, (wl_append W a i q b j).symm⟩
    rcases List.mem_append.1 hx with h | h
    · exact a1 x h
    · rcases List.mem_cons.1 h with rfl | h
      · exact hq
      · exact b1 x h

theorem list_walk {k : Nat} : ∀ (p : List Nat) {i j : Nat}, (∀ q ∈ p, q < k) → fin W i p j → Wk W k i j (wl W i p j)
  | [], i, j, _, h => .edge i j h
  | q :: p, i, j, hp, h => .step i q j _ _ (.edge i q h.1) (hp q (List.mem_cons_self ..)) (list_walk p (fun x hx => hp x (List.mem_cons_of_mem _ hx)) h.2)

/-- Bounds of single constraints. -/
def Small (W : Nat → Nat → Int) : Prop := ∀ i j, W i j < INF → -DMX ≤ W i j ∧ W i j ≤ DMX

theorem wl_bound (hW : Small W) : ∀ (p : List Nat) (i j : Nat), fin W i p j → -(((p.length : Int) + 1) * DMX) ≤ wl W i p j ∧ wl W i p j ≤ ((p.length : Int) + 1) * DMX
  | [], i, j, h => by
    have := hW i j h
    simp only [wl, List.length_nil]
    omega
  | q :: p, i, j, h => by
    have a := hW i q h.1
    have b := wl_bound hW p q j h.2
    simp only [wl, List.length_cons, Int.natCast_add, Int.add_mul] at b ⊢
    omega

theorem nodup_len : ∀ {k : Nat} {p : List Nat}, p.Nodup → (∀ q ∈ p, q < k) → p.length ≤ k := by
  intro k
  induction k with
  | zero =>
    intro p _ hp
    cases p with
    | nil => exact Nat.le_refl _
    | cons q p => have := hp q (List.mem_cons_self ..); omega
  | succ k ih =>
    intro p hn hp
    have h := ih (p := p.erase k) (hn.erase k) (fun q hq => by
      have := (hn.mem_erase_iff).1 hq
      have := hp q this.2
      omega)
    have := List.length_erase (a := k) (l := p)
    split at this <;> omega

theorem dup_split : ∀ {p : List Nat}, ¬ p.Nodup → ∃ a q b c, p = a ++ q :: (b ++ q :: c)
  | [], h => absurd List.nodup_nil h
  | x :: r, h => by
    by_cases hx : x ∈ r
    · obtain ⟨b, c, rfl⟩ := List.append_of_mem hx
      exact ⟨[], x, b, c, rfl⟩
    · have : ¬ r.Nodup := fun hr => h (List.nodup_cons.2 ⟨hx, hr⟩)
      obtain ⟨a, q, b, c, rfl⟩ := dup_split this
      exact ⟨x :: a, q, b, c, rfl⟩

/-- Closed walks among the places before k are not negative. -/
def NoNeg (W : Nat → Nat → Int) (k : Nat) : Prop := ∀ q w, q < k → Wk W k q q w → 0 ≤ w

theorem shorten {k : Nat} (hk : NoNeg W k) : ∀ (n : Nat) (p : List Nat) (i j : Nat), p.length ≤ n → (∀ q ∈ p, q < k) → fin W i p j → ∃ p', p'.Nodup ∧ (∀ q ∈ p', q < k) ∧ fin W i p' j ∧ wl W i p' j ≤ wl W i p j := by
  intro n
  induction n with
  | zero =>
    intro p i j hn hp hf
    have : p = [] := List.length_eq_zero_iff.1 (by omega)
    subst this
    exact ⟨[], List.nodup_nil, hp, hf, Int.le_refl _⟩
  | succ n ih =>
    intro p i j hn hp hf
    by_cases hd : p.Nodup
    · exact ⟨p, hd, hp, hf, Int.le_refl _⟩
    · obtain ⟨a, q, b, c, rfl⟩ := dup_split hd
      obtain ⟨f1, f2⟩ := (fin_append W a i q _ j).1 hf
      obtain ⟨f3, f4⟩ := (fin_append W b q q c j).1 f2
      have hq : q < k := hp q (by simp)
      have hcl := hk q _ hq (list_walk b (fun x hx => hp x (by simp [hx])) f3)
      obtain ⟨p', h1, h2, h3, h4⟩ := ih (a ++ q :: c) i j (by simp at hn ⊢; omega) (fun x hx => hp x (by
        simp at hx ⊢
        rcases hx with h | h | h <;> simp [h])) ((fin_append W a i q c j).2 ⟨f1, f4⟩)
      refine ⟨p', h1, h2, h3, ?_⟩
      rw [wl_append] at h4 ⊢
      rw [wl_append]
      omega

theorem simple_le (hW : Small W) : ∀ (k : Nat), k ≤ 60 → ∀ (p : List Nat) (i j : Nat), p.Nodup → (∀ q ∈ p, q < k) → fin W i p j → rounds W k i j ≤ wl W i p j ∧ rounds W k i j < INF := by
  intro k
  induction k with
  | zero =>
    intro _ p i j _ hp hf
    cases p with
    | nil => exact ⟨Int.le_refl _, hf⟩
    | cons q p => have := hp q (List.mem_cons_self ..); omega
  | succ k ih =>
    intro hk p i j hn hp hf
    by_cases hm : k ∈ p
    · obtain ⟨a, b, rfl⟩ := List.append_of_mem hm
      obtain ⟨f1, f2⟩ := (fin_append W a i k b j).1 hf
      obtain ⟨n1, n2, n3⟩ := List.nodup_append.1 hn
      obtain ⟨n4, n5⟩ := List.nodup_cons.1 n2
      have ha : ∀ q ∈ a, q < k := fun q hq => by
        have := hp q (List.mem_append_left _ hq)
        have : q ≠ k := n3 q hq k (List.mem_cons_self ..)
        omega
      have hb : ∀ q ∈ b, q < k := fun q hq => by
        have := hp q (List.mem_append_right _ (List.mem_cons_of_mem _ hq))
        have : q ≠ k := fun e => n4 (e ▸ hq)
        omega
      obtain ⟨g1, g2⟩ := ih (by omega) a i k n1 ha f1
      obtain ⟨g3, g4⟩ := ih (by omega) b k j n5 hb f2
      have hl := nodup_len hn hp
      have hw := (wl_bound hW _ i j hf).2
      have e : rounds W (k + 1) i j = min (rounds W k i j) (rounds W k i k + rounds W k k j) := by
        show relax (rounds W k) k i j = _
        unfold relax; rw [if_pos ⟨g2, g4⟩]
      rw [wl_append] at hw ⊢
      have : (((a ++ k :: b).length : Int) + 1) * DMX ≤ 61 * DMX + DMX := by
        have : ((a ++ k :: b).length : Int) ≤ 60 := by omega
        unfold DMX at *
        omega
      unfold DMX at *
      unfold INF
      rw [e]
      omega
    · have hp' : ∀ q ∈ p, q < k := fun q hq => by
        have := hp q hq
        have : q ≠ k := fun e => hm (e ▸ hq)
        omega
      obtain ⟨g1, g2⟩ := ih (by omega) p i j hn hp' hf
      have := rounds_le W i j (show k ≤ k + 1 by omega)
      exact ⟨Int.le_trans this g1, Int.lt_of_le_of_lt this g2⟩

/-- No walk is less, closed walks are not negative. -/
theorem rounds_least (hW : Small W) : ∀ {k : Nat}, k ≤ 60 → Good W k → NoNeg W k ∧ ∀ {i j : Nat} {w : Int}, Wk W k i j w → rounds W k i j ≤ w ∧ rounds W k i j < INF := by
  have fromN : ∀ {k : Nat}, k ≤ 60 → NoNeg W k → ∀ {i j : Nat} {w : Int}, Wk W k i j w → rounds W k i j ≤ w ∧ rounds W k i j < INF := by
    intro k hk hn i j w h
    obtain ⟨p, h1, h2, rfl⟩ := h.list
    obtain ⟨p', g1, g2, g3, g4⟩ := shorten hn p.length p i j (Nat.le_refl _) h1 h2
    obtain ⟨e1, e2⟩ := simple_le hW k hk p' i j g1 g2 g3
    exact ⟨Int.le_trans e1 g4, e2⟩
  intro k
  induction k with
  | zero =>
    intro hk _
    have : NoNeg W 0 := fun q w hq => by omega
    exact ⟨this, fromN hk this⟩
  | succ k ih =>
    intro hk hg
    obtain ⟨hn, hc⟩ := ih (by omega) (hg.mono (by omega))
    have hkk : ∀ c, Wk W k k k c → 0 ≤ c := fun c h => Int.le_trans (hg k (by omega)) (hc h).1
    have hN : NoNeg W (k + 1) := by
      intro q w hq h
      rcases h.split with h | ⟨u, s, v, h1, h2, h3, rfl⟩
      · by_cases e : q = k
        · subst e; exact hkk w h
        · exact hn q w (by omega) h
      · have hs := h2.nonneg hkk
        by_cases e : q = k
        · subst e
          have := hkk u h1
          have := hkk v h3
          omega
        · have := hkk (v + u) (.step k q k v u h3 (by omega) h1)
          omega
    exact ⟨hN, fromN hk hN⟩

/-- How large a bound can be. -/
theorem rounds_bound (hW : Small W) {k : Nat} (hk : k ≤ 60) (hg : Good W k) {i j : Nat} (h : rounds W k i j < INF) : -(61 * DMX) ≤ rounds W k i j ∧ rounds W k i j ≤ 61 * DMX := by
  obtain ⟨hn, hc⟩ := rounds_least hW hk hg
  obtain ⟨p, h1, h2, h3⟩ := (rounds_walk W k i j h).list
  obtain ⟨p', g1, g2, g3, g4⟩ := shorten hn p.length p i j (Nat.le_refl _) h1 h2
  have hl := nodup_len g1 g2
  have hb := wl_bound hW p' i j g3
  have hs := (simple_le hW k hk p' i j g1 g2 g3).1
  have : ((p'.length : Int) + 1) * DMX ≤ 61 * DMX := by
    have : (p'.length : Int) ≤ 60 := by omega
    unfold DMX
    omega
  omega

end Go.FW

namespace Go.FW
/-- A constraint: x[to] - x[from] is at most max. -/
abbrev DT : Type := Int × Int × Int × Unit

/-- The least bound of a pair, among constraints. -/
def dirM (l : List DT) (i j : Nat) : Int := l.foldl (fun m d => if d.1 = (i : Int) ∧ d.2.1 = (j : Int) then min m d.2.2.1 else m) INF

/-- .. and 0 on the diagonal. -/
def W0 (l : List DT) (i j : Nat) : Int := if i = j then min (dirM l i j) 0 else dirM l i j

def okD (n : Int) (d : DT) : Bool := decide (0 ≤ d.1 ∧ d.1 ≤ n - 1) && (decide (0 ≤ d.2.1 ∧ d.2.1 ≤ n - 1) && decide (-DMX ≤ d.2.2.1 ∧ d.2.2.1 ≤ DMX))

def validC (n : Int) (l : List DT) : Bool := decide (1 ≤ n ∧ n ≤ 41) && (decide (l.length ≤ 4000) && l.all (okD n))

def closeB (n : Int) (l : List DT) : Bool := validC n l && (List.range n.toNat).all fun i => decide (0 ≤ rounds (W0 l) n.toNat i i)

theorem foldl_min (i j : Nat) : ∀ (l : List DT) (m : Int), l.foldl (fun m d => if d.1 = (i : Int) ∧ d.2.1 = (j : Int) then min m d.2.2.1 else m) m = m ∨ ∃ d ∈ l, d.1 = (i : Int) ∧ d.2.1 = (j : Int) ∧ l.foldl (fun m d => if d.1 = (i : Int) ∧ d.2.1 = (j : Int) then min m d.2.2.1 else m) m = d.2.2.1
  | [], m => .inl rfl
  | d :: l, m => by
    rw [List.foldl_cons]
    by_cases h : d.1 = (i : Int) ∧ d.2.1 = (j : Int)
    · rw [if_pos h]
      rcases foldl_min i j l (min m d.2.2.1) with e | ⟨y, h1, h2⟩
      · by_cases hm : m ≤ d.2.2.1
        · left; rw [e]; omega
        · right; exact ⟨d, List.mem_cons_self .., h.1, h.2, by rw [e]; omega⟩
      · right; exact ⟨y, List.mem_cons_of_mem _ h1, h2⟩
    · rw [if_neg h]
      rcases foldl_min i j l m with e | ⟨y, h1, h2⟩
      · left; exact e
      · right; exact ⟨y, List.mem_cons_of_mem _ h1, h2⟩

theorem foldl_le (i j : Nat) : ∀ (l : List DT) (m : Int), l.foldl (fun m d => if d.1 = (i : Int) ∧ d.2.1 = (j : Int) then min m d.2.2.1 else m) m ≤ m ∧ ∀ d ∈ l, d.1 = (i : Int) → d.2.1 = (j : Int) → l.foldl (fun m d => if d.1 = (i : Int) ∧ d.2.1 = (j : Int) then min m d.2.2.1 else m) m ≤ d.2.2.1
  | [], m => ⟨Int.le_refl _, fun d h => by cases h⟩
  | x :: l, m => by
    rw [List.foldl_cons]
    obtain ⟨h1, h2⟩ := foldl_le i j l (if x.1 = (i : Int) ∧ x.2.1 = (j : Int) then min m x.2.2.1 else m)
    have hm : (if x.1 = (i : Int) ∧ x.2.1 = (j : Int) then min m x.2.2.1 else m) ≤ m := by split <;> omega
    refine ⟨Int.le_trans h1 hm, fun d hd e1 e2 => ?_⟩
    rcases List.mem_cons.1 hd with rfl | hd
    · rw [if_pos ⟨e1, e2⟩] at h1 ⊢
      omega
    · exact h2 d hd e1 e2

theorem dir_some {l : List DT} {i j : Nat} (h : dirM l i j < INF) : ∃ d ∈ l, d.1 = (i : Int) ∧ d.2.1 = (j : Int) ∧ dirM l i j = d.2.2.1 := by
  rcases foldl_min i j l INF with e | h1
  · unfold dirM at h; rw [e] at h; omega
  · exact h1

theorem dir_le {l : List DT} {d : DT} (hd : d ∈ l) {i j : Nat} (h1 : d.1 = (i : Int)) (h2 : d.2.1 = (j : Int)) : dirM l i j ≤ d.2.2.1 := (foldl_le i j l INF).2 d hd h1 h2

theorem dir_inf (l : List DT) (i j : Nat) : dirM l i j ≤ INF := (foldl_le i j l INF).1

theorem okD_iff {n : Int} {d : DT} : okD n d = true ↔ (0 ≤ d.1 ∧ d.1 ≤ n - 1) ∧ (0 ≤ d.2.1 ∧ d.2.1 ≤ n - 1) ∧ (-DMX ≤ d.2.2.1 ∧ d.2.2.1 ≤ DMX) := by
  unfold okD
  rw [Bool.and_eq_true, Bool.and_eq_true, decide_eq_true_eq, decide_eq_true_eq, decide_eq_true_eq]

theorem valid_iff {n : Int} {l : List DT} : validC n l = true ↔ (1 ≤ n ∧ n ≤ 41) ∧ l.length ≤ 4000 ∧ ∀ d ∈ l, okD n d = true := by
  unfold validC
  rw [Bool.and_eq_true, Bool.and_eq_true, decide_eq_true_eq, decide_eq_true_eq, List.all_eq_true]

theorem w_small {n : Int} {l : List DT} (h : ∀ d ∈ l, okD n d = true) : Small (W0 l) := by
  intro i j hf
  unfold W0 at hf ⊢
  by_cases e : i = j
  · rw [if_pos e] at hf ⊢
    by_cases hd : dirM l i j < INF
    · obtain ⟨d, hd, _, _, he⟩ := dir_some hd
      have := (okD_iff.1 (h d hd)).2.2
      unfold DMX at *
      omega
    · unfold DMX INF at *
      omega
  · rw [if_neg e] at hf ⊢
    obtain ⟨d, hd, _, _, he⟩ := dir_some hf
    have := (okD_iff.1 (h d hd)).2.2
    omega

theorem w_diag (l : List DT) (i : Nat) : W0 l i i ≤ 0 := by
  unfold W0
  rw [if_pos rfl]
  omega

theorem w_inf (l : List DT) (i j : Nat) : W0 l i j ≤ INF := by
  unfold W0
  have := dir_inf l i j
  split
  · unfold INF at *; omega
  · exact this

theorem rounds_inf (l : List DT) (k i j : Nat) : rounds (W0 l) k i j ≤ INF := Int.le_trans (rounds_le _ i j (Nat.zero_le k)) (w_inf l i j)

theorem rounds_diag (l : List DT) (k i : Nat) : rounds (W0 l) k i i ≤ 0 := Int.le_trans (rounds_le _ i i (Nat.zero_le k)) (w_diag l i)

/-- A closure. -/
structure Clos (l : List DT) (n : Nat) (D : Nat → Nat → Int) : Prop where
  zero : ∀ i, i < n → D i i = 0
  tri : ∀ i j k, i < n → j < n → k < n → D i j < INF → D j k < INF → D i k ≤ D i j + D j k ∧ D i k < INF
  edge : ∀ d ∈ l, ∀ i j : Nat, d.1 = (i : Int) → d.2.1 = (j : Int) → D i j ≤ d.2.2.1
  walk : ∀ i j, D i j < INF → Wk (W0 l) n i j (D i j)
  least : ∀ i j w, Wk (W0 l) n i j w → D i j ≤ w ∧ D i j < INF
  inf : ∀ i j, D i j ≤ INF
  bound : ∀ i j, D i j < INF → -(61 * DMX) ≤ D i j ∧ D i j ≤ 61 * DMX

theorem good_of {l : List DT} {n : Nat} (h : ∀ i, i < n → 0 ≤ rounds (W0 l) n i i) : Good (W0 l) n := fun q hq => Int.le_trans (h q hq) (rounds_le _ q q (by omega))

theorem clos_of {l : List DT} {n : Nat} (hn : n ≤ 60) (hW : Small (W0 l)) (h : ∀ i, i < n → 0 ≤ rounds (W0 l) n i i) : Clos l n (rounds (W0 l) n) := by
  have hg := good_of h
  obtain ⟨hN, hc⟩ := rounds_least hW hn hg
  have hwalk := rounds_walk (W0 l) n
  refine ⟨fun i hi => ?_, fun i j k hi hj hk h1 h2 => ?_, fun d hd i j e1 e2 => ?_, hwalk, fun i j w => hc, rounds_inf l n, fun i j hf => rounds_bound hW hn hg hf⟩
  · have := h i hi
    have := rounds_diag l n i
    omega
  · exact hc (.step i j k _ _ (hwalk i j h1) hj (hwalk j k h2))
  · have h1 := rounds_le (W0 l) i j (Nat.zero_le n)
    have h2 : W0 l i j ≤ d.2.2.1 ∨ W0 l i j ≤ d.2.2.1 := by
      left
      unfold W0
      have := dir_le hd e1 e2
      split <;> omega
    rcases h2 with h2 | h2 <;> exact Int.le_trans h1 h2

/-- Whether numbers fulfil constraints. -/
def Sol (l : List DT) (x : Nat → Int) : Prop := ∀ d ∈ l, x d.2.1.toNat - x d.1.toNat ≤ d.2.2.1

theorem sol_walk {n : Int} {l : List DT} (hl : ∀ d ∈ l, okD n d = true) {x : Nat → Int} (hx : Sol l x) {k i j : Nat} {w : Int} (h : Wk (W0 l) k i j w) : x j - x i ≤ w := by
  induction h with
  | edge i j h =>
    unfold W0 at h ⊢
    by_cases e : i = j
    · subst e
      rw [if_pos rfl] at h ⊢
      by_cases hd : dirM l i i < INF
      · obtain ⟨d, hd, e1, e2, he⟩ := dir_some hd
        have := hx d hd
        rw [e1, e2] at this
        simp only [Int.toNat_natCast] at this
        omega
      · unfold INF at *; omega
    · rw [if_neg e] at h ⊢
      obtain ⟨d, hd, e1, e2, he⟩ := dir_some h
      have := hx d hd
      rw [e1, e2] at this
      simp only [Int.toNat_natCast] at this
      omega
  | step i q j u v _ _ _ ih1 ih2 => omega

/-- With a solution there is a closure. -/
theorem sol_ok {n : Int} {l : List DT} (h : validC n l = true) {x : Nat → Int} (hx : Sol l x) : closeB n l = true := by
  obtain ⟨h1, h2, h3⟩ := valid_iff.1 h
  unfold closeB
  rw [h, Bool.true_and, List.all_eq_true]
  intro i _
  refine decide_eq_true ?_
  have hi : rounds (W0 l) n.toNat i i < INF := by
    have := rounds_diag l n.toNat i
    unfold INF; omega
  have := sol_walk h3 hx (rounds_walk (W0 l) n.toNat i i hi)
  omega

theorem closeB_iff {n : Int} {l : List DT} : closeB n l = true ↔ validC n l = true ∧ ∀ i, i < n.toNat → 0 ≤ rounds (W0 l) n.toNat i i := by
  unfold closeB
  rw [Bool.and_eq_true, List.all_eq_true]
  simp only [List.mem_range, decide_eq_true_eq]

theorem closeB_clos {n : Int} {l : List DT} (h : closeB n l = true) : Clos l n.toNat (rounds (W0 l) n.toNat) := by
  obtain ⟨h1, h2⟩ := closeB_iff.1 h
  obtain ⟨h3, _, h4⟩ := valid_iff.1 h1
  exact clos_of (by omega) (w_small h4) h2

end Go.FW

namespace Go.FW
open Go Go.Abs
/-- No number on the diagonal is negative behind the rounds before k. -/
def AllD (W : Nat → Nat → Int) (n k : Nat) : Prop := ∀ i, i < n → 0 ≤ rounds W k i i

theorem AllD.good {W : Nat → Nat → Int} {n k : Nat} (h : AllD W n k) (hk : k ≤ n) : Good W k := fun q hq => Int.le_trans (h q (by omega)) (rounds_le W q q (by omega))

theorem AllD.mono {W : Nat → Nat → Int} {n k m : Nat} (h : AllD W n m) (hk : k ≤ m) : AllD W n k := fun i hi => Int.le_trans (h i hi) (rounds_le W i i hk)

/-- A round under way: the pairs before (i, j) are done. -/
def part (M : Nat → Nat → Int) (k i j : Nat) : Nat → Nat → Int := fun a b => if a < i ∨ (a = i ∧ b < j) then relax M k a b else M a b

def upd (M : Nat → Nat → Int) (i j : Nat) (v : Int) : Nat → Nat → Int := fun a b => if a = i ∧ b = j then v else M a b

/-- The state of a round in place. -/
structure PS (W : Nat → Nat → Int) (n k i j : Nat) (c : Nat → Nat → Int) : Prop where
  inf : ∀ a b, a < n → b < n → c a b ≤ INF
  good : AllD W n k → ∀ a b, a < n → b < n → c a b = part (rounds W k) k i j a b
  bad : ¬ AllD W n k → ∃ q, q < n ∧ c q q < 0

theorem relax_row {M : Nat → Nat → Int} {k : Nat} (h : M k k = 0) (j : Nat) : relax M k k j = M k j := by
  unfold relax
  split
  · rw [h]; omega
  · rfl

theorem relax_col {M : Nat → Nat → Int} {k : Nat} (h : M k k = 0) (i : Nat) : relax M k i k = M i k := by
  unfold relax
  split
  · rw [h]; omega
  · rfl

theorem part_row {M : Nat → Nat → Int} {k : Nat} (h : M k k = 0) (i j b : Nat) : part M k i j k b = M k b := by
  unfold part
  split
  · exact relax_row h b
  · rfl

theorem part_col {M : Nat → Nat → Int} {k : Nat} (h : M k k = 0) (i j a : Nat) : part M k i j a k = M a k := by
  unfold part
  split
  · exact relax_col h a
  · rfl

theorem part_here (M : Nat → Nat → Int) (k i j : Nat) : part M k i j i j = M i j := by
  unfold part
  rw [if_neg (by omega)]

theorem part_next (M : Nat → Nat → Int) (k i j a b : Nat) : part M k i (j + 1) a b = if a = i ∧ b = j then relax M k i j else part M k i j a b := by
  unfold part
  by_cases h : a = i ∧ b = j
  · rw [if_pos h, h.1, h.2, if_pos (by omega)]
  · rw [if_neg h]
    by_cases g : a < i ∨ (a = i ∧ b < j)
    · rw [if_pos g, if_pos (by omega)]
    · rw [if_neg g, if_neg (by omega)]

theorem exists_neg {W : Nat → Nat → Int} {n k : Nat} (h : ¬ AllD W n k) : ∃ q, q < n ∧ rounds W k q q < 0 := by
  by_cases g : ∃ q, q < n ∧ rounds W k q q < 0
  · exact g
  · exact absurd (fun i hi => by
      by_cases hh : 0 ≤ rounds W k i i
      · exact hh
      · exact absurd ⟨i, hi, by omega⟩ g) h

theorem PS.start {l : List DT} {n : Nat} {c : Nat → Nat → Int} (h : ∀ a b, a < n → b < n → c a b = W0 l a b) : PS (W0 l) n 0 0 0 c := by
  refine ⟨fun a b ha hb => by rw [h a b ha hb]; exact w_inf l a b, fun _ a b ha hb => ?_, fun hb => ?_⟩
  · rw [h a b ha hb]
    unfold part
    rw [if_neg (by omega)]
    rfl
  · obtain ⟨q, hq, hn⟩ := exists_neg hb
    exact ⟨q, hq, by rw [h q q hq hq]; exact hn⟩

theorem diag_zero {l : List DT} {n k : Nat} (h : AllD (W0 l) n k) (hk : k < n) : rounds (W0 l) k k k = 0 := by
  have := h k hk
  have := rounds_diag l k k
  omega

theorem PS.skip {l : List DT} {n k i j : Nat} {c : Nat → Nat → Int} (h : PS (W0 l) n k i j c) (hk : k < n) (hi : i < n) (hj : j < n) (hs : c i k = INF ∨ c k j = INF) : PS (W0 l) n k i (j + 1) c := by
  refine ⟨h.inf, fun hg a b ha hb => ?_, h.bad⟩
  have hz := diag_zero hg hk
  rw [part_next, h.good hg a b ha hb]
  by_cases e : a = i ∧ b = j
  · rw [if_pos e, e.1, e.2, part_here]
    have h1 := h.good hg i k hi hk
    have h2 := h.good hg k j hk hj
    rw [part_col hz] at h1
    rw [part_row hz] at h2
    unfold relax
    rw [if_neg (by rw [← h1, ← h2]; omega)]
  · rw [if_neg e]

theorem PS.store {l : List DT} {n k i j : Nat} {c : Nat → Nat → Int} (hW : Small (W0 l)) (hn : n ≤ 60) (h : PS (W0 l) n k i j c) (hk : k < n) (hi : i < n) (hj : j < n) (h1 : c i k ≠ INF) (h2 : c k j ≠ INF) :
    PS (W0 l) n k i (j + 1) (upd c i j (min (c i j) (w64 (c i k + c k j)))) := by
  refine ⟨fun a b ha hb => ?_, fun hg a b ha hb => ?_, fun hb => ?_⟩
  · unfold upd
    split
    · have := h.inf i j hi hj; omega
    · exact h.inf a b ha hb
  · have hz := diag_zero hg hk
    have g1 := h.good hg i k hi hk
    have g2 := h.good hg k j hk hj
    have g3 := h.good hg i j hi hj
    rw [part_col hz] at g1
    rw [part_row hz] at g2
    rw [part_here] at g3
    have f1 : rounds (W0 l) k i k < INF := by have := rounds_inf l k i k; omega
    have f2 : rounds (W0 l) k k j < INF := by have := rounds_inf l k k j; omega
    have b1 := rounds_bound hW (show k ≤ 60 by omega) (hg.good (by omega)) f1
    have b2 := rounds_bound hW (show k ≤ 60 by omega) (hg.good (by omega)) f2
    rw [part_next]
    unfold upd
    by_cases e : a = i ∧ b = j
    · rw [if_pos e, if_pos e, g1, g2, g3, w64_id (by unfold DMX at *; omega) (by unfold DMX at *; omega)]
      unfold relax
      rw [if_pos ⟨f1, f2⟩]
    · rw [if_neg e, if_neg e]
      exact h.good hg a b ha hb
  · obtain ⟨q, hq, hneg⟩ := h.bad hb
    refine ⟨q, hq, ?_⟩
    unfold upd
    split
    · rename_i e
      rw [← e.1, ← e.2]
      omega
    · exact hneg

theorem PS.row_end {W : Nat → Nat → Int} {n k i : Nat} {c : Nat → Nat → Int} (h : PS W n k i n c) : PS W n k (i + 1) 0 c := by
  refine ⟨h.inf, fun hg a b ha hb => ?_, h.bad⟩
  rw [h.good hg a b ha hb]
  unfold part
  by_cases e : a < i ∨ (a = i ∧ b < n)
  · rw [if_pos e, if_pos (by omega)]
  · rw [if_neg e, if_neg (by omega)]

theorem PS.done {W : Nat → Nat → Int} {n k : Nat} {c : Nat → Nat → Int} (h : PS W n k n 0 c) (hg : AllD W n k) (a b : Nat) (ha : a < n) (hb : b < n) : c a b = rounds W (k + 1) a b := by
  rw [h.good hg a b ha hb]
  unfold part
  rw [if_pos (by omega)]
  rfl

theorem PS.round_end {W : Nat → Nat → Int} {n k : Nat} {c : Nat → Nat → Int} (h : PS W n k n 0 c) : PS W n (k + 1) 0 0 c := by
  refine ⟨h.inf, fun hg a b ha hb => ?_, fun hb => ?_⟩
  · rw [h.done (hg.mono (by omega)) a b ha hb]
    unfold part
    rw [if_neg (by omega)]
  · by_cases hg : AllD W n k
    · obtain ⟨q, hq, hneg⟩ := exists_neg hb
      exact ⟨q, hq, by rw [h.done hg q q hq hq]; exact hneg⟩
    · exact h.bad hg

/-- A negative number on the diagonal behind a round. -/
theorem PS.neg {W : Nat → Nat → Int} {n k q : Nat} {c : Nat → Nat → Int} (h : PS W n (k + 1) 0 0 c) (hk : k < n) (hq : q < n) (hneg : c q q < 0) : ¬ AllD W n n := by
  intro hall
  have hg := hall.mono (show k + 1 ≤ n by omega)
  have := h.good hg q q hq hq
  unfold part at this
  rw [if_neg (by omega)] at this
  have := hg q hq
  omega

theorem PS.final {W : Nat → Nat → Int} {n : Nat} {c : Nat → Nat → Int} (h : PS W n n 0 0 c) (hd : ∀ q, q < n → 0 ≤ c q q) : AllD W n n ∧ ∀ a b, a < n → b < n → c a b = rounds W n a b := by
  have hg : AllD W n n := by
    by_cases g : AllD W n n
    · exact g
    · obtain ⟨q, hq, hneg⟩ := h.bad g
      have := hd q hq
      omega
  refine ⟨hg, fun a b ha hb => ?_⟩
  rw [h.good hg a b ha hb]
  unfold part
  rw [if_neg (by omega)]

theorem PS.final_neg {W : Nat → Nat → Int} {n q : Nat} {c : Nat → Nat → Int} (h : PS W n n 0 0 c) (hq : q < n) (hneg : c q q < 0) : ¬ AllD W n n := by
  intro hg
  have := h.good hg q q hq hq
  unfold part at this
  rw [if_neg (by omega)] at this
  have := hg q hq
  omega

end Go.FW

namespace Go.FW
open Go Go.Abs
/-- The edges that have been looked at in this round, at (i, j). -/
def seen (r i j u v : Nat) : Nat := if u < i ∨ (u = i ∧ v < j) then r else r - 1

/-- What holds while distances fall; R: the round, T: the time of a place's last fall. -/
structure BF (W : Nat → Nat → Int) (n r i j : Nat) (dist : Nat → Int) (frm : Nat → Nat) (last : Nat) (R T : Nat → Nat) (clk : Nat) : Prop where
  low : ∀ x, x < n → dist x ≤ 0 ∧ -((clk : Int) * DMX) ≤ dist x
  par : ∀ x, x < n → R x = 0 ∨ (W (frm x) x < INF ∧ dist (frm x) + W (frm x) x ≤ dist x ∧ (T x ≤ T (frm x) → dist (frm x) + W (frm x) x < dist x) ∧ R x ≤ R (frm x) + 1)
  edge : ∀ u v, u < n → v < n → W u v < INF → seen r i j u v ≤ R u ∨ dist v ≤ dist u + W u v
  inn : ∀ x, x < n → frm x < n
  lst : last < n
  cur : (∃ x, x < n ∧ R x = r) → R last = r
  top : ∀ x, x < n → R x ≤ r
  old : ∀ x, x < n → T x ≤ clk

def setN {A : Type} (f : Nat → A) (i : Nat) (v : A) : Nat → A := fun a => if a = i then v else f a

variable {W : Nat → Nat → Int} {n r i j : Nat} {dist : Nat → Int} {frm : Nat → Nat} {last : Nat} {R T : Nat → Nat} {clk : Nat}
theorem seen_next (r i j u v : Nat) (hr : 1 ≤ r) : seen r i (j + 1) u v = if u = i ∧ v = j then r else seen r i j u v := by
  unfold seen
  by_cases h : u = i ∧ v = j
  · rw [if_pos h, if_pos (by omega)]
  · rw [if_neg h]
    by_cases g : u < i ∨ (u = i ∧ v < j)
    · rw [if_pos g, if_pos (by omega)]
    · rw [if_neg g, if_neg (by omega)]

/-- An edge that does not shorten. -/
theorem BF.skip (h : BF W n r i j dist frm last R T clk) (hr : 1 ≤ r) (hs : ¬ (W i j < INF ∧ dist i + W i j < dist j)) : BF W n r i (j + 1) dist frm last R T clk := by
  refine ⟨h.low, h.par, fun u v hu hv hf => ?_, h.inn, h.lst, h.cur, h.top, h.old⟩
  rw [seen_next r i j u v hr]
  by_cases e : u = i ∧ v = j
  · rw [if_pos e]
    right
    rw [e.1, e.2] at hf ⊢
    omega
  · rw [if_neg e]
    exact h.edge u v hu hv hf

/-- An edge that shortens. -/
theorem BF.fall (hW : ∀ i j, W i j < INF → -DMX ≤ W i j) (h : BF W n r i j dist frm last R T clk) (hr : 1 ≤ r) (hi : i < n) (hj : j < n) (hf : W i j < INF) (hs : dist i + W i j < dist j) :
    BF W n r i (j + 1) (setN dist j (dist i + W i j)) (setN frm j i) j (setN R j r) (setN T j (clk + 1)) (clk + 1) := by
  have hRi : r - 1 ≤ R i := by
    rcases h.edge i j hi hj hf with g | g
    · unfold seen at g
      rw [if_neg (by omega)] at g
      exact g
    · omega
  have hle : ∀ x, setN dist j (dist i + W i j) x ≤ dist x := fun x => by
    unfold setN
    split
    · rename_i e; subst e; omega
    · exact Int.le_refl _
  have hRle : ∀ x, x < n → R x ≤ setN R j r x := fun x hx => by
    unfold setN
    split
    · rename_i e; subst e; exact h.top _ hx
    · exact Nat.le_refl _
  refine ⟨fun x hx => ?_, fun x hx => ?_, fun u v hu hv hf' => ?_, fun x hx => ?_, hj, fun _ => by simp [setN], fun x hx => ?_, fun x hx => ?_⟩
  · have hl := h.low x hx
    have hd := hle x
    refine ⟨by omega, ?_⟩
    rw [Int.natCast_add, Int.add_mul]
    unfold setN
    split
    · have := h.low i hi
      have := hW i j hf
      unfold DMX at *
      omega
    · unfold DMX at *
      omega
  · by_cases e : x = j
    · subst e
      right
      have e1 : setN frm x i x = i := by simp [setN]
      have e2 : setN dist x (dist i + W i x) x = dist i + W i x := by simp [setN]
      rw [e1, e2]
      refine ⟨hf, ?_, fun ht => ?_, ?_⟩
      · have := hle i; omega
      · by_cases ei : i = x
        · subst ei
          rw [e2]
          omega
        · exfalso
          have t1 : setN T x (clk + 1) x = clk + 1 := by simp [setN]
          have t2 : setN T x (clk + 1) i = T i := by simp [setN, ei]
          rw [t1, t2] at ht
          have := h.old i hi
          omega
      · have a1 : setN R x r x = r := by simp [setN]
        have := hRle i hi
        omega
    · have f1 : setN frm j i x = frm x := by simp [setN, e]
      have f2 : setN dist j (dist i + W i j) x = dist x := by simp [setN, e]
      have f3 : setN R j r x = R x := by simp [setN, e]
      have f4 : setN T j (clk + 1) x = T x := by simp [setN, e]
      rw [f1, f2, f3, f4]
      rcases h.par x hx with g | ⟨g1, g2, g3, g4⟩
      · exact .inl g
      · right
        have hd := hle (frm x)
        refine ⟨g1, by omega, fun ht => ?_, ?_⟩
        · by_cases ep : frm x = j
          · have : setN dist j (dist i + W i j) (frm x) = dist i + W i j := by rw [ep]; simp [setN]
            have : dist (frm x) = dist j := by rw [ep]
            omega
          · have : setN T j (clk + 1) (frm x) = T (frm x) := by simp [setN, ep]
            rw [this] at ht
            have := g3 ht
            omega
        · have := hRle (frm x) (h.inn x hx)
          omega
  · rw [seen_next r i j u v hr]
    by_cases e : u = i ∧ v = j
    · rw [if_pos e, e.1, e.2]
      by_cases ei : i = j
      · left
        have : setN R j r i = r := by rw [ei]; simp [setN]
        omega
      · right
        have a1 : setN dist j (dist i + W i j) j = dist i + W i j := by simp [setN]
        have a2 : setN dist j (dist i + W i j) i = dist i := by simp [setN, ei]
        omega
    · rw [if_neg e]
      by_cases eu : u = j
      · left
        have : setN R j r u = r := by rw [eu]; simp [setN]
        rw [this]
        unfold seen
        split <;> omega
      · rcases h.edge u v hu hv hf' with g | g
        · left
          have := hRle u hu
          omega
        · right
          have a2 : setN dist j (dist i + W i j) u = dist u := by simp [setN, eu]
          have := hle v
          omega
  · unfold setN
    split
    · exact hi
    · exact h.inn x hx
  · unfold setN
    split
    · exact Nat.le_refl _
    · exact h.top x hx
  · unfold setN
    split
    · exact Nat.le_refl _
    · have := h.old x hx; omega

theorem BF.row_end (h : BF W n r i n dist frm last R T clk) : BF W n r (i + 1) 0 dist frm last R T clk := by
  refine ⟨h.low, h.par, fun u v hu hv hf => ?_, h.inn, h.lst, h.cur, h.top, h.old⟩
  have e : seen r (i + 1) 0 u v = seen r i n u v := by
    unfold seen
    by_cases g : u < i ∨ (u = i ∧ v < n)
    · rw [if_pos g, if_pos (by omega)]
    · rw [if_neg g, if_neg (by omega)]
  rw [e]
  exact h.edge u v hu hv hf

theorem BF.round_end (h : BF W n r n 0 dist frm last R T clk) : BF W n (r + 1) 0 0 dist frm last R T clk := by
  refine ⟨h.low, h.par, fun u v hu hv hf => ?_, h.inn, h.lst, fun ⟨x, hx, hR⟩ => ?_, fun x hx => by have := h.top x hx; omega, h.old⟩
  · have e : seen (r + 1) 0 0 u v = seen r n 0 u v := by
      unfold seen
      rw [if_pos (show u < n ∨ (u = n ∧ v < 0) by omega), if_neg (by omega)]
      omega
    rw [e]
    exact h.edge u v hu hv hf
  · have := h.top x hx; omega

theorem BF.start {W : Nat → Nat → Int} {n : Nat} (hn : 0 < n) : BF W n 1 0 0 (fun _ => 0) (fun _ => 0) 0 (fun _ => 0) (fun _ => 0) 0 := by
  refine ⟨fun x _ => ⟨Int.le_refl _, by simp⟩, fun x _ => .inl rfl, fun u v hu hv hf => .inl ?_, fun x _ => hn, hn, fun ⟨x, _, hx⟩ => by simp at hx, fun x _ => Nat.zero_le _, fun x _ => Nat.le_refl _⟩
  unfold seen
  rw [if_neg (by omega)]
  exact Nat.zero_le _

/-- Without a fall in a round the distances are a solution. -/
theorem BF.sol {l : List DT} {m : Int} (hv : ∀ d ∈ l, okD m d = true) {n : Nat} (hn : m.toNat = n) (h : BF (dirM l) n r n 0 dist frm last R T clk) (hR : ∀ x, x < n → R x ≠ r) (hr : 1 ≤ r) : Sol l dist := by
  intro d hd
  have ho := okD_iff.1 (hv d hd)
  have hdir := dir_le hd (i := d.1.toNat) (j := d.2.1.toNat) (by omega) (by omega)
  have hf : dirM l d.1.toNat d.2.1.toNat < INF := by unfold DMX INF at *; omega
  rcases h.edge d.1.toNat d.2.1.toNat (by omega) (by omega) hf with g | g
  · unfold seen at g
    rw [if_pos (by omega)] at g
    have := h.top d.1.toNat (by omega)
    have := hR d.1.toNat (by omega)
    omega
  · omega

/-- Behind n + 1 rounds without a closure the last place fell in the last one. -/
theorem BF.fell {l : List DT} {m : Int} (hv : validC m l = true) (hc : closeB m l = false) {n : Nat} (hn : m.toNat = n) (h : BF (dirM l) n (n + 1) n 0 dist frm last R T clk) : R last = n + 1 := by
  refine h.cur ?_
  by_cases g : ∃ x, x < n ∧ R x = n + 1
  · exact g
  · have hs := h.sol (valid_iff.1 hv).2.2 hn (fun x hx e => g ⟨x, hx, e⟩) (by omega)
    rw [sol_ok hv hs] at hc
    cases hc

/-- The places back from one. -/
def back (frm : Nat → Nat) (x : Nat) : Nat → Nat
  | 0 => x
  | k + 1 => frm (back frm x k)

theorem back_add (frm : Nat → Nat) (x a : Nat) : ∀ b, back frm x (a + b) = back frm (back frm x a) b
  | 0 => rfl
  | b + 1 => by show frm (back frm x (a + b)) = frm (back frm (back frm x a) b); rw [back_add frm x a b]

theorem BF.chain (h : BF W n r i j dist frm last R T clk) {x : Nat} (hx : x < n) : ∀ k, back frm x k < n ∧ R x ≤ R (back frm x k) + k
  | 0 => ⟨hx, by show R x ≤ R x + 0; omega⟩
  | k + 1 => by
    obtain ⟨a, b⟩ := h.chain hx k
    refine ⟨h.inn _ a, ?_⟩
    show R x ≤ R (frm (back frm x k)) + (k + 1)
    rcases h.par _ a with g | ⟨_, _, _, g⟩ <;> omega

/-- The weight of the way back. -/
def backW (W : Nat → Nat → Int) (frm : Nat → Nat) (x : Nat) : Nat → Int
  | 0 => 0
  | k + 1 => backW W frm x k + W (frm (back frm x k)) (back frm x k)

theorem rep_of {f : Nat → Nat} {n : Nat} (hf : ∀ k, k ≤ n → f k < n) : ∃ a b, a < b ∧ b ≤ n ∧ f a = f b := by
  by_cases h : ∃ a b, a < b ∧ b ≤ n ∧ f a = f b
  · exact h
  · exfalso
    have hnd : ((List.range (n + 1)).map f).Nodup := by
      refine List.pairwise_map.2 (List.Pairwise.imp_of_mem ?_ List.pairwise_lt_range)
      intro a b ha hb hab e
      exact h ⟨a, b, hab, by have := List.mem_range.1 hb; omega, e⟩
    have := nodup_len hnd (fun q hq => by
      obtain ⟨k, hk, rfl⟩ := List.mem_map.1 hq
      exact hf k (by have := List.mem_range.1 hk; omega))
    rw [List.length_map, List.length_range] at this
    omega

/-- n steps back from the last place there is a cycle. -/
theorem BF.cycle (h : BF W n r i j dist frm last R T clk) (hR : n + 1 ≤ R last) : ∃ p, 0 < p ∧ p ≤ n ∧ back frm (back frm last n) p = back frm last n ∧ (∀ q, 0 < q → q < p → back frm (back frm last n) q ≠ back frm last n) ∧
    ∀ k, back frm (back frm last n) k < n ∧ R (back frm (back frm last n) k) ≠ 0 := by
  have hch := h.chain h.lst
  obtain ⟨a, b, hab, hb, he⟩ := rep_of (f := back frm last) (n := n) (fun k _ => (hch k).1)
  have per : ∀ k, back frm last (a + k + (b - a)) = back frm last (a + k) := fun k => by
    rw [show a + k + (b - a) = b + k by omega, back_add, back_add, he]
  -- every place from a on is one of the first n + 1
  have red : ∀ k, ∃ m, m ≤ n ∧ back frm last (a + k) = back frm last m := by
    intro k
    induction k using Nat.strongRecOn with
    | _ k ih =>
      by_cases hk : a + k ≤ n
      · exact ⟨a + k, hk, rfl⟩
      · obtain ⟨m, h1, h2⟩ := ih (k - (b - a)) (by omega)
        refine ⟨m, h1, ?_⟩
        rw [← h2, ← per (k - (b - a))]
        congr 1; omega
  have touched : ∀ k, R (back frm (back frm last n) k) ≠ 0 := by
    intro k
    rw [← back_add]
    obtain ⟨m, h1, h2⟩ := red (n + k - a)
    rw [show n + k = a + (n + k - a) by omega, h2]
    have := (hch m).2
    omega
  have hx : back frm (back frm last n) (b - a) = back frm last n := by
    have := per (n - a)
    rw [show a + (n - a) + (b - a) = n + (b - a) by omega, show a + (n - a) = n by omega] at this
    rw [← back_add]; exact this
  have hlt : ∀ k, back frm (back frm last n) k < n := fun k => by rw [← back_add]; exact (hch _).1
  -- the least period
  have least : ∀ m, 0 < m → back frm (back frm last n) m = back frm last n → ∃ p, 0 < p ∧ p ≤ m ∧ back frm (back frm last n) p = back frm last n ∧ ∀ q, 0 < q → q < p → back frm (back frm last n) q ≠ back frm last n := by
    intro m
    induction m using Nat.strongRecOn with
    | _ m ih =>
      intro hm he
      by_cases g : ∃ q, 0 < q ∧ q < m ∧ back frm (back frm last n) q = back frm last n
      · obtain ⟨q, q1, q2, q3⟩ := g
        obtain ⟨p, p1, p2, p3, p4⟩ := ih q q2 q1 q3
        exact ⟨p, p1, by omega, p3, p4⟩
      · exact ⟨m, hm, Nat.le_refl _, he, fun q h1 h2 h3 => g ⟨q, h1, h2, h3⟩⟩
  obtain ⟨p, p1, p2, p3, p4⟩ := least (b - a) (by omega) hx
  exact ⟨p, p1, by omega, p3, p4, fun k => ⟨hlt k, touched k⟩⟩

/-- A cycle of parents is negative. -/
theorem BF.negative (h : BF W n r i j dist frm last R T clk) {x p : Nat} (hp : 0 < p) (hx : back frm x p = x) (ht : ∀ k, back frm x k < n ∧ R (back frm x k) ≠ 0) : backW W frm x p < 0 ∧ ∀ k, W (frm (back frm x k)) (back frm x k) < INF := by
  have hpar : ∀ k, W (frm (back frm x k)) (back frm x k) < INF ∧ dist (back frm x (k + 1)) + W (frm (back frm x k)) (back frm x k) ≤ dist (back frm x k) ∧ (T (back frm x k) ≤ T (back frm x (k + 1)) → dist (back frm x (k + 1)) + W (frm (back frm x k)) (back frm x k) < dist (back frm x k)) := fun k => by
    rcases h.par _ (ht k).1 with g | ⟨g1, g2, g3, _⟩
    · exact absurd g (ht k).2
    · exact ⟨g1, g2, g3⟩
  have sum : ∀ k, dist (back frm x k) + backW W frm x k ≤ dist x := by
    intro k
    induction k with
    | zero => show dist x + 0 ≤ dist x; omega
    | succ k ih =>
      have := (hpar k).2.1
      show dist (back frm x (k + 1)) + (backW W frm x k + W (frm (back frm x k)) (back frm x k)) ≤ dist x
      omega
  refine ⟨?_, fun k => (hpar k).1⟩
  -- somewhere the time does not fall
  have some : ∃ k, k < p ∧ T (back frm x k) ≤ T (back frm x (k + 1)) := by
    by_cases g : ∃ k, k < p ∧ T (back frm x k) ≤ T (back frm x (k + 1))
    · exact g
    · exfalso
      have dec : ∀ k, k ≤ p → T (back frm x k) + k ≤ T x := by
        intro k
        induction k with
        | zero => intro _; show T x + 0 ≤ T x; omega
        | succ k ih =>
          intro hk
          have := ih (by omega)
          by_cases hh : T (back frm x k) ≤ T (back frm x (k + 1))
          · exact absurd ⟨k, by omega, hh⟩ g
          · omega
      have := dec p (Nat.le_refl _)
      rw [hx] at this
      omega
  obtain ⟨k0, hk0, hT⟩ := some
  have strict : ∀ k, k0 < k → dist (back frm x k) + backW W frm x k < dist x := by
    intro k
    induction k with
    | zero => intro h; omega
    | succ k ih =>
      intro hk
      show dist (back frm x (k + 1)) + (backW W frm x k + W (frm (back frm x k)) (back frm x k)) < dist x
      by_cases e : k = k0
      · subst e
        have := (hpar k).2.2 hT
        have := sum k
        omega
      · have := ih (by omega)
        have := (hpar k).2.1
        omega
  have := strict p hk0
  rw [hx] at this
  omega

end Go.FW

namespace Go.Abs
open Go
/-- The direct bounds, the closure. -/
def dirL (n : Int) (l : List FW.DT) : List (List Int) := gridL n.toNat n.toNat (FW.dirM l)

def cloB (n : Int) (l : List FW.DT) : Bool := FW.closeB n l

def cloL (n : Int) (l : List FW.DT) : List (List Int) := if FW.closeB n l then gridL n.toNat n.toNat (FW.rounds (FW.W0 l) n.toNat) else []

def vldB (n : Int) (l : List FW.DT) : Bool := FW.validC n l

def hfDir : List SV → Tr SV
  | [.int .i64 n, .row (.cons (.int .i64) (.cons (.int .i64) (.cons (.int .i64) .unit))) l _] => .need (vldB n l) (.ret (.row (.row (.int .i64)) (dirL n l) false))
  | _ => .fail

def hfClose : List SV → Tr SV
  | [.int .i64 n, .row (.cons (.int .i64) (.cons (.int .i64) (.cons (.int .i64) .unit))) l _] => .ret (.tup [.row (.row (.int .i64)) (cloL n l) false, .bool (cloB n l)])
  | _ => .fail

end Go.Abs

namespace Go.Proofs.Ytcklpclgiaeopaa.Pre
open Go Go.Abs
noncomputable section
abbrev Z1 : Abs.Ty := (.cons (.int .i64) (.cons (.int .i64) (.cons (.int .i64) .unit)))

abbrev Z3 : Abs.Ty := (.cons (.row (.int .i64)) (.cons (.int .i64) .unit))

abbrev Y4 : Type := (((List Int) × Int × Unit) × Unit)

abbrev Y5 : Type := (Int × Int × Int × Unit)

abbrev Y2 : Type := (List Y5)

abbrev Y6 : Type := ((Bool × Unit) × (Unit))

def note : FuncId → Abs.Note
  | 2 => ⟨true, [], false, fun _ => []⟩
  | 3 => ⟨true, [0, 1, 4, 5, 6, 7, 8, 9, 10, 11, 12, 13, 14, 15, 16, 17, 20, 58, 59, 60, 90, 96, 101, 157], false, fun _ => []⟩
  | 4 => ⟨true, [0, 2, 3, 4, 5, 6, 7, 8, 9, 10, 11, 12, 13, 14, 17, 34, 54, 57, 76, 81, 97, 102, 147, 175, 196], false, fun _ => []⟩
  | 5 => ⟨true, [0, 2, 3, 4, 5, 6, 7, 8, 9, 10, 11, 12, 13, 14, 17, 26, 38, 56, 116, 119, 130], false, fun | 15 => [(3, 7)] | 20 => [(6, 13), (10, 13)] | _ => []⟩
  | 6 => ⟨true, [0, 2, 3, 4, 5, 6, 7, 8, 9, 10, 12, 13, 14, 15, 16, 17, 18, 19, 20, 23, 43, 50, 51, 52, 53, 64, 105, 119, 121, 122, 123, 140], false, fun | 20 => [(2, 3), (2, 4)] | _ => []⟩
  | 7 => ⟨true, [0, 1, 2, 3, 4, 9, 10, 11, 12, 13, 14, 15, 17, 19, 20, 21, 22, 23, 24, 25, 26, 27, 28, 29, 30, 32, 45, 59, 90, 91, 92, 93, 101, 102, 103, 104, 108, 171, 205, 224, 225, 226, 227, 238, 259], false, fun | 9 => [(8, 14), (9, 14), (6, 15), (8, 15), (9, 15)] | 34 => [(3, 6), (13, 16)] | _ => []⟩
  | 8 => ⟨true, [0, 2], false, fun _ => []⟩
  | 9 => ⟨true, [0, 1, 2, 3, 4], false, fun _ => []⟩
  | 10 => ⟨true, [0, 2], false, fun _ => []⟩
  | 11 => ⟨true, [0, 1, 4, 5, 19, 40], false, fun _ => []⟩
  | 12 => ⟨true, [0, 1, 4, 5, 6, 7, 8, 9, 10, 13, 24, 53], false, fun | 11 => [(6, 13), (10, 13)] | _ => []⟩
  | 13 => ⟨true, [0, 1, 4, 5, 6, 7, 8, 9, 10, 11, 15, 19, 20, 21, 38, 39, 40, 42, 43, 44, 46, 47, 48, 67, 106, 108, 109, 110, 119], false, fun _ => []⟩
  | 14 => ⟨true, [0, 1, 4, 5, 7, 8, 9, 10, 11, 12, 13, 14, 15, 28, 37, 38, 39, 40, 41, 42, 44, 45, 46, 74, 98, 99, 100, 114], false, fun | 5 => [(1, 3)] | _ => []⟩
  | 15 => ⟨true, [0, 1, 2, 6, 7, 8, 9, 10, 11, 20, 24, 44, 48, 89, 96], false, fun _ => []⟩
  | 16 => ⟨true, [0, 1, 2, 5, 6, 20], false, fun _ => []⟩
  | 17 => ⟨true, [0, 1, 4, 5, 6, 7, 8, 9, 17, 18, 19, 20, 28], false, fun _ => []⟩
  | 18 => ⟨true, [0, 1, 3, 4, 6, 7, 8, 9, 10, 11, 12, 20, 25, 26, 27, 34, 35, 36, 37, 49], false, fun | 16 => [(2, 3)] | _ => []⟩
  | 19 => ⟨true, [0, 1, 2, 5, 6, 7, 8], false, fun _ => []⟩
  | 20 => ⟨true, [0, 1, 4, 5, 10, 12, 13, 14, 25], false, fun _ => []⟩
  | 21 => ⟨true, [0, 1, 4], false, fun _ => []⟩
  | 22 => ⟨true, [0, 1, 4, 5, 6, 7, 8, 9, 10, 11, 12, 13, 14, 18, 21, 26, 42, 98, 101, 106, 111, 131, 163, 173], false, fun _ => []⟩
  | 23 => ⟨true, [0, 1, 4, 5, 6, 7, 8, 9, 17, 20, 29], false, fun _ => []⟩
  | 24 => ⟨true, [0, 1, 2, 4, 12], false, fun _ => []⟩
  | 25 => ⟨true, [0, 1, 4, 5, 13, 17, 48], false, fun _ => []⟩
  | 26 => ⟨true, [0, 1, 4, 5, 10, 14, 25], false, fun _ => []⟩
  | 27 => ⟨true, [0, 1, 4, 6, 7, 8, 9, 10, 11, 12, 20, 27, 33, 45, 66, 73], false, fun _ => []⟩
  | 28 => ⟨true, [0, 1, 2, 6, 7, 8, 18, 21, 29, 33, 58], false, fun _ => []⟩
  | 29 => ⟨true, [0, 1, 2, 5, 6, 7, 8], false, fun _ => []⟩
  | 30 => ⟨true, [0, 1, 4, 5, 6, 7, 9, 13, 14, 15, 26, 27, 28, 38, 39, 40, 41], false, fun _ => []⟩
  | 31 => ⟨true, [0, 2, 3, 9], true, fun _ => []⟩
  | 32 => ⟨true, [0, 1, 2, 6], false, fun _ => []⟩
  | 33 => ⟨true, [0, 1, 4, 5, 9, 17], false, fun _ => []⟩
  | 34 => ⟨true, [0, 1, 4], false, fun _ => []⟩
  | 35 => ⟨true, [0, 2], true, fun _ => []⟩
  | 36 => ⟨true, [0, 1, 2, 6], false, fun _ => []⟩
  | 37 => ⟨true, [0, 1, 4], false, fun _ => []⟩
  | 38 => ⟨true, [0, 1, 2, 3], false, fun _ => []⟩
  | 39 => ⟨true, [0, 1, 2, 3, 4, 5, 6, 7, 8, 15], true, fun _ => []⟩
  | 40 => ⟨true, [0, 1, 2, 3], true, fun _ => []⟩
  | 41 => ⟨true, [0, 1, 3, 4, 9], false, fun _ => []⟩
  | 42 => ⟨true, [0, 1, 4, 5, 7, 8, 9, 16], false, fun _ => []⟩
  | 43 => ⟨true, [0, 1, 4, 5, 7, 8, 9, 16], false, fun _ => []⟩
  | _ => ⟨false, [], false, fun _ => []⟩

theorem good : Abs.Good Try.prog note := Abs.good_of (by kernel_rfl)

theorem foll : (Try.prog).follows .mixedOrders = true := by kernel_rfl

def i36 : Abs.Sg := ⟨[0, 1, 2], (.dat (.int .i64) (.dat (.int .i64) (.dat (.int .i64) .nil))), .nil⟩

def o36 : Abs.Sg := ⟨[6], (.dat .bool .nil), .nil⟩

def m36 (v : (Y5 × (Unit))) : Option Y6 :=
((bif (decide ((v.1.1 : Int) ≥ v.1.2.1)) then (some (((decide ((v.1.1 : Int) ≤ v.1.2.2.1)), ()), ()))
else (some ((false, ()), ()))) : Option Y6).bind fun v1 =>
some ((v1.1.1, ()), ())

def sp36 : Abs.Spec := ⟨0, i36, o36, m36⟩

def an36 : Nat → Abs.FAn
  | 0 => Abs.FAn.mk (fun
    | 1 => some ⟨[6], (.dat .bool .nil), .nil⟩
    | _ => none) (fun _ => none) (fun _ => none) (fun _ _ => 0)
  | _ => {}

theorem ok36 : Abs.SpecOK Try.prog 36 sp36 :=
  Abs.specOK_of (n := 12) (an := an36) (T := Abs.tabOf []) good foll (Abs.tabOf_ok _ (fun _ h => by cases h)) rfl (by intro v; kernel_rfl)

def l24_2_2 (v : ((Int × Y2 × Int × Unit) × ((Int × Unit) × Unit))) : Option (((Int × Y2 × Int × Unit) × ((Int × Unit) × Unit)) ⊕ (((Int × Unit) × ((Int × Unit) × Unit)) ⊕ ((Unit) × ((Int × Unit) × Unit)))) :=
bif (decide ((v.1.1 : Int) < v.1.2.2.1)) then (Abs.rowAt v.1.2.1 v.1.1 fun e67 _ =>
(((m36 ((e67.1, (0, ((w64 (v.2.1.1 - 1)), ()))), ())).bind fun u68 =>
bif (!u68.1.1) then (some ((true, ()), ((v.2.1.1, ()), ())))
else ((m36 ((e67.2.1, (0, ((w64 (v.2.1.1 - 1)), ()))), ())).bind fun u69 =>
bif (!u69.1.1) then (some ((true, ()), ((v.2.1.1, ()), ())))
else ((m36 ((e67.2.2.1, ((-17179869184), (17179869184, ()))), ())).bind fun u70 =>
some (((!u70.1.1), ()), ((v.2.1.1, ()), ()))))) : Option ((Bool × Unit) × ((Int × Unit) × Unit))).bind fun v71 =>
bif v71.1.1 then (some (.inr (.inl ((v.1.1, ()), ((v71.2.1.1, ()), ())))))
else (some (.inl (((w64 (v.1.1 + 1)), (v.1.2.1, (v.1.2.2.1, ()))), ((v71.2.1.1, ()), ())))))
else (some (.inr (.inr ((), ((v.2.1.1, ()), ())))))

def i24 : Abs.Sg := ⟨[0, 1], (.dat (.int .i64) (.dat (.row Z1) .nil)), .nil⟩

def o24 : Abs.Sg := ⟨[4], (.dat .bool .nil), .nil⟩

def m24 (v : ((Int × Y2 × Unit) × (Unit))) : Option Y6 :=
(((m36 ((v.1.1, (1, (41, ()))), ())).bind fun u65 =>
bif (!u65.1.1) then (some ((true, (v.1.2.1, ())), ((v.1.1, ()), ())))
else (some (((decide (((v.1.2.1.length : Int) : Int) > 4000)), (v.1.2.1, ())), ((v.1.1, ()), ())))) : Option ((Bool × Y2 × Unit) × ((Int × Unit) × Unit))).bind fun v66 =>
bif v66.1.1 then (some ((false, ()), ()))
else ((((loopT l24_2_2 ((0, (v66.1.2.1, ((v66.1.2.1.length : Int), ()))), ((v66.2.1.1, ()), ()))).bind fun d72 =>
sumE d72 (fun d73 => (some (((decide ((d73.1.1 : Int) ≥ 0)), ()), ((d73.2.1.1, ()), ())))) (fun d74 => (some ((false, ()), ((d74.2.1.1, ()), ()))))) : Option ((Bool × Unit) × ((Int × Unit) × Unit))).bind fun v75 =>
some (((!v75.1.1), ()), ()))

def sp24 : Abs.Spec := ⟨0, i24, o24, m24⟩

def an24 : Nat → Abs.FAn
  | 0 => Abs.FAn.mk (fun
    | 1 => some ⟨[12, 2, 1], (.dat .bool (.st (.ptr (0, 0) 1 0 0) (.dat (.row Z1) .nil))), (.box 1 (.dat (.int .i64) .nil) .nil)⟩
    | _ => none) (fun _ => none) (fun _ => none) (fun
    | 3, 2 => 1
    | _, _ => 0)
  | 1 => Abs.FAn.mk (fun
    | 1 => some ⟨[4], (.dat .bool .nil), (.box 1 (.dat (.int .i64) .nil) .nil)⟩
    | _ => none) (fun _ => none) (fun _ => none) (fun
    | 1, 2 => 2
    | _, _ => 0)
  | 2 => Abs.FAn.mk (fun _ => none) (fun _ => none) (fun
    | 2 => some ⟨⟨[8, 0, 1, 7], (.dat (.int .i64) (.dat (.row Z1) (.st (.clo 40 [((0, 0), 1, 0, 0)]) (.dat (.int .i64) .nil)))), (.box 1 (.dat (.int .i64) .nil) .nil)⟩, (.more .ret ⟨[4], (.dat (.int .i64) .nil), (.box 1 (.dat (.int .i64) .nil) .nil)⟩ (.one (.exit 0) ⟨[], .nil, (.box 1 (.dat (.int .i64) .nil) .nil)⟩))⟩
    | _ => none) (fun
    | 4, 5 => 3
    | _, _ => 0)
  | 3 => Abs.FAn.mk (fun
    | 1 => some ⟨[3], (.dat .bool .nil), (.box 1 (.dat (.int .i64) .nil) .nil)⟩
    | _ => none) (fun _ => none) (fun _ => none) (fun _ _ => 0)
  | _ => {}

theorem ok24 : Abs.SpecOK Try.prog 24 sp24 :=
  Abs.specOK_of (n := 12) (an := an24) (T := Abs.tabOf [(36, sp36)]) good foll (Abs.tabOf_ok _ (by simp only [List.forall_mem_cons]; exact ⟨ok36, fun _ h => by cases h⟩)) rfl (by intro v; kernel_rfl)

def i32 : Abs.Sg := ⟨[0, 1, 2], (.dat (.int .i64) (.dat (.int .i64) (.dat (.int .i64) .nil))), .nil⟩

def o32 : Abs.Sg := ⟨[6], (.dat .bool .nil), .nil⟩

def m32 (v : (Y5 × (Unit))) : Option Y6 :=
((bif (decide ((v.1.1 : Int) ≥ v.1.2.1)) then (some (((decide ((v.1.1 : Int) ≤ v.1.2.2.1)), ()), ()))
else (some ((false, ()), ()))) : Option Y6).bind fun v1 =>
some ((v1.1.1, ()), ())

def sp32 : Abs.Spec := ⟨0, i32, o32, m32⟩

def an32 : Nat → Abs.FAn
  | 0 => Abs.FAn.mk (fun
    | 1 => some ⟨[6], (.dat .bool .nil), .nil⟩
    | _ => none) (fun _ => none) (fun _ => none) (fun _ _ => 0)
  | _ => {}

theorem ok32 : Abs.SpecOK Try.prog 32 sp32 :=
  Abs.specOK_of (n := 12) (an := an32) (T := Abs.tabOf []) good foll (Abs.tabOf_ok _ (fun _ h => by cases h)) rfl (by intro v; kernel_rfl)

def l25_0_4 (v : ((Int × Y2 × Int × Unit) × (Unit))) : Option (((Int × Y2 × Int × Unit) × (Unit)) ⊕ (Y6 ⊕ ((Unit) × (Unit)))) :=
let x62 := (decide ((v.1.1 : Int) < (v.1.2.1.length : Int)))
bif x62 then (((Abs.rowAt v.1.2.1 v.1.1 fun e63 _ =>
(m32 ((e63.1, (0, ((w64 (v.1.2.2.1 - 1)), ()))), ())).bind fun u64 =>
bif (!u64.1.1) then (some ((true, (v.1.2.1, (v.1.2.2.1, (v.1.1, ())))), ()))
else (Abs.rowAt v.1.2.1 v.1.1 fun e65 _ =>
(m32 ((e65.2.1, (0, ((w64 (v.1.2.2.1 - 1)), ()))), ())).bind fun u66 =>
bif (!u66.1.1) then (some ((true, (v.1.2.1, (v.1.2.2.1, (v.1.1, ())))), ()))
else (Abs.rowAt v.1.2.1 v.1.1 fun e67 _ =>
(m32 ((e67.2.2.1, ((-17179869184), (17179869184, ()))), ())).bind fun u68 =>
some (((!u68.1.1), (v.1.2.1, (v.1.2.2.1, (v.1.1, ())))), ())))) : Option ((Bool × Y2 × Int × Int × Unit) × (Unit))).bind fun v69 =>
bif v69.1.1 then (some (.inr (.inl ((false, ()), ()))))
else (some (.inl (((w64 (v69.1.2.2.2.1 + 1)), (v69.1.2.1, (v69.1.2.2.1, ()))), ()))))
else (some (.inr (.inr ((), ()))))

def i25 : Abs.Sg := ⟨[0, 1], (.dat (.int .i64) (.dat (.row Z1) .nil)), .nil⟩

def o25 : Abs.Sg := ⟨[4], (.dat .bool .nil), .nil⟩

def m25 (v : ((Int × Y2 × Unit) × (Unit))) : Option Y6 :=
(((m32 ((v.1.1, (1, (41, ()))), ())).bind fun u60 =>
bif (!u60.1.1) then (some ((true, (v.1.2.1, (v.1.1, ()))), ()))
else (some (((decide (((v.1.2.1.length : Int) : Int) > 4000)), (v.1.2.1, (v.1.1, ()))), ()))) : Option ((Bool × Y2 × Int × Unit) × (Unit))).bind fun v61 =>
bif v61.1.1 then (some ((false, ()), ()))
else ((loopT l25_0_4 ((0, (v61.1.2.1, (v61.1.2.2.1, ()))), ())).bind fun d70 =>
sumE d70 (fun d71 => (some ((d71.1.1, ()), ()))) (fun d72 => (some ((true, ()), ()))))

def sp25 : Abs.Spec := ⟨0, i25, o25, m25⟩

def an25 : Nat → Abs.FAn
  | 0 => Abs.FAn.mk (fun
    | 6 => some ⟨[48, 1, 0, 5], (.dat .bool (.dat (.row Z1) (.dat (.int .i64) (.dat (.int .i64) .nil)))), .nil⟩
    | 1 => some ⟨[13, 1, 0], (.dat .bool (.dat (.row Z1) (.dat (.int .i64) .nil))), .nil⟩
    | _ => none) (fun _ => none) (fun
    | 4 => some ⟨⟨[5, 1, 0], (.dat (.int .i64) (.dat (.row Z1) (.dat (.int .i64) .nil))), .nil⟩, (.more .ret ⟨[4], (.dat .bool .nil), .nil⟩ (.one (.exit 0) ⟨[], .nil, .nil⟩))⟩
    | _ => none) (fun _ _ => 0)
  | _ => {}

theorem ok25 : Abs.SpecOK Try.prog 25 sp25 :=
  Abs.specOK_of (n := 12) (an := an25) (T := Abs.tabOf [(32, sp32)]) good foll (Abs.tabOf_ok _ (by simp only [List.forall_mem_cons]; exact ⟨ok32, fun _ h => by cases h⟩)) rfl (by intro v; kernel_rfl)

end
end Go.Proofs.Ytcklpclgiaeopaa.Pre

namespace Go.Proofs.Ytcklpclgiaeopaa
open Go Go.Abs Go.RowKit Go.FW
theorem Try.info3 : (Try.prog.info? 3).map (fun i => (i.zero, i.size, i.bytes)) = some (some (.int .i64 0), 1, 8) := by kernel_rfl

theorem Try.info22 : (Try.prog.info? 22).map (fun i => (i.zero, i.size, i.bytes)) = some (some (.slice none 0 0), 1, 24) := by kernel_rfl

/-- The matrix's own row, c rows made. -/
def top (N n c : Nat) : Nat → Value := fun j => if j < c then .slice (some ⟨N + 1 + j, 0, none⟩) n n else .slice none 0 0

structure Outer (w wr : World) (n c : Nat) : Prop where
  since : w.Since w.heap.size wr
  size : wr.heap.size = w.heap.size + 1 + c
  top : wr.rowIs w.heap.size 22 n (top w.heap.size n c)
  done : ∀ j, j < c → wr.rowIs (w.heap.size + 1 + j) 3 n (fun _ => .int .i64 INF)

structure Inner (w wi : World) (n c r : Nat) : Prop where
  since : w.Since w.heap.size wi
  size : wi.heap.size = w.heap.size + 1 + c + 1
  top : wi.rowIs w.heap.size 22 n (top w.heap.size n (c + 1))
  done : ∀ j, j < c → wi.rowIs (w.heap.size + 1 + j) 3 n (fun _ => .int .i64 INF)
  cur : wi.rowIs (w.heap.size + 1 + c) 3 n (fun i => if i < r then .int .i64 INF else .int .i64 0)

theorem outer_start (w : World) (n : Nat) : Outer w (w.alloc (.cells (madeCells #[.slice none 0 0] n) 22)) n 0 :=
  ⟨(World.Since.refl _ _).alloc (Nat.le_refl _) _, by simp, (World.rowIs_made w _ n 22).congr (fun j _ => by simp [top]), fun j hj => absurd hj (Nat.not_lt_zero _)⟩

theorem inner_start {w wr : World} {n c : Nat} (h : Outer w wr n c) :
    Inner w ((wr.alloc (.cells (madeCells #[.int .i64 0] n) 3)).setCell ⟨w.heap.size, c, none⟩ (.slice (some ⟨w.heap.size + 1 + c, 0, none⟩) n n)) n c 0 := by
  have hnew := World.rowIs_made wr (.int .i64 0) n 3
  rw [h.size] at hnew
  refine ⟨(h.since.alloc (by rw [h.size]; omega) _).setCell (Nat.le_refl _) _, by simp [h.size], ((h.top.alloc _).set c _).congr (fun j _ => ?_), fun j hj => ((h.done j hj).alloc _).setOther (by show w.heap.size + 1 + j ≠ w.heap.size; omega) _,
    (hnew.setOther (by show w.heap.size + 1 + c ≠ w.heap.size; omega) _).congr (fun i _ => by simp)⟩
  simp only [top]
  by_cases e : j = c
  · subst e; simp
  · rw [if_neg e]
    by_cases hlt : j < c
    · rw [if_pos hlt, if_pos (by omega)]
    · rw [if_neg hlt, if_neg (by omega)]

theorem inner_step {w wi : World} {n c r : Nat} (h : Inner w wi n c r) :
    Inner w (wi.setCell ⟨w.heap.size + 1 + c, r, none⟩ (.int .i64 INF)) n c (r + 1) := by
  refine ⟨h.since.setCell (by show w.heap.size ≤ w.heap.size + 1 + c; omega) _, by simp [h.size], h.top.setOther (by show w.heap.size ≠ w.heap.size + 1 + c; omega) _,
    fun j hj => (h.done j hj).setOther (by show w.heap.size + 1 + j ≠ w.heap.size + 1 + c; omega) _, (h.cur.set r _).congr (fun i _ => ?_)⟩
  by_cases e : i = r
  · subst e; simp
  · rw [if_neg e]
    by_cases hlt : i < r
    · rw [if_pos hlt, if_pos (by omega)]
    · rw [if_neg hlt, if_neg (by omega)]

theorem inner_done {w wi : World} {n c : Nat} (h : Inner w wi n c n) : Outer w wi n (c + 1) :=
  ⟨h.since, by rw [h.size]; omega, h.top, fun j hj => by
    by_cases e : j = c
    · subst e
      exact h.cur.congr (fun i hi => by rw [if_pos hi])
    · exact h.done j (by omega)⟩

/-- The matrix under way. -/
structure Mat (w wr : World) (n : Nat) (M : Nat → Nat → Int) : Prop where
  since : w.Since w.heap.size wr
  lt : w.heap.size + n < wr.heap.size
  grid : Grid wr w.heap.size 22 3 n n (fun i => w.heap.size + 1 + i) (fun _ => n) M

theorem Outer.mat {w wr : World} {n : Nat} (h : Outer w wr n n) : Mat w wr n (fun _ _ => INF) :=
  ⟨h.since, by rw [h.size]; omega, ⟨(RowGe.of_is h.top).congr (fun i hi => by simp [Ytcklpclgiaeopaa.top, hi]), fun i hi => RowGe.of_is (h.done i hi), fun i j _ _ e => by omega, fun i _ => by omega, fun _ _ => Nat.le_refl _⟩⟩

theorem Grid.alloc {w : World} {b To Ti n m : Nat} {R C : Nat → Nat} {M : Nat → Nat → Int} (h : Grid w b To Ti n m R C M) (X : Obj) : Grid (w.alloc X) b To Ti n m R C M :=
  ⟨h.top.alloc X, fun i hi => (h.row i hi).alloc X, h.inj, h.apart, h.cap⟩

theorem Mat.alloc {w wr : World} {n : Nat} {M : Nat → Nat → Int} (h : Mat w wr n M) (X : Obj) : Mat w (wr.alloc X) n M :=
  ⟨h.since.alloc (by have := h.lt; omega) X, by have := h.lt; simp; omega, Grid.alloc h.grid X⟩

theorem Mat.drew {w wr : World} {n : Nat} {M : Nat → Nat → Int} (h : Mat w wr n M) : Mat w wr.drew n M := ⟨h.since.drew, h.lt, h.grid.drew⟩

theorem Mat.set {w wr : World} {n : Nat} {M : Nat → Nat → Int} (h : Mat w wr n M) {i j : Nat} (hi : i < n) (v : Int) : Mat w (wr.setCell ⟨w.heap.size + 1 + i, j, none⟩ (.int .i64 v)) n (FW.upd M i j v) :=
  ⟨h.since.setCell (by show w.heap.size ≤ w.heap.size + 1 + i; omega) _, by have := h.lt; simpa using this, h.grid.set hi v⟩

theorem Mat.congr {w wr : World} {n : Nat} {M N : Nat → Nat → Int} (h : Mat w wr n M) (e : ∀ i j, i < n → j < n → M i j = N i j) : Mat w wr n N := ⟨h.since, h.lt, h.grid.congr e⟩

theorem dir_snoc {l : List DT} {p f t : Nat} {z : Int} (h : l[p]? = some ((f : Int), (t : Int), z, ())) (a b : Nat) : dirM (l.take (p + 1)) a b = if a = f ∧ b = t then min (dirM (l.take p) a b) z else dirM (l.take p) a b := by
  rw [List.take_add_one, h]
  unfold dirM
  rw [List.foldl_append]
  simp only [Option.toList_some, List.foldl_cons, List.foldl_nil]
  by_cases e : a = f ∧ b = t
  · rw [if_pos e, if_pos ⟨by rw [e.1], by rw [e.2]⟩]
  · rw [if_neg e, if_neg (fun g => e ⟨by omega, by omega⟩)]

theorem dir_upd {l : List DT} {p f t : Nat} {z v : Int} (h : l[p]? = some ((f : Int), (t : Int), z, ())) (hv : v = min (dirM (l.take p) f t) z) (a b : Nat)  : FW.upd (dirM (l.take p)) f t v a b = dirM (l.take (p + 1)) a b := by
  rw [dir_snoc h]
  unfold FW.upd
  by_cases e : a = f ∧ b = t
  · rw [if_pos e, if_pos e, hv, e.1, e.2]
  · rw [if_neg e, if_neg e]

set_option maxHeartbeats 6400000 in
set_option maxRecDepth 1000000 in
theorem direct_walk (n : Nat) (hn : n ≤ 41) (a : Option Addr) (b o cap : Nat) (l : List DT) (hl : l.length ≤ 4000) (ha : l ≠ [] → a = some ⟨b, o, none⟩) (w : World)
    (hc : ∀ (p : Nat) (d : DT), l[p]? = some d → w.cell? ⟨b, o + p * 3, none⟩ = some (.int .i64 d.1) ∧ w.cell? ⟨b, o + p * 3 + 1, none⟩ = some (.int .i64 d.2.1) ∧ w.cell? ⟨b, o + p * 3 + 2, none⟩ = some (.int .i64 d.2.2.1))
    (hv : ∀ d ∈ l, okD n d = true) :
    Calls Try.prog 30 #[.int .i64 n, .slice a l.length cap] w fun e w' => e = .returned (.slice (some ⟨w.heap.size, 0, none⟩) n n) ∧ Mat w w' n (dirM l) := by
  have hmk := run_make_row' (P := Try.prog) 30 22 (.slice none 0 0) 24 Try.underlying30 Try.info22 rfl .i64 .i64 n (by omega) (by omega)
  go_enter Try.func30, Try.ntmps30
  go_wp2
  clear hmk
  go_loopg [14] n (fun g i wr => ∃ c : Nat, c ≤ n ∧ g = n - c ∧ i = .int .i64 c ∧ Outer w wr n c)
  case atStart => exact ⟨0, Nat.zero_le _, rfl, rfl, outer_start w n⟩
  case round =>
    obtain ⟨c, hc', rfl, rfl, hO⟩ := hrel
    have hsize := hO.size
    have hmk2 := run_make_row' (P := Try.prog) 22 3 (.int .i64 0) 8 Try.underlying22 Try.info3 rfl .i64 .i64 n (by omega) (by omega)
    have hst1 : c < n → ∀ o, (wr.alloc o).cell? ⟨w.heap.size, c, none⟩ = some (top w.heap.size n c c) := fun h o => (hO.top.alloc o).cell h
    have hst2 : ∀ o, (wr.alloc o).frozen? ⟨w.heap.size, c, none⟩ = false := fun o => (hO.top.alloc o).frozen c
    go_wp2
    · -- the inner loop
      have hc2 : c < n := by assumption
      have hI0 := inner_start hO
      clear hmk2 hst1 hst2 hsize hO
      have hrow : ((wr.alloc (.cells (madeCells #[.int .i64 0] n) 3)).setCell ⟨w.heap.size, c, none⟩ (.slice (some ⟨w.heap.size + 1 + c, 0, none⟩) n n)).cell? ⟨w.heap.size, c, none⟩ = some (.slice (some ⟨w.heap.size + 1 + c, 0, none⟩) n n) := by simpa [top] using hI0.top.cell hc2
      go_wp2
      clear hrow
      go_loopg [27] n (fun g i wi => ∃ r : Nat, r ≤ n ∧ g = n - r ∧ i = .int .i64 r ∧ Inner w wi n c r)
      case atStart => exact ⟨0, Nat.zero_le _, rfl, rfl, hI0⟩
      case round =>
        obtain ⟨r, hr, rfl, rfl, hI⟩ := hrel
        clear hI0
        have g1 : wr.cell? ⟨w.heap.size, c, none⟩ = some (.slice (some ⟨w.heap.size + 1 + c, 0, none⟩) n n) := by simpa [top] using hI.top.cell hc2
        have g4 : r < n → wr.cell? ⟨w.heap.size + 1 + c, r, none⟩ = some (.int .i64 0) := fun h => by simpa using hI.cur.cell h
        have g5 : wr.frozen? ⟨w.heap.size + 1 + c, r, none⟩ = false := hI.cur.frozen r
        go_wp2
        · go_roundg (n - (r + 1))
          case measure => omega
          case rel => exact ⟨r + 1, by omega, rfl, by simp, inner_step hI⟩
        · have hrn : r = n := by omega
          subst hrn
          go_roundg (r - (c + 1))
          case measure => omega
          case rel => exact ⟨c + 1, by omega, rfl, by simp, inner_done hI⟩
    · have hcn : c = n := by omega
      generalize decide (c < n) = s15
      subst hcn
      have hM := hO.mat
      clear hmk2 hst1 hst2 hsize hO
      go_loopg [40] l.length (fun g i wr => ∃ p : Nat, p ≤ l.length ∧ g = l.length - p ∧ i = .int .i64 p ∧ Mat w wr c (dirM (l.take p)))
      case atStart => exact ⟨0, Nat.zero_le _, rfl, rfl, hM⟩
      case round =>
        obtain ⟨p, hp, rfl, rfl, hM⟩ := hrel
        by_cases hlt : p < l.length
        · obtain ⟨d, hd⟩ : ∃ d, l[p]? = some d := ⟨_, List.getElem?_eq_getElem hlt⟩
          have hne : l ≠ [] := fun e => by rw [e] at hlt; simp at hlt
          have := ha hne
          subst this
          obtain ⟨c1, c2, c3⟩ := hc p d hd
          have hb : b < w.heap.size := World.block_lt_of_cell? _ _ c1
          obtain ⟨⟨o1, o2⟩, ⟨o3, o4⟩, _⟩ := okD_iff.1 (hv d (List.mem_of_getElem? hd))
          obtain ⟨x, y, z, ⟨⟩⟩ := d
          simp only at o1 o2 o3 o4 c1 c2 c3
          obtain ⟨f, rfl⟩ : ∃ f : Nat, x = (f : Int) := ⟨x.toNat, by omega⟩
          obtain ⟨t, rfl⟩ : ∃ t : Nat, y = (t : Int) := ⟨y.toNat, by omega⟩
          have k1 : wr.cell? ⟨b, o + p * 3, none⟩ = some (.int .i64 f) := by rw [hM.since.cell (a := ⟨b, o + p * 3, none⟩) hb]; exact c1
          have k2 : wr.cell? ⟨b, o + p * 3 + 1, none⟩ = some (.int .i64 t) := by rw [hM.since.cell (a := ⟨b, o + p * 3 + 1, none⟩) hb]; exact c2
          have k3 : wr.cell? ⟨b, o + p * 3 + 2, none⟩ = some (.int .i64 z) := by rw [hM.since.cell (a := ⟨b, o + p * 3 + 2, none⟩) hb]; exact c3
          have hf : f < c := by omega
          have ht : t < c := by omega
          have j1 : ∀ X, (wr.alloc X).cell? ⟨w.heap.size, f, none⟩ = some (.slice (some ⟨w.heap.size + 1 + f, 0, none⟩) c c) := fun X => (hM.grid.top.alloc X).cell hf
          have j2 : ∀ X, (wr.alloc X).cell? ⟨w.heap.size + 1 + f, t, none⟩ = some (.int .i64 (dirM (l.take p) f t)) := fun X => ((hM.grid.row f hf).alloc X).cell ht
          have j3 : ∀ X, (wr.alloc X).frozen? ⟨w.heap.size + 1 + f, t, none⟩ = false := fun X => ((hM.grid.row f hf).alloc X).frozen t
          clear ha hc hv c1 c2 c3
          go_wp2
          go_region
          all_goals go_wp2
          all_goals (
            go_roundg (l.length - (p + 1))
            case measure => omega
            case rel => exact ⟨p + 1, by omega, rfl, by simp, (((hM.alloc _).set hf _).drew).congr fun a b _ _ => dir_upd hd (by omega) a b⟩)
        · have e : p = l.length := by omega
          subst e
          rw [List.take_length] at hM
          go_wp2
          go_ret
          exact ⟨rfl, hM⟩

end Go.Proofs.Ytcklpclgiaeopaa

namespace Go.Proofs.Ytcklpclgiaeopaa
open Go Go.Abs Go.FW Go.Plain
theorem m36_eq (a b c : Int) : Pre.m36 ((a, b, c, ()), ()) = some ((decide (b ≤ a ∧ a ≤ c), ()), ()) := by
  unfold Pre.m36
  by_cases h : a ≥ b
  · by_cases g : a ≤ c
    · simp only [decide_eq_true h, decide_eq_true g, decide_eq_true (show b ≤ a ∧ a ≤ c from ⟨h, g⟩), sumE, sS]
    · simp only [decide_eq_true h, decide_eq_false g, decide_eq_false (show ¬ (b ≤ a ∧ a ≤ c) from fun e => g e.2), sumE, sS]
  · simp only [decide_eq_false h, decide_eq_false (show ¬ (b ≤ a ∧ a ≤ c) from fun e => h e.1), sumE, sS]

theorem m32_eq (a b c : Int) : Pre.m32 ((a, b, c, ()), ()) = some ((decide (b ≤ a ∧ a ≤ c), ()), ()) := by
  unfold Pre.m32
  by_cases h : a ≥ b
  · by_cases g : a ≤ c
    · simp only [decide_eq_true h, decide_eq_true g, decide_eq_true (show b ≤ a ∧ a ≤ c from ⟨h, g⟩), sumE, sS]
    · simp only [decide_eq_true h, decide_eq_false g, decide_eq_false (show ¬ (b ≤ a ∧ a ≤ c) from fun e => g e.2), sumE, sS]
  · simp only [decide_eq_false h, decide_eq_false (show ¬ (b ≤ a ∧ a ≤ c) from fun e => h e.1), sumE, sS]

theorem okD_def (n : Int) (d : DT) : okD n d = (decide (0 ≤ d.1 ∧ d.1 ≤ n - 1) && (decide (0 ≤ d.2.1 ∧ d.2.1 ≤ n - 1) && decide (-17179869184 ≤ d.2.2.1 ∧ d.2.2.1 ≤ 17179869184))) := rfl

theorem valid24 (n : Int) (l : List DT) : Pre.m24 ((n, l, ()), ()) = some ((validC n l, ()), ()) := by
  unfold Pre.m24 validC
  simp only [m36_eq, sumE, sS]
  by_cases h1 : 1 ≤ n ∧ n ≤ 41
  · by_cases h2 : (l.length : Int) > 4000
    · simp only [decide_eq_true h1, decide_eq_true h2, decide_eq_false (show ¬ l.length ≤ 4000 by omega), sumE, sS]
    · have hw1 : w64 (n - 1) = n - 1 := w64_id (by omega) (by omega)
      have h := loop_list0 (f := Pre.l24_2_2) l (fun i (_ : Unit) => (((i : Int), l, (l.length : Int), ()), ((n, ()), ()))) (fun i _ d => bif !okD n d then .inr (.inl (((i : Int), ()), ((n, ()), ()))) else .inl ()) (fun _ => .inr ((), ((n, ()), ()))) ?_ ?_ ()
      · obtain ⟨j, _, hj⟩ := runL_any (fun d => !okD n d) (fun i : Nat => (Sum.inl (((i : Int), ()), ((n, ()), ())) : ((Int × Unit) × ((Int × Unit) × Unit)) ⊕ (Unit × ((Int × Unit) × Unit)))) (.inr ((), ((n, ()), ()))) l 0
        simp only [decide_eq_true h1, decide_eq_false h2, decide_eq_true (show l.length ≤ 4000 by omega), sumE, sS]
        rw [show loopT Pre.l24_2_2 ((0, l, (l.length : Int), ()), ((n, ()), ())) = _ from h.trans (congrArg some hj), any_not]
        have hj0 : decide ((j : Int) ≥ 0) = true := decide_eq_true (by omega)
        cases l.all (okD n) <;> simp only [sumE, sS, hj0, Bool.not_true, Bool.not_false]
      · intro i d _ hd hi
        have hw : w64 ((i : Int) + 1) = ((i + 1 : Nat) : Int) := w64_nat (by omega)
        rw [okD_def]
        simp only [Pre.l24_2_2, rowAt_G, rowG_nat hd, lt_t hi, m36_eq, hw1, sumE, sS]
        cases decide (0 ≤ d.1 ∧ d.1 ≤ n - 1) <;> cases decide (0 ≤ d.2.1 ∧ d.2.1 ≤ n - 1) <;> cases decide (-17179869184 ≤ d.2.2.1 ∧ d.2.2.1 ≤ 17179869184) <;> simp only [sumE, sS, hw, Bool.not_true, Bool.not_false]
      · intro _
        simp only [Pre.l24_2_2, lt_f, sumE, sS]
  · simp only [decide_eq_false h1, sumE, sS]

theorem valid25 (n : Int) (l : List DT) : Pre.m25 ((n, l, ()), ()) = some ((validC n l, ()), ()) := by
  unfold Pre.m25 validC
  simp only [m32_eq, sumE, sS]
  by_cases h1 : 1 ≤ n ∧ n ≤ 41
  · by_cases h2 : (l.length : Int) > 4000
    · simp only [decide_eq_true h1, decide_eq_true h2, decide_eq_false (show ¬ l.length ≤ 4000 by omega), sumE, sS]
    · have hw1 : w64 (n - 1) = n - 1 := w64_id (by omega) (by omega)
      have h := loop_list0 (f := Pre.l25_0_4) l (fun i (_ : Unit) => (((i : Int), l, n, ()), ())) (fun i _ d => bif !okD n d then .inr (.inl ((false, ()), ())) else .inl ()) (fun _ => .inr ((), ())) ?_ ?_ ()
      · obtain ⟨j, _, hj⟩ := runL_any (fun d => !okD n d) (fun _ : Nat => (Sum.inl ((false, ()), ()) : ((Bool × Unit) × Unit) ⊕ (Unit × Unit))) (.inr ((), ())) l 0
        simp only [decide_eq_true h1, decide_eq_false h2, decide_eq_true (show l.length ≤ 4000 by omega), sumE, sS]
        rw [show loopT Pre.l25_0_4 ((0, l, n, ()), ()) = _ from h.trans (congrArg some hj), any_not]
        cases l.all (okD n) <;> simp only [sumE, sS, Bool.not_true, Bool.not_false]
      · intro i d _ hd hi
        have hw : w64 ((i : Int) + 1) = ((i + 1 : Nat) : Int) := w64_nat (by omega)
        rw [okD_def]
        simp only [Pre.l25_0_4, rowAt_G, rowG_nat hd, lt_t hi, m32_eq, hw1, sumE, sS]
        cases decide (0 ≤ d.1 ∧ d.1 ≤ n - 1) <;> cases decide (0 ≤ d.2.1 ∧ d.2.1 ≤ n - 1) <;> cases decide (-17179869184 ≤ d.2.2.1 ∧ d.2.2.1 ≤ 17179869184) <;> simp only [sumE, sS, hw, Bool.not_true, Bool.not_false]
      · intro _
        simp only [Pre.l25_0_4, lt_f, sumE, sS]
  · simp only [decide_eq_false h1, sumE, sS]

abbrev tD : Ty := .cons (.int .i64) (.cons (.int .i64) (.cons (.int .i64) .unit))

theorem rel_args {w : World} {n : Int} {l : List DT} {tg : Bool} {v : Value} (h : PR w noX v (rowAV tD l false)) (ℓ : Lens) (i : Nat) (u : SV) (hu : ((datS [.int .i64, .row tD]).un (n, l, ()))[i]? = some u) : ∃ x, (#[Value.int .i64 n, v] : Array Value).toList[i]? = some x ∧ PR w noX x (dV ℓ u) := by
  match i with
  | 0 => cases hu; exact ⟨_, rfl, .int _ _⟩
  | 1 => cases hu; exact ⟨_, rfl, h⟩
  | i + 2 => exact absurd (show (none : Option SV) = some u from hu) (by simp)

theorem calls24 {w : World} {n : Int} {l : List DT} {v : Value} (h : PR w noX v (rowAV tD l false)) : Calls Try.prog 24 #[.int .i64 n, v] w fun e w' => e = .returned (.bool (validC n l)) ∧ RowKit.Below w.heap.size w w' :=
  bool_calls (tys := [.int .i64, .row tD]) (x := (n, l, ())) Try.func24 rfl Pre.ok24 (by decide) (by cases validC n l <;> kernel_rfl) (valid24 n l) rfl (rel_args (tg := false) h)

theorem calls25 {w : World} {n : Int} {l : List DT} {v : Value} (h : PR w noX v (rowAV tD l false)) : Calls Try.prog 25 #[.int .i64 n, v] w fun e w' => e = .returned (.bool (validC n l)) ∧ RowKit.Below w.heap.size w w' :=
  bool_calls (tys := [.int .i64, .row tD]) (x := (n, l, ())) Try.func25 rfl Pre.ok25 (by decide) (by cases validC n l <;> kernel_rfl) (valid25 n l) rfl (rel_args (tg := false) h)

end Go.Proofs.Ytcklpclgiaeopaa

namespace Go.Proofs.Ytcklpclgiaeopaa
open Go Go.Abs Go.RowKit Go.FW
/-- What a constraint list's slice holds. -/
theorem row_diff {w : World} {X : XT} {v : Value} {l : List DT} {tg : Bool} (h : PR w X v (rowAV tD l tg)) :
    ∃ a b o cap, v = .slice a l.length cap ∧ (l ≠ [] → a = some ⟨b, o, none⟩) ∧ ∀ (p : Nat) (d : DT), l[p]? = some d → w.cell? ⟨b, o + p * 3, none⟩ = some (.int .i64 d.1) ∧ w.cell? ⟨b, o + p * 3 + 1, none⟩ = some (.int .i64 d.2.1) ∧ w.cell? ⟨b, o + p * 3 + 2, none⟩ = some (.int .i64 d.2.2.1) := by
  cases hl : l with
  | nil =>
    rw [hl] at h
    have h : PR w X v (.lst 0 [] tg) := h
    cases h with
    | lst0 a cap sz t ht => exact ⟨a, 0, 0, cap, rfl, fun e => absurd rfl e, fun p d hd => by simp at hd⟩
    | lst b o n cap sz t xs f hn hc ht hsz hx hr => simp at hn; subst hn; exact ⟨_, 0, 0, cap, rfl, fun e => absurd rfl e, fun p d hd => by simp at hd⟩
  | cons y r =>
    rw [← hl]
    have h : PR w X v (.lst (lsz 3 (@List.map (Ty.den tD) AV (enc tD) l)) (@List.map (Ty.den tD) AV (enc tD) l) tg) := h
    have hz : lsz 3 (@List.map (Ty.den tD) AV (enc tD) l) = 3 := by rw [hl]; rfl
    rw [hz] at h
    generalize hxs : (@List.map (Ty.den tD) AV (enc tD) l) = xs at h
    have hlen : xs.length = l.length := by rw [← hxs]; exact List.length_map ..
    cases h with
    | lst0 a cap sz t ht => rw [hl] at hlen; simp at hlen
    | lst b o n cap sz t xs f hn hc ht hsz hx hr =>
      refine ⟨some ⟨b, o, none⟩, b, o, cap, by rw [← hlen, hn], fun _ => rfl, fun p d hd => ?_⟩
      have hxp : xs[p]? = some (.agg [.int .i64 d.1, .int .i64 d.2.1, .int .i64 d.2.2.1]) := by
        rw [← hxs]
        refine (List.getElem?_map ..).trans ?_
        exact (congrArg (Option.map (enc tD)) (show (show List (Ty.den tD) from l)[p]? = some d from hd)).trans rfl
      have c := fun j u hj => hx p _ hxp j u hj
      have e := fun j u hj => hr p _ hxp j u hj
      obtain ⟨_, c0, _⟩ := c 0 _ rfl
      obtain ⟨_, c1, _⟩ := c 1 _ rfl
      obtain ⟨_, c2, _⟩ := c 2 _ rfl
      rw [PR.int_inv (e 0 _ rfl)] at c0
      rw [PR.int_inv (e 1 _ rfl)] at c1
      rw [PR.int_inv (e 2 _ rfl)] at c2
      exact ⟨c0, c1, c2⟩

/-- A world in which nothing old has turned. -/
theorem since_of_below {w w' : World} (h : Below w.heap.size w w') : w.Since w.heap.size w' := ⟨h.os, h.tape, h.output, h.size, fun i hi => h.block i hi⟩

/-- What Close makes. -/
def CloseR (n : Int) (l : List DT) (w : World) (e : Ending) (w' : World) : Prop := ∃ u, e = .returned (.tuple #[u, .bool (closeB n l)]) ∧ w.Since w.heap.size w' ∧
  if closeB n l then ∃ B, w.heap.size ≤ B ∧ u = .slice (some ⟨B, 0, none⟩) n.toNat n.toNat ∧ Grid w' B 22 3 n.toNat n.toNat (fun i => B + 1 + i) (fun _ => n.toNat) (rounds (W0 l) n.toNat) else u = .slice none 0 0

theorem close_no {n : Int} {l : List DT} {w w' : World} (h : closeB n l = false) (hs : w.Since w.heap.size w') : CloseR n l w (.returned (.tuple #[.slice none 0 0, .bool false])) w' :=
  ⟨.slice none 0 0, by rw [h], hs, by rw [h]; rfl⟩

theorem valid_no {n : Int} {l : List DT} (h : validC n l = false) : closeB n l = false := by unfold closeB; rw [h]; rfl

/-- The matrix, the diagonal at most 0 before c. -/
def diagM (l : List DT) (c : Nat) : Nat → Nat → Int := fun a b => if a = b ∧ a < c then min (dirM l a b) 0 else dirM l a b

theorem diag_start (l : List DT) : diagM l 0 = dirM l := by funext a b; unfold diagM; rw [if_neg (by omega)]

theorem diag_step (l : List DT) (c : Nat) {v : Int} (hv : v = min (dirM l c c) 0) (a b : Nat) : FW.upd (diagM l c) c c v a b = diagM l (c + 1) a b := by
  unfold FW.upd diagM
  by_cases e : a = c ∧ b = c
  · rw [if_pos e, if_pos (by omega), hv, e.1, e.2]
  · rw [if_neg e]
    by_cases g : a = b ∧ a < c
    · rw [if_pos g, if_pos (by omega)]
    · rw [if_neg g, if_neg (by omega)]

theorem diag_end (l : List DT) {n a b : Nat} (ha : a < n) : diagM l n a b = W0 l a b := by
  unfold diagM W0
  by_cases e : a = b
  · rw [if_pos ⟨e, ha⟩, if_pos e]
  · rw [if_neg (fun g => e g.1), if_neg e]

theorem diag_here (l : List DT) (c : Nat) : diagM l c c c = dirM l c c := by unfold diagM; rw [if_neg (by omega)]

theorem since_trans {w w1 w2 : World} (h : Below w.heap.size w w1) (g : w1.Since w1.heap.size w2) : w.Since w.heap.size w2 :=
  ⟨g.os.trans h.os, g.tape.trans h.tape, g.output.trans h.output, Nat.le_trans h.size g.size, fun i hi => (g.block i (Nat.lt_of_lt_of_le hi h.size)).trans (h.block i hi)⟩

theorem alld_no {N : Nat} {l : List DT} (h : ¬ AllD (W0 l) N N) : closeB (N : Int) l = false := by
  cases hc : closeB (N : Int) l
  · rfl
  · exact absurd (fun i hi => (closeB_iff.1 hc).2 i hi) h

theorem close_yes {N : Nat} {l : List DT} {w w1 w2 : World} {M : Nat → Nat → Int} (hv : validC (N : Int) l = true) (h : Below w.heap.size w w1) (hM : Mat w1 w2 N M) (hP : PS (W0 l) N N 0 0 M) (hd : ∀ q, q < N → 0 ≤ M q q) :
    CloseR (N : Int) l w (.returned (.tuple #[.slice (some ⟨w1.heap.size, 0, none⟩) N N, .bool true])) w2 := by
  obtain ⟨g1, g2⟩ := hP.final hd
  have hc : closeB (N : Int) l = true := closeB_iff.2 ⟨hv, g1⟩
  refine ⟨_, by rw [hc], since_trans h hM.since, ?_⟩
  rw [hc]
  exact ⟨w1.heap.size, h.size, rfl, hM.grid.congr g2⟩

theorem neg_round {N k i : Nat} {l : List DT} {M : Nat → Nat → Int} (hP : PS (W0 l) N k i 0 M) (hi : i = N) (hk : k < N) (hneg : M k k < 0) : closeB (N : Int) l = false := by
  subst hi
  exact alld_no (hP.round_end.neg hk hk hneg)

theorem row_done {N k i j : Nat} {l : List DT} {M : Nat → Nat → Int} (hP : PS (W0 l) N k i j M) (hj : j = N) : PS (W0 l) N k (i + 1) 0 M := by
  subst hj; exact hP.row_end

theorem round_done {N k i : Nat} {l : List DT} {M : Nat → Nat → Int} (hP : PS (W0 l) N k i 0 M) (hi : i = N) : PS (W0 l) N (k + 1) 0 0 M := by
  subst hi; exact hP.round_end

set_option maxHeartbeats 6400000 in
set_option maxRecDepth 1000000 in
theorem close_walk (n : Int) (v : Value) (l : List DT) (w : World) (hv : PR w noX v (rowAV tD l false)) : Calls Try.prog 13 #[.int .i64 n, v] w (CloseR n l w) := by
  have hval := calls24 (n := n) hv
  obtain ⟨a, b, o, cap, rfl, ha, hc⟩ := row_diff hv
  have H : Hid ((l ≠ [] → a = some ⟨b, o, none⟩) ∧ ∀ (p : Nat) (d : DT), l[p]? = some d → w.cell? ⟨b, o + p * 3, none⟩ = some (.int .i64 d.1) ∧ w.cell? ⟨b, o + p * 3 + 1, none⟩ = some (.int .i64 d.2.1) ∧ w.cell? ⟨b, o + p * 3 + 2, none⟩ = some (.int .i64 d.2.2.1)) := ⟨ha, hc⟩
  clear ha hc hv
  have hcl : validC n l = false → closeB n l = false := valid_no
  obtain ⟨vb, hvb⟩ : ∃ vb, vb = validC n l := ⟨_, rfl⟩
  rw [← hvb] at hval
  have Hv : Hid (vb = validC n l) := hvb
  clear hvb hcl
  go_enter Try.func13, Try.ntmps13
  go_wp2_with (go_at_call 24; refine hval.mono ?_; rintro e w1 ⟨rfl, hw1⟩)
  · go_ret2
    have hvb := Hv.out
    exact close_no (valid_no (by rw [← hvb]; simpa using ‹(!vb) = true›)) (since_of_below hw1)
  · have hvb := Hv.out
    have hvt : validC n l = true := by rw [← hvb]; simpa using ‹(!vb) = false›
    obtain ⟨⟨n1, n2⟩, n3, n4⟩ := valid_iff.1 hvt
    obtain ⟨N, rfl⟩ := Int.eq_ofNat_of_zero_le (show 0 ≤ n by omega)
    have hN : N ≤ 41 := by omega
    have HV : Hid (validC (N : Int) l = true) := hvt
    refine (direct_walk N hN a b o cap l n3 H.out.1 w1 (fun p d hd => ?_) n4).mono ?_
    · obtain ⟨c1, c2, c3⟩ := H.out.2 p d hd
      have hb : b < w.heap.size := World.block_lt_of_cell? _ _ c1
      have hs := since_of_below hw1
      exact ⟨by rw [hs.cell (a := ⟨b, o + p * 3, none⟩) hb]; exact c1, by rw [hs.cell (a := ⟨b, o + p * 3 + 1, none⟩) hb]; exact c2, by rw [hs.cell (a := ⟨b, o + p * 3 + 2, none⟩) hb]; exact c3⟩
    rintro e w2 ⟨rfl, hM⟩
    have HN : Hid (1 ≤ N ∧ N ≤ 41 ∧ ∀ d ∈ l, okD (N : Int) d = true) := ⟨by omega, hN, n4⟩
    clear hval hvb hvt n1 n2 n3 n4 H Hv
    go_wp2
    go_loopg [20] N (fun g i wr => ∃ c : Nat, c ≤ N ∧ g = N - c ∧ i = .int .i64 c ∧ Mat w1 wr N (diagM l c))
    case atStart => exact ⟨0, Nat.zero_le _, rfl, rfl, by rw [diag_start]; exact hM⟩
    case round =>
      clear hM
      obtain ⟨c, hc', rfl, rfl, hM⟩ := hrel
      by_cases hlt : c < N
      · have j1 : wr.cell? ⟨w1.heap.size, c, none⟩ = some (.slice (some ⟨w1.heap.size + 1 + c, 0, none⟩) N N) := hM.grid.top.cell hlt
        have j2 : wr.cell? ⟨w1.heap.size + 1 + c, c, none⟩ = some (.int .i64 (dirM l c c)) := by rw [← diag_here]; exact (hM.grid.row c hlt).cell hlt
        have j3 : wr.frozen? ⟨w1.heap.size + 1 + c, c, none⟩ = false := (hM.grid.row c hlt).frozen c
        go_wp2
        go_region
        all_goals go_wp2
        all_goals (
          go_roundg (N - (c + 1))
          case measure => omega
          case rel => exact ⟨c + 1, by omega, rfl, by simp, (((hM.set hlt _).drew).congr fun a b _ _ => diag_step l c (by omega) a b)⟩)
      · generalize decide (c < N) = s21
        have e : c = N := by omega
        subst e
        go_wp2
        have HP : Hid (PS (W0 l) c 0 0 0 (diagM l c)) := PS.start (fun a b ha _ => diag_end l ha)
        go_loopg [39] c (fun g i wr => ∃ k : Nat, k ≤ c ∧ g = c - k ∧ i = .int .i64 k ∧ ∃ M, Hid (PS (W0 l) c k 0 0 M) ∧ Mat w1 wr c M)
        case atStart => exact ⟨0, Nat.zero_le _, rfl, rfl, _, HP, hM⟩
        case round =>
          clear HP hM
          obtain ⟨k, hk, rfl, rfl, M, HP, hM⟩ := hrel
          by_cases hkc : k < c
          · go_wp2
            go_loopg [43] c (fun g i wr => ∃ i' : Nat, i' ≤ c ∧ g = c - i' ∧ i = .int .i64 i' ∧ ∃ M, Hid (PS (W0 l) c k i' 0 M) ∧ Mat w1 wr c M)
            case atStart => exact ⟨0, Nat.zero_le _, rfl, rfl, _, HP, hM⟩
            case round =>
              clear HP hM
              obtain ⟨i, hi, rfl, rfl, M, HP, hM⟩ := hrel
              by_cases hic : i < c
              · go_wp2
                go_loopg [47] c (fun g i' wr => ∃ j : Nat, j ≤ c ∧ g = c - j ∧ i' = .int .i64 j ∧ ∃ M, Hid (PS (W0 l) c k i j M) ∧ Mat w1 wr c M)
                case atStart => exact ⟨0, Nat.zero_le _, rfl, rfl, _, HP, hM⟩
                case round =>
                  clear HP hM
                  obtain ⟨j, hj, rfl, rfl, M, HP, hM⟩ := hrel
                  by_cases hjc : j < c
                  · have j1 : wr.cell? ⟨w1.heap.size, i, none⟩ = some (.slice (some ⟨w1.heap.size + 1 + i, 0, none⟩) c c) := hM.grid.top.cell hic
                    have j2 : wr.cell? ⟨w1.heap.size, k, none⟩ = some (.slice (some ⟨w1.heap.size + 1 + k, 0, none⟩) c c) := hM.grid.top.cell hkc
                    have j3 : wr.cell? ⟨w1.heap.size + 1 + i, k, none⟩ = some (.int .i64 (M i k)) := (hM.grid.row i hic).cell hkc
                    have j4 : wr.cell? ⟨w1.heap.size + 1 + k, j, none⟩ = some (.int .i64 (M k j)) := (hM.grid.row k hkc).cell hjc
                    have j5 : wr.cell? ⟨w1.heap.size + 1 + i, j, none⟩ = some (.int .i64 (M i j)) := (hM.grid.row i hic).cell hjc
                    have j6 : wr.frozen? ⟨w1.heap.size + 1 + i, j, none⟩ = false := (hM.grid.row i hic).frozen j
                    by_cases h1 : M i k = 1099511627776
                    · go_wp2
                      go_roundg (c - (j + 1))
                      case measure => omega
                      case rel => exact ⟨j + 1, by omega, rfl, by simp, M, HP.out.skip hkc hic hjc (.inl h1), hM⟩
                    · by_cases h2 : M k j = 1099511627776
                      · go_wp2
                        go_roundg (c - (j + 1))
                        case measure => omega
                        case rel => exact ⟨j + 1, by omega, rfl, by simp, M, HP.out.skip hkc hic hjc (.inr h2), hM⟩
                      · go_wp2
                        · go_region
                          all_goals go_wp2
                          all_goals (
                            go_roundg (c - (j + 1))
                            case measure => omega
                            case rel => exact ⟨j + 1, by omega, rfl, by simp, FW.upd M i j (min (M i j) (w64 (M i k + M k j))), HP.out.store (w_small HN.out.2.2) (by omega) hkc hic hjc h1 h2,
                              ((hM.set hic _).drew).congr fun a b _ _ => congrFun (congrFun (congrArg (FW.upd M i j) (by rw [show w64 (M i k + M k j) = wrap64 (M i k + M k j) by unfold wrap64; exact IntKind.wrap_i64 _]; omega)) a) b⟩)
                        · exfalso
                          rcases ‹(M i k != 1099511627776) = false ∨ (M k j != 1099511627776) = false› with h | h
                          · exact h1 (by simpa using h)
                          · exact h2 (by simpa using h)
                  · go_wp2
                    go_roundg (c - (i + 1))
                    case measure => omega
                    case rel => exact ⟨i + 1, by omega, rfl, by simp, M, row_done HP.out (by omega), hM⟩
              · have j2 : wr.cell? ⟨w1.heap.size, k, none⟩ = some (.slice (some ⟨w1.heap.size + 1 + k, 0, none⟩) c c) := hM.grid.top.cell hkc
                have j3 : wr.cell? ⟨w1.heap.size + 1 + k, k, none⟩ = some (.int .i64 (M k k)) := (hM.grid.row k hkc).cell hkc
                by_cases hneg : M k k < 0
                · go_wp2
                  go_ret2
                  exact close_no (neg_round HP.out (by omega) hkc hneg) (since_trans hw1 hM.since)
                · go_wp2
                  go_roundg (c - (k + 1))
                  case measure => omega
                  case rel => exact ⟨k + 1, by omega, rfl, by simp, M, round_done HP.out (by omega), hM⟩
          · have HP2 : Hid (PS (W0 l) c c 0 0 M) := (show k = c by omega) ▸ HP.out
            clear HP
            go_wp2
            generalize decide (k < c) = s40
            go_loopg [109] c (fun g i wr => ∃ q : Nat, q ≤ c ∧ g = c - q ∧ i = .int .i64 q ∧ Hid (∀ x, x < q → 0 ≤ M x x) ∧ Mat w1 wr c M)
            case atStart => exact ⟨0, Nat.zero_le _, rfl, rfl, fun x hx => absurd hx (Nat.not_lt_zero _), hM⟩
            case round =>
              clear hM
              obtain ⟨q, hq, rfl, rfl, HD, hM⟩ := hrel
              by_cases hqc : q < c
              · have j2 : wr.cell? ⟨w1.heap.size, q, none⟩ = some (.slice (some ⟨w1.heap.size + 1 + q, 0, none⟩) c c) := hM.grid.top.cell hqc
                have j3 : wr.cell? ⟨w1.heap.size + 1 + q, q, none⟩ = some (.int .i64 (M q q)) := (hM.grid.row q hqc).cell hqc
                by_cases hneg : M q q < 0
                · go_wp2
                  go_ret2
                  exact close_no (alld_no (HP2.out.final_neg hqc hneg)) (since_trans hw1 hM.since)
                · go_wp2
                  go_roundg (c - (q + 1))
                  case measure => omega
                  case rel => exact ⟨q + 1, by omega, rfl, by simp, fun x hx => by
                    by_cases ex : x = q
                    · subst ex; omega
                    · exact HD.out x (by omega), hM⟩
              · go_wp2
                go_ret2
                exact close_yes HV.out hw1 hM HP2.out (fun x hx => HD.out x (by omega))

end Go.Proofs.Ytcklpclgiaeopaa

namespace Go.Proofs.Ytcklpclgiaeopaa
open Go Go.Abs Go.RowKit Go.FW
theorem two_vals' {vals : Array Value} {n : Int} {v : Value} (hsz : vals.size = 2) (h0 : vals.getD 0 undef = .int .i64 n) (h1 : vals.getD 1 undef = v) : vals = #[.int .i64 n, v] := by
  rw [two_vals hsz, h0, h1]

theorem pr_no {w : World} {X : XT} {v : Value} {x : AV} (h : PR w X v x) : PR w noX v x := h.mono ((Stable.refl w X).less fun b o _ hx => hx.elim)

theorem pr_tight {w : World} {X : XT} {v : Value} {sz : Nat} {xs : List AV} {t : Bool} (h : PR w X v (.lst sz xs t)) : PR w X v (.lst sz xs false) := by
  cases h with
  | lst0 a cap sz t ht => exact .lst0 a cap sz false (fun e => by cases e)
  | lst b o n cap sz t xs f hn hc ht hsz hx hr => exact .lst b o n cap sz false xs f hn hc (fun e => by cases e) hsz hx hr

theorem hand30 : CallOK Try.prog 30 (pureC hfDir) := new_ok (entered Try.func30 rfl (by decide)) (by
  intro args v h
  unfold hfDir at h
  split at h
  · rename_i n l tg
    obtain ⟨hc, h⟩ := Tr.mean_need h
    have := Tr.mean_ret h
    subst this
    intro w X vals hsz hv
    have h0 := PR.int_inv (hv 0 _ rfl)
    have h1 := hv 1 _ rfl
    obtain ⟨a, b, o, cap, e1, ha, hcell⟩ := row_diff (l := l) (tg := tg) (pr_no h1)
    have hvv := two_vals' (by simpa using hsz) h0 e1
    obtain ⟨⟨n1, n2⟩, n3, n4⟩ := valid_iff.1 (show validC n l = true from hc)
    obtain ⟨N, rfl⟩ := Int.eq_ofNat_of_zero_le (show 0 ≤ n by omega)
    rw [hvv]
    refine (direct_walk N (by omega) a b o cap l n3 ha w hcell n4).mono ?_
    rintro e w' ⟨rfl, hM⟩
    refine ⟨_, rfl, Kept.of_since hM.since, fun X' ρ ℓ hX => ?_⟩
    have hx : ∀ b o, w.heap.size ≤ b → ¬ X' b o := fun b o hb hx => by have := hX b o hx; omega
    exact .pur _ _ (hM.grid.rel (fun o => hx _ o (Nat.le_refl _)) (fun i o _ => hx _ o (by omega)) N (Nat.le_refl _) ℓ)
  · exact (Tr.mean_fail h).elim)

theorem hand13 : CallOK Try.prog 13 (pureC hfClose) := new_ok (entered Try.func13 rfl (by decide)) (by
  intro args v h
  unfold hfClose at h
  split at h
  · rename_i n l tg
    have := Tr.mean_ret h
    subst this
    intro w X vals hsz hv
    have h0 := PR.int_inv (hv 0 _ rfl)
    have h1 := pr_tight (pr_no (hv 1 _ rfl))
    have hvv := two_vals' (v := vals.getD 1 undef) (by simpa using hsz) h0 rfl
    rw [hvv]
    refine (close_walk n (vals.getD 1 undef) l w h1).mono ?_
    rintro e w' ⟨u, rfl, hs, hu⟩
    refine ⟨_, rfl, Kept.of_since hs, fun X' ρ ℓ hX => ?_⟩
    have hx : ∀ b o, w.heap.size ≤ b → ¬ X' b o := fun b o hb hx => by have := hX b o hx; omega
    have key : PR w' X' u (d1 ℓ (.row (.row (.int .i64)) (cloL n l) false)) := by
      unfold cloL
      cases hc : closeB n l
      · rw [hc] at hu
        rw [show u = .slice none 0 0 from hu]
        exact .lst0 none 0 _ false (fun e => by cases e)
      · rw [hc] at hu
        obtain ⟨B, b1, rfl, hg⟩ := hu
        exact hg.rel (fun o => hx _ o b1) (fun i o _ => hx _ o (by omega)) _ (Nat.le_refl _) ℓ
    refine .tup _ _ rfl (fun i x hi => ?_)
    match i with
    | 0 => cases hi; exact .pur _ _ key
    | 1 => cases hi; exact .pur _ _ (.bool _)
    | i + 2 => exact absurd (show (none : Option AV) = some x from hi) (by simp)
  · exact (Tr.mean_fail h).elim)

end Go.Proofs.Ytcklpclgiaeopaa
