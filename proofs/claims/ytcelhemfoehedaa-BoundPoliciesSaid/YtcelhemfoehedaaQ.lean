/- Chapter 30, law 3 (Policies): the plain law. -/
import Derived.Test.YtcelhemfoehedaaP
namespace Go.Proofs.Ytcelhemfoehedaa
open Go Go.Abs

def dflt : Step := (0, false, [], ())
/-- The wait of the step that is reached by counting round and round. -/
def wt (l : List Step) (k : Nat) : Int := (l.getD (k % l.length) dflt).1
/-- The sum of the first waits. -/
def S (l : List Step) : Nat → Int
  | 0 => 0
  | k + 1 => S l k + wt l k

theorem wt_get {l : List Step} {k : Nat} (h : 0 < l.length) : ∃ s, l[k % l.length]? = some s ∧ s ∈ l ∧ s.1 = wt l k := by
  have hk : k % l.length < l.length := Nat.mod_lt _ h
  refine ⟨l[k % l.length], List.getElem?_eq_getElem hk, List.getElem_mem hk, ?_⟩
  simp [wt, List.getD_eq_getElem?_getD, List.getElem?_eq_getElem hk]

theorem S_bound {l : List Step} (h : 0 < l.length) (hs : ∀ s ∈ l, SOK s) : ∀ k, 0 ≤ S l k ∧ S l k ≤ 900 * k := by
  intro k
  induction k with
  | zero => simp [S]
  | succ k ih =>
    obtain ⟨s, _, hm, he⟩ := wt_get (k := k) h
    have := hs s hm
    simp only [S, ← he]
    obtain ⟨a, b⟩ := this
    omega

/-- What comes round again. -/
theorem S_round {l : List Step} (r : Nat) : ∀ j, j ≤ l.length → S l (l.length * r + j) = S l (l.length * r) + S l j := by
  intro j
  induction j with
  | zero => intro _; simp [S]
  | succ j ih =>
    intro hj
    have hw : wt l (l.length * r + j) = wt l j := by
      unfold wt
      rw [Nat.mul_add_mod]
    rw [show l.length * r + (j + 1) = (l.length * r + j) + 1 by omega]
    simp only [S]
    rw [ih (by omega), hw]
    omega

theorem S_all {l : List Step} : ∀ r : Nat, S l (l.length * r) = r * S l l.length := by
  intro r
  induction r with
  | zero => simp [S]
  | succ r ih =>
    rw [Nat.mul_succ, S_round r l.length (Nat.le_refl _), ih]
    have : ((r + 1 : Nat) : Int) * S l l.length = r * S l l.length + S l l.length := by
      rw [Int.natCast_add, Int.add_mul]; simp
    rw [this]

def cnt (p : Pol) : Nat := p.2.1.length * (p.2.2.1.toNat + 1)

theorem cnt_le {p : Pol} (hp : POK p) : 1 ≤ cnt p ∧ cnt p ≤ 9 ∧ (cnt p : Int) = (p.2.1.length : Int) * (p.2.2.1 + 1) := by
  obtain ⟨⟨a1, a2⟩, ⟨b1, b2⟩, _⟩ := hp
  have h1 : p.2.2.1.toNat + 1 ≤ 3 := by omega
  refine ⟨Nat.mul_pos b1 (Nat.succ_pos _), Nat.le_trans (Nat.mul_le_mul b2 h1) (by omega), ?_⟩
  unfold cnt
  rw [Int.natCast_mul]
  congr 1
  omega

theorem m22_eq (a b c : Int) : m22 ((a, b, c, ()), ()) = some ((decide (b ≤ a) && decide (a ≤ c), ()), ()) := by
  unfold m22
  by_cases h : a ≥ b <;> simp [h]
theorem m26_eq (a b c : Int) : m26 ((a, b, c, ()), ()) = some ((decide (b ≤ a) && decide (a ≤ c), ()), ()) := by
  unfold m26
  by_cases h : a ≥ b <;> simp [h]

theorem m18_eq {p : Pol} (hp : POK p) : m18 ((p, ()), ()) = some (((cnt p : Int), ()), ()) := by
  obtain ⟨c1, c2, c3⟩ := cnt_le hp
  obtain ⟨⟨a1, a2⟩, ⟨b1, b2⟩, _⟩ := hp
  have h1 : w64 (p.2.2.1 + 1) = p.2.2.1 + 1 := w64_id (by omega) (by omega)
  have h2 : w64 ((p.2.1.length : Int) * (p.2.2.1 + 1)) = (p.2.1.length : Int) * (p.2.2.1 + 1) := w64_id (by omega) (by omega)
  have h3 : (0 : Int) ≤ p.2.2.1 ∧ p.2.2.1 ≤ 8 := by omega
  have h4 : ¬ ((p.2.1.length : Int) > 8) := by omega
  unfold m18
  simp only [m26_eq, h3.1, h3.2, decide_true, Bool.and_self, Bool.not_true, cond_false, h4, decide_false, Option.bind_some, h1, h2, c3]
theorem m21_eq {p : Pol} (hp : POK p) : m21 ((p, ()), ()) = some (((cnt p : Int), ()), ()) := by
  obtain ⟨c1, c2, c3⟩ := cnt_le hp
  obtain ⟨⟨a1, a2⟩, ⟨b1, b2⟩, _⟩ := hp
  have h1 : w64 (p.2.2.1 + 1) = p.2.2.1 + 1 := w64_id (by omega) (by omega)
  have h2 : w64 ((p.2.1.length : Int) * (p.2.2.1 + 1)) = (p.2.1.length : Int) * (p.2.2.1 + 1) := w64_id (by omega) (by omega)
  have h3 : (0 : Int) ≤ p.2.2.1 ∧ p.2.2.1 ≤ 8 := by omega
  have h4 : ¬ ((p.2.1.length : Int) > 8) := by omega
  unfold m21
  simp only [m22_eq, h3.1, h3.2, decide_true, Bool.and_self, Bool.not_true, cond_false, h4, decide_false, Option.bind_some, h1, h2, c3]

def offs (l : List Step) (n : Nat) : List Int := (List.range (n + 1)).map (S l)

theorem offs_succ (l : List Step) (n : Nat) : offs l (n + 1) = offs l n ++ [S l (n + 1)] := by
  unfold offs
  rw [List.range_succ (n := n + 1), List.map_append]
  rfl
theorem offs_len (l : List Step) (n : Nat) : (offs l n).length = n + 1 := by simp [offs]
theorem offs_get (l : List Step) {n k : Nat} (h : k ≤ n) : (offs l n)[k]? = some (S l k) := by
  unfold offs
  rw [List.getElem?_map, List.getElem?_range (by omega)]
  rfl

theorem tmod_nat (i n : Nat) : (i : Int).tmod (n : Int) = ((i % n : Nat) : Int) := by
  rw [Int.tmod_eq_emod_of_nonneg (by omega)]; simp

theorem loop253 {p : Pol} (hp : POK p) : ∀ (n i : Nat), i + n = cnt p →
    loopT l25_0_3 (((i : Int), (cnt p : Int), ()), ((p, ()), (offs p.2.1 i, ()))) = some ((), (offs p.2.1 (cnt p), ((p, ()), ()))) := by
  obtain ⟨c1, c2, c3⟩ := cnt_le hp
  obtain ⟨_, ⟨b1, b2⟩, hs⟩ := hp
  intro n
  induction n with
  | zero =>
    intro i h
    have hi : i = cnt p := by omega
    subst hi
    refine loopT_inr ?_
    simp [l25_0_3]
  | succ n ih =>
    intro i h
    have hlt : (i : Int) < (cnt p : Int) := by omega
    have hr : (0 : Int) ≤ i ∧ (i : Int) < (offs p.2.1 i).length := by rw [offs_len]; omega
    have hx : (offs p.2.1 i)[(i : Int).toNat]? = some (S p.2.1 i) := by rw [Int.toNat_natCast]; exact offs_get _ (Nat.le_refl _)
    have hne : (p.2.1.length : Int) ≠ 0 := by omega
    obtain ⟨s, hg, hm, he⟩ := wt_get (l := p.2.1) (k := i) (by omega)
    have hn0 : 0 ≤ (i : Int).tmod (p.2.1.length : Int) := by rw [tmod_nat]; omega
    have hg' : p.2.1[((i : Int).tmod (p.2.1.length : Int)).toNat]? = some s := by rw [tmod_nat, Int.toNat_natCast]; exact hg
    have hb := S_bound (l := p.2.1) (by omega) hs i
    have hsb := hs s hm
    obtain ⟨s1, s2⟩ := hsb
    have hw : w64 ((i : Int) + 1) = ((i + 1 : Nat) : Int) := by rw [w64_id (by omega) (by omega)]; omega
    have hw2 : w64 (S p.2.1 i + s.1) = S p.2.1 (i + 1) := by rw [w64_id (by omega) (by omega), he]; rfl
    have hlen : (offs p.2.1 i).length + 1 ≤ 4294967296 := by rw [offs_len]; omega
    have hst : l25_0_3 (((i : Int), (cnt p : Int), ()), ((p, ()), (offs p.2.1 i, ()))) = some (.inl ((((i + 1 : Nat) : Int), (cnt p : Int), ()), ((p, ()), (offs p.2.1 (i + 1), ())))) := by
      unfold l25_0_3
      simp only [hlt, decide_true, cond_true, hr, and_self, hx, Option.bind_some, hne, ne_eq, not_false_eq_true]
      rw [rowAt_some' _ hn0 hg']
      simp only [List.length_cons, List.length_nil, Nat.zero_add, hlen, decide_true, cond_true, hw, hw2, offs_succ]
    rw [loopT_inl hst]
    exact ih (i + 1) (by omega)

theorem loop258 {l : List Step} {o : List Int} (hl : l.length ≤ 3) (hs : ∀ s ∈ l, SOK s) : ∀ (n i : Nat), i + n = l.length →
    loopT l25_0_8 (((i : Int), l, (l.length : Int), ()), (o, ())) = some (.inr ((), (o, ()))) := by
  intro n
  induction n with
  | zero =>
    intro i h
    refine loopT_inr ?_
    have : ¬ ((i : Int) < l.length) := by omega
    simp [l25_0_8, this]
  | succ n ih =>
    intro i h
    have hi' : i < l.length := by omega
    have hlt : (i : Int) < l.length := by omega
    have hx : l[(i : Int).toNat]? = some l[i] := by rw [Int.toNat_natCast]; exact List.getElem?_eq_getElem hi'
    have hw : w64 ((i : Int) + 1) = ((i + 1 : Nat) : Int) := by rw [w64_id (by omega) (by omega)]; omega
    obtain ⟨s1, s2⟩ := hs l[i] (List.getElem_mem hi')
    have s3 : l[i].1 ≤ 86400 := by omega
    have hst : l25_0_8 (((i : Int), l, (l.length : Int), ()), (o, ())) = some (.inl ((((i + 1 : Nat) : Int), l, (l.length : Int), ()), (o, ()))) := by
      unfold l25_0_8
      simp only [hlt, decide_true, cond_true]
      rw [rowAt_some' _ (by omega) hx]
      simp only [m26_eq, s1, s3, decide_true, Bool.and_self, Option.bind_some, Bool.not_true, cond_false, hw]
    rw [loopT_inl hst]
    exact ih (i + 1) (by omega)

theorem m25_eq {p : Pol} (hp : POK p) : m25 ((p, ()), ()) = some ((), (offs p.2.1 (cnt p), ())) := by
  unfold m25
  have h1 := loop253 hp (cnt p) 0 (by omega)
  have h2 := loop258 (o := offs p.2.1 (cnt p)) hp.2.1.2 hp.2.2 p.2.1.length 0 (by omega)
  simp only [m18_eq hp, Option.bind_some]
  rw [show loopT l25_0_3 ((0, ((cnt p : Int), ())), ((p, ()), ([0], ()))) = _ from h1]
  simp only [Option.bind_some]
  rw [show loopT l25_0_8 ((0, (p.2.1, ((p.2.1.length : Int), ()))), (offs p.2.1 (cnt p), ())) = _ from h2]
  rfl

theorem m17_eq {p : Pol} (hp : POK p) {k : Nat} (hk : k ≤ cnt p) : m17 ((p, (k : Int), ()), ()) = some ((S p.2.1 k, true, ()), ()) := by
  obtain ⟨c1, c2, c3⟩ := cnt_le hp
  unfold m17
  have h1 : w64 (((offs p.2.1 (cnt p)).length : Int) - 1) = (cnt p : Int) := by rw [offs_len, w64_id (by omega) (by omega)]; omega
  have h2 : (0 : Int) ≤ (k : Int) ∧ (k : Int) < (offs p.2.1 (cnt p)).length := by rw [offs_len]; omega
  have h3 : (k : Int) ≤ cnt p := by omega
  have h4 : (offs p.2.1 (cnt p))[(k : Int).toNat]? = some (S p.2.1 k) := by rw [Int.toNat_natCast]; exact offs_get _ hk
  simp only [m25_eq hp, Option.bind_some, h1, m26_eq, h2.1, h3, decide_true, Bool.and_self, Bool.not_true, cond_false, h2, and_self, cond_true, h4]

theorem m16_eq {p : Pol} (hp : POK p) : m16 ((p, ()), ()) = some ((S p.2.1 (cnt p), ()), ()) := by
  unfold m16
  simp only [m18_eq hp, Option.bind_some, m17_eq hp (Nat.le_refl _)]
theorem m8_eq {p : Pol} (hp : POK p) : m8 ((p, ()), ()) = some ((S p.2.1 (cnt p), ()), ()) := by
  unfold m8
  simp only [m16_eq hp, Option.bind_some]

theorem m19_three {a : Int} (h0 : 0 ≤ a) (h1 : a ≤ 100000) : m19 (([a, 345600, 2400], ()), ()) = some ((a + 345600 + 2400, ()), ()) := by
  unfold m19
  rw [loopT_inl (a' := ((1, a, [a, 345600, 2400], 3, ()), ())) (by unfold l19_0_3; simp [Abs.rowAt, w64_id (x := a) (by omega) (by omega), w64_id (x := 1) (by omega) (by omega)])]
  rw [loopT_inl (a' := ((2, a + 345600, [a, 345600, 2400], 3, ()), ())) (by unfold l19_0_3; simp [Abs.rowAt, w64_id (x := a + 345600) (by omega) (by omega), w64_id (x := 2) (by omega) (by omega)])]
  rw [loopT_inl (a' := ((3, a + 345600 + 2400, [a, 345600, 2400], 3, ()), ())) (by unfold l19_0_3; simp [Abs.rowAt, w64_id (x := a + 345600 + 2400) (by omega) (by omega), w64_id (x := 3) (by omega) (by omega)])]
  rw [loopT_inr (d := ((a + 345600 + 2400, ()), ())) (by unfold l19_0_3; simp)]
  rfl

theorem S_end {p : Pol} (hp : POK p) : 0 ≤ S p.2.1 (cnt p) ∧ S p.2.1 (cnt p) ≤ 8100 := by
  obtain ⟨c1, c2, c3⟩ := cnt_le hp
  have := S_bound (l := p.2.1) (by have := hp.2.1.1; omega) hp.2.2 (cnt p)
  omega

theorem m9_eq {p : Pol} (hp : POK p) : m9 ((p, ()), ()) = some ((S p.2.1 (cnt p) + 345600 + 2400, ()), ()) := by
  obtain ⟨c1, c2, c3⟩ := cnt_le hp
  have h := S_end hp
  unfold m9
  have h0 : m17 ((p, (0, ())), ()) = some ((0, true, ()), ()) := m17_eq hp (k := 0) (by omega)
  have hne : ((cnt p : Int) == 0) = false := by simpa using (show ¬ (cnt p = 0) by omega)
  simp only [h0, Option.bind_some, Bool.not_true, cond_false, m18_eq hp, hne, m16_eq hp, m19_three h.1 (by omega)]

theorem loop27 {p : Pol} (hp : POK p) : ∀ (n i : Nat), i + n = p.2.1.length → loopT l27_0_2 (((i : Int), ()), ((p, ()), ())) = some (.inr ((), ())) := by
  obtain ⟨_, ⟨b1, b2⟩, hs⟩ := hp
  intro n
  induction n with
  | zero =>
    intro i h
    refine loopT_inr ?_
    have : ¬ ((i : Int) < p.2.1.length) := by omega
    simp [l27_0_2, this]
  | succ n ih =>
    intro i h
    have hi' : i < p.2.1.length := by omega
    have hlt : (i : Int) < p.2.1.length := by omega
    have hx : p.2.1[(i : Int).toNat]? = some p.2.1[i] := by rw [Int.toNat_natCast]; exact List.getElem?_eq_getElem hi'
    have hw : w64 ((i : Int) + 1) = ((i + 1 : Nat) : Int) := by rw [w64_id (by omega) (by omega)]; omega
    obtain ⟨s1, s2⟩ := hs p.2.1[i] (List.getElem_mem hi')
    have s3 : p.2.1[i].1 ≤ 86400 := by omega
    have hst : l27_0_2 (((i : Int), ()), ((p, ()), ())) = some (.inl ((((i + 1 : Nat) : Int), ()), ((p, ()), ()))) := by
      unfold l27_0_2
      simp only [hlt, decide_true, cond_true]
      rw [rowAt_some' _ (by omega) hx]
      simp only [m22_eq, s1, s3, decide_true, Bool.and_self, Option.bind_some, Bool.not_true, cond_false, hw]
    rw [loopT_inl hst]
    exact ih (i + 1) (by omega)

theorem m27_eq {p : Pol} (hp : POK p) : m27 ((p, ()), ()) = some ((true, ()), ()) := by
  unfold m27
  rw [show loopT l27_0_2 ((0, ()), ((p, ()), ())) = _ from loop27 hp p.2.1.length 0 (by omega)]
  rfl

theorem loop205 {p : Pol} (hp : POK p) {m : Nat} (hm : m ≤ cnt p) : ∀ (n i : Nat), i + n = m →
    loopT l20_0_5 (((i : Int), S p.2.1 i, (m : Int), ()), ((p, ()), ())) = some ((S p.2.1 m, ()), ()) := by
  obtain ⟨c1, c2, c3⟩ := cnt_le hp
  obtain ⟨_, ⟨b1, b2⟩, hs⟩ := hp
  intro n
  induction n with
  | zero =>
    intro i h
    have hi : i = m := by omega
    subst hi
    refine loopT_inr ?_
    simp [l20_0_5]
  | succ n ih =>
    intro i h
    have hlt : (i : Int) < (m : Int) := by omega
    have hne : (p.2.1.length : Int) ≠ 0 := by omega
    obtain ⟨s, hg, hmm, he⟩ := wt_get (l := p.2.1) (k := i) (by omega)
    have hn0 : 0 ≤ (i : Int).tmod (p.2.1.length : Int) := by rw [tmod_nat]; omega
    have hg' : p.2.1[((i : Int).tmod (p.2.1.length : Int)).toNat]? = some s := by rw [tmod_nat, Int.toNat_natCast]; exact hg
    have hb := S_bound (l := p.2.1) (by omega) hs i
    obtain ⟨s1, s2⟩ := hs s hmm
    have hw : w64 ((i : Int) + 1) = ((i + 1 : Nat) : Int) := by rw [w64_id (by omega) (by omega)]; omega
    have hw2 : w64 (S p.2.1 i + s.1) = S p.2.1 (i + 1) := by rw [w64_id (by omega) (by omega), he]; rfl
    have hst : l20_0_5 (((i : Int), S p.2.1 i, (m : Int), ()), ((p, ()), ())) = some (.inl ((((i + 1 : Nat) : Int), S p.2.1 (i + 1), (m : Int), ()), ((p, ()), ()))) := by
      unfold l20_0_5
      simp only [hlt, decide_true, cond_true, hne, ne_eq, not_false_eq_true]
      rw [rowAt_some' _ hn0 hg']
      simp only [hw, hw2]
    rw [loopT_inl hst]
    exact ih (i + 1) (by omega)

theorem m10_eq {p : Pol} (hp : POK p) : m10 ((p, ()), ()) = some ((S p.2.1 (cnt p), ()), ()) := by
  unfold m10 m20
  have h1 : ¬ ((cnt p : Int) < 0) := by omega
  have h2 : ¬ ((cnt p : Int) > cnt p) := by omega
  simp only [m21_eq hp, Option.bind_some, h1, decide_false, cond_false, h2, m27_eq hp, Bool.not_true]
  rw [show loopT l20_0_5 ((0, (0, ((cnt p : Int), ()))), ((p, ()), ())) = _ from loop205 hp (Nat.le_refl _) (cnt p) 0 (by omega)]
  simp only [Option.bind_some]

theorem loop38 {p : Pol} (hp : POK p) {n4 i4 : Int} {ps : List Pol} : ∀ (n i : Nat), i + n = p.2.1.length →
    loopT l3_0_8 (((i : Int), S p.2.1 i * (p.2.2.1 + 1), p.2.1, n4, i4, (p.2.1.length : Int), ()), ((p, ()), (ps, ()))) = some ((n4, i4, S p.2.1 p.2.1.length * (p.2.2.1 + 1), ()), (ps, ((p, ()), ()))) := by
  obtain ⟨⟨a1, a2⟩, ⟨b1, b2⟩, hs⟩ := hp
  intro n
  induction n with
  | zero =>
    intro i h
    have hi : i = p.2.1.length := by omega
    subst hi
    refine loopT_inr ?_
    simp [l3_0_8]
  | succ n ih =>
    intro i h
    have hi' : i < p.2.1.length := by omega
    have hlt : (i : Int) < (p.2.1.length : Int) := by omega
    obtain ⟨s, hg, hmm, he⟩ := wt_get (l := p.2.1) (k := i) (by omega)
    rw [Nat.mod_eq_of_lt hi'] at hg
    have hgi : p.2.1[(i : Int).toNat]? = some s := by rw [Int.toNat_natCast]; exact hg
    have hb := S_bound (l := p.2.1) (by omega) hs i
    obtain ⟨s1, s2⟩ := hs s hmm
    have hw : w64 ((i : Int) + 1) = ((i + 1 : Nat) : Int) := by rw [w64_id (by omega) (by omega)]; omega
    have w1 : w64 (p.2.2.1 + 1) = p.2.2.1 + 1 := w64_id (by omega) (by omega)
    have m1 : 0 ≤ s.1 * (p.2.2.1 + 1) ∧ s.1 * (p.2.2.1 + 1) ≤ 2700 := by
      rcases (show p.2.2.1 = 0 ∨ p.2.2.1 = 1 ∨ p.2.2.1 = 2 by omega) with e | e | e <;> rw [e] <;> omega
    have m2 : 0 ≤ S p.2.1 i * (p.2.2.1 + 1) ∧ S p.2.1 i * (p.2.2.1 + 1) ≤ 8100 := by
      rcases (show p.2.2.1 = 0 ∨ p.2.2.1 = 1 ∨ p.2.2.1 = 2 by omega) with e | e | e <;> rw [e] <;> omega
    have w2 : w64 (s.1 * (p.2.2.1 + 1)) = s.1 * (p.2.2.1 + 1) := w64_id (by omega) (by omega)
    have w3 : w64 (S p.2.1 i * (p.2.2.1 + 1) + s.1 * (p.2.2.1 + 1)) = S p.2.1 (i + 1) * (p.2.2.1 + 1) := by
      rw [w64_id (by omega) (by omega), ← Int.add_mul, he]; rfl
    have hst : l3_0_8 (((i : Int), S p.2.1 i * (p.2.2.1 + 1), p.2.1, n4, i4, (p.2.1.length : Int), ()), ((p, ()), (ps, ()))) = some (.inl ((((i + 1 : Nat) : Int), S p.2.1 (i + 1) * (p.2.2.1 + 1), p.2.1, n4, i4, (p.2.1.length : Int), ()), ((p, ()), (ps, ())))) := by
      unfold l3_0_8
      simp only [hlt, decide_true, cond_true]
      rw [rowAt_some' _ (by omega) hgi]
      simp only [w1, w2, w3, hw]
    rw [loopT_inl hst]
    exact ih (i + 1) (by omega)

theorem S_sum {p : Pol} (hp : POK p) : S p.2.1 p.2.1.length * (p.2.2.1 + 1) = S p.2.1 (cnt p) := by
  unfold cnt
  rw [S_all, Int.mul_comm]
  congr 1
  have := hp.1.1
  omega

theorem loop34 {ps : List Pol} (hl : ps.length ≤ 3) (hps : ∀ p ∈ ps, POK p) : ∀ (n i : Nat), i + n = ps.length →
    loopT l3_0_4 (((i : Int), (ps.length : Int), ()), (ps, ())) = some (.inr ((), ())) := by
  intro n
  induction n with
  | zero =>
    intro i h
    refine loopT_inr ?_
    have : ¬ ((i : Int) < ps.length) := by omega
    simp [l3_0_4, this]
  | succ n ih =>
    intro i h
    have hi' : i < ps.length := by omega
    have hlt : (i : Int) < ps.length := by omega
    have hr : (0 : Int) ≤ i ∧ (i : Int) < ps.length := by omega
    have hx : ps[(i : Int).toNat]? = some ps[i] := by rw [Int.toNat_natCast]; exact List.getElem?_eq_getElem hi'
    have hp := hps ps[i] (List.getElem_mem hi')
    have hw : w64 ((i : Int) + 1) = ((i + 1 : Nat) : Int) := by rw [w64_id (by omega) (by omega)]; omega
    have h38 := loop38 hp (n4 := (ps.length : Int)) (i4 := (i : Int)) (ps := ps) ps[i].2.1.length 0 (by omega)
    rw [S_sum hp, show S ps[i].2.1 0 = 0 from rfl, Int.zero_mul, show ((0 : Nat) : Int) = 0 from rfl] at h38
    have hS := S_end hp
    have w1 : w64 (S ps[i].2.1 (cnt ps[i]) + 345600) = S ps[i].2.1 (cnt ps[i]) + 345600 := w64_id (by omega) (by omega)
    have w2 : w64 (S ps[i].2.1 (cnt ps[i]) + 345600 + 2400) = S ps[i].2.1 (cnt ps[i]) + 345600 + 2400 := w64_id (by omega) (by omega)
    have hst : l3_0_4 (((i : Int), (ps.length : Int), ()), (ps, ())) = some (.inl ((((i + 1 : Nat) : Int), (ps.length : Int), ()), (ps, ()))) := by
      unfold l3_0_4
      simp only [hlt, decide_true, cond_true, hr, and_self, hx, Option.bind_some]
      rw [h38]
      simp only [Option.bind_some, m8_eq hp, bne_self_eq_false, cond_false, m9_eq hp, w1, w2, m10_eq hp, hw]
    rw [loopT_inl hst]
    exact ih (i + 1) (by omega)

theorem law3c (l : List Int) : m3 ((l, ()), ()) = some ((true, ()), ()) := by
  unfold m3
  simp only [show m4 ((l, ()), ()) = some ((decide ((l.length : Int) ≤ 500), ()), ()) from rfl, Option.bind_some]
  by_cases hlen : (l.length : Int) ≤ 500
  · simp only [hlen, decide_true, Bool.not_true, cond_false, show m6 ((l, ()), ()) = some ((), (((l, 0, ()), ()), ())) from rfl, Option.bind_some]
    obtain ⟨d', ts, ps, e1, _, h2, h3⟩ := book_spec (l, 0, ()) ⟨by simp, by simp, by simp; omega⟩
    rw [e1]
    simp only [Option.bind_some]
    rw [show loopT l3_0_4 ((0, (((ps.length : Nat) : Int), ())), (ps, ())) = _ from loop34 h2 h3 ps.length 0 (by omega)]
    simp only [Option.bind_some, sumE, sane_eq]
  · simp only [hlen, decide_false, Bool.not_false, cond_true, sane_eq, Option.bind_some]

theorem law3 : ∀ x, Abs.InRs [(.row (.int .i64))] x → m3 (x, ()) = some ((true, ()), ()) :=
  fun x _ => law3c x.1
end Go.Proofs.Ytcelhemfoehedaa
