/- Chapter 30, the policies' bounds: what the functions compute. -/
import Derived.Test.YtcelhemfoehedaaM
import Derived.Test.YtcelhemfoehedaaPxK
namespace Go.Proofs.Ytcelhemfoehedaa
open Go Go.Abs

theorem sane_eq : m5 ((), ()) = some ((true, ()), ()) := by kernel_rfl

abbrev Dice := List Int × Int × Unit
def DOK (d : Dice) : Prop := 0 ≤ d.2.1 ∧ d.2.1 ≤ d.1.length ∧ d.1.length ≤ 500
abbrev Step := Int × Bool × List (Int × Int × Unit) × Unit
abbrev Pol := ByteArray × List Step × Int × Unit
abbrev Team := ByteArray × List Int × Unit

theorem next_spec (n : Int) (d : Dice) (hd : DOK d) (hn : n ≤ 9223372036854775807) :
    ∃ r d', m13 ((n, ()), ((d, ()), ())) = some ((r, ()), ((d', ()), ())) ∧ DOK d' ∧ (1 ≤ n → 0 ≤ r ∧ r < n) ∧ (n < 1 → r = 0) := by
  obtain ⟨l, at_, u⟩ := d
  obtain ⟨h1, h2, h3⟩ := hd
  simp only at h1 h2 h3
  unfold m13
  simp only
  by_cases c1 : at_ ≥ (l.length : Int)
  · refine ⟨0, (l, at_, ()), ?_, ⟨h1, h2, h3⟩, fun h => ⟨by omega, by omega⟩, fun _ => rfl⟩
    simp [c1]
  · by_cases c2 : n < 1
    · refine ⟨0, (l, at_, ()), ?_, ⟨h1, h2, h3⟩, fun h => ⟨by omega, by omega⟩, fun _ => rfl⟩
      simp [c1, c2]
    · have hat : w64 (at_ + 1) = at_ + 1 := w64_id (by omega) (by omega)
      have hne : n ≠ 0 := by omega
      obtain ⟨e, _, _, he⟩ := rowAt_mem (B := (Int × Unit) × ((((List Int) × Int × Unit) × Unit) × Unit)) (l := l) (n := at_) (fun e17 => bif (decide (n ≠ (0 : Int))) then
        ((let x18 := (decide ((e17.tmod n) < 0))
        bif x18 then (some (((w64 ((e17.tmod n) + n)), ()), (((l, ((w64 (at_ + 1)), ())), ()), ())))
        else (some ((e17.tmod n, ()), (((l, ((w64 (at_ + 1)), ())), ()), ())))) : Option ((Int × Unit) × ((((List Int) × Int × Unit) × Unit) × Unit))).bind fun v19 =>
        some ((v19.1.1, ()), ((v19.2.1.1, ()), ()))
        else none) h1 (by omega)
      have hb := Int.tmod_lt_of_pos e (show (0 : Int) < n by omega)
      have hb2 : -n < e.tmod n := by
        have := Int.lt_tmod_of_pos e (show (0 : Int) < n by omega)
        omega
      by_cases c3 : e.tmod n < 0
      · refine ⟨e.tmod n + n, (l, at_ + 1, ()), ?_, ⟨by simp only; omega, by simp only; omega, h3⟩, fun h => ⟨by omega, by omega⟩, fun h => by omega⟩
        simp only [c1, c2, decide_false, cond_false, Option.bind_some]
        refine he.trans ?_
        simp [hne, c3, hat, w64_id (x := e.tmod n + n) (by omega) (by omega)]
      · refine ⟨e.tmod n, (l, at_ + 1, ()), ?_, ⟨by simp only; omega, by simp only; omega, h3⟩, fun h => ⟨by omega, by omega⟩, fun h => by omega⟩
        simp only [c1, c2, decide_false, cond_false, Option.bind_some]
        refine he.trans ?_
        simp [hne, c3, hat]

theorem one_spec (l : List Int) (d : Dice) (hd : DOK d) (h0 : 0 < l.length) (h1 : l.length ≤ 4294967296) :
    ∃ r d', m14 ((l, ()), ((d, ()), ())) = some ((r, ()), ((d', ()), ())) ∧ DOK d' ∧ r ∈ l := by
  obtain ⟨n, d', e1, e2, e3, _⟩ := next_spec l.length d hd (by omega)
  obtain ⟨hn0, hn1⟩ := e3 (by omega)
  obtain ⟨r, hr, _, he⟩ := rowAt_mem (l := l) (n := n) (fun e5 : Int => some ((e5, ()), ((d', ()), ()))) hn0 (by omega)
  refine ⟨r, d', ?_, e2, hr⟩
  unfold m14
  simp only [e1, Option.bind_some]
  exact he

theorem target_spec (b : List Team × List Pol × Unit) (d : Dice) (hd : DOK d) (hb : b.1.length ≤ 100) :
    ∃ t d', m15 ((b, ()), ((d, ()), ())) = some ((), ((d', ()), ((t, ()), ()))) ∧ DOK d' := by
  obtain ⟨n, d1, e1, h1, b1, _⟩ := next_spec 3 d hd (by omega)
  have b1 := b1 (by omega)
  unfold m15
  simp only [e1, Option.bind_some]
  have key : ∀ k : Int, 0 ≤ k → k < 3 → ∃ t d', ((bif (decide ((0 : Int) ≤ k ∧ k < [4, 2, (b.1.length : Int)].length)) then
      ([4, 2, (b.1.length : Int)][k.toNat]?).bind fun e15 =>
      (m13 ((e15, ()), ((d1, ()), ()))).bind fun u16 =>
      some ((), ((u16.2.1.1, ()), (((k, (u16.1.1, ())), ()), ())))
      else none) : Option ((Unit) × ((((List Int) × Int × Unit) × Unit) × ((Int × Int × Unit) × Unit) × Unit))) = some ((), ((d', ()), ((t, ()), ()))) ∧ DOK d' := by
    intro k k0 k1
    have h3 : (0 : Int) ≤ k ∧ k < [4, 2, (b.1.length : Int)].length := ⟨k0, by simpa using k1⟩
    obtain ⟨m, hm, hm2⟩ : ∃ m : Int, [4, 2, (b.1.length : Int)][k.toNat]? = some m ∧ m ≤ 100 := by
      rcases (show k = 0 ∨ k = 1 ∨ k = 2 by omega) with rfl | rfl | rfl
      · exact ⟨_, rfl, by omega⟩
      · exact ⟨_, rfl, by omega⟩
      · exact ⟨_, rfl, by omega⟩
    obtain ⟨r, d2, e2, h2, _⟩ := next_spec m d1 h1 (by omega)
    refine ⟨(k, r, ()), d2, ?_, h2⟩
    simp only [h3, and_self, decide_true, cond_true, hm, Option.bind_some, e2]
  cases h2 : (n == 2) with
  | true =>
    cases h0 : ((b.1.length : Int) == 0) with
    | true => simpa only [cond_true, h0, Option.bind_some] using key 0 (by omega) (by omega)
    | false => simpa only [cond_true, cond_false, h0, Option.bind_some] using key n b1.1 b1.2
  | false => simpa only [cond_false, Option.bind_some] using key n b1.1 b1.2

theorem loop73 : ∀ (n : Nat) (d : Dice) (ts : List Team), ts.length + n ≤ 2 → DOK d →
    ∃ d' ts', loopT l7_0_3 (((n : Int), ()), ((d, ()), (((), ()), (((), ()), (ts, ()))))) = some ((), ((d', ()), (((), ()), (((), ()), (ts', ()))))) ∧ DOK d' ∧ ts'.length ≤ 2 := by
  intro n
  induction n with
  | zero => intro d ts h hd; exact ⟨d, ts, loopT_inr (by simp [l7_0_3]), hd, by omega⟩
  | succ n ih =>
    intro d ts h hd
    have hgt : ((n + 1 : Nat) : Int) > 0 := by omega
    have hi : w64 (((n + 1 : Nat) : Int) - 1) = (n : Int) := by rw [w64_id (by omega) (by omega)]; omega
    have hlt : ts.length < 2 := by omega
    have hr : (0 : Int) ≤ (ts.length : Int) ∧ (ts.length : Int) < [(bs [99, 111, 114, 101]), (bs [119, 101, 98])].length := ⟨by omega, by simp; omega⟩
    obtain ⟨nm, hnm⟩ : ∃ nm, [(bs [99, 111, 114, 101]), (bs [119, 101, 98])][(ts.length : Int).toNat]? = some nm := by
      rw [Int.toNat_natCast]; exact ⟨_, List.getElem?_eq_getElem (by simpa using hlt)⟩
    obtain ⟨a, d1, e1, h1, _⟩ := next_spec 2 d hd (by omega)
    obtain ⟨c, d2, e2, h2, _⟩ := next_spec 2 d1 h1 (by omega)
    have hlen : ts.length + 1 ≤ 4294967296 := by omega
    have step : ∃ t d3, DOK d3 ∧ l7_0_3 ((((n + 1 : Nat) : Int), ()), ((d, ()), (((), ()), (((), ()), (ts, ()))))) = some (.inl (((n : Int), ()), ((d3, ()), (((), ()), (((), ()), (ts ++ [t], ())))))) := by
      unfold l7_0_3
      simp only [hgt, decide_true, cond_true, hr, and_self, hnm, e1, e2, Option.bind_some]
      cases hc : (c == 0) with
      | true =>
        obtain ⟨e, d3, e3, h3, b3, _⟩ := next_spec 2 d2 h2 (by omega)
        refine ⟨(nm, [a, w64 (2 + e)], ()), d3, h3, ?_⟩
        simp only [cond_true, e3, Option.bind_some, List.length_cons, List.length_nil, Nat.zero_add, show (1 + 1 ≤ 4294967296) from by omega, decide_true, hlen, hi]
        rfl
      | false =>
        refine ⟨(nm, [a], ()), d2, h2, ?_⟩
        simp only [cond_false, Option.bind_some, List.length_cons, List.length_nil, Nat.zero_add, decide_true, cond_true, hlen, hi]
    obtain ⟨t, d3, h3, hs⟩ := step
    obtain ⟨d', ts', e4, h4⟩ := ih d3 (ts ++ [t]) (by simp; omega) h3
    exact ⟨d', ts', by rw [loopT_inl hs]; exact e4, h4⟩

theorem loop718 {k m : Int} {s : Int × Bool × Unit} {p : ByteArray × Int × Unit} {ts : List Team} {ps : List Pol} {ss : List Step} (hts : ts.length ≤ 2) : ∀ (n : Nat) (d : Dice) (gs : List (Int × Int × Unit)), gs.length + n ≤ 100 → DOK d →
    ∃ d' gs', loopT l7_0_18 (((n : Int), k, m, ()), ((d, ()), ((s, ()), (((), ()), ((p, ()), (((), ()), (gs, (ts, (ps, (ss, ())))))))))) = some ((k, m, ()), ((d', ()), (((), ()), ((p, ()), (((), ()), ((s, ()), (ts, (ps, (ss, (gs', ())))))))))) ∧ DOK d' := by
  intro n
  induction n with
  | zero => intro d gs h hd; exact ⟨d, gs, loopT_inr (by simp [l7_0_18]), hd⟩
  | succ n ih =>
    intro d gs h hd
    have hgt : ((n + 1 : Nat) : Int) > 0 := by omega
    have hi : w64 (((n + 1 : Nat) : Int) - 1) = (n : Int) := by rw [w64_id (by omega) (by omega)]; omega
    obtain ⟨t, d1, e1, h1⟩ := target_spec (ts, ps, ()) d hd (by simp only; omega)
    have hlen : gs.length + 1 ≤ 4294967296 := by omega
    obtain ⟨d', gs', e2, h2⟩ := ih d1 (gs ++ [t]) (by simp; omega) h1
    refine ⟨d', gs', ?_, h2⟩
    have hs : l7_0_18 ((((n + 1 : Nat) : Int), k, m, ()), ((d, ()), ((s, ()), (((), ()), ((p, ()), (((), ()), (gs, (ts, (ps, (ss, ())))))))))) = some (.inl (((n : Int), k, m, ()), ((d1, ()), ((s, ()), (((), ()), ((p, ()), (((), ()), (gs ++ [t], (ts, (ps, (ss, ()))))))))))) := by
      unfold l7_0_18
      simp only [hgt, decide_true, cond_true, e1, Option.bind_some, List.length_cons, List.length_nil, Nat.zero_add, hlen, hi]
    rw [loopT_inl hs]
    exact e2

def SOK (s : Step) : Prop := 0 ≤ s.1 ∧ s.1 ≤ 900

theorem loop714 {m : Int} {p : ByteArray × Int × Unit} {ts : List Team} {ps : List Pol} (hts : ts.length ≤ 2) : ∀ (n : Nat) (d : Dice) (ss : List Step), ss.length + n ≤ 3 → (∀ s ∈ ss, SOK s) → DOK d →
    ∃ d' ss', loopT l7_0_14 (((n : Int), m, ()), ((d, ()), (((), ()), ((p, ()), (((), ()), (ts, (ps, (ss, ())))))))) = some ((m, ()), ((d', ()), (((), ()), (((), ()), ((p, ()), (ts, (ps, (ss', ())))))))) ∧ DOK d' ∧ ss'.length = ss.length + n ∧ ∀ s ∈ ss', SOK s := by
  intro n
  induction n with
  | zero => intro d ss h hs hd; exact ⟨d, ss, loopT_inr (by simp [l7_0_14]), hd, rfl, hs⟩
  | succ n ih =>
    intro d ss h hss hd
    have hgt : ((n + 1 : Nat) : Int) > 0 := by omega
    have hi : w64 (((n + 1 : Nat) : Int) - 1) = (n : Int) := by rw [w64_id (by omega) (by omega)]; omega
    obtain ⟨w, d1, e1, h1, hw⟩ := one_spec [0, 60, 300, 600, 900] d hd (by simp) (by simp)
    simp only [List.mem_cons, List.not_mem_nil, or_false] at hw
    obtain ⟨u, d2, e2, h2, _⟩ := next_spec 2 d1 h1 (by omega)
    obtain ⟨j, d3, e3, h3, b3, _⟩ := next_spec 3 d2 h2 (by omega)
    have b3 := b3 (by omega)
    obtain ⟨d4, gs, e4, h4⟩ := loop718 (k := m) (m := ((n + 1 : Nat) : Int)) (s := (w, u == 0, ())) (p := p) (ts := ts) (ps := ps) (ss := ss) hts j.toNat d3 [] (by simp; omega) h3
    rw [show ((j.toNat : Nat) : Int) = j by omega] at e4
    have hlen : ss.length + 1 ≤ 4294967296 := by omega
    obtain ⟨d', ss', e5, h5, h6, h7⟩ := ih d4 (ss ++ [(w, u == 0, gs, ())]) (by simp; omega) (by
      intro s hs
      rcases List.mem_append.1 hs with h | h
      · exact hss s h
      · rw [List.mem_singleton.1 h]; exact ⟨by simp only; omega, by simp only; omega⟩) h4
    refine ⟨d', ss', ?_, h5, by rw [h6]; simp; omega, h7⟩
    have hs : l7_0_14 ((((n + 1 : Nat) : Int), m, ()), ((d, ()), (((), ()), ((p, ()), (((), ()), (ts, (ps, (ss, ())))))))) = some (.inl (((n : Int), m, ()), ((d4, ()), (((), ()), ((p, ()), (((), ()), (ts, (ps, (ss ++ [(w, u == 0, gs, ())], ()))))))))) := by
      unfold l7_0_14
      simp only [hgt, decide_true, cond_true, e1, e2, e3, Option.bind_some]
      rw [e4]
      simp only [Option.bind_some, List.length_cons, List.length_nil, Nat.zero_add, hlen, decide_true, cond_true, hi]
    rw [loopT_inl hs]
    exact e5

def POK (p : Pol) : Prop := (0 ≤ p.2.2.1 ∧ p.2.2.1 ≤ 2) ∧ (1 ≤ p.2.1.length ∧ p.2.1.length ≤ 3) ∧ ∀ s ∈ p.2.1, SOK s

theorem loop710 {ts : List Team} (hts : ts.length ≤ 2) : ∀ (n : Nat) (d : Dice) (ps : List Pol), ps.length + n ≤ 3 → (∀ p ∈ ps, POK p) → DOK d →
    ∃ d' ps', loopT l7_0_10 (((n : Int), ()), ((d, ()), (((), ()), (((), ()), (ts, (ps, ())))))) = some ((), ((d', ()), (((), ()), (((), ()), (ts, (ps', ())))))) ∧ DOK d' ∧ ps'.length ≤ 3 ∧ ∀ p ∈ ps', POK p := by
  intro n
  induction n with
  | zero => intro d ps h hp hd; exact ⟨d, ps, loopT_inr (by simp [l7_0_10]), hd, by omega, hp⟩
  | succ n ih =>
    intro d ps h hp hd
    have hgt : ((n + 1 : Nat) : Int) > 0 := by omega
    have hi : w64 (((n + 1 : Nat) : Int) - 1) = (n : Int) := by rw [w64_id (by omega) (by omega)]; omega
    have hlt : ps.length < 3 := by omega
    have hr : (0 : Int) ≤ (ps.length : Int) ∧ (ps.length : Int) < [(bs [112]), (bs [113]), (bs [114])].length := ⟨by omega, by simp; omega⟩
    obtain ⟨nm, hnm⟩ : ∃ nm, [(bs [112]), (bs [113]), (bs [114])][(ps.length : Int).toNat]? = some nm := by
      rw [Int.toNat_natCast]; exact ⟨_, List.getElem?_eq_getElem (by simpa using hlt)⟩
    obtain ⟨r, d1, e1, h1, hr1⟩ := one_spec [0, 0, 1, 2] d hd (by simp) (by simp)
    simp only [List.mem_cons, List.not_mem_nil, or_false] at hr1
    obtain ⟨j, d2, e2, h2, b2, _⟩ := next_spec 3 d1 h1 (by omega)
    have b2 := b2 (by omega)
    have hj : w64 (1 + j) = ((1 + j.toNat : Nat) : Int) := by rw [w64_id (by omega) (by omega)]; omega
    obtain ⟨d3, ss, e3, h3, hs1, hs2⟩ := loop714 (m := ((n + 1 : Nat) : Int)) (p := (nm, r, ())) (ts := ts) (ps := ps) hts (1 + j.toNat) d2 [] (by simp; omega) (by simp) h2
    have hlen : ps.length + 1 ≤ 4294967296 := by omega
    obtain ⟨d', ps', e4, h4, h5, h6⟩ := ih d3 (ps ++ [(nm, ss, r, ())]) (by simp; omega) (by
      intro p hpp
      rcases List.mem_append.1 hpp with h | h
      · exact hp p h
      · rw [List.mem_singleton.1 h]
        exact ⟨⟨by simp only; omega, by simp only; omega⟩, ⟨by simp only [hs1, List.length_nil]; omega, by simp only [hs1, List.length_nil]; omega⟩, hs2⟩) h3
    refine ⟨d', ps', ?_, h4, h5, h6⟩
    have hs : l7_0_10 ((((n + 1 : Nat) : Int), ()), ((d, ()), (((), ()), (((), ()), (ts, (ps, ())))))) = some (.inl (((n : Int), ()), ((d3, ()), (((), ()), (((), ()), (ts, (ps ++ [(nm, ss, r, ())], ()))))))) := by
      unfold l7_0_10
      simp only [hgt, decide_true, cond_true, hr, and_self, hnm, e1, e2, Option.bind_some, hj]
      rw [e3]
      simp only [Option.bind_some, List.length_cons, List.length_nil, Nat.zero_add, hlen, decide_true, cond_true, hi]
    rw [loopT_inl hs]
    exact e4

theorem book_spec (d : Dice) (hd : DOK d) : ∃ d' ts ps, m7 ((), ((d, ()), ())) = some ((), ((d', ()), (((), ()), (ts, (ps, ()))))) ∧ DOK d' ∧ ps.length ≤ 3 ∧ ∀ p ∈ ps, POK p := by
  obtain ⟨a, d1, e1, h1, b1, _⟩ := next_spec 3 d hd (by omega)
  have b1 := b1 (by omega)
  obtain ⟨d2, ts, e2, h2, hts⟩ := loop73 a.toNat d1 [] (by simp; omega) h1
  rw [show ((a.toNat : Nat) : Int) = a by omega] at e2
  obtain ⟨b, d3, e3, h3, b3, _⟩ := next_spec 3 d2 h2 (by omega)
  have b3 := b3 (by omega)
  obtain ⟨d4, ps, e4, h4, h5, h6⟩ := loop710 hts (1 + b.toNat) d3 [] (by simp; omega) (by simp) h3
  rw [show ((1 + b.toNat : Nat) : Int) = w64 (1 + b) by rw [w64_id (by omega) (by omega)]; omega] at e4
  refine ⟨d4, ts, ps, ?_, h4, h5, h6⟩
  unfold m7
  simp only [e1, Option.bind_some]
  rw [e2]
  simp only [Option.bind_some, e3]
  rw [e4]
  rfl
end Go.Proofs.Ytcelhemfoehedaa
