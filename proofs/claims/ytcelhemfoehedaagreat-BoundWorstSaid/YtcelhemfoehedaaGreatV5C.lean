/- Lemmas for the statement of the last text of this claim. -/
import Derived.Test.YtcelhemfoehedaaGreatPxR
import Derived.Test.YtcelhemfoehedaaGreatChecked
import Derived.Test.YtcelhemfoehedaaGreatPxQ
import Derived.ProofKit
import Derived.Test.YtcelhemfoehedaaGreatV5B
set_option linter.unusedSimpArgs false
set_option linter.unusedVariables false
namespace Go.Proofs.YtcelhemfoehedaaGreat
open Go Go.Abs Go.Bnd Go.Plain
abbrev ZoneT := ByteArray × Int × List (Int × Int × Int × Int × Int × Int × Int × Unit) × Unit

abbrev WinT := Int × Int × Unit

abbrev PersT := ByteArray × Int × List WinT × Int × Int × Bool × Unit

abbrev CalT := ByteArray × Int × List Int × Unit

abbrev LayT := ByteArray × Int × (Int × Int × Unit) × Int × Int × List Int × List WinT × Int × Int × Unit

abbrev EdT := Int × Int × Int × Int × Int × Unit

abbrev SchT := ByteArray × List LayT × List EdT × Unit

abbrev CfgT := List ZoneT × List PersT × List CalT × List SchT × Unit

def ZOK (z : ZoneT) : Prop := z.2.2.1 = [] ∧ -64800 ≤ z.2.1 ∧ z.2.1 ≤ 64800

def LayOK (l : LayT) : Prop := l.2.1 = 0 ∧ (1 ≤ l.2.2.2.2.1 ∧ l.2.2.2.2.1 ≤ 3) ∧ (1 ≤ l.2.2.2.2.2.1.length ∧ l.2.2.2.2.2.1.length ≤ 3) ∧ (∀ m ∈ l.2.2.2.2.2.1, 0 ≤ m ∧ m ≤ 3) ∧ l.2.2.2.2.2.2.2.2.1 = 0 ∧ l.2.2.2.2.2.2.1.length ≤ 14

def EdOK (e : EdT) : Prop := (-1 ≤ e.2.1 ∧ e.2.1 ≤ 3) ∧ (0 ≤ e.2.2.1 ∧ e.2.2.1 ≤ 3)

def SchOK (s : SchT) : Prop := s.2.1.length ≤ 6 ∧ (∀ l ∈ s.2.1, LayOK l) ∧ s.2.2.1.length ≤ 48 ∧ ∀ e ∈ s.2.2.1, EdOK e

structure CrewOK (c : CfgT) : Prop where
  z : c.1.length = 1 ∧ ∀ z ∈ c.1, ZOK z
  p : c.2.1.length = 4 ∧ ∀ p ∈ c.2.1, p.2.1 = 0 ∧ p.2.2.1.length ≤ 14
  k : c.2.2.1 = []
  s : c.2.2.2.1.length = 2 ∧ ∀ s ∈ c.2.2.2.1, SchOK s

theorem w64_up {x : Int} (h : 0 ≤ x) (h2 : x < 9223372036854775807) : w64 (x + 1) = x + 1 := w64_id (by omega) (by omega)

theorem w64_dn {x : Int} (h : 0 ≤ x) (h2 : x ≤ 9223372036854775807) : w64 (x - 1) = x - 1 := w64_id (by omega) (by omega)

theorem c141 (x : Int) : Ens (m141 ((x, ()), ())) (fun _ => True) := by
  unfold m141
  repeat' first | with_reducible exact True.intro | (with_reducible refine ens_at (by omega) ?_; intro _ _ _; try dsimp only) | with_reducible refine ens_bind ?_ | with_reducible refine ens_t ?_ | with_reducible refine ens_f ?_ | with_reducible refine ens_nt ?_ | with_reducible refine ens_nf ?_ | (with_reducible refine ens_need ?_ ?_; first | exact And.intro (by omega) (by omega) | omega | (simp only [List.length_append, List.length_cons, List.length_nil]; omega)) | (with_reducible refine ens_ite ?_ ?_ <;> intro _) | (with_reducible refine ens_bif ?_ ?_ <;> intro _) | (with_reducible refine ens_some ?_; try dsimp only) | (with_reducible refine ens_row (by omega) (by omega) ?_; intro _ _ _; try dsimp only) | (with_reducible refine ens_sum ?_ ?_ <;> (intro _ e; subst e; try dsimp only))

theorem l135 (s : ByteArray) (hs : s.size ≤ 24) : Ens (loopT l135_0_4 ((0, s, ()), ())) (fun _ => True) := by
  refine ens_loop (fun v => v.1.2.1 = s ∧ 0 ≤ v.1.1 ∧ v.1.1 ≤ 24) (fun v => (24 - v.1.1).toNat) ?_ _ ⟨rfl, by simp only; omega, by simp only; omega⟩
  rintro ⟨⟨i, _, ⟨⟩⟩, ⟨⟩⟩ ⟨rfl, h0, h1⟩
  simp only at h0 h1 hs
  have hw : i < 24 → w64 (i + 1) = i + 1 := fun h => w64_up h0 (by omega)
  unfold l135_0_4
  dsimp only
  repeat' first | with_reducible exact True.intro | (with_reducible refine ens_at (by omega) ?_; intro _ _ _; try dsimp only) | with_reducible refine ens_bind ?_ | with_reducible refine ens_t ?_ | with_reducible refine ens_f ?_ | with_reducible refine ens_nt ?_ | with_reducible refine ens_nf ?_ | (with_reducible refine ens_tail (c141 _) ?_; intro _ _; try dsimp only) | (with_reducible refine ens_need ?_ ?_; first | exact And.intro (by omega) (by omega) | omega | (simp only [List.length_append, List.length_cons, List.length_nil]; omega)) | (with_reducible refine ens_ite ?_ ?_ <;> intro _) | (with_reducible refine ens_bif ?_ ?_ <;> intro _) | (with_reducible refine ens_some ?_; try dsimp only) | (with_reducible refine ens_row (by omega) (by omega) ?_; intro _ _ _; try dsimp only) | (with_reducible refine ens_sum ?_ ?_ <;> (intro _ e; subst e; try dsimp only))
  all_goals (rw [hw (by omega)]; exact ⟨⟨rfl, by omega, by omega⟩, by omega⟩)

theorem c135 (s : ByteArray) : Ens (m135 ((s, ()), ())) (fun _ => True) := by
  unfold m135
  dsimp only
  repeat' first | with_reducible exact True.intro | (with_reducible refine ens_at (by omega) ?_; intro _ _ _; try dsimp only) | with_reducible refine ens_bind ?_ | with_reducible refine ens_t ?_ | with_reducible refine ens_f ?_ | with_reducible refine ens_nt ?_ | with_reducible refine ens_nf ?_ | (with_reducible refine ens_tail (l135 _ (by omega)) ?_; intro _ _; try dsimp only) | (with_reducible refine ens_need ?_ ?_; first | exact And.intro (by omega) (by omega) | omega | (simp only [List.length_append, List.length_cons, List.length_nil]; omega)) | (with_reducible refine ens_ite ?_ ?_ <;> intro _) | (with_reducible refine ens_bif ?_ ?_ <;> intro _) | (with_reducible refine ens_some ?_; try dsimp only) | (with_reducible refine ens_row (by omega) (by omega) ?_; intro _ _ _; try dsimp only) | (with_reducible refine ens_sum ?_ ?_ <;> (intro _ e; subst e; try dsimp only))

theorem c122 (l : List ByteArray) (i : Int) (h0 : 0 ≤ i) (h1 : i < l.length) (h2 : l.length ≤ 1000) : Ens (m122 ((l, i, ()), ())) (fun _ => True) := by
  have hl : Ens (loopT l122_0_4 ((0, i, l, ()), ())) (fun _ => True) := by
    refine ens_loop (fun v => v.1.2.1 = i ∧ v.1.2.2.1 = l ∧ 0 ≤ v.1.1 ∧ v.1.1 ≤ i) (fun v => (i - v.1.1).toNat) ?_ _ ⟨rfl, rfl, by simp only; omega, by simp only; omega⟩
    rintro ⟨⟨k, _, _, ⟨⟩⟩, ⟨⟩⟩ ⟨rfl, rfl, h3, h4⟩
    simp only at h0 h1 h2 h3 h4 ⊢
    have hw : w64 (k + 1) = k + 1 := w64_up h3 (by omega)
    unfold l122_0_4
    dsimp only
    repeat' first | with_reducible exact True.intro | (with_reducible refine ens_at (by omega) ?_; intro _ _ _; try dsimp only) | with_reducible refine ens_bind ?_ | with_reducible refine ens_t ?_ | with_reducible refine ens_f ?_ | with_reducible refine ens_nt ?_ | with_reducible refine ens_nf ?_ | (with_reducible refine ens_need ?_ ?_; first | exact And.intro (by omega) (by omega) | omega | (simp only [List.length_append, List.length_cons, List.length_nil]; omega)) | (with_reducible refine ens_ite ?_ ?_ <;> intro _) | (with_reducible refine ens_bif ?_ ?_ <;> intro _) | (with_reducible refine ens_some ?_; try dsimp only) | (with_reducible refine ens_row (by omega) (by omega) ?_; intro _ _ _; try dsimp only) | (with_reducible refine ens_sum ?_ ?_ <;> (intro _ e; subst e; try dsimp only))
    all_goals (rw [hw]; exact ⟨⟨rfl, rfl, by omega, by omega⟩, by omega⟩)
  unfold m122
  dsimp only
  repeat' first | with_reducible exact True.intro | (with_reducible refine ens_at (by omega) ?_; intro _ _ _; try dsimp only) | with_reducible refine ens_bind ?_ | with_reducible refine ens_t ?_ | with_reducible refine ens_f ?_ | with_reducible refine ens_nt ?_ | with_reducible refine ens_nf ?_ | (with_reducible refine ens_tail (c135 _) ?_; intro _ _; try dsimp only) | (with_reducible refine ens_tail hl ?_; intro _ _; try dsimp only) | (with_reducible refine ens_need ?_ ?_; first | exact And.intro (by omega) (by omega) | omega | (simp only [List.length_append, List.length_cons, List.length_nil]; omega)) | (with_reducible refine ens_ite ?_ ?_ <;> intro _) | (with_reducible refine ens_bif ?_ ?_ <;> intro _) | (with_reducible refine ens_some ?_; try dsimp only) | (with_reducible refine ens_row (by omega) (by omega) ?_; intro _ _ _; try dsimp only) | (with_reducible refine ens_sum ?_ ?_ <;> (intro _ e; subst e; try dsimp only))

theorem c138 (a b c : Int) : m138 ((a, b, c, ()), ()) = some ((decide (b ≤ a ∧ a ≤ c), ()), ()) := by
  unfold m138
  by_cases h : a ≥ b <;> by_cases h2 : a ≤ c <;> simp [h, h2]
  all_goals omega

theorem c125 (a b c : Int) : m125 ((a, b, c, ()), ()) = some ((decide (b ≤ a ∧ a ≤ c), ()), ()) := by
  unfold m125
  by_cases h : a ≥ b <;> by_cases h2 : a ≤ c <;> simp [h, h2]
  all_goals omega

theorem m136_eq {z : ZoneT} (h : ZOK z) : m136 ((z, ()), ()) = some ((0, ()), ([], ())) := by
  obtain ⟨nm, off, ru, ⟨⟩⟩ := z
  obtain ⟨rfl, h1, h2⟩ := h
  simp only at h1 h2
  unfold m136
  simp only [c138, decide_eq_true (show (-64800 : Int) ≤ off ∧ off ≤ 64800 from ⟨h1, h2⟩), sumE, sS]
  rfl

theorem m123_eq {z : ZoneT} (h : ZOK z) : m123 ((z, ()), ()) = some ((0, ()), ()) := by
  unfold m123
  simp only [m136_eq h, sumE, sS]

theorem c123 {z : ZoneT} (h : ZOK z) : Ens (m123 ((z, ()), ())) (fun _ => True) := ⟨_, m123_eq h, trivial⟩

theorem c124 {z : ZoneT} (h : ZOK z) : Ens (m124 ((z, ()), ())) (fun _ => True) := by
  obtain ⟨nm, off, ru, ⟨⟩⟩ := z
  obtain ⟨rfl, h1, h2⟩ := h
  exact ⟨_, rfl, trivial⟩

theorem c113 {c : CfgT} (h : CrewOK c) : Ens (m113 ((c, ()), ())) (fun _ => True) := by
  have hz := h.z
  have hl : Ens (loopT l113_0_3 ((0, ()), ((c, ()), ([], ())))) (fun _ => True) := by
    refine ens_loop (fun v => v.2.1.1 = c ∧ 0 ≤ v.1.1 ∧ v.1.1 ≤ 1 ∧ (v.2.2.1.length : Int) = v.1.1) (fun v => (1 - v.1.1).toNat) ?_ _ ⟨rfl, by simp only; omega, by simp only; omega, rfl⟩
    rintro ⟨⟨i, ⟨⟩⟩, ⟨⟨_, ⟨⟩⟩, nm, ⟨⟩⟩⟩ ⟨rfl, h0, h1, h2⟩
    simp only at h0 h1 h2 hz ⊢
    have hw : w64 (i + 1) = i + 1 := w64_up h0 (by omega)
    unfold l113_0_3
    dsimp only
    have hn : ∀ x : ByteArray, ((nm ++ [x]).length : Int) = i + 1 := fun x => by rw [List.length_append, List.length_singleton]; omega
    repeat' first | with_reducible exact True.intro | (with_reducible refine ens_at (by omega) ?_; intro _ _ _; try dsimp only) | with_reducible refine ens_bind ?_ | with_reducible refine ens_t ?_ | with_reducible refine ens_f ?_ | with_reducible refine ens_nt ?_ | with_reducible refine ens_nf ?_ | (with_reducible refine ens_tail (c122 _ _ (by omega) (by rw [hn]; omega) (by rw [List.length_append, List.length_singleton]; omega)) ?_; intro _ _; try dsimp only) | (with_reducible refine ens_tail (c124 (hz.2 _ (by assumption))) ?_; intro _ _; try dsimp only) | (with_reducible refine ens_tail (c123 (hz.2 _ (by assumption))) ?_; intro _ _; try dsimp only) | (with_reducible refine ens_need ?_ ?_; first | exact And.intro (by omega) (by omega) | omega | (simp only [List.length_append, List.length_cons, List.length_nil]; omega)) | (with_reducible refine ens_ite ?_ ?_ <;> intro _) | (with_reducible refine ens_bif ?_ ?_ <;> intro _) | (with_reducible refine ens_some ?_; try dsimp only) | (with_reducible refine ens_row (by omega) (by omega) ?_; intro _ _ _; try dsimp only) | (with_reducible refine ens_sum ?_ ?_ <;> (intro _ e; subst e; try dsimp only))
    all_goals (rw [hw]; exact ⟨⟨rfl, by omega, by omega, hn _⟩, by omega⟩)
  unfold m113
  dsimp only
  repeat' first | with_reducible exact True.intro | (with_reducible refine ens_at (by omega) ?_; intro _ _ _; try dsimp only) | with_reducible refine ens_bind ?_ | with_reducible refine ens_t ?_ | with_reducible refine ens_f ?_ | with_reducible refine ens_nt ?_ | with_reducible refine ens_nf ?_ | (with_reducible refine ens_tail hl ?_; intro _ _; try dsimp only) | (with_reducible refine ens_need ?_ ?_; first | exact And.intro (by omega) (by omega) | omega | (simp only [List.length_append, List.length_cons, List.length_nil]; omega)) | (with_reducible refine ens_ite ?_ ?_ <;> intro _) | (with_reducible refine ens_bif ?_ ?_ <;> intro _) | (with_reducible refine ens_some ?_; try dsimp only) | (with_reducible refine ens_row (by omega) (by omega) ?_; intro _ _ _; try dsimp only) | (with_reducible refine ens_sum ?_ ?_ <;> (intro _ e; subst e; try dsimp only))

theorem c104 (l : List WinT) : Ens (m104 ((l, ()), ())) (fun _ => True) := by
  have hl : l.length ≤ 14 → Ens (loopT l104_0_4 ((0, l, ()), ())) (fun _ => True) := fun hn => by
    refine ens_loop (fun v => v.1.2.1 = l ∧ (0 : Int) ≤ v.1.1 ∧ v.1.1 ≤ (l.length : Int)) (fun v => ((l.length : Int) - v.1.1).toNat) ?_ _ ⟨rfl, by simp only; omega, by simp only; omega⟩
    rintro ⟨⟨i, _, ⟨⟩⟩, ⟨⟩⟩ ⟨rfl, h0, h1⟩
    simp only at h0 h1 hn ⊢
    have hw : w64 (i + 1) = i + 1 := w64_up h0 (by omega)
    have hd : w64 (i - 1) = i - 1 := w64_dn h0 (by omega)
    unfold l104_0_4
    simp only [hw, hd]
    repeat' first | with_reducible exact True.intro | (with_reducible refine ens_at (by omega) ?_; intro _ _ _; try dsimp only) | with_reducible refine ens_bind ?_ | with_reducible refine ens_t ?_ | with_reducible refine ens_f ?_ | with_reducible refine ens_nt ?_ | with_reducible refine ens_nf ?_ | (with_reducible refine ens_need ?_ ?_; first | exact And.intro (by omega) (by omega) | omega | (simp only [List.length_append, List.length_cons, List.length_nil]; omega)) | (with_reducible refine ens_ite ?_ ?_ <;> intro _) | (with_reducible refine ens_bif ?_ ?_ <;> intro _) | (with_reducible refine ens_some ?_; try dsimp only) | (with_reducible refine ens_row (by omega) (by omega) ?_; intro _ _ _; try dsimp only) | (with_reducible refine ens_sum ?_ ?_ <;> (intro _ e; subst e; try dsimp only))
    all_goals exact ⟨⟨rfl, by omega, by omega⟩, by omega⟩
  unfold m104
  dsimp only
  repeat' first | with_reducible exact True.intro | (with_reducible refine ens_at (by omega) ?_; intro _ _ _; try dsimp only) | with_reducible refine ens_bind ?_ | with_reducible refine ens_t ?_ | with_reducible refine ens_f ?_ | with_reducible refine ens_nt ?_ | with_reducible refine ens_nf ?_ | (with_reducible refine ens_tail (hl (by omega)) ?_; intro _ _; try dsimp only) | (with_reducible refine ens_need ?_ ?_; first | exact And.intro (by omega) (by omega) | omega | (simp only [List.length_append, List.length_cons, List.length_nil]; omega)) | (with_reducible refine ens_ite ?_ ?_ <;> intro _) | (with_reducible refine ens_bif ?_ ?_ <;> intro _) | (with_reducible refine ens_some ?_; try dsimp only) | (with_reducible refine ens_row (by omega) (by omega) ?_; intro _ _ _; try dsimp only) | (with_reducible refine ens_sum ?_ ?_ <;> (intro _ e; subst e; try dsimp only))

theorem c126 (x : Int) : Ens (m126 ((x, ()), ())) (fun _ => True) := by
  unfold m126
  simp only [c125, sS]
  repeat' first | with_reducible exact True.intro | (with_reducible refine ens_at (by omega) ?_; intro _ _ _; try dsimp only) | with_reducible refine ens_bind ?_ | with_reducible refine ens_t ?_ | with_reducible refine ens_f ?_ | with_reducible refine ens_nt ?_ | with_reducible refine ens_nf ?_ | (with_reducible refine ens_need ?_ ?_; first | exact And.intro (by omega) (by omega) | omega | (simp only [List.length_append, List.length_cons, List.length_nil]; omega)) | (with_reducible refine ens_ite ?_ ?_ <;> intro _) | (with_reducible refine ens_bif ?_ ?_ <;> intro _) | (with_reducible refine ens_some ?_; try dsimp only) | (with_reducible refine ens_row (by omega) (by omega) ?_; intro _ _ _; try dsimp only) | (with_reducible refine ens_sum ?_ ?_ <;> (intro _ e; subst e; try dsimp only))

theorem c127 : Ens (m127 ((), ())) (fun _ => True) := ⟨_, rfl, trivial⟩

theorem c114 {c : CfgT} (h : CrewOK c) : Ens (m114 ((c, ()), ())) (fun _ => True) := by
  have hp := h.p
  have hl : Ens (loopT l114_0_3 ((0, ()), ((c, ()), ([], ())))) (fun _ => True) := by
    refine ens_loop (fun v => v.2.1.1 = c ∧ 0 ≤ v.1.1 ∧ v.1.1 ≤ 4 ∧ (v.2.2.1.length : Int) = v.1.1) (fun v => (4 - v.1.1).toNat) ?_ _ ⟨rfl, by simp only; omega, by simp only; omega, rfl⟩
    rintro ⟨⟨i, ⟨⟩⟩, ⟨⟨_, ⟨⟩⟩, nm, ⟨⟩⟩⟩ ⟨rfl, h0, h1, h2⟩
    simp only at h0 h1 h2 hp ⊢
    have hw : w64 (i + 1) = i + 1 := w64_up h0 (by omega)
    have hn : ∀ x : ByteArray, ((nm ++ [x]).length : Int) = i + 1 := fun x => by rw [List.length_append, List.length_singleton]; omega
    unfold l114_0_3
    simp only [hw, c125, sS]
    repeat' first | with_reducible exact True.intro | (with_reducible refine ens_at (by omega) ?_; intro _ _ _; try dsimp only) | with_reducible refine ens_bind ?_ | with_reducible refine ens_t ?_ | with_reducible refine ens_f ?_ | with_reducible refine ens_nt ?_ | with_reducible refine ens_nf ?_ | (with_reducible refine ens_tail (c122 _ _ (by omega) (by rw [hn]; omega) (by rw [List.length_append, List.length_singleton]; omega)) ?_; intro _ _; try dsimp only) | (with_reducible refine ens_tail (c104 _) ?_; intro _ _; try dsimp only) | (with_reducible refine ens_tail (c126 _) ?_; intro _ _; try dsimp only) | (with_reducible refine ens_need ?_ ?_; first | exact And.intro (by omega) (by omega) | omega | (simp only [List.length_append, List.length_cons, List.length_nil]; omega)) | (with_reducible refine ens_ite ?_ ?_ <;> intro _) | (with_reducible refine ens_bif ?_ ?_ <;> intro _) | (with_reducible refine ens_some ?_; try dsimp only) | (with_reducible refine ens_row (by omega) (by omega) ?_; intro _ _ _; try dsimp only) | (with_reducible refine ens_sum ?_ ?_ <;> (intro _ e; subst e; try dsimp only))
    all_goals (rw [hw]; exact ⟨⟨rfl, by omega, by omega, hn _⟩, by omega⟩)
  unfold m114
  dsimp only
  repeat' first | with_reducible exact True.intro | (with_reducible refine ens_at (by omega) ?_; intro _ _ _; try dsimp only) | with_reducible refine ens_bind ?_ | with_reducible refine ens_t ?_ | with_reducible refine ens_f ?_ | with_reducible refine ens_nt ?_ | with_reducible refine ens_nf ?_ | (with_reducible refine ens_tail hl ?_; intro _ _; try dsimp only) | (with_reducible refine ens_need ?_ ?_; first | exact And.intro (by omega) (by omega) | omega | (simp only [List.length_append, List.length_cons, List.length_nil]; omega)) | (with_reducible refine ens_ite ?_ ?_ <;> intro _) | (with_reducible refine ens_bif ?_ ?_ <;> intro _) | (with_reducible refine ens_some ?_; try dsimp only) | (with_reducible refine ens_row (by omega) (by omega) ?_; intro _ _ _; try dsimp only) | (with_reducible refine ens_sum ?_ ?_ <;> (intro _ e; subst e; try dsimp only))

theorem c115 {c : CfgT} (h : CrewOK c) : Ens (m115 ((c, ()), ())) (fun _ => True) := by
  have hk := h.k
  have hl : Ens (loopT l115_0_3 ((0, ()), ((c, ()), ([], ())))) (fun _ => True) := by
    refine ⟨.inr ((), ()), loopT_inr ?_, trivial⟩
    unfold l115_0_3
    simp only [hk, List.length_nil, sS]
    rfl
  unfold m115
  dsimp only
  repeat' first | with_reducible exact True.intro | (with_reducible refine ens_at (by omega) ?_; intro _ _ _; try dsimp only) | with_reducible refine ens_bind ?_ | with_reducible refine ens_t ?_ | with_reducible refine ens_f ?_ | with_reducible refine ens_nt ?_ | with_reducible refine ens_nf ?_ | (with_reducible refine ens_tail hl ?_; intro _ _; try dsimp only) | (with_reducible refine ens_need ?_ ?_; first | exact And.intro (by omega) (by omega) | omega | (simp only [List.length_append, List.length_cons, List.length_nil]; omega)) | (with_reducible refine ens_ite ?_ ?_ <;> intro _) | (with_reducible refine ens_bif ?_ ?_ <;> intro _) | (with_reducible refine ens_some ?_; try dsimp only) | (with_reducible refine ens_row (by omega) (by omega) ?_; intro _ _ _; try dsimp only) | (with_reducible refine ens_sum ?_ ?_ <;> (intro _ e; subst e; try dsimp only))

theorem c128 {c : CfgT} (l : LayT) : Ens (m128 ((c, l, ()), ())) (fun _ => True) := by
  have hl : l.2.2.2.2.2.1.length ≤ 12 → Ens (loopT l128_0_10 ((0, ()), ((c, ()), ((l, ()), ())))) (fun d => ∀ x, d = .inr x → x.2.1.1 = l ∧ x.2.2.1.1 = c) := fun hn => by
    refine ens_loop (fun v => v.2.1.1 = c ∧ v.2.2.1.1 = l ∧ 0 ≤ v.1.1 ∧ v.1.1 ≤ 12) (fun v => (12 - v.1.1).toNat) ?_ _ ⟨rfl, rfl, by simp only; omega, by simp only; omega⟩
    rintro ⟨⟨i, ⟨⟩⟩, ⟨⟨_, ⟨⟩⟩, ⟨_, ⟨⟩⟩, ⟨⟩⟩⟩ ⟨rfl, rfl, h0, h1⟩
    simp only at h0 h1 hn ⊢
    have hw : w64 (i + 1) = i + 1 := w64_up h0 (by omega)
    unfold l128_0_10
    simp only [hw, c125, sS]
    repeat' first | with_reducible exact True.intro | (with_reducible refine ens_at (by omega) ?_; intro _ _ _; try dsimp only) | with_reducible refine ens_bind ?_ | with_reducible refine ens_t ?_ | with_reducible refine ens_f ?_ | with_reducible refine ens_nt ?_ | with_reducible refine ens_nf ?_ | (with_reducible refine ens_need ?_ ?_; first | exact And.intro (by omega) (by omega) | omega | (simp only [List.length_append, List.length_cons, List.length_nil]; omega)) | (with_reducible refine ens_ite ?_ ?_ <;> intro _) | (with_reducible refine ens_bif ?_ ?_ <;> intro _) | (with_reducible refine ens_some ?_; try dsimp only) | (with_reducible refine ens_row (by omega) (by omega) ?_; intro _ _ _; try dsimp only) | (with_reducible refine ens_sum ?_ ?_ <;> (intro _ e; subst e; try dsimp only))
    all_goals first | exact ⟨⟨rfl, rfl, by omega, by omega⟩, by omega⟩ | (intro x e; cases e; exact ⟨rfl, rfl⟩) | (intro x e; cases e)
  unfold m128
  simp only [c125, sS]
  repeat' first | with_reducible exact True.intro | (with_reducible refine ens_at (by omega) ?_; intro _ _ _; try dsimp only) | with_reducible refine ens_bind ?_ | with_reducible refine ens_t ?_ | with_reducible refine ens_f ?_ | with_reducible refine ens_nt ?_ | with_reducible refine ens_nf ?_ | (with_reducible refine ens_tail c127 ?_; intro _ _; try dsimp only) | (with_reducible refine ens_tail (hl (by omega)) ?_; intro _ _; try dsimp only) | (with_reducible refine ens_tail (c104 _) ?_; intro _ _; try dsimp only) | (with_reducible refine ens_need ?_ ?_; first | exact And.intro (by omega) (by omega) | omega | (simp only [List.length_append, List.length_cons, List.length_nil]; omega)) | (with_reducible refine ens_ite ?_ ?_ <;> intro _) | (with_reducible refine ens_bif ?_ ?_ <;> intro _) | (with_reducible refine ens_some ?_; try dsimp only) | (with_reducible refine ens_row (by omega) (by omega) ?_; intro _ _ _; try dsimp only) | (with_reducible refine ens_sum ?_ ?_ <;> (intro _ e; subst e; try dsimp only))

theorem c129 {c : CfgT} (e : EdT) : Ens (m129 ((c, e, ()), ())) (fun _ => True) := by
  unfold m129
  simp only [c125, sS]
  repeat' first | with_reducible exact True.intro | (with_reducible refine ens_at (by omega) ?_; intro _ _ _; try dsimp only) | with_reducible refine ens_bind ?_ | with_reducible refine ens_t ?_ | with_reducible refine ens_f ?_ | with_reducible refine ens_nt ?_ | with_reducible refine ens_nf ?_ | (with_reducible refine ens_tail c127 ?_; intro _ _; try dsimp only) | (with_reducible refine ens_need ?_ ?_; first | exact And.intro (by omega) (by omega) | omega | (simp only [List.length_append, List.length_cons, List.length_nil]; omega)) | (with_reducible refine ens_ite ?_ ?_ <;> intro _) | (with_reducible refine ens_bif ?_ ?_ <;> intro _) | (with_reducible refine ens_some ?_; try dsimp only) | (with_reducible refine ens_row (by omega) (by omega) ?_; intro _ _ _; try dsimp only) | (with_reducible refine ens_sum ?_ ?_ <;> (intro _ e; subst e; try dsimp only))

end Go.Proofs.YtcelhemfoehedaaGreat

namespace Go.Proofs.YtcelhemfoehedaaGreat
open Go Go.Abs Go.Bnd Go.Plain
theorem c116 {c : CfgT} (h : CrewOK c) : Ens (m116 ((c, ()), ())) (fun _ => True) := by
  have hs := h.s
  have hlen : ∀ (nm : List ByteArray) (x : ByteArray), (nm ++ [x]).length = nm.length + 1 := fun nm x => by rw [List.length_append, List.length_singleton]
  have hA : ∀ (i : Int) (s : SchT) (N : List ByteArray), s.2.1.length ≤ 6 → Ens (loopT l116_0_14 ((0, i, ()), ((s, ()), ((c, ()), ([], (N, ())))))) (fun d => ∀ x, d = .inr x → x = ((i, ()), ((s, ()), ((c, ()), (N, ()))))) := fun i s N hn => by
    refine ens_loop (fun v => v.2.1.1 = s ∧ v.2.2.1.1 = c ∧ v.1.2.1 = i ∧ v.2.2.2.2.1 = N ∧ 0 ≤ v.1.1 ∧ v.1.1 ≤ 6 ∧ (v.2.2.2.1.length : Int) = v.1.1) (fun v => (6 - v.1.1).toNat) ?_ _ ⟨rfl, rfl, rfl, rfl, by simp only; omega, by simp only; omega, rfl⟩
    rintro ⟨⟨k, _, ⟨⟩⟩, ⟨⟨_, ⟨⟩⟩, ⟨_, ⟨⟩⟩, nm, _, ⟨⟩⟩⟩ ⟨rfl, rfl, rfl, rfl, h0, h1, h2⟩
    simp only at h0 h1 h2 hn ⊢
    have hw : w64 (k + 1) = k + 1 := w64_up h0 (by omega)
    unfold l116_0_14
    dsimp only
    repeat' first | with_reducible exact True.intro | (with_reducible refine ens_at (by omega) ?_; intro _ _ _; try dsimp only) | with_reducible refine ens_bind ?_ | with_reducible refine ens_t ?_ | with_reducible refine ens_f ?_ | with_reducible refine ens_nt ?_ | with_reducible refine ens_nf ?_ | (with_reducible refine ens_tail (c122 _ _ (by omega) (by rw [hlen]; omega) (by rw [hlen]; omega)) ?_; intro _ _; try dsimp only) | (with_reducible refine ens_tail (c128 _) ?_; intro _ _; try dsimp only) | (with_reducible refine ens_need ?_ ?_; first | exact And.intro (by omega) (by omega) | omega | (simp only [List.length_append, List.length_cons, List.length_nil]; omega)) | (with_reducible refine ens_ite ?_ ?_ <;> intro _) | (with_reducible refine ens_bif ?_ ?_ <;> intro _) | (with_reducible refine ens_some ?_; try dsimp only) | (with_reducible refine ens_row (by omega) (by omega) ?_; intro _ _ _; try dsimp only) | (with_reducible refine ens_sum ?_ ?_ <;> (intro _ e; subst e; try dsimp only))
    all_goals first | (rw [hw]; exact ⟨⟨rfl, rfl, rfl, rfl, by omega, by omega, by rw [hlen]; omega⟩, by omega⟩) | (intro x e; cases e; rfl) | (intro x e; cases e)
  have hB : ∀ (i : Int) (s : SchT) (N : List ByteArray), s.2.2.1.length ≤ 48 → Ens (loopT l116_0_24 ((0, i, ()), ((s, ()), ((c, ()), (N, ()))))) (fun d => ∀ x, d = .inr x → x = ((i, ()), ((c, ()), (N, ())))) := fun i s N hn => by
    refine ens_loop (fun v => v.2.1.1 = s ∧ v.2.2.1.1 = c ∧ v.1.2.1 = i ∧ v.2.2.2.1 = N ∧ 0 ≤ v.1.1 ∧ v.1.1 ≤ 48) (fun v => (48 - v.1.1).toNat) ?_ _ ⟨rfl, rfl, rfl, rfl, by simp only; omega, by simp only; omega⟩
    rintro ⟨⟨k, _, ⟨⟩⟩, ⟨⟨_, ⟨⟩⟩, ⟨_, ⟨⟩⟩, _, ⟨⟩⟩⟩ ⟨rfl, rfl, rfl, rfl, h0, h1⟩
    simp only at h0 h1 hn ⊢
    have hw : w64 (k + 1) = k + 1 := w64_up h0 (by omega)
    unfold l116_0_24
    dsimp only
    repeat' first | with_reducible exact True.intro | (with_reducible refine ens_at (by omega) ?_; intro _ _ _; try dsimp only) | with_reducible refine ens_bind ?_ | with_reducible refine ens_t ?_ | with_reducible refine ens_f ?_ | with_reducible refine ens_nt ?_ | with_reducible refine ens_nf ?_ | (with_reducible refine ens_tail (c129 _) ?_; intro _ _; try dsimp only) | (with_reducible refine ens_need ?_ ?_; first | exact And.intro (by omega) (by omega) | omega | (simp only [List.length_append, List.length_cons, List.length_nil]; omega)) | (with_reducible refine ens_ite ?_ ?_ <;> intro _) | (with_reducible refine ens_bif ?_ ?_ <;> intro _) | (with_reducible refine ens_some ?_; try dsimp only) | (with_reducible refine ens_row (by omega) (by omega) ?_; intro _ _ _; try dsimp only) | (with_reducible refine ens_sum ?_ ?_ <;> (intro _ e; subst e; try dsimp only))
    all_goals first | (rw [hw]; exact ⟨⟨rfl, rfl, rfl, rfl, by omega, by omega⟩, by omega⟩) | (intro x e; cases e; rfl) | (intro x e; cases e)
  have hl : Ens (loopT l116_0_3 ((0, ()), ((c, ()), ([], ())))) (fun _ => True) := by
    refine ens_loop (fun v => v.2.1.1 = c ∧ 0 ≤ v.1.1 ∧ v.1.1 ≤ 2 ∧ (v.2.2.1.length : Int) = v.1.1) (fun v => (2 - v.1.1).toNat) ?_ _ ⟨rfl, by simp only; omega, by simp only; omega, rfl⟩
    rintro ⟨⟨i, ⟨⟩⟩, ⟨⟨_, ⟨⟩⟩, nm, ⟨⟩⟩⟩ ⟨rfl, h0, h1, h2⟩
    simp only at h0 h1 h2 hs ⊢
    have hw : w64 (i + 1) = i + 1 := w64_up h0 (by omega)
    unfold l116_0_3
    dsimp only
    repeat' first | with_reducible exact True.intro | with_reducible refine ens_bind ?_ | with_reducible refine ens_t ?_ | with_reducible refine ens_f ?_ | (with_reducible refine ens_tail (c122 _ _ (by omega) (by rw [hlen]; omega) (by rw [hlen]; omega)) ?_; intro _ _; try dsimp only) | (with_reducible refine ens_tail (hA _ _ _ (by omega)) ?_; intro _ hx; try dsimp only) | (with_reducible refine ens_tail (hB _ _ _ (by omega)) ?_; intro _ hx; try dsimp only) | (with_reducible refine ens_need ?_ ?_; (simp only [List.length_cons, List.length_nil]; omega)) | (with_reducible refine ens_ite ?_ ?_ <;> intro _) | (with_reducible refine ens_bif ?_ ?_ <;> intro _) | (with_reducible refine ens_some ?_; try dsimp only) | (with_reducible refine ens_row (by omega) (by omega) ?_; intro _ _ _; try dsimp only) | (with_reducible refine ens_sum ?_ ?_ <;> (intro y e; first | (cases hx y e; try dsimp only) | skip))
    all_goals (rw [hw]; exact ⟨⟨rfl, by omega, by omega, by rw [hlen]; omega⟩, by omega⟩)
  unfold m116
  dsimp only
  repeat' first | with_reducible exact True.intro | (with_reducible refine ens_at (by omega) ?_; intro _ _ _; try dsimp only) | with_reducible refine ens_bind ?_ | with_reducible refine ens_t ?_ | with_reducible refine ens_f ?_ | with_reducible refine ens_nt ?_ | with_reducible refine ens_nf ?_ | (with_reducible refine ens_tail hl ?_; intro _ _; try dsimp only) | (with_reducible refine ens_need ?_ ?_; first | exact And.intro (by omega) (by omega) | omega | (simp only [List.length_append, List.length_cons, List.length_nil]; omega)) | (with_reducible refine ens_ite ?_ ?_ <;> intro _) | (with_reducible refine ens_bif ?_ ?_ <;> intro _) | (with_reducible refine ens_some ?_; try dsimp only) | (with_reducible refine ens_row (by omega) (by omega) ?_; intro _ _ _; try dsimp only) | (with_reducible refine ens_sum ?_ ?_ <;> (intro _ e; subst e; try dsimp only))

theorem c101 {c : CfgT} (h : CrewOK c) : Ens (m101 ((c, ()), ())) (fun _ => True) := by
  unfold m101
  dsimp only
  repeat' first | with_reducible exact True.intro | (with_reducible refine ens_at (by omega) ?_; intro _ _ _; try dsimp only) | with_reducible refine ens_bind ?_ | with_reducible refine ens_t ?_ | with_reducible refine ens_f ?_ | with_reducible refine ens_nt ?_ | with_reducible refine ens_nf ?_ | (with_reducible refine ens_tail (c113 h) ?_; intro _ _; try dsimp only) | (with_reducible refine ens_tail (c114 h) ?_; intro _ _; try dsimp only) | (with_reducible refine ens_tail (c115 h) ?_; intro _ _; try dsimp only) | (with_reducible refine ens_tail (c116 h) ?_; intro _ _; try dsimp only) | (with_reducible refine ens_need ?_ ?_; first | exact And.intro (by omega) (by omega) | omega | (simp only [List.length_append, List.length_cons, List.length_nil]; omega)) | (with_reducible refine ens_ite ?_ ?_ <;> intro _) | (with_reducible refine ens_bif ?_ ?_ <;> intro _) | (with_reducible refine ens_some ?_; try dsimp only) | (with_reducible refine ens_row (by omega) (by omega) ?_; intro _ _ _; try dsimp only) | (with_reducible refine ens_sum ?_ ?_ <;> (intro _ e; subst e; try dsimp only))

theorem c111 {c : CfgT} (h : CrewOK c) (s t : Int) : Ens (m111 ((c, s, t, ()), ())) (fun r => r.1.1 = true → 0 ≤ s ∧ s < 2) := by
  have hs := h.s.1
  unfold m111
  dsimp only
  repeat' first | with_reducible exact True.intro | (with_reducible refine ens_at (by omega) ?_; intro _ _ _; try dsimp only) | with_reducible refine ens_bind ?_ | with_reducible refine ens_t ?_ | with_reducible refine ens_f ?_ | with_reducible refine ens_nt ?_ | with_reducible refine ens_nf ?_ | (with_reducible refine ens_tail (c101 h) ?_; intro _ _; try dsimp only) | (with_reducible refine ens_need ?_ ?_; first | exact And.intro (by omega) (by omega) | omega | (simp only [List.length_append, List.length_cons, List.length_nil]; omega)) | (with_reducible refine ens_ite ?_ ?_ <;> intro _) | (with_reducible refine ens_bif ?_ ?_ <;> intro _) | (with_reducible refine ens_some ?_; try dsimp only) | (with_reducible refine ens_row (by omega) (by omega) ?_; intro _ _ _; try dsimp only) | (with_reducible refine ens_sum ?_ ?_ <;> (intro _ e; subst e; try dsimp only))
  all_goals first | (intro _; omega) | (intro e; cases e)

theorem c146 {z : ZoneT} (hz : ZOK z) (l : LayT) : Ens (m146 ((z, l, ()), ())) (fun _ => True) := by
  unfold m146
  simp only [m123_eq hz, sS]
  repeat' first | with_reducible exact True.intro | (with_reducible refine ens_at (by omega) ?_; intro _ _ _; try dsimp only) | with_reducible refine ens_bind ?_ | with_reducible refine ens_t ?_ | with_reducible refine ens_f ?_ | with_reducible refine ens_nt ?_ | with_reducible refine ens_nf ?_ | (with_reducible refine ens_need ?_ ?_; first | exact And.intro (by omega) (by omega) | omega | (simp only [List.length_append, List.length_cons, List.length_nil]; omega)) | (with_reducible refine ens_ite ?_ ?_ <;> intro _) | (with_reducible refine ens_bif ?_ ?_ <;> intro _) | (with_reducible refine ens_some ?_; try dsimp only) | (with_reducible refine ens_row (by omega) (by omega) ?_; intro _ _ _; try dsimp only) | (with_reducible refine ens_sum ?_ ?_ <;> (intro _ e; subst e; try dsimp only))

theorem c154 (x : Int) : Ens (m154 ((x, ()), ())) (fun _ => True) := by
  unfold m154
  simp only [c138, sS]
  exact ⟨_, rfl, trivial⟩

theorem c150 {z : ZoneT} (hz : ZOK z) (a b : Int) : Ens (m150 ((z, (a, b, ()), ()), ())) (fun _ => True) := by
  have hl : Ens (loopT l150_0_11 (((-1), ()), (((a, b, ()), ()), ([], ((z, ()), ()))))) (fun _ => True) := by
    refine ens_loop (fun v => v.2.2.1 = [] ∧ -1 ≤ v.1.1 ∧ v.1.1 ≤ 0) (fun v => (-v.1.1).toNat) ?_ _ ⟨rfl, by simp only; omega, by simp only; omega⟩
    rintro ⟨⟨k, ⟨⟩⟩, ⟨⟨⟨a, b, ⟨⟩⟩, ⟨⟩⟩, _, ⟨⟨_, _, _, ⟨⟩⟩, ⟨⟩⟩, ⟨⟩⟩⟩ ⟨rfl, h0, h1⟩
    simp only at h0 h1 ⊢
    by_cases hk : k = -1
    · subst hk
      unfold l150_0_11
      simp only [List.length_nil]
      have hw : w64 (-1 + 1) = 0 := rfl
      repeat' first | (simp only [hw, List.length_nil]) | with_reducible exact True.intro | (with_reducible refine ens_at (by omega) ?_; intro _ _ _; try dsimp only) | with_reducible refine ens_bind ?_ | with_reducible refine ens_t ?_ | with_reducible refine ens_f ?_ | with_reducible refine ens_nt ?_ | with_reducible refine ens_nf ?_ | (with_reducible refine ens_need ?_ ?_; first | exact And.intro (by omega) (by omega) | omega | (simp only [List.length_append, List.length_cons, List.length_nil]; omega)) | (with_reducible refine ens_ite ?_ ?_ <;> intro _) | (with_reducible refine ens_bif ?_ ?_ <;> intro _) | (with_reducible refine ens_some ?_; try dsimp only) | (with_reducible refine ens_row (by omega) (by omega) ?_; intro _ _ _; try dsimp only) | (with_reducible refine ens_sum ?_ ?_ <;> (intro _ e; subst e; try dsimp only))
      all_goals first | (exfalso; omega) | exact ⟨⟨trivial, by omega, by omega⟩, by omega⟩
    · obtain rfl : k = 0 := by omega
      exact ⟨_, rfl, trivial⟩
  unfold m150
  simp only [m136_eq hz, c138, sS]
  repeat' first | with_reducible exact True.intro | (with_reducible refine ens_at (by omega) ?_; intro _ _ _; try dsimp only) | with_reducible refine ens_bind ?_ | with_reducible refine ens_t ?_ | with_reducible refine ens_f ?_ | with_reducible refine ens_nt ?_ | with_reducible refine ens_nf ?_ | (with_reducible refine ens_tail (c154 _) ?_; intro _ _; try dsimp only) | (with_reducible refine ens_tail hl ?_; intro _ _; try dsimp only) | (with_reducible refine ens_need ?_ ?_; first | exact And.intro (by omega) (by omega) | omega | (simp only [List.length_append, List.length_cons, List.length_nil]; omega)) | (with_reducible refine ens_ite ?_ ?_ <;> intro _) | (with_reducible refine ens_bif ?_ ?_ <;> intro _) | (with_reducible refine ens_some ?_; try dsimp only) | (with_reducible refine ens_row (by omega) (by omega) ?_; intro _ _ _; try dsimp only) | (with_reducible refine ens_sum ?_ ?_ <;> (intro _ e; subst e; try dsimp only))

theorem c139 {z : ZoneT} (a b : Int) : Ens (m139 ((z, [], b, ()), ())) (fun _ => True) := ⟨_, rfl, trivial⟩

theorem c130 {z : ZoneT} (hz : ZOK z) (t : Int) : Ens (m130 ((z, t, ()), ())) (fun _ => True) := by
  unfold m130
  simp only [m136_eq hz, c138, sS]
  repeat' first | with_reducible exact True.intro | (with_reducible refine ens_at (by omega) ?_; intro _ _ _; try dsimp only) | with_reducible refine ens_bind ?_ | with_reducible refine ens_t ?_ | with_reducible refine ens_f ?_ | with_reducible refine ens_nt ?_ | with_reducible refine ens_nf ?_ | (with_reducible refine ens_tail (c139 0 _) ?_; intro _ _; try dsimp only) | (with_reducible refine ens_need ?_ ?_; first | exact And.intro (by omega) (by omega) | omega | (simp only [List.length_append, List.length_cons, List.length_nil]; omega)) | (with_reducible refine ens_ite ?_ ?_ <;> intro _) | (with_reducible refine ens_bif ?_ ?_ <;> intro _) | (with_reducible refine ens_some ?_; try dsimp only) | (with_reducible refine ens_row (by omega) (by omega) ?_; intro _ _ _; try dsimp only) | (with_reducible refine ens_sum ?_ ?_ <;> (intro _ e; subst e; try dsimp only))

theorem c131 (a b : Int) : Ens (m131 ((a, b, ()), ())) (fun _ => True) := ⟨_, rfl, trivial⟩

theorem c117 {z : ZoneT} (hz : ZOK z) (t : Int) : Ens (m117 ((z, t, ()), ())) (fun _ => True) := by
  unfold m117
  dsimp only
  repeat' first | with_reducible exact True.intro | (with_reducible refine ens_at (by omega) ?_; intro _ _ _; try dsimp only) | with_reducible refine ens_bind ?_ | with_reducible refine ens_t ?_ | with_reducible refine ens_f ?_ | with_reducible refine ens_nt ?_ | with_reducible refine ens_nf ?_ | (with_reducible refine ens_tail (c130 hz _) ?_; intro _ _; try dsimp only) | (with_reducible refine ens_tail (c131 _ _) ?_; intro _ _; try dsimp only) | (with_reducible refine ens_need ?_ ?_; first | exact And.intro (by omega) (by omega) | omega | (simp only [List.length_append, List.length_cons, List.length_nil]; omega)) | (with_reducible refine ens_ite ?_ ?_ <;> intro _) | (with_reducible refine ens_bif ?_ ?_ <;> intro _) | (with_reducible refine ens_some ?_; try dsimp only) | (with_reducible refine ens_row (by omega) (by omega) ?_; intro _ _ _; try dsimp only) | (with_reducible refine ens_sum ?_ ?_ <;> (intro _ e; subst e; try dsimp only))

theorem c151 {z : ZoneT} (hz : ZOK z) (l : LayT) (k : Int) : Ens (m151 ((z, l, k, ()), ())) (fun _ => True) := by
  obtain ⟨_, _, ⟨_, _, ⟨⟩⟩, _⟩ := l
  unfold m151
  dsimp only
  repeat' first | with_reducible exact True.intro | (with_reducible refine ens_at (by omega) ?_; intro _ _ _; try dsimp only) | with_reducible refine ens_bind ?_ | with_reducible refine ens_t ?_ | with_reducible refine ens_f ?_ | with_reducible refine ens_nt ?_ | with_reducible refine ens_nf ?_ | (with_reducible refine ens_tail (c150 hz _ _) ?_; intro _ _; try dsimp only) | (with_reducible refine ens_need ?_ ?_; first | exact And.intro (by omega) (by omega) | omega | (simp only [List.length_append, List.length_cons, List.length_nil]; omega)) | (with_reducible refine ens_ite ?_ ?_ <;> intro _) | (with_reducible refine ens_bif ?_ ?_ <;> intro _) | (with_reducible refine ens_some ?_; try dsimp only) | (with_reducible refine ens_row (by omega) (by omega) ?_; intro _ _ _; try dsimp only) | (with_reducible refine ens_sum ?_ ?_ <;> (intro _ e; subst e; try dsimp only))

theorem c147 {z : ZoneT} (hz : ZOK z) {l : LayT} (hl : LayOK l) (t : Int) : Ens (m147 ((z, l, t, ()), ())) (fun _ => True) := by
  have hL : ∀ x : Int, -1 ≤ x → x ≤ 9223372036854775807 → Ens (loopT l147_0_12 ((x, t, ()), ((l, ()), ((z, ()), ())))) (fun _ => True) := fun x hx0 hx => by
    refine ens_loop (fun v => v.2.1.1 = l ∧ v.2.2.1.1 = z ∧ v.1.1 ≤ x ∧ -1 ≤ v.1.1) (fun v => (v.1.1 + 1).toNat) ?_ _ ⟨rfl, rfl, Int.le_refl _, hx0⟩
    rintro ⟨⟨k, _, ⟨⟩⟩, ⟨⟨_, ⟨⟩⟩, ⟨_, ⟨⟩⟩, ⟨⟩⟩⟩ ⟨rfl, rfl, h0, h1⟩
    simp only at h0 h1 hz hl ⊢
    unfold l147_0_12
    dsimp only
    repeat' first | with_reducible exact True.intro | (with_reducible refine ens_at (by omega) ?_; intro _ _ _; try dsimp only) | with_reducible refine ens_bind ?_ | with_reducible refine ens_t ?_ | with_reducible refine ens_f ?_ | with_reducible refine ens_nt ?_ | with_reducible refine ens_nf ?_ | (with_reducible refine ens_tail (c151 hz _ _) ?_; intro _ _; try dsimp only) | (with_reducible refine ens_need ?_ ?_; first | exact And.intro (by omega) (by omega) | omega | (simp only [List.length_append, List.length_cons, List.length_nil]; omega)) | (with_reducible refine ens_ite ?_ ?_ <;> intro _) | (with_reducible refine ens_bif ?_ ?_ <;> intro _) | (with_reducible refine ens_some ?_; try dsimp only) | (with_reducible refine ens_row (by omega) (by omega) ?_; intro _ _ _; try dsimp only) | (with_reducible refine ens_sum ?_ ?_ <;> (intro _ e; subst e; try dsimp only))
    all_goals (rw [w64_dn (by omega) (by omega)]; exact ⟨⟨rfl, rfl, by omega, by omega⟩, by omega⟩)
  obtain ⟨nm, zi, ⟨sd, ss, ⟨⟩⟩, un, ev, me, wi, ca, mo, ⟨⟩⟩ := l
  obtain ⟨_, ⟨e1, e2⟩, _⟩ := hl
  simp only at e1 e2 hL
  have w1 : w64 (3600 * ev) = 3600 * ev := w64_id (by omega) (by omega)
  have w2 : w64 (ev * 7) = ev * 7 := w64_id (by omega) (by omega)
  have hd : ∀ (y n : Int), 1 ≤ n → -1 ≤ w64 ((if (0 : Int) > w64 y then 0 else w64 y).tdiv n) ∧ w64 ((if (0 : Int) > w64 y then 0 else w64 y).tdiv n) ≤ 9223372036854775807 := fun y n hn => by
    have r := w64_range y
    have hm : 0 ≤ (if (0 : Int) > w64 y then 0 else w64 y) ∧ (if (0 : Int) > w64 y then 0 else w64 y) ≤ 9223372036854775807 := by split <;> omega
    have h1 := Int.tdiv_nonneg hm.1 (show 0 ≤ n by omega)
    have h2 := Int.tdiv_le_self n hm.1
    rw [w64_id (by omega) (by omega)]
    omega
  unfold m147
  simp only [w1, w2]
  repeat' first | with_reducible exact True.intro | (with_reducible refine ens_at (by omega) ?_; intro _ _ _; try dsimp only) | with_reducible refine ens_bind ?_ | with_reducible refine ens_t ?_ | with_reducible refine ens_f ?_ | with_reducible refine ens_nt ?_ | with_reducible refine ens_nf ?_ | (with_reducible refine ens_tail (c150 hz _ _) ?_; intro _ _; try dsimp only) | (with_reducible refine ens_tail (c117 hz _) ?_; intro _ _; try dsimp only) | (with_reducible refine ens_tail (hL _ (hd _ _ (by omega)).1 (hd _ _ (by omega)).2) ?_; intro _ _; try dsimp only) | (with_reducible refine ens_need ?_ ?_; first | exact And.intro (by omega) (by omega) | omega | (simp only [List.length_append, List.length_cons, List.length_nil]; omega)) | (with_reducible refine ens_ite ?_ ?_ <;> intro _) | (with_reducible refine ens_bif ?_ ?_ <;> intro _) | (with_reducible refine ens_some ?_; try dsimp only) | (with_reducible refine ens_row (by omega) (by omega) ?_; intro _ _ _; try dsimp only) | (with_reducible refine ens_sum ?_ ?_ <;> (intro _ e; subst e; try dsimp only))

theorem c144 {z : ZoneT} (hz : ZOK z) {l : LayT} (hl : LayOK l) (t : Int) : Ens (m144 ((z, l, t, ()), ())) (fun _ => True) := by
  unfold m144
  dsimp only
  repeat' first | with_reducible exact True.intro | (with_reducible refine ens_at (by omega) ?_; intro _ _ _; try dsimp only) | with_reducible refine ens_bind ?_ | with_reducible refine ens_t ?_ | with_reducible refine ens_f ?_ | with_reducible refine ens_nt ?_ | with_reducible refine ens_nf ?_ | (with_reducible refine ens_tail (c146 hz _) ?_; intro _ _; try dsimp only) | (with_reducible refine ens_tail (c147 hz hl _) ?_; intro _ _; try dsimp only) | (with_reducible refine ens_need ?_ ?_; first | exact And.intro (by omega) (by omega) | omega | (simp only [List.length_append, List.length_cons, List.length_nil]; omega)) | (with_reducible refine ens_ite ?_ ?_ <;> intro _) | (with_reducible refine ens_bif ?_ ?_ <;> intro _) | (with_reducible refine ens_some ?_; try dsimp only) | (with_reducible refine ens_row (by omega) (by omega) ?_; intro _ _ _; try dsimp only) | (with_reducible refine ens_sum ?_ ?_ <;> (intro _ e; subst e; try dsimp only))

theorem c118 (a b : Int) : Ens (m118 (((a, b, ()), ()), ())) (fun _ => True) := ⟨_, rfl, trivial⟩

theorem c103 {z : ZoneT} (hz : ZOK z) (t : Int) : Ens (m103 ((z, t, ()), ())) (fun _ => True) := by
  unfold m103
  dsimp only
  obtain ⟨⟨⟨e, ⟨⟩⟩, ⟨⟨⟨a, b, ⟨⟩⟩, ⟨⟩⟩, ⟨⟩⟩⟩, h, _⟩ := c117 hz t
  simp only [h, sS]
  repeat' first | with_reducible exact True.intro | (with_reducible refine ens_at (by omega) ?_; intro _ _ _; try dsimp only) | with_reducible refine ens_bind ?_ | with_reducible refine ens_t ?_ | with_reducible refine ens_f ?_ | with_reducible refine ens_nt ?_ | with_reducible refine ens_nf ?_ | (with_reducible refine ens_tail (c118 _ _) ?_; intro _ _; try dsimp only) | (with_reducible refine ens_need ?_ ?_; first | exact And.intro (by omega) (by omega) | omega | (simp only [List.length_append, List.length_cons, List.length_nil]; omega)) | (with_reducible refine ens_ite ?_ ?_ <;> intro _) | (with_reducible refine ens_bif ?_ ?_ <;> intro _) | (with_reducible refine ens_some ?_; try dsimp only) | (with_reducible refine ens_row (by omega) (by omega) ?_; intro _ _ _; try dsimp only) | (with_reducible refine ens_sum ?_ ?_ <;> (intro _ e; subst e; try dsimp only))

theorem c105 (l : List WinT) (n : Int) (hn : l.length ≤ 14) : Ens (m105 ((l, n, ()), ())) (fun _ => True) := by
  have hl : Ens (loopT l105_0_2 ((0, l, n, ()), ())) (fun _ => True) := by
    refine ens_loop (fun v => v.1.2.1 = l ∧ (0 : Int) ≤ v.1.1 ∧ v.1.1 ≤ (l.length : Int)) (fun v => ((l.length : Int) - v.1.1).toNat) ?_ _ ⟨rfl, by simp only; omega, by simp only; omega⟩
    rintro ⟨⟨i, _, n, ⟨⟩⟩, ⟨⟩⟩ ⟨rfl, h0, h1⟩
    simp only at h0 h1 hn ⊢
    have hw : w64 (i + 1) = i + 1 := w64_up h0 (by omega)
    unfold l105_0_2
    dsimp only
    repeat' first | with_reducible exact True.intro | (with_reducible refine ens_at (by omega) ?_; intro _ _ _; try dsimp only) | with_reducible refine ens_bind ?_ | with_reducible refine ens_t ?_ | with_reducible refine ens_f ?_ | with_reducible refine ens_nt ?_ | with_reducible refine ens_nf ?_ | (with_reducible refine ens_need ?_ ?_; first | exact And.intro (by omega) (by omega) | omega | (simp only [List.length_append, List.length_cons, List.length_nil]; omega)) | (with_reducible refine ens_ite ?_ ?_ <;> intro _) | (with_reducible refine ens_bif ?_ ?_ <;> intro _) | (with_reducible refine ens_some ?_; try dsimp only) | (with_reducible refine ens_row (by omega) (by omega) ?_; intro _ _ _; try dsimp only) | (with_reducible refine ens_sum ?_ ?_ <;> (intro _ e; subst e; try dsimp only))
    all_goals (rw [hw]; exact ⟨⟨rfl, by omega, by omega⟩, by omega⟩)
  unfold m105
  dsimp only
  repeat' first | with_reducible exact True.intro | (with_reducible refine ens_at (by omega) ?_; intro _ _ _; try dsimp only) | with_reducible refine ens_bind ?_ | with_reducible refine ens_t ?_ | with_reducible refine ens_f ?_ | with_reducible refine ens_nt ?_ | with_reducible refine ens_nf ?_ | (with_reducible refine ens_tail hl ?_; intro _ _; try dsimp only) | (with_reducible refine ens_need ?_ ?_; first | exact And.intro (by omega) (by omega) | omega | (simp only [List.length_append, List.length_cons, List.length_nil]; omega)) | (with_reducible refine ens_ite ?_ ?_ <;> intro _) | (with_reducible refine ens_bif ?_ ?_ <;> intro _) | (with_reducible refine ens_some ?_; try dsimp only) | (with_reducible refine ens_row (by omega) (by omega) ?_; intro _ _ _; try dsimp only) | (with_reducible refine ens_sum ?_ ?_ <;> (intro _ e; subst e; try dsimp only))

/-- Windows of at most 14 parts (more are none). -/
theorem c82 {z : ZoneT} (hz : ZOK z) (l : List WinT) (hn : l.length ≤ 14) (t : Int) : Ens (m82 ((z, l, t, ()), ())) (fun _ => True) := by
  unfold m82
  dsimp only
  repeat' first | with_reducible exact True.intro | (with_reducible refine ens_at (by omega) ?_; intro _ _ _; try dsimp only) | with_reducible refine ens_bind ?_ | with_reducible refine ens_t ?_ | with_reducible refine ens_f ?_ | with_reducible refine ens_nt ?_ | with_reducible refine ens_nf ?_ | (with_reducible refine ens_tail (c103 hz _) ?_; intro _ _; try dsimp only) | (with_reducible refine ens_tail (c104 _) ?_; intro _ _; try dsimp only) | (with_reducible refine ens_tail (c105 _ _ hn) ?_; intro _ _; try dsimp only) | (with_reducible refine ens_need ?_ ?_; first | exact And.intro (by omega) (by omega) | omega | (simp only [List.length_append, List.length_cons, List.length_nil]; omega)) | (with_reducible refine ens_ite ?_ ?_ <;> intro _) | (with_reducible refine ens_bif ?_ ?_ <;> intro _) | (with_reducible refine ens_some ?_; try dsimp only) | (with_reducible refine ens_row (by omega) (by omega) ?_; intro _ _ _; try dsimp only) | (with_reducible refine ens_sum ?_ ?_ <;> (intro _ e; subst e; try dsimp only))

theorem c140 {c : CfgT} (h : CrewOK c) {l : LayT} (hl : LayOK l) (t : Int) : Ens (m140 ((c, l, t, ()), ())) (fun r => r.1.2.1 = true → 0 ≤ r.1.1) := by
  have hz := h.z
  have h0 := hl.1
  have hm := hl.2.2.2.2.1
  have hw := hl.2.2.2.2.2
  unfold m140
  dsimp only
  repeat' first | (simp only [hm, beq_self_eq_true]) | with_reducible exact True.intro | (with_reducible refine ens_at (by omega) ?_; intro _ _ _; try dsimp only) | with_reducible refine ens_bind ?_ | with_reducible refine ens_t ?_ | with_reducible refine ens_f ?_ | with_reducible refine ens_nt ?_ | with_reducible refine ens_nf ?_ | (with_reducible refine ens_tail (c144 (hz.2 _ (by assumption)) hl _) ?_; intro _ _; try dsimp only) | (with_reducible refine ens_tail (c82 (hz.2 _ (by assumption)) _ hw _) ?_; intro _ _; try dsimp only) | (with_reducible refine ens_need ?_ ?_; first | exact And.intro (by omega) (by omega) | omega | (simp only [List.length_append, List.length_cons, List.length_nil]; omega)) | (with_reducible refine ens_ite ?_ ?_ <;> intro _) | (with_reducible refine ens_bif ?_ ?_ <;> intro _) | (with_reducible refine ens_some ?_; try dsimp only) | (with_reducible refine ens_row (by omega) (by omega) ?_; intro _ _ _; try dsimp only) | (with_reducible refine ens_sum ?_ ?_ <;> (intro _ e; subst e; try dsimp only))
  all_goals first | (intro _; omega) | (intro e; cases e)

theorem c133 {c : CfgT} (h : CrewOK c) {l : LayT} (hl : LayOK l) (t : Int) : Ens (m133 ((c, l, t, ()), ())) (fun r => -1 ≤ r.1.1 ∧ r.1.1 ≤ 3) := by
  obtain ⟨⟨⟨k, ok, ⟨⟩⟩, ⟨⟩⟩, h1, h2⟩ := c140 h hl t
  have hlen := hl.2.2.1
  have hme := hl.2.2.2.1
  unfold m133
  simp only [h1, sS]
  simp only at h2
  cases ok with
  | false => exact ⟨_, rfl, by simp only; omega⟩
  | true =>
    have hk := h2 rfl
    have t1 := Int.tmod_nonneg (l.2.2.2.2.2.1.length : Int) hk
    have t2 : k.tmod (l.2.2.2.2.2.1.length : Int) < l.2.2.2.2.2.1.length := by
      rw [Int.tmod_eq_emod_of_nonneg hk]
      exact Int.emod_lt_of_pos _ (by omega)
    repeat' first | with_reducible exact True.intro | (with_reducible refine ens_at (by omega) ?_; intro _ _ _; try dsimp only) | with_reducible refine ens_bind ?_ | with_reducible refine ens_t ?_ | with_reducible refine ens_f ?_ | with_reducible refine ens_nt ?_ | with_reducible refine ens_nf ?_ | (with_reducible refine ens_need ?_ ?_; first | exact And.intro (by omega) (by omega) | omega | (simp only [List.length_append, List.length_cons, List.length_nil]; omega)) | (with_reducible refine ens_ite ?_ ?_ <;> intro _) | (with_reducible refine ens_bif ?_ ?_ <;> intro _) | (with_reducible refine ens_some ?_; try dsimp only) | (with_reducible refine ens_row (by omega) (by omega) ?_; intro _ _ _; try dsimp only) | (with_reducible refine ens_sum ?_ ?_ <;> (intro _ e; subst e; try dsimp only))
    all_goals
      have := hme _ (by assumption)
      omega

theorem c134 (s : SchT) (hs : s.2.2.1.length ≤ 48) (p t : Int) : Ens (m134 ((s, p, t, ()), ())) (fun _ => True) := by
  have hl : Ens (loopT l134_0_2 ((0, t, p, ()), ((s, ()), ()))) (fun _ => True) := by
    refine ens_loop (fun v => v.2.1.1 = s ∧ (0 : Int) ≤ v.1.1 ∧ v.1.1 ≤ 48) (fun v => (48 - v.1.1).toNat) ?_ _ ⟨rfl, by simp only; omega, by simp only; omega⟩
    rintro ⟨⟨i, t, p, ⟨⟩⟩, ⟨⟨_, ⟨⟩⟩, ⟨⟩⟩⟩ ⟨rfl, h0, h1⟩
    simp only at h0 h1 hs ⊢
    have hw : w64 (i + 1) = i + 1 := w64_up h0 (by omega)
    unfold l134_0_2
    dsimp only
    repeat' first | with_reducible exact True.intro | (with_reducible refine ens_at (by omega) ?_; intro _ _ _; try dsimp only) | with_reducible refine ens_bind ?_ | with_reducible refine ens_t ?_ | with_reducible refine ens_f ?_ | with_reducible refine ens_nt ?_ | with_reducible refine ens_nf ?_ | (with_reducible refine ens_need ?_ ?_; first | exact And.intro (by omega) (by omega) | omega | (simp only [List.length_append, List.length_cons, List.length_nil]; omega)) | (with_reducible refine ens_ite ?_ ?_ <;> intro _) | (with_reducible refine ens_bif ?_ ?_ <;> intro _) | (with_reducible refine ens_some ?_; try dsimp only) | (with_reducible refine ens_row (by omega) (by omega) ?_; intro _ _ _; try dsimp only) | (with_reducible refine ens_sum ?_ ?_ <;> (intro _ e; subst e; try dsimp only))
    all_goals (rw [hw]; exact ⟨⟨rfl, by omega, by omega⟩, by omega⟩)
  unfold m134
  dsimp only
  repeat' first | with_reducible exact True.intro | (with_reducible refine ens_at (by omega) ?_; intro _ _ _; try dsimp only) | with_reducible refine ens_bind ?_ | with_reducible refine ens_t ?_ | with_reducible refine ens_f ?_ | with_reducible refine ens_nt ?_ | with_reducible refine ens_nf ?_ | (with_reducible refine ens_tail hl ?_; intro _ _; try dsimp only) | (with_reducible refine ens_need ?_ ?_; first | exact And.intro (by omega) (by omega) | omega | (simp only [List.length_append, List.length_cons, List.length_nil]; omega)) | (with_reducible refine ens_ite ?_ ?_ <;> intro _) | (with_reducible refine ens_bif ?_ ?_ <;> intro _) | (with_reducible refine ens_some ?_; try dsimp only) | (with_reducible refine ens_row (by omega) (by omega) ?_; intro _ _ _; try dsimp only) | (with_reducible refine ens_sum ?_ ?_ <;> (intro _ e; subst e; try dsimp only))

theorem c120 {c : CfgT} (h : CrewOK c) (s t : Int) (h0 : 0 ≤ s) (h1 : s < 2) : Ens (m120 ((c, s, t, ()), ())) (fun r => -1 ≤ r.1.2.1 ∧ r.1.2.1 ≤ 3) := by
  have hs := h.s
  have hl : ∀ e : SchT, SchOK e → Ens (loopT l120_0_3 ((w64 ((e.2.1.length : Int) - 1), t, ()), ((e, ()), ((c, ()), ())))) (fun d => ∀ x, d = .inl x → -1 ≤ x.1.2.1 ∧ x.1.2.1 ≤ 3) := fun e he => by
    have hn := he.1
    refine ens_loop (fun v => v.2.1.1 = e ∧ v.2.2.1.1 = c ∧ (-1 : Int) ≤ v.1.1 ∧ v.1.1 < (e.2.1.length : Int)) (fun v => (v.1.1 + 1).toNat) ?_ _ ?_
    · rintro ⟨⟨i, t, ⟨⟩⟩, ⟨⟨_, ⟨⟩⟩, ⟨_, ⟨⟩⟩, ⟨⟩⟩⟩ ⟨rfl, rfl, h2, h3⟩
      simp only at h2 h3 hn he hs h ⊢
      have hla := he.2.1
      have hed := he.2.2.1
      unfold l120_0_3
      dsimp only
      repeat' first | with_reducible refine ens_bind ?_ | with_reducible refine ens_t ?_ | with_reducible refine ens_f ?_ | (with_reducible refine ens_tail (c133 h (hla _ (by assumption)) _) ?_; intro _ _; try dsimp only) | (with_reducible refine ens_tail (c134 _ hed _ _) ?_; intro _ _; try dsimp only) | (with_reducible refine ens_ite ?_ ?_ <;> intro _) | (with_reducible refine ens_bif ?_ ?_ <;> intro _) | (with_reducible refine ens_some ?_; try dsimp only) | (with_reducible refine ens_row (by omega) (by omega) ?_; intro _ _ _; try dsimp only)
      all_goals first | (rw [w64_dn (by omega) (by omega)]; exact ⟨⟨rfl, rfl, by omega, by omega⟩, by omega⟩) | (intro x e; cases e; assumption) | (intro x e; cases e)
    · rw [w64_id (by omega) (by omega)]
      exact ⟨rfl, rfl, by simp only; omega, by simp only; omega⟩
  unfold m120
  dsimp only
  refine ens_row h0 (by omega) fun e _ he => ?_
  obtain ⟨d, h2, h3⟩ := hl e (hs.2 e he)
  rw [h2]
  simp only [sS]
  cases d with
  | inl x => exact ⟨_, rfl, h3 x rfl⟩
  | inr x => exact ⟨_, rfl, by simp only; omega⟩

theorem c121 (l : List EdT) (hl : l.length ≤ 48) (he : ∀ e ∈ l, EdOK e) (p t : Int) (hp : -1 ≤ p ∧ p ≤ 3) : Ens (m121 ((l, p, t, ()), ())) (fun r => -1 ≤ r.1.1 ∧ r.1.1 ≤ 3) := by
  have hL : Ens (loopT l121_0_2 ((0, p, t, l, ()), ())) (fun r => -1 ≤ r.1.1 ∧ r.1.1 ≤ 3) := by
    refine ens_loop (fun v => v.1.2.2.2.1 = l ∧ (0 : Int) ≤ v.1.1 ∧ v.1.1 ≤ 48 ∧ -1 ≤ v.1.2.1 ∧ v.1.2.1 ≤ 3) (fun v => (48 - v.1.1).toNat) ?_ _ ⟨rfl, by simp only; omega, by simp only; omega, hp.1, hp.2⟩
    rintro ⟨⟨i, p, t, _, ⟨⟩⟩, ⟨⟩⟩ ⟨rfl, h0, h1, h2, h3⟩
    simp only at h0 h1 h2 h3 hl he ⊢
    have hw : w64 (i + 1) = i + 1 := w64_up h0 (by omega)
    unfold l121_0_2
    dsimp only
    repeat' first | with_reducible exact True.intro | (with_reducible refine ens_at (by omega) ?_; intro _ _ _; try dsimp only) | with_reducible refine ens_bind ?_ | with_reducible refine ens_t ?_ | with_reducible refine ens_f ?_ | with_reducible refine ens_nt ?_ | with_reducible refine ens_nf ?_ | (with_reducible refine ens_need ?_ ?_; first | exact And.intro (by omega) (by omega) | omega | (simp only [List.length_append, List.length_cons, List.length_nil]; omega)) | (with_reducible refine ens_ite ?_ ?_ <;> intro _) | (with_reducible refine ens_bif ?_ ?_ <;> intro _) | (with_reducible refine ens_some ?_; try dsimp only) | (with_reducible refine ens_row (by omega) (by omega) ?_; intro _ _ _; try dsimp only) | (with_reducible refine ens_sum ?_ ?_ <;> (intro _ e; subst e; try dsimp only))
    all_goals first | exact ⟨by omega, by omega⟩ | (rw [hw]; exact ⟨⟨rfl, by omega, by omega, by have := he _ (by assumption); unfold EdOK at this; omega, by have := he _ (by assumption); unfold EdOK at this; omega⟩, by omega⟩)
  unfold m121
  dsimp only
  obtain ⟨d, h2, h3⟩ := hL
  rw [h2]
  exact ⟨_, rfl, h3⟩

theorem c112 {c : CfgT} (h : CrewOK c) (s t : Int) (h0 : 0 ≤ s) (h1 : s < 2) : Ens (m112 ((c, s, t, ()), ())) (fun r => -1 ≤ r.1.1 ∧ r.1.1 ≤ 3) := by
  have hs := h.s
  unfold m112
  dsimp only
  obtain ⟨⟨⟨a, p, ⟨⟩⟩, ⟨⟩⟩, h2, h3⟩ := c120 h s t h0 h1
  simp only [h2, sS]
  refine ens_row h0 (by omega) fun e _ he => ?_
  have hse := hs.2 e he
  obtain ⟨⟨⟨q, ⟨⟩⟩, ⟨⟩⟩, h4, h5⟩ := c121 e.2.2.1 hse.2.2.1 hse.2.2.2 p t h3
  simp only [h4, sS]
  exact ⟨_, rfl, h5⟩

/-- Who is on call: a number from -1 to 3. -/
theorem who_spec {c : CfgT} (h : CrewOK c) (s t : Int) : ∃ p : Int, m80 ((c, s, t, ()), ()) = some ((p, ()), ()) ∧ -1 ≤ p ∧ p ≤ 3 := by
  obtain ⟨⟨⟨ok, ⟨⟩⟩, ⟨⟩⟩, h1, h2⟩ := c111 h s t
  unfold m80 m100
  simp only [h1, sS]
  cases ok with
  | false => exact ⟨-1, rfl, by omega, by omega⟩
  | true =>
    obtain ⟨a, b⟩ := h2 rfl
    obtain ⟨⟨⟨p, ⟨⟩⟩, ⟨⟩⟩, h3, h4⟩ := c112 h s t a b
    simp only [h3, sS]
    exact ⟨p, rfl, h4⟩

theorem c102 (a b : Int) : Ens (m102 ((a, b, ()), ())) (fun _ => True) := by
  unfold m102
  dsimp only
  repeat' first | with_reducible exact True.intro | (with_reducible refine ens_at (by omega) ?_; intro _ _ _; try dsimp only) | with_reducible refine ens_bind ?_ | with_reducible refine ens_t ?_ | with_reducible refine ens_f ?_ | with_reducible refine ens_nt ?_ | with_reducible refine ens_nf ?_ | (with_reducible refine ens_need ?_ ?_; first | exact And.intro (by omega) (by omega) | omega | (simp only [List.length_append, List.length_cons, List.length_nil]; omega)) | (with_reducible refine ens_ite ?_ ?_ <;> intro _) | (with_reducible refine ens_bif ?_ ?_ <;> intro _) | (with_reducible refine ens_some ?_; try dsimp only) | (with_reducible refine ens_row (by omega) (by omega) ?_; intro _ _ _; try dsimp only) | (with_reducible refine ens_sum ?_ ?_ <;> (intro _ e; subst e; try dsimp only))

theorem c81 {c : CfgT} (h : CrewOK c) (p a b : Int) : Ens (m81 ((c, p, a, b, ()), ())) (fun r => r.1.1 = 0 → 0 ≤ p ∧ p < 4) := by
  have hp := h.p.1
  unfold m81
  dsimp only
  repeat' first | with_reducible exact True.intro | (with_reducible refine ens_at (by omega) ?_; intro _ _ _; try dsimp only) | with_reducible refine ens_bind ?_ | with_reducible refine ens_t ?_ | with_reducible refine ens_f ?_ | with_reducible refine ens_nt ?_ | with_reducible refine ens_nf ?_ | (with_reducible refine ens_tail (c101 h) ?_; intro _ _; try dsimp only) | (with_reducible refine ens_tail (c102 _ _) ?_; intro _ _; try dsimp only) | (with_reducible refine ens_need ?_ ?_; first | exact And.intro (by omega) (by omega) | omega | (simp only [List.length_append, List.length_cons, List.length_nil]; omega)) | (with_reducible refine ens_ite ?_ ?_ <;> intro _) | (with_reducible refine ens_bif ?_ ?_ <;> intro _) | (with_reducible refine ens_some ?_; try dsimp only) | (with_reducible refine ens_row (by omega) (by omega) ?_; intro _ _ _; try dsimp only) | (with_reducible refine ens_sum ?_ ?_ <;> (intro _ e; subst e; try dsimp only))
  all_goals (intro e; omega)

theorem reach_spec {c : CfgT} (h : CrewOK c) (p t : Int) (u : Bool) : ∃ b : Bool, m55 ((c, p, t, u, ()), ()) = some ((b, ()), ()) := by
  have key : Ens (m55 ((c, p, t, u, ()), ())) (fun _ => True) := by
    have hp := h.p
    have hz := h.z
    unfold m55
    dsimp only
    obtain ⟨⟨⟨e, ⟨⟩⟩, ⟨⟩⟩, h1, h2⟩ := c81 h p t t
    simp only [h1, sS]
    by_cases he : e = 0
    · subst he
      obtain ⟨a, b⟩ := h2 rfl
      have hb : ((0 : Int) != 0) = false := rfl
      rw [hb]
      refine ens_row a (by omega) fun x _ hx => ?_
      obtain ⟨q1, q2⟩ := hp.2 x hx
      repeat' first | with_reducible exact True.intro | (with_reducible refine ens_at (by omega) ?_; intro _ _ _; try dsimp only) | with_reducible refine ens_bind ?_ | with_reducible refine ens_t ?_ | with_reducible refine ens_f ?_ | with_reducible refine ens_nt ?_ | with_reducible refine ens_nf ?_ | (with_reducible refine ens_tail (c82 (hz.2 _ (by assumption)) _ q2 _) ?_; intro _ _; try dsimp only) | (with_reducible refine ens_need ?_ ?_; first | exact And.intro (by omega) (by omega) | omega | (simp only [List.length_append, List.length_cons, List.length_nil]; omega)) | (with_reducible refine ens_ite ?_ ?_ <;> intro _) | (with_reducible refine ens_bif ?_ ?_ <;> intro _) | (with_reducible refine ens_some ?_; try dsimp only) | (with_reducible refine ens_row (by omega) (by omega) ?_; intro _ _ _; try dsimp only) | (with_reducible refine ens_sum ?_ ?_ <;> (intro _ e; subst e; try dsimp only))
    · have hb : (e != 0) = true := bne_iff_ne.2 he
      rw [hb]
      exact ⟨_, rfl, trivial⟩
  obtain ⟨⟨⟨b, ⟨⟩⟩, ⟨⟩⟩, h1, _⟩ := key
  exact ⟨b, h1⟩

end Go.Proofs.YtcelhemfoehedaaGreat

namespace Go.Proofs.YtcelhemfoehedaaGreat
open Go Go.Abs Go.Bnd Go.Plain
theorem c56 (a b c : Int) : m56 ((a, b, c, ()), ()) = some ((decide (b ≤ a ∧ a ≤ c), ()), ()) := by
  unfold m56
  by_cases h : a ≥ b <;> by_cases h2 : a ≤ c <;> simp [h, h2]
  all_goals omega

theorem c85 (a b c : Int) : m85 ((a, b, c, ()), ()) = some ((decide (b ≤ a ∧ a ≤ c), ()), ()) := by
  unfold m85
  by_cases h : a ≥ b <;> by_cases h2 : a ≤ c <;> simp [h, h2]
  all_goals omega

theorem c84 (a b c : Int) : m84 ((a, b, c, ()), ()) = some ((decide (b ≤ a ∧ a ≤ c), ()), ()) := by
  unfold m84
  by_cases h : a ≥ b <;> by_cases h2 : a ≤ c <;> simp [h, h2]
  all_goals omega

theorem pw_get : ∀ {l : List Int}, l.Pairwise (· < ·) → ∀ {a b : Nat} {x y : Int}, l[a]? = some x → l[b]? = some y → a < b → x < y
  | [], _, a, b, x, y, h, _, _ => by simp at h
  | z :: l, h, a, b, x, y, h1, h2, h3 => by
    obtain ⟨p1, p2⟩ := List.pairwise_cons.1 h
    cases b with
    | zero => omega
    | succ b =>
      cases a with
      | zero =>
        simp only [List.getElem?_cons_zero, Option.some.injEq] at h1
        simp only [List.getElem?_cons_succ] at h2
        subst h1
        exact p1 y (List.mem_of_getElem? h2)
      | succ a =>
        simp only [List.getElem?_cons_succ] at h1 h2
        exact pw_get p2 h1 h2 (by omega)

/-- A set is one. -/
theorem set_true {l : List Int} (h : setL l) (hn : l.length ≤ 1000) : m79 ((l, 32, ()), ()) = some ((true, ()), ()) := by
  have hl : loopT l79_0_2 ((0, l, 32, ()), ()) = some (.inr ((), ())) := by
    refine loop_thru (f := l79_0_2) l (fun i => (((i : Int), l, 32, ()), ())) _ ?_ ?_
    · intro i e he hi
      have hw : w64 ((i : Int) + 1) = ((i + 1 : Nat) : Int) := w64_nat (by omega)
      obtain ⟨b1, b2⟩ := h.2 e (List.mem_of_getElem? he)
      have d1 : decide (e < 0) = false := decide_eq_false (by omega)
      have d2 : decide (e ≥ 32) = false := decide_eq_false (by omega)
      rcases prev_case hi with rfl | ⟨p, hi0, hp, hd⟩
      · have d3 : decide (((0 : Nat) : Int) > 0) = false := rfl
        simp only [l79_0_2, lt_t hi, rowAt_G, rowG_nat he, d1, d2, d3, hw, sumE, sS]
      · have d3 : decide ((i : Int) > 0) = true := decide_eq_true (by omega)
        have hlt := pw_get h.1 hp he (by omega)
        have d4 : decide (p ≥ e) = false := decide_eq_false (by omega)
        simp only [l79_0_2, lt_t hi, rowAt_G, rowG_nat he, d1, d2, d3, hd (by omega), rowG_nat hp, d4, hw, sumE, sS]
    · simp only [l79_0_2, lt_f, sumE, sS]
  unfold m79
  refine bind_of _ hl ?_
  simp only [sumE]

theorem set90 {l : List Int} (h : setL l) (hn : l.length ≤ 1000) : m90 ((l, ()), ()) = some ((true, ()), ()) := by
  have hl : loopT l90_0_2 ((0, l, l, (l.length : Int), ()), ()) = some (.inr ((), ())) := by
    refine loop_thru (f := l90_0_2) l (fun i => (((i : Int), l, l, (l.length : Int), ()), ())) _ ?_ ?_
    · intro i e he hi
      have hw : w64 ((i : Int) + 1) = ((i + 1 : Nat) : Int) := w64_nat (by omega)
      obtain ⟨b1, b2⟩ := h.2 e (List.mem_of_getElem? he)
      have d1 : decide (0 ≤ e ∧ e ≤ 31) = true := decide_eq_true (by omega)
      rcases prev_case hi with rfl | ⟨p, hi0, hp, hd⟩
      · have d3 : decide (((0 : Nat) : Int) > 0) = false := rfl
        simp only [l90_0_2, lt_t hi, rowAt_G, rowG_nat he, c85, d1, d3, hw, sumE, sS]
      · have d3 : decide ((i : Int) > 0) = true := decide_eq_true (by omega)
        have hlt := pw_get h.1 hp he (by omega)
        have d4 : decide (e ≤ p) = false := decide_eq_false (by omega)
        simp only [l90_0_2, lt_t hi, rowAt_G, rowG_nat he, c85, d1, d3, hd (by omega), rowG_nat hp, d4, hw, sumE, sS]
    · simp only [l90_0_2, lt_f, sumE, sS]
  unfold m90
  refine bind_of _ hl ?_
  simp only [sumE]

theorem set_len {l : List Int} (h : setL l) : l.length ≤ 32 := by
  have key : ∀ (l : List Int) (a : Int), l.Pairwise (· < ·) → (∀ x ∈ l, a ≤ x ∧ x < 32) → 0 ≤ a → a ≤ 32 → (l.length : Int) ≤ 32 - a := by
    intro l
    induction l with
    | nil => intro a _ _ _ h; simp; omega
    | cons y l ih =>
      intro a hp hb h0 h1
      obtain ⟨p1, p2⟩ := List.pairwise_cons.1 hp
      have hy := hb y (List.mem_cons_self ..)
      have := ih (y + 1) p2 (fun x hx => by have := p1 x hx; have := hb x (List.mem_cons_of_mem _ hx); omega) (by omega) (by omega)
      rw [List.length_cons]
      omega
  have := key l 0 h.1 h.2 (by omega) (by omega)
  omega

/-- Is a number in a list. -/
theorem has_eq (l : List Int) (x : Int) (hn : l.length ≤ 100000) : m47 ((l, x, ()), ()) = some ((decide (x ∈ l), ()), ()) := by
  have key : ∀ (n i : Nat), i + n = l.length → x ∉ l.take i → loopT l47_0_2 (((i : Int), x, l, ()), ()) = some (if x ∈ l then .inl ((true, ()), ()) else .inr ((), ())) := by
    intro n
    induction n with
    | zero =>
      intro i h hx
      rw [List.take_of_length_le (by omega)] at hx
      rw [if_neg hx]
      refine loopT_inr ?_
      have : decide ((i : Int) < (l.length : Int)) = false := decide_eq_false (by omega)
      simp only [l47_0_2, this, sumE, sS]
    | succ n ih =>
      intro i h hx
      obtain ⟨e, he⟩ := getD_some (l := l) (i := i) (by omega)
      have hw : w64 ((i : Int) + 1) = ((i + 1 : Nat) : Int) := w64_nat (by omega)
      by_cases hex : e = x
      · subst hex
        rw [if_pos (List.mem_of_getElem? he)]
        refine loopT_inr ?_
        simp only [l47_0_2, lt_t (show i < l.length by omega), rowAt_G, rowG_nat he, beq_self_eq_true, sumE, sS]
      · have hb : (e == x) = false := beq_eq_false_iff_ne.2 hex
        have hst : l47_0_2 (((i : Int), x, l, ()), ()) = some (.inl ((((i + 1 : Nat) : Int), x, l, ()), ())) := by
          simp only [l47_0_2, lt_t (show i < l.length by omega), rowAt_G, rowG_nat he, hb, hw, sumE, sS]
        rw [loopT_inl hst]
        refine ih (i + 1) (by omega) ?_
        rw [take_snoc he]
        intro hm
        rcases List.mem_append.1 hm with hm | hm
        · exact hx hm
        · simp only [List.mem_singleton] at hm; exact hex hm.symm
  have h := key l.length 0 (by omega) (by simp)
  unfold m47
  refine bind_of _ (show loopT l47_0_2 ((0, x, l, ()), ()) = _ from h) ?_
  by_cases hm : x ∈ l
  · rw [if_pos hm, decide_eq_true hm]; rfl
  · rw [if_neg hm, decide_eq_false hm]; rfl

/-- A set with one more. -/
theorem with_eq (l : List Int) (x : Int) (hn : l.length ≤ 100000) : m50 ((l, x, ()), ()) = some ((), (withR x false l, ())) := by
  have key : ∀ (n i : Nat) (d : Bool) (out : List Int), i + n = l.length → out.length ≤ 2 * i → ∃ (d' : Bool) (out' : List Int), loopT l50_0_4 (((i : Int), l, x, d, ()), (out, ())) = some ((x, d', ()), (out', ())) ∧ out'.length ≤ 2 * l.length ∧ (if d' then out' else out' ++ [x]) = out ++ withR x d (l.drop i) := by
    intro n
    induction n with
    | zero =>
      intro i d out h ho
      refine ⟨d, out, loopT_inr ?_, by omega, ?_⟩
      · have : decide ((i : Int) < (l.length : Int)) = false := decide_eq_false (by omega)
        simp only [l50_0_4, this, sumE, sS]
      · rw [List.drop_eq_nil_of_le (by omega)]
        cases d <;> simp [withR]
    | succ n ih =>
      intro i d out h ho
      obtain ⟨e, he, hd⟩ := drop_at (l := l) (i := i) (by omega)
      have hi : i < l.length := by omega
      have hw : w64 ((i : Int) + 1) = ((i + 1 : Nat) : Int) := w64_nat (by omega)
      have b1 : decide (out.length + [x].length ≤ 4294967296) = true := decide_eq_true (by simp; omega)
      have b2 : decide ((out ++ [x]).length + [e].length ≤ 4294967296) = true := decide_eq_true (by simp; omega)
      have b3 : decide (out.length + [e].length ≤ 4294967296) = true := decide_eq_true (by simp; omega)
      rw [hd]
      cases d with
      | true =>
        by_cases hex : e = x
        · have c2 : (e != x) = false := by rw [hex]; simp
          have hst : l50_0_4 (((i : Int), l, x, true, ()), (out, ())) = some (.inl ((((i + 1 : Nat) : Int), l, x, true, ()), (out, ()))) := by
            simp only [l50_0_4, lt_t hi, rowAt_G, rowG_nat he, c2, hw, sumE, sS]
          obtain ⟨d', o', h1, h2, h3⟩ := ih (i + 1) true out (by omega) (by omega)
          refine ⟨d', o', (loopT_inl hst).trans h1, h2, ?_⟩
          rw [h3]
          unfold withR
          rw [decide_eq_false (by simpa using hex)]
          simp only [cond_false]
          cases l.drop (i + 1) <;> rfl
        · have c2 : (e != x) = true := bne_iff_ne.2 hex
          have hst : l50_0_4 (((i : Int), l, x, true, ()), (out, ())) = some (.inl ((((i + 1 : Nat) : Int), l, x, true, ()), (out ++ [e], ()))) := by
            simp only [l50_0_4, lt_t hi, rowAt_G, rowG_nat he, c2, b3, hw, sumE, sS]
          obtain ⟨d', o', h1, h2, h3⟩ := ih (i + 1) true (out ++ [e]) (by omega) (by simp; omega)
          refine ⟨d', o', (loopT_inl hst).trans h1, h2, ?_⟩
          rw [h3]
          conv => rhs; unfold withR
          rw [decide_eq_true hex]
          simp
      | false =>
        by_cases hge : e ≥ x
        · have c1 : decide (e ≥ x) = true := decide_eq_true hge
          by_cases hex : e = x
          · have c2 : (e != x) = false := by rw [hex]; simp
            have hst : l50_0_4 (((i : Int), l, x, false, ()), (out, ())) = some (.inl ((((i + 1 : Nat) : Int), l, x, true, ()), (out ++ [x], ()))) := by
              simp only [l50_0_4, lt_t hi, rowAt_G, rowG_nat he, c1, c2, b1, hw, sumE, sS]
            obtain ⟨d', o', h1, h2, h3⟩ := ih (i + 1) true (out ++ [x]) (by omega) (by simp; omega)
            refine ⟨d', o', (loopT_inl hst).trans h1, h2, ?_⟩
            rw [h3]
            conv => rhs; unfold withR
            rw [c1, decide_eq_false (by simpa using hex)]
            simp
          · have c2 : (e != x) = true := bne_iff_ne.2 hex
            have hst : l50_0_4 (((i : Int), l, x, false, ()), (out, ())) = some (.inl ((((i + 1 : Nat) : Int), l, x, true, ()), ((out ++ [x]) ++ [e], ()))) := by
              simp only [l50_0_4, lt_t hi, rowAt_G, rowG_nat he, c1, c2, b1, b2, hw, sumE, sS]
            obtain ⟨d', o', h1, h2, h3⟩ := ih (i + 1) true ((out ++ [x]) ++ [e]) (by omega) (by simp; omega)
            refine ⟨d', o', (loopT_inl hst).trans h1, h2, ?_⟩
            rw [h3]
            conv => rhs; unfold withR
            rw [c1, decide_eq_true hex]
            simp
        · have c1 : decide (e ≥ x) = false := decide_eq_false hge
          have c2 : (e != x) = true := bne_iff_ne.2 (by omega)
          have hst : l50_0_4 (((i : Int), l, x, false, ()), (out, ())) = some (.inl ((((i + 1 : Nat) : Int), l, x, false, ()), (out ++ [e], ()))) := by
            simp only [l50_0_4, lt_t hi, rowAt_G, rowG_nat he, c1, c2, b3, hw, sumE, sS]
          obtain ⟨d', o', h1, h2, h3⟩ := ih (i + 1) false (out ++ [e]) (by omega) (by simp; omega)
          refine ⟨d', o', (loopT_inl hst).trans h1, h2, ?_⟩
          rw [h3]
          conv => rhs; unfold withR
          rw [c1]
          simp
  obtain ⟨d, o, h1, h2, h3⟩ := key l.length 0 false [] (by omega) (by simp)
  unfold m50
  refine bind_of _ (show loopT l50_0_4 ((0, l, x, false, ()), ([], ())) = _ from h1) ?_
  rw [List.drop_zero, List.nil_append] at h3
  cases d with
  | true =>
    rw [if_pos rfl] at h3
    rw [← h3]
    rfl
  | false =>
    rw [if_neg (by simp)] at h3
    have b : decide (o.length + [x].length ≤ 4294967296) = true := decide_eq_true (by simp; omega)
    simp only [b, sumE, sS]
    rw [h3]

/-! ### Who is called -/
abbrev BookT := List Bnd.Team × List Bnd.Pol × Unit

def BookOK (b : BookT) : Prop := (b.1.length ≤ 2 ∧ ∀ t ∈ b.1, t.2.1.length ≤ 3) ∧ ∀ p ∈ b.2.1, POK p ∧ ∀ s ∈ p.2.1, s.2.2.1.length ≤ 3

theorem ppl_spec {c : CfgT} (h : CrewOK c) {b : BookT} (hb : BookOK b) (l : List WinT) (hn : l.length ≤ 3) (at' : Int) : ∃ r : List Int, m54 ((c, b, l, at', ()), ()) = some ((), (r, ())) ∧ setL r := by
  have hp := h.p.1
  have hW : ∀ (r : List Int) (x : Int), setL r → 0 ≤ x → x < 4 → Ens (m50 ((r, x, ()), ())) (fun v => setL v.2.1) := fun r x hr h0 h1 => ⟨_, with_eq r x (by have := set_len hr; omega), with_set hr h0 (by omega)⟩
  have hWho : ∀ s t : Int, Ens (m80 ((c, s, t, ()), ())) (fun v => -1 ≤ v.1.1 ∧ v.1.1 ≤ 3) := fun s t => by
    obtain ⟨p, h1, h2⟩ := who_spec h s t
    exact ⟨_, h1, h2⟩
  have wc : w64 ((c.2.1.length : Int) - 1) = 3 := by rw [hp]; rfl
  have wb : w64 ((b.1.length : Int) - 1) = b.1.length - 1 := by have := hb.1.1; exact w64_id (by omega) (by omega)
  have hT : ∀ (a : Int) (L : List WinT) (k : Int) (x : WinT) (out : List Int), setL out → 0 ≤ x.2.1 → x.2.1 < b.1.length →
      Ens (loopT l54_0_14 ((0, a, L, k, ()), ((x, ()), ((b, ()), (out, ((c, ()), ())))))) (fun d => d.1 = (a, L, k, ()) ∧ setL d.2.1 ∧ c = d.2.2.1.1 ∧ b = d.2.2.2.1.1) := fun a L k x out ho hx0 hx1 => by
    have hbt := hb.1.2
    refine ens_loop (fun v => v.1.2 = (a, L, k, ()) ∧ x = v.2.1.1 ∧ b = v.2.2.1.1 ∧ setL v.2.2.2.1 ∧ c = v.2.2.2.2.1.1 ∧ 0 ≤ v.1.1 ∧ v.1.1 ≤ 3) (fun v => (3 - v.1.1).toNat) ?_ _ ⟨rfl, rfl, rfl, ho, rfl, by simp only; omega, by simp only; omega⟩
    rintro ⟨⟨i, _⟩, ⟨⟨_, ⟨⟩⟩, ⟨_, ⟨⟩⟩, out, ⟨_, ⟨⟩⟩, ⟨⟩⟩⟩ ⟨rfl, rfl, rfl, ho, rfl, h0, h1⟩
    simp only at h0 h1 ho hx0 hx1 hbt wc ⊢
    have hw : i < 3 → w64 (i + 1) = i + 1 := fun _ => w64_up h0 (by omega)
    unfold l54_0_14
    simp only [c56, sS]
    refine ens_row hx0 hx1 fun t ht hm => ?_
    have htl := hbt t hm
    refine ens_ite (fun hlt => ?_) (fun _ => ?_)
    · refine ens_bind ?_
      refine ens_row hx0 hx1 fun t2 ht2 _ => ?_
      obtain rfl : t2 = t := by rw [ht] at ht2; exact (Option.some.inj ht2).symm
      refine ens_row h0 hlt fun y hy _ => ?_
      refine ens_ite (fun hy2 => ?_) (fun _ => ?_)
      · rw [wc] at hy2
        refine ens_row hx0 hx1 fun t3 ht3 _ => ?_
        obtain rfl : t3 = t2 := by rw [ht] at ht3; exact (Option.some.inj ht3).symm
        refine ens_row h0 hlt fun z hz _ => ?_
        obtain rfl : z = y := by rw [hy] at hz; exact (Option.some.inj hz).symm
        refine ens_call (hW out z ho hy2.1 (by omega)) ?_
        rintro ⟨⟨⟩, ⟨o2, ⟨⟩⟩⟩ ho2
        refine ens_some (ens_some ?_)
        dsimp only
        rw [hw (by omega)]
        exact ⟨⟨rfl, rfl, rfl, ho2, rfl, by omega, by omega⟩, by omega⟩
      · refine ens_some (ens_some ?_)
        dsimp only
        rw [hw (by omega)]
        exact ⟨⟨rfl, rfl, rfl, ho, rfl, by omega, by omega⟩, by omega⟩
    · exact ens_some ⟨rfl, ho, rfl, rfl⟩
  have key : Ens (loopT l54_0_3 ((0, at', l, ()), ([], ((c, ()), ((b, ()), ()))))) (fun d => setL d.2.1) := by
    refine ens_loop (fun v => v.1.2 = (at', l, ()) ∧ setL v.2.1 ∧ c = v.2.2.1.1 ∧ b = v.2.2.2.1.1 ∧ 0 ≤ v.1.1 ∧ v.1.1 ≤ 3) (fun v => (3 - v.1.1).toNat) ?_ _ ⟨rfl, set_nil, rfl, rfl, by simp only; omega, by simp only; omega⟩
    rintro ⟨⟨i, _⟩, ⟨out, ⟨_, ⟨⟩⟩, ⟨_, ⟨⟩⟩, ⟨⟩⟩⟩ ⟨rfl, ho, rfl, rfl, h0, h1⟩
    simp only at h0 h1 ho hn ⊢
    have hw : i < 3 → w64 (i + 1) = i + 1 := fun _ => w64_up h0 (by omega)
    unfold l54_0_3
    simp only [c56, wc, wb, sS]
    repeat' first | (with_reducible refine ens_tail (hT _ _ _ _ _ (by assumption) (by omega) (by omega)) ?_; rintro ⟨⟨_, _, _, ⟨⟩⟩, _, ⟨_, ⟨⟩⟩, ⟨_, ⟨⟩⟩, ⟨⟩⟩ ⟨⟨⟩, hs, rfl, rfl⟩; try dsimp only) | with_reducible exact True.intro | (with_reducible refine ens_at (by omega) ?_; intro _ _ _; try dsimp only) | with_reducible refine ens_bind ?_ | with_reducible refine ens_t ?_ | with_reducible refine ens_f ?_ | with_reducible refine ens_nt ?_ | with_reducible refine ens_nf ?_ | (with_reducible refine ens_tail (hWho _ _) ?_; intro _ _; try dsimp only) | (with_reducible refine ens_tail (hW _ _ (by assumption) (by omega) (by omega)) ?_; intro _ _; try dsimp only) | (with_reducible refine ens_need ?_ ?_; first | exact And.intro (by omega) (by omega) | omega | (simp only [List.length_append, List.length_cons, List.length_nil]; omega)) | (with_reducible refine ens_ite ?_ ?_ <;> intro _) | (with_reducible refine ens_bif ?_ ?_ <;> intro _) | (with_reducible refine ens_some ?_; try dsimp only) | (with_reducible refine ens_row (by omega) (by omega) ?_; intro _ _ _; try dsimp only) | (with_reducible refine ens_sum ?_ ?_ <;> (intro _ e; subst e; try dsimp only))
    all_goals first | assumption | (rw [hw (by omega)]; exact ⟨⟨rfl, by assumption, rfl, rfl, by omega, by omega⟩, by omega⟩)
  obtain ⟨⟨⟨⟩, ⟨r, ⟨⟩⟩⟩, h1, h2⟩ := key
  refine ⟨r, ?_, h2⟩
  unfold m54
  simp only [h1, sS]

end Go.Proofs.YtcelhemfoehedaaGreat

namespace Go.Proofs.YtcelhemfoehedaaGreat
open Go Go.Abs Go.Bnd Go.Plain
abbrev Core := Int × Int × Int × Int × Int × Int × Int × Int × Int × Int × Int × Unit

/-- The numbers of a page. -/
def core (p : PgT) : Core := (p.1, p.2.1, p.2.2.1, p.2.2.2.1, p.2.2.2.2.1, p.2.2.2.2.2.1, p.2.2.2.2.2.2.1, p.2.2.2.2.2.2.2.1, p.2.2.2.2.2.2.2.2.1, p.2.2.2.2.2.2.2.2.2.1, p.2.2.2.2.2.2.2.2.2.2.1, ())

/-- A page as a result. -/
abbrev ret (e : Int) (p : PgT) : (Int × Unit) × ((Core × Unit) × List StT × List Int × List Int × Unit) := ((e, ()), ((core p, ()), (pSts p, (pDec p, (pSeen p, ())))))

theorem waits75 {p : Pol} (hp : POK p) : m75 ((p, ()), ()) = some ((true, ()), ()) := by
  have hl : loopT l75_0_2 ((0, ()), ((p, ()), ())) = some (.inr ((), ())) := by
    refine loop_thru (f := l75_0_2) p.2.1 (fun i => (((i : Int), ()), ((p, ()), ()))) _ ?_ ?_
    · intro i e he hi
      have hw : w64 ((i : Int) + 1) = ((i + 1 : Nat) : Int) := w64_nat (by have := hp.2.1.2; omega)
      have hs := hp.2.2 e (List.mem_of_getElem? he)
      have d1 : decide (0 ≤ e.1 ∧ e.1 ≤ 86400) = true := decide_eq_true (by unfold SOK at hs; omega)
      simp only [l75_0_2, lt_t hi, rowAt_G, rowG_nat he, c56, d1, hw, sumE, sS]
    · simp only [l75_0_2, lt_f, sumE, sS]
  unfold m75
  refine bind_of _ hl ?_
  simp only [sumE]

theorem cnt73 {p : Pol} (hp : POK p) : m73 ((p, ()), ()) = some (((cnt p : Int), ()), ()) := by
  obtain ⟨c1, c2, c3⟩ := cnt_le hp
  obtain ⟨⟨a1, a2⟩, ⟨b1, b2⟩, _⟩ := hp
  have h1 : w64 (p.2.2.1 + 1) = p.2.2.1 + 1 := w64_id (by omega) (by omega)
  have h2 : w64 ((p.2.1.length : Int) * (p.2.2.1 + 1)) = (p.2.1.length : Int) * (p.2.2.1 + 1) := w64_id (by omega) (by omega)
  have h3 : decide (0 ≤ p.2.2.1 ∧ p.2.2.1 ≤ 8) = true := decide_eq_true (by omega)
  have h4 : decide ((p.2.1.length : Int) > 8) = false := decide_eq_false (by omega)
  unfold m73
  simp only [c56, h3, h4, h1, h2, c3, sumE, sS]

theorem cnt58 {p : Pol} (hp : POK p) : m58 ((p, ()), ()) = some (((cnt p : Int), ()), ()) := by
  obtain ⟨c1, c2, c3⟩ := cnt_le hp
  obtain ⟨⟨a1, a2⟩, ⟨b1, b2⟩, _⟩ := hp
  have h1 : w64 (p.2.2.1 + 1) = p.2.2.1 + 1 := w64_id (by omega) (by omega)
  have h2 : w64 ((p.2.1.length : Int) * (p.2.2.1 + 1)) = (p.2.1.length : Int) * (p.2.2.1 + 1) := w64_id (by omega) (by omega)
  have h3 : decide (0 ≤ p.2.2.1 ∧ p.2.2.1 ≤ 8) = true := decide_eq_true (by omega)
  have h4 : decide ((p.2.1.length : Int) > 8) = false := decide_eq_false (by omega)
  unfold m58
  simp only [c84, h3, h4, h1, h2, c3, sumE, sS]

theorem new_ok {b : BookT} {id pol st : Int} (h1 : 1 ≤ id ∧ id ≤ 999999) (h2 : 0 ≤ st ∧ st ≤ 8589934592) (h3 : 0 ≤ pol ∧ pol < b.2.1.length) (h4 : b.2.1.length ≤ 1000) :
    m20 ((b, id, pol, st, ()), ()) = some ((0, ()), (((id, pol, st, 0, st, 0, -1, 0, st, 0, 0, ()), ()), ())) := by
  have w : w64 ((b.2.1.length : Int) - 1) = b.2.1.length - 1 := w64_id (by omega) (by omega)
  have d1 : decide (1 ≤ id ∧ id ≤ 999999) = true := decide_eq_true h1
  have d2 : decide (0 ≤ st ∧ st ≤ 8589934592) = true := decide_eq_true h2
  have d3 : decide (0 ≤ pol ∧ pol ≤ (b.2.1.length : Int) - 1) = true := decide_eq_true (by omega)
  unfold m20
  simp only [c56, w, d1, d2, d3, sumE, sS]

theorem starts78 {ps : List Pol} {pol : Pol} {n : Nat} {p : PgT} (h : PG ps pol n p) : m78 ((p, ()), ()) = some ((true, ()), ()) := by
  have hf := h.few
  have hl : loopT l78_0_3 ((0, -1, pStart p, ()), ((p, ()), ())) = some (.inr ((), ((p, ()), ()))) := by
    refine drop_e (loop_ind (f := l78_0_3) (Q := fun b => b = .inr ((), ((p, ()), ()))) (fun i st => st = (((i : Int), topK (-1) ((pSts p).take i), lastAt (pStart p) ((pSts p).take i), ()), ((p, ()), ()))) (pSts p).length ?_ ?_ _ rfl)
    · rintro i _ hi rfl
      obtain ⟨e, he⟩ := getD_some (l := pSts p) (i := i) hi
      have hw : w64 ((i : Int) + 1) = ((i + 1 : Nat) : Int) := w64_nat (by omega)
      obtain ⟨a1, a2, a3⟩ := SL_at h.sts he
      have hk := topK_ge (-1) ((pSts p).take i)
      have q := set_true a3 (by have := set_len a3; omega)
      have d1 : decide (e.2.1 < lastAt (pStart p) ((pSts p).take i)) = false := decide_eq_false (by omega)
      refine ⟨_, ?_, rfl⟩
      rw [take_snoc he, lastAt_snoc, topK_snoc]
      rcases a2 with a2 | ⟨a2, a4, a5⟩
      · have d2 : decide (e.1 < -1) = false := decide_eq_false (by omega)
        have d3 : decide (e.1 ≥ 0) = false := decide_eq_false (by omega)
        have hm : max (topK (-1) ((pSts p).take i)) e.1 = topK (-1) ((pSts p).take i) := by omega
        simp only [l78_0_3, lt_t hi, rowAt_G, rowG_nat he, d1, d2, d3, q, hw, hm, sumE, sS]
      · have d2 : decide (e.1 < -1) = false := decide_eq_false (by omega)
        have d3 : decide (e.1 ≥ 0) = true := decide_eq_true (by omega)
        have d4 : decide (e.1 ≤ topK (-1) ((pSts p).take i)) = false := decide_eq_false (by omega)
        have d5 : decide (e.1 ≥ pNext p) = false := decide_eq_false (by omega)
        have hm : max (topK (-1) ((pSts p).take i)) e.1 = e.1 := by omega
        simp only [l78_0_3, lt_t hi, rowAt_G, rowG_nat he, d1, d2, d3, d4, d5, q, hw, hm, sumE, sS]
    · rintro _ rfl
      refine ⟨_, ?_, rfl⟩
      simp only [l78_0_3, lt_f, sumE, sS]
  unfold m78
  refine bind_of _ hl ?_
  simp only [sumE, decide_eq_true (show ((pSts p).length : Int) ≤ 200 by omega)]

theorem starts89 {ps : List Pol} {pol : Pol} {n : Nat} {p : PgT} (h : PG ps pol n p) : m89 ((p, ()), ()) = some ((true, ()), ()) := by
  have hf := h.few
  have hnx := h.next
  have hnl := h.nle
  have hc := (cnt_le h.pok).2.1
  have hl : loopT l89_0_3 ((0, -1, pStart p, pSts p, ((pSts p).length : Int), ()), ((p, ()), ())) = some (.inr ((), ((p, ()), ()))) := by
    refine drop_e (loop_ind (f := l89_0_3) (Q := fun b => b = .inr ((), ((p, ()), ()))) (fun i st => st = (((i : Int), topK (-1) ((pSts p).take i), lastAt (pStart p) ((pSts p).take i), pSts p, ((pSts p).length : Int), ()), ((p, ()), ()))) (pSts p).length ?_ ?_ _ rfl)
    · rintro i _ hi rfl
      obtain ⟨e, he⟩ := getD_some (l := pSts p) (i := i) hi
      have hw : w64 ((i : Int) + 1) = ((i + 1 : Nat) : Int) := w64_nat (by omega)
      obtain ⟨a1, a2, a3⟩ := SL_at h.sts he
      have hk := topK_ge (-1) ((pSts p).take i)
      have q := set90 a3 (by have := set_len a3; omega)
      have d1 : decide (e.2.1 < lastAt (pStart p) ((pSts p).take i)) = false := decide_eq_false (by omega)
      refine ⟨_, ?_, rfl⟩
      rw [take_snoc he, lastAt_snoc, topK_snoc]
      rcases a2 with a2 | ⟨a2, a4, a5⟩
      · have d2 : (e.1 != -1) = false := by rw [a2]; rfl
        have hm : max (topK (-1) ((pSts p).take i)) e.1 = topK (-1) ((pSts p).take i) := by omega
        have hm2 : (if (e.1 : Int) > topK (-1) ((pSts p).take i) then e.1 else topK (-1) ((pSts p).take i)) = topK (-1) ((pSts p).take i) := if_neg (by omega)
        simp only [l89_0_3, lt_t hi, rowAt_G, rowG_nat he, d1, d2, q, hw, hm, hm2, sumE, sS]
      · have d2 : (e.1 != -1) = true := bne_iff_ne.2 (by omega)
        have w1 : w64 (topK (-1) ((pSts p).take i) + 1) = topK (-1) ((pSts p).take i) + 1 := w64_id (by omega) (by omega)
        have w2 : w64 (pNext p - 1) = pNext p - 1 := w64_id (by omega) (by omega)
        have d5 : decide (topK (-1) ((pSts p).take i) + 1 ≤ e.1 ∧ e.1 ≤ pNext p - 1) = true := decide_eq_true (by omega)
        have hm : max (topK (-1) ((pSts p).take i)) e.1 = e.1 := by omega
        have hm2 : (if (e.1 : Int) > topK (-1) ((pSts p).take i) then e.1 else topK (-1) ((pSts p).take i)) = e.1 := if_pos (by omega)
        simp only [l89_0_3, lt_t hi, rowAt_G, rowG_nat he, d1, d2, c85, w1, w2, d5, q, hw, hm, hm2, sumE, sS]
    · rintro _ rfl
      refine ⟨_, ?_, rfl⟩
      simp only [l89_0_3, lt_f, sumE, sS]
  unfold m89
  refine bind_of _ hl ?_
  simp only [sumE, decide_eq_true (show ((pSts p).length : Int) ≤ 200 by omega)]

theorem nodup_take {l : List Int} (h : l.Nodup) {i : Nat} {e : Int} (he : l[i]? = some e) : e ∉ l.take i := fun hm => by
  obtain ⟨j, hj, hje⟩ := List.mem_iff_getElem.1 hm
  rw [List.length_take] at hj
  rw [List.getElem_take] at hje
  have hi := (List.getElem?_eq_some_iff.1 he)
  obtain ⟨hil, hie⟩ := hi
  have := (List.nodup_iff_pairwise_ne.1 h)
  have h2 := List.pairwise_iff_getElem.1 this j i (by omega) hil (by omega)
  exact h2 (hje.trans hie.symm)

/-- The reference's check. -/
theorem check43 {b : BookT} {pol : Pol} {n : Nat} {p : PgT} (h : PG b.2.1 pol n p) (hb : b.2.1.length ≤ 1000) : m43 ((b, p, ()), ()) = some ((true, ()), ()) := by
  have hf := h.few
  have h1 := h.id; have h2 := h.start; have h3 := h.pol0
  have hlt : (pPol p).toNat < b.2.1.length := (List.getElem?_eq_some_iff.1 h.polAt).1
  have q20 := new_ok (b := b) h1 ⟨h2.1, by omega⟩ ⟨h3, by omega⟩ hb
  have q75 := waits75 h.pok
  have q73 := cnt73 h.pok
  have q78 := starts78 h
  have q79 := set_true h.dec (by have := set_len h.dec; omega)
  have hnx := h.next; have hnl := h.nle
  have hst := h.state; have hby := h.by'; have hla := h.last; have hdu := h.due; have hun := h.unt; have hsn := h.sn; have hhd := h.hd; have hse := h.seen
  have d1 : decide (0 ≤ pNext p ∧ pNext p ≤ (cnt pol : Int)) = true := decide_eq_true (by omega)
  have d2 : decide (0 ≤ pState p ∧ pState p ≤ 4) = true := decide_eq_true (by omega)
  have d3 : decide (-1 ≤ pBy p ∧ pBy p ≤ 31) = true := decide_eq_true (by omega)
  have d4 : decide (pStart p ≤ pLast p ∧ pLast p ≤ 17179869184) = true := decide_eq_true (by omega)
  have d5 : decide (0 ≤ pDue p ∧ pDue p ≤ 17179869184) = true := decide_eq_true (by omega)
  have d6 : decide (0 ≤ pUntil p ∧ pUntil p ≤ 17179869184) = true := decide_eq_true (by omega)
  have d7 : decide (0 ≤ pSn p ∧ pSn p ≤ 4) = true := decide_eq_true (by omega)
  have d8 : decide (0 ≤ pHd p ∧ pHd p ≤ 4) = true := decide_eq_true (by omega)
  have d9 : decide (((pSeen p).length : Int) > 64) = false := decide_eq_false (by omega)
  have hl : loopT l43_0_9 ((0, ()), ((p, ()), ())) = some (.inr ((), ())) := by
    refine loop_thru (f := l43_0_9) (pSeen p) (fun i => (((i : Int), ()), ((p, ()), ()))) _ ?_ ?_
    · intro i e he hi
      have hw : w64 ((i : Int) + 1) = ((i + 1 : Nat) : Int) := w64_nat (by omega)
      have e1 : decide ((0 : Int) ≤ (i : Int)) = true := decide_eq_true (by omega)
      have e2 : decide (0 ≤ (i : Int).toNat ∧ (i : Int).toNat ≤ (pSeen p).length) = true := decide_eq_true (by omega)
      have q := has_eq ((pSeen p).take (i : Int).toNat) e (by rw [List.length_take]; omega)
      rw [decide_eq_false (by rw [Int.toNat_natCast]; exact nodup_take hse.1 he)] at q
      simp only [l43_0_9, lt_t hi, e1, e2, rowAt_G, rowG_nat he, q, hw, sumE, sS]
    · simp only [l43_0_9, lt_f, sumE, sS]
  unfold m43
  simp only [q20, bne_self_eq_false, rowAt_G, rowG_int h3 h.polAt, q75, q73, c56, d1, d2, d3, d4, d5, d6, d7, d8, q78, q79, d9, sumE, sS]
  refine bind_of _ hl ?_
  simp only [sumE]

/-- The program's check. -/
theorem check60 {b : BookT} {pol : Pol} {n : Nat} {p : PgT} (h : PG b.2.1 pol n p) (hb : b.2.1.length ≤ 1000) : m60 ((b, p, ()), ()) = some ((true, ()), ()) := by
  have hf := h.few
  have h1 := h.id; have h2 := h.start; have h3 := h.pol0
  have hlt : (pPol p).toNat < b.2.1.length := (List.getElem?_eq_some_iff.1 h.polAt).1
  have w : w64 ((b.2.1.length : Int) - 1) = b.2.1.length - 1 := w64_id (by omega) (by omega)
  have q58 := cnt58 h.pok
  have q89 := starts89 h
  have q90 := set90 h.dec (by have := set_len h.dec; omega)
  have hnx := h.next; have hnl := h.nle
  have hst := h.state; have hby := h.by'; have hla := h.last; have hdu := h.due; have hun := h.unt; have hsn := h.sn; have hhd := h.hd; have hse := h.seen
  have a1 : decide (1 ≤ pId p ∧ pId p ≤ 999999) = true := decide_eq_true h1
  have a2 : decide (0 ≤ pPol p ∧ pPol p ≤ (b.2.1.length : Int) - 1) = true := decide_eq_true (by omega)
  have a3 : decide (0 ≤ pStart p ∧ pStart p ≤ 8589934592) = true := decide_eq_true (by omega)
  have d1 : decide (0 ≤ pNext p ∧ pNext p ≤ (cnt pol : Int)) = true := decide_eq_true (by omega)
  have d2 : decide (0 ≤ pState p ∧ pState p ≤ 4) = true := decide_eq_true (by omega)
  have d3 : decide (-1 ≤ pBy p ∧ pBy p ≤ 31) = true := decide_eq_true (by omega)
  have d4 : decide (pStart p ≤ pLast p ∧ pLast p ≤ 17179869184) = true := decide_eq_true (by omega)
  have d5 : decide (0 ≤ pDue p ∧ pDue p ≤ 17179869184) = true := decide_eq_true (by omega)
  have d6 : decide (0 ≤ pUntil p ∧ pUntil p ≤ 17179869184) = true := decide_eq_true (by omega)
  have d7 : decide (0 ≤ pSn p ∧ pSn p ≤ 4) = true := decide_eq_true (by omega)
  have d8 : decide (0 ≤ pHd p ∧ pHd p ≤ 4) = true := decide_eq_true (by omega)
  have q88 : m88 ((p, ()), ()) = some ((true, ()), ()) := by
    unfold m88
    simp only [c85, d4, d5, d6, d7, d8, sumE, sS]
  have hl : loopT l60_2_2 ((0, pol.2.1, (pol.2.1.length : Int), ()), ()) = some (.inr ((), ())) := by
    refine loop_thru (f := l60_2_2) pol.2.1 (fun i => (((i : Int), pol.2.1, (pol.2.1.length : Int), ()), ())) _ ?_ ?_
    · intro i e he hi
      have hw : w64 ((i : Int) + 1) = ((i + 1 : Nat) : Int) := w64_nat (by have := h.pok.2.1.2; omega)
      have hs := h.pok.2.2 e (List.mem_of_getElem? he)
      have e1 : decide (0 ≤ e.1 ∧ e.1 ≤ 86400) = true := decide_eq_true (by unfold SOK at hs; omega)
      have q : m87 ((e, ()), ()) = some ((false, ()), ()) := by
        unfold m87
        simp only [c85, e1, sumE, sS]
      simp only [l60_2_2, lt_t hi, rowAt_G, rowG_nat he, q, hw, sumE, sS]
    · simp only [l60_2_2, lt_f, sumE, sS]
  have h119 : ∀ (l : List Int) (x : Int), l.length ≤ 100000 → x ∉ l → m107 ((l, x, ()), ()) = some ((false, ()), ()) := fun l x hn hx => by
    have q : loopT l119_0_2 ((0, l, x, (l.length : Int), ()), ()) = some (.inr ((), ())) := by
      refine loop_thru (f := l119_0_2) l (fun i => (((i : Int), l, x, (l.length : Int), ()), ())) _ ?_ ?_
      · intro i e he hi
        have hw : w64 ((i : Int) + 1) = ((i + 1 : Nat) : Int) := w64_nat (by omega)
        have hb : (x == e) = false := beq_eq_false_iff_ne.2 fun e' => hx (e' ▸ List.mem_of_getElem? he)
        simp only [l119_0_2, lt_t hi, rowAt_G, rowG_nat he, hb, hw, sumE, sS]
      · simp only [l119_0_2, lt_f, sumE, sS]
    have q2 : m119 ((l, x, ()), ()) = some ((-1, ()), ()) := by
      unfold m119
      refine bind_of _ q ?_
      simp only [sumE]
    unfold m107
    simp only [q2, sumE, sS]
    rfl
  have q91 : m91 ((pSeen p, ()), ()) = some ((true, ()), ()) := by
    have q : loopT l91_0_2 ((0, pSeen p, pSeen p, ((pSeen p).length : Int), ()), ()) = some (.inr ((pSeen p, ()), ())) := by
      refine loop_thru (f := l91_0_2) (pSeen p) (fun i => (((i : Int), pSeen p, pSeen p, ((pSeen p).length : Int), ()), ())) _ ?_ ?_
      · intro i e he hi
        have hw : w64 ((i : Int) + 1) = ((i + 1 : Nat) : Int) := w64_nat (by omega)
        have e1 : decide ((0 : Int) ≤ (i : Int)) = true := decide_eq_true (by omega)
        have e2 : decide (0 ≤ (i : Int).toNat ∧ (i : Int).toNat ≤ (pSeen p).length) = true := decide_eq_true (by omega)
        have q := h119 ((pSeen p).take (i : Int).toNat) e (by rw [List.length_take]; omega) (by rw [Int.toNat_natCast]; exact nodup_take hse.1 he)
        simp only [l91_0_2, lt_t hi, e1, e2, rowAt_G, rowG_nat he, q, hw, sumE, sS]
      · simp only [l91_0_2, lt_f, sumE, sS]
    unfold m91
    refine bind_of _ q ?_
    simp only [sumE, decide_eq_true (show ((pSeen p).length : Int) ≤ 64 by omega)]
  unfold m60
  simp only [c85, w, a1, a2, a3, rowAt_G, rowG_int h3 h.polAt, hl, sumE, q58, d1, d2, d3, q88, q89, q90, q91, sumE, sS]

theorem due45 (p : PgT) : m45 ((p, ()), ()) = some (((if pState p = 0 then pDue p else if pState p = 2 then pUntil p else 0), (decide (pState p = 0 ∨ pState p = 2)), ()), ()) := by
  unfold m45
  by_cases h0 : pState p = 0
  · have : (pState p == 0) = true := beq_iff_eq.2 h0
    simp only [this, h0, sumE, sS]
    rfl
  · have e0 : (pState p == 0) = false := beq_eq_false_iff_ne.2 h0
    by_cases h2 : pState p = 2
    · have : (pState p == 2) = true := beq_iff_eq.2 h2
      simp only [e0, this, sumE, sS]
      rw [if_neg h0, if_pos h2, decide_eq_true (.inr h2)]
    · have e2 : (pState p == 2) = false := beq_eq_false_iff_ne.2 h2
      simp only [e0, e2, sumE, sS]
      rw [if_neg h0, if_neg h2, decide_eq_false (by omega)]

theorem due51 (p : PgT) : m51 ((p, ()), ()) = some (((if pState p = 0 then pDue p else if pState p = 2 then pUntil p else 0), (decide (pState p = 0 ∨ pState p = 2)), ()), ()) := by
  exact (show m51 ((p, ()), ()) = m45 ((p, ()), ()) from rfl).trans (due45 p)

theorem copy44 {p : PgT} (h1 : (pSts p).length ≤ 1000 ∧ ∀ s ∈ pSts p, s.2.2.1.length ≤ 1000) (h2 : (pDec p).length ≤ 1000) (h3 : (pSeen p).length ≤ 1000) :
    m44 ((p, ()), ()) = some ((), ((core p, ()), (pSts p, (pDec p, (pSeen p, ()))))) := by
  have h := loop_ind (f := l44_0_3) (Q := fun b => ∃ c : Core, b = ((), ((c, ()), ((p, ()), (pSts p, ()))))) (fun i st => ∃ c : Core, st = (((i : Int), ()), ((pSts p).take i, ((p, ()), ((c, ()), ()))))) (pSts p).length ?_ ?_ _ ⟨(0, 0, 0, 0, 0, 0, 0, 0, 0, 0, 0, ()), rfl⟩
  · obtain ⟨_, hl, c, rfl⟩ := h
    have b1 : decide (0 + (pDec p).length ≤ 4294967296) = true := decide_eq_true (by omega)
    have b2 : decide (0 + (pSeen p).length ≤ 4294967296) = true := decide_eq_true (by omega)
    unfold m44
    refine bind_of _ (show loopT l44_0_3 ((0, ()), ([], ((p, ()), (((0, 0, 0, 0, 0, 0, 0, 0, 0, 0, 0, ()), ()), ())))) = _ from hl) ?_
    simp only [b1, b2, sumE, sS]
    rfl
  · rintro i _ hi ⟨c, rfl⟩
    obtain ⟨e, he⟩ := getD_some (l := pSts p) (i := i) hi
    have hw : w64 ((i : Int) + 1) = ((i + 1 : Nat) : Int) := w64_nat (by omega)
    have b1 : decide (0 + e.2.2.1.length ≤ 4294967296) = true := decide_eq_true (by have := h1.2 e (List.mem_of_getElem? he); omega)
    have b2 : decide (((pSts p).take i).length + ([e] : List StT).length ≤ 4294967296) = true := decide_eq_true (by simp; omega)
    refine ⟨_, ?_, c, rfl⟩
    rw [take_snoc he]
    simp only [l44_0_3, lt_t hi, rowAt_G, rowG_nat he, b1, b2, hw, sumE, sS]
  · rintro _ ⟨c, rfl⟩
    refine ⟨_, ?_, c, rfl⟩
    simp only [l44_0_3, lt_f, List.take_length, sumE, sS]

theorem copyPG {ps : List Pol} {pol : Pol} {n : Nat} {p : PgT} (h : PG ps pol n p) : m44 ((p, ()), ()) = some ((), ((core p, ()), (pSts p, (pDec p, (pSeen p, ()))))) :=
  copy44 ⟨by have := h.few; omega, fun s hs => by have := set_len (SL_sets h.sts s hs); omega⟩ (by have := set_len h.dec; omega) (by have := h.seen.2.1; omega)

end Go.Proofs.YtcelhemfoehedaaGreat

namespace Go.Proofs.YtcelhemfoehedaaGreat
open Go Go.Abs Go.Bnd Go.Plain
theorem part53 {p : Pol} (hp : POK p) {n : Nat} (hn : n ≤ cnt p) : ∃ q : Int, m53 ((p, (n : Int), ()), ()) = some (if n < cnt p then (((n % p.2.1.length : Nat) : Int), q, true, ()) else (0, 0, false, ()), ()) := by
  obtain ⟨c1, c2, c3⟩ := cnt_le hp
  have hl := hp.2.1
  have d0 : decide ((n : Int) < 0) = false := decide_eq_false (by omega)
  by_cases h : n < cnt p
  · refine ⟨w64 ((n : Int).tdiv (p.2.1.length : Int)), ?_⟩
    rw [if_pos h]
    have d1 : decide ((n : Int) ≥ (cnt p : Int)) = false := decide_eq_false (by omega)
    have d2 : decide ((p.2.1.length : Int) ≠ (0 : Int)) = true := decide_eq_true (by omega)
    unfold m53
    simp only [d0, cnt73 hp, d1, d2, tmod_nat, sumE, sS]
  · refine ⟨0, ?_⟩
    rw [if_neg h]
    have d1 : decide ((n : Int) ≥ (cnt p : Int)) = true := decide_eq_true (by omega)
    unfold m53
    simp only [d0, cnt73 hp, d1, sumE, sS]

theorem loop18 {c : CfgT} (h : CrewOK c) {pol : Pol} {k : Nat} {st : Bnd.Step} (hk : pol.2.1[k]? = some st) (at' : Int) (x : Int × Int × Unit) (l : List Int) (hl : l.length ≤ 1000) (c0 c1 : Core) (p : PgT) (sts : List StT) (dec seen : List Int) :
    ∃ acc : List Int, acc.Sublist l ∧ loopT l18_0_21 ((0, (k : Int), at', ()), ((x, ()), (l, ((pol, ()), ((c, ()), ((c0, ()), ((c1, ()), ((p, ()), ([], (sts, (dec, (seen, ())))))))))))) =
      some (((k : Int), ()), ((c0, ()), ((c1, ()), ((pol, ()), ((x, ()), ((p, ()), (sts, (dec, (seen, (acc, ())))))))))) := by
  have hh := loop_ind (f := l18_0_21) (Q := fun b => ∃ acc : List Int, acc.Sublist l ∧ b = (((k : Int), ()), ((c0, ()), ((c1, ()), ((pol, ()), ((x, ()), ((p, ()), (sts, (dec, (seen, (acc, ())))))))))))
    (fun i s => ∃ acc : List Int, acc.Sublist (l.take i) ∧ s = (((i : Int), (k : Int), at', ()), ((x, ()), (l, ((pol, ()), ((c, ()), ((c0, ()), ((c1, ()), ((p, ()), (acc, (sts, (dec, (seen, ()))))))))))))) l.length ?_ ?_ _ ⟨[], List.nil_sublist _, rfl⟩
  · obtain ⟨_, h1, acc, h2, rfl⟩ := hh
    exact ⟨acc, h2, h1⟩
  · rintro i _ hi ⟨acc, hs, rfl⟩
    obtain ⟨e, he⟩ := getD_some (l := l) (i := i) hi
    have hw : w64 ((i : Int) + 1) = ((i + 1 : Nat) : Int) := w64_nat (by omega)
    have b0 : decide ((0 : Int) ≤ (i : Int) ∧ (i : Int) < ((l.length : Nat) : Int)) = true := decide_eq_true (by omega)
    have hal : acc.length ≤ 1000 := by
      have := hs.length_le
      rw [List.length_take] at this
      omega
    have b1 : decide (acc.length + [e].length ≤ 4294967296) = true := decide_eq_true (by simp; omega)
    have he' : l[(i : Int).toNat]? = some e := by rw [Int.toNat_natCast]; exact he
    obtain ⟨b, hb⟩ := reach_spec h e at' st.2.1
    rw [take_snoc he]
    cases b with
    | false =>
      refine ⟨_, ?_, acc, hs.trans (List.sublist_append_left _ _), rfl⟩
      simp only [l18_0_21, lt_t hi, b0, he', rowAt_G, rowG_nat hk, hb, hw, sumE, sS]
    | true =>
      refine ⟨_, ?_, acc ++ [e], hs.append (List.Sublist.refl _), rfl⟩
      simp only [l18_0_21, lt_t hi, b0, he', rowAt_G, rowG_nat hk, hb, b1, hw, sumE, sS]
  · rintro _ ⟨acc, hs, rfl⟩
    rw [List.take_length] at hs
    refine ⟨_, ?_, acc, hs, rfl⟩
    simp only [l18_0_21, lt_f, sumE, sS]

theorem due_0 {p : PgT} (h : pState p = 0) : m45 ((p, ()), ()) = some ((pDue p, true, ()), ()) := by
  rw [due45, if_pos h, decide_eq_true (.inl h)]

theorem due_2 {p : PgT} (h : pState p = 2) : m45 ((p, ()), ()) = some ((pUntil p, true, ()), ()) := by
  rw [due45, if_neg (by omega), if_pos h, decide_eq_true (.inr h)]

theorem due_no {p : PgT} (h : ¬ Dues p) : m45 ((p, ()), ()) = some ((0, false, ()), ()) := by
  rw [due45, if_neg (fun e => h (.inl e)), if_neg (fun e => h (.inr e)), decide_eq_false h]

theorem max_if (a b : Int) : (if (b : Int) > a then b else a) = max a b := by split <;> omega

/-- One step. -/
theorem step18 {c : CfgT} (hc : CrewOK c) {b : BookT} (hb : BookOK b) (hbl : b.2.1.length ≤ 1000) {pol : Pol} {n : Nat} {p : PgT} (h : PG b.2.1 pol n p) (hd : Dues p) :
    ∃ (p' : PgT) (n' : Nat), m18 ((c, b, p, ()), ()) = some (ret 0 p') ∧ PG b.2.1 pol n' p' ∧ lat pol n' p' ≤ lat pol n p ∧ left pol n' p' < left pol n p ∧ pLast p' = dueP p ∧ SameP p p' ∧ pState p' ≠ 1 := by
  have q43 := check43 h hbl
  have q44 := copyPG h
  have hf := h.few
  have d96 : decide (((pSts p).length : Int) ≥ 200) = false := decide_eq_false (by omega)
  rcases hd with h0 | h2
  · have q45 := due_0 h0
    have e2 : (pState p == 2) = false := beq_eq_false_iff_ne.2 (by omega)
    have hdp : dueP p = pDue p := if_pos h0
    obtain ⟨pb, hpb⟩ := hb
    obtain ⟨q, q53⟩ := part53 h.pok h.nle
    rw [← h.next] at q53
    by_cases hn : n < cnt pol
    · rw [if_pos hn] at q53
      obtain ⟨st, hst, hsm, hwt⟩ := wt_get (l := pol.2.1) (k := n) h.pok.2.1.1
      have hst3 : st.2.2.1.length ≤ 3 := (hpb pol (List.mem_of_getElem? h.polAt)).2 st hsm
      obtain ⟨r, q54, hr⟩ := ppl_spec hc ⟨pb, hpb⟩ st.2.2.1 hst3 (pDue p)
      have hrl := set_len hr
      obtain ⟨acc, hacc, ql⟩ := loop18 hc hst (pDue p) (pNext p, pDue p, ()) r (by omega) (0, 0, 0, 0, 0, 0, 0, 0, 0, 0, 0, ()) (pId p, pPol p, pStart p, pNext p, pDue p, pState p, pBy p, pUntil p, max (pDue p) (pLast p), pSn p, pHd p, ()) p (pSts p) (pDec p) (pSeen p)
      obtain ⟨g1, g2, g3, g4⟩ := h.begun h0 hn (set_sub hr hacc)
      refine ⟨Bnd.begun p acc (wt pol.2.1 n), n + 1, ?_, g1, g2, g3, by rw [hdp]; exact g4, ⟨rfl, rfl, rfl, rfl, rfl, rfl⟩, by show pState p ≠ 1; omega⟩
      have b1 : decide ((pSts p).length + ([(pNext p, pDue p, acc, ())] : List StT).length ≤ 4294967296) = true := decide_eq_true (by simp; omega)
      unfold m18
      simp only [q43, q45, d96, q44, e2, rowAt_G, rowG_int h.pol0 h.polAt, q53, rowG_nat hst, q54, max_if, core, sumE, sS]
      refine bind_of _ ql ?_
      have hs0 := h.pok.2.2 st hsm
      have w1 : w64 (pNext p + 1) = pNext p + 1 := w64_id (by have := h.next; have := (cnt_le h.pok).2.1; omega) (by have := h.next; have := (cnt_le h.pok).2.1; omega)
      have w2 : w64 (pDue p + st.1) = pDue p + st.1 := by
        unfold SOK at hs0
        have := h.due
        exact w64_id (by omega) (by omega)
      by_cases ha : acc.length = 0
      · have d1 : decide ((((acc.length : Nat) : Int) : Int) > 0) = false := decide_eq_false (by omega)
        simp only [b1, d1, w1, sumE, sS]
        unfold ret Bnd.begun core
        rw [if_pos ha]
      · have d1 : decide ((((acc.length : Nat) : Int) : Int) > 0) = true := decide_eq_true (by omega)
        simp only [b1, d1, w1, w2, rowAt_G, rowG_nat hst, sumE, sS]
        unfold ret Bnd.begun core
        rw [if_neg ha, hwt]
    · rw [if_neg hn] at q53
      obtain ⟨g1, g2, g3, g4⟩ := h.ended h0
      refine ⟨Bnd.ended p, n, ?_, g1, g2, g3, by rw [hdp]; exact g4, ⟨rfl, rfl, rfl, rfl, rfl, rfl⟩, by show (3 : Int) ≠ 1; omega⟩
      unfold m18
      simp only [q43, q45, d96, q44, e2, rowAt_G, rowG_int h.pol0 h.polAt, q53, max_if, core, sumE, sS]
      rfl
  · have q45 := due_2 h2
    have e2 : (pState p == 2) = true := beq_iff_eq.2 h2
    have hdp : dueP p = pUntil p := if_neg (by omega)
    obtain ⟨g1, g2, g3, g4⟩ := h.wake h2
    refine ⟨Bnd.wake p, n, ?_, g1, g2, g3, by rw [hdp]; exact g4, ⟨rfl, rfl, rfl, rfl, rfl, rfl⟩, by show (0 : Int) ≠ 1; omega⟩
    unfold m18
    simp only [q43, q45, d96, q44, e2, max_if, core, sumE, sS]
    rfl

/-- Running a page to an instant. -/
structure RunsTo (ps : List Bnd.Pol) (pol : Pol) (n : Nat) (p : PgT) (now : Int) (n' : Nat) (p' : PgT) : Prop where
  pg : PG ps pol n' p'
  lat : lat pol n' p' ≤ lat pol n p
  due : Dues p' → now < dueP p'
  same : SameP p p'
  last : pLast p' ≤ max (pLast p) now
  acked : pState p' = 1 → pState p = 1
  was : Dues p' → Dues p

theorem loop14 {c : CfgT} (hc : CrewOK c) {b : BookT} (hb : BookOK b) (hbl : b.2.1.length ≤ 1000) {pol : Pol} (now : Int) (c0 : Core) : ∀ (k n : Nat) (p : PgT), left pol n p ≤ k → PG b.2.1 pol n p →
    ∃ (p' : PgT) (n' : Nat), loopT l14_0_4 ((now, ()), ((c0, ()), ((core p, ()), ((b, ()), ((c, ()), (pSts p, (pDec p, (pSeen p, ())))))))) = some ((0, ()), ((core p', ()), (pSts p', (pDec p', (pSeen p', ()))))) ∧ RunsTo b.2.1 pol n p now n' p' := by
  have stop : ∀ (n : Nat) (p : PgT), PG b.2.1 pol n p → (Dues p → now < dueP p) → ∃ (p' : PgT) (n' : Nat), loopT l14_0_4 ((now, ()), ((c0, ()), ((core p, ()), ((b, ()), ((c, ()), (pSts p, (pDec p, (pSeen p, ())))))))) = some ((0, ()), ((core p', ()), (pSts p', (pDec p', (pSeen p', ()))))) ∧ RunsTo b.2.1 pol n p now n' p' := by
    intro n p h hs
    refine ⟨p, n, loopT_inr ?_, h, Int.le_refl _, hs, SameP.refl p, by omega, fun e => e, fun e => e⟩
    by_cases hd : Dues p
    · have hlt := hs hd
      have d1 : decide (dueP p > now) = true := decide_eq_true hlt
      have q : m45 ((p, ()), ()) = some ((dueP p, true, ()), ()) := by
        rcases hd with h0 | h2
        · rw [due_0 h0]; unfold dueP; rw [if_pos h0]
        · rw [due_2 h2]; unfold dueP; rw [if_neg (by omega)]
      simp only [l14_0_4, core]
      refine bind_of _ q ?_
      simp only [d1, sumE, sS]
    · simp only [l14_0_4, core]
      refine bind_of _ (due_no hd) ?_
      simp only [sumE, sS]
  intro k
  induction k with
  | zero =>
    intro n p hk h
    refine stop n p h (fun hd => ?_)
    unfold left at hk
    rcases hd with h0 | h2
    · rw [if_pos h0] at hk; omega
    · rw [if_neg (by omega), if_pos h2] at hk; omega
  | succ k ih =>
    intro n p hk h
    by_cases hgo : Dues p ∧ dueP p ≤ now
    · obtain ⟨hd, hle⟩ := hgo
      obtain ⟨p1, n1, q18, g1, g2, g3, g4, g5, g6⟩ := step18 hc hb hbl h hd
      obtain ⟨p2, n2, e1, r⟩ := ih n1 p1 (by omega) g1
      refine ⟨p2, n2, (loopT_inl ?_).trans e1, r.pg, Int.le_trans r.lat g2, r.due, g5.trans r.same, ?_, fun e => absurd (r.acked e) g6, fun _ => hd⟩
      · have d1 : decide (dueP p > now) = false := decide_eq_false (by omega)
        have q : m45 ((p, ()), ()) = some ((dueP p, true, ()), ()) := by
          rcases hd with h0 | h2
          · rw [due_0 h0]; unfold dueP; rw [if_pos h0]
          · rw [due_2 h2]; unfold dueP; rw [if_neg (by omega)]
        simp only [l14_0_4, core]
        refine bind_of _ q ?_
        simp only [d1, sumE, sS]
        refine bind_of _ q18 ?_
        simp only [bne_self_eq_false, core, sumE, sS]
      · have := r.last
        rw [g4] at this
        omega
    · exact stop n p h (fun hd => by
        have : ¬ dueP p ≤ now := fun e => hgo ⟨hd, e⟩
        omega)

theorem run14 {c : CfgT} (hc : CrewOK c) {b : BookT} (hb : BookOK b) (hbl : b.2.1.length ≤ 1000) {pol : Pol} {n : Nat} {p : PgT} (h : PG b.2.1 pol n p) (now : Int) :
    ∃ (p' : PgT) (n' : Nat), m14 ((c, b, p, now, ()), ()) = some (ret 0 p') ∧ RunsTo b.2.1 pol n p now n' p' := by
  obtain ⟨p', n', e, r⟩ := loop14 hc hb hbl (pol := pol) now (0, 0, 0, 0, 0, 0, 0, 0, 0, 0, 0, ()) (left pol n p) n p (Nat.le_refl _) h
  refine ⟨p', n', ?_, r⟩
  unfold m14
  simp only [check43 h hbl, copyPG h, sumE, sS]
  refine bind_of _ e ?_
  simp only [core]
  rfl

end Go.Proofs.YtcelhemfoehedaaGreat

namespace Go.Proofs.YtcelhemfoehedaaGreat
open Go Go.Abs Go.Bnd Go.Plain
abbrev aId (a : AnT) : Int := a.1

abbrev aPage (a : AnT) : Int := a.2.1

abbrev aWho (a : AnT) : Int := a.2.2.1

abbrev aKind (a : AnT) : Int := a.2.2.2.1

abbrev aArg (a : AnT) : Int := a.2.2.2.2.1

abbrev aAt (a : AnT) : Int := a.2.2.2.2.2.1

structure AnOK (a : AnT) : Prop where
  id : 1 ≤ aId a ∧ aId a ≤ 999
  who : -1 ≤ aWho a ∧ aWho a ≤ 3
  kind : aKind a = 1 ∨ aKind a = 2 ∨ aKind a = 3 ∨ aKind a = 4 ∨ aKind a = 5
  arg0 : aKind a ≠ 3 → aKind a ≠ 4 → aArg a = 0
  arg3 : aKind a = 3 → 1 ≤ aArg a ∧ aArg a ≤ 5000
  arg4 : aKind a = 4 → 0 ≤ aArg a ∧ aArg a ≤ 3
  at' : 0 ≤ aAt a ∧ aAt a ≤ 8000000000

theorem valid46 {a : AnT} (h : AnOK a) (hp : 1 ≤ aPage a ∧ aPage a ≤ 999999) : m46 ((a, ()), ()) = some ((true, ()), ()) := by
  obtain ⟨id, pg, who, kind, arg, at', ⟨⟩⟩ := a
  have h1 := h.id; have h2 := h.who; have h3 := h.at'
  have k0 := h.arg0; have k3 := h.arg3; have k4 := h.arg4
  simp only [aId, aPage, aWho, aKind, aArg, aAt] at h1 h2 h3 hp k0 k3 k4
  have d1 : decide (1 ≤ id ∧ id ≤ 999999) = true := decide_eq_true (by omega)
  have d2 : decide (1 ≤ pg ∧ pg ≤ 999999) = true := decide_eq_true hp
  have d3 : decide (-1 ≤ who ∧ who ≤ 31) = true := decide_eq_true (by omega)
  have d4 : decide (0 ≤ at' ∧ at' ≤ 8589934592) = true := decide_eq_true (by omega)
  unfold m46
  simp only [c56, d1, d2, d3, d4, sumE, sS]
  rcases h.kind with e | e | e | e | e <;> (have e : kind = _ := e; subst e)
  · have := k0 (by omega) (by omega); subst this; rfl
  · have := k0 (by omega) (by omega); subst this; rfl
  · have d5 : decide (1 ≤ arg ∧ arg ≤ 86400) = true := decide_eq_true (by have := k3 rfl; omega)
    exact (show some ((decide (1 ≤ arg ∧ arg ≤ 86400), ()), ()) = some ((true, ()), ()) by rw [d5])
  · have d5 : decide (0 ≤ arg ∧ arg ≤ 31) = true := decide_eq_true (by have := k4 rfl; omega)
    exact (show some ((decide (0 ≤ arg ∧ arg ≤ 31), ()), ()) = some ((true, ()), ()) by rw [d5])
  · have := k0 (by omega) (by omega); subst this; rfl

/-- Why an answer is refused. -/
theorem refused48 (p : PgT) (a : AnT) : Ens (m48 ((p, a, ()), ())) (fun r => (r.1.1 = 0 → pLast p ≤ aAt a ∧ (Dues p → aAt a < dueP p) ∧ pState p ≠ 4 ∧ (pState p = 3 → aKind a = 5) ∧ (pState p = 1 → aKind a ≠ 2) ∧ (pSeen p).length < 64 ∧ (aKind a = 3 → pSn p < 4) ∧ (aKind a = 4 → pHd p < 4)) ∧ (pState p = 0 → pLast p ≤ aAt a → aAt a < pDue p → r.1.1 = 0 ∨ r.1.1 = 5)) := by
  have key : ∀ (d : Int) (o : Bool), m45 ((p, ()), ()) = some ((d, o, ()), ()) → (o = true ∧ Dues p ∧ d = dueP p ∨ o = false ∧ ¬ Dues p) → Ens (m48 ((p, a, ()), ())) (fun r => (r.1.1 = 0 → pLast p ≤ aAt a ∧ (Dues p → aAt a < dueP p) ∧ pState p ≠ 4 ∧ (pState p = 3 → aKind a = 5) ∧ (pState p = 1 → aKind a ≠ 2) ∧ (pSeen p).length < 64 ∧ (aKind a = 3 → pSn p < 4) ∧ (aKind a = 4 → pHd p < 4)) ∧ (pState p = 0 → pLast p ≤ aAt a → aAt a < pDue p → r.1.1 = 0 ∨ r.1.1 = 5)) := by
    intro d o hq ho
    have hdp : pState p = 0 → dueP p = pDue p := fun e => if_pos e
    generalize dueP p = D at ho hdp ⊢
    unfold m48
    simp only [hq, sS]
    obtain ⟨_, _, _, _, _, _, _, _, _, _, _, _, _, _, ⟨⟩⟩ := p
    obtain ⟨_, _, _, _, _, _, ⟨⟩⟩ := a
    simp only [pLast, pState, pSeen, pSn, pHd, pDue, aAt, aKind, Dues] at ho hdp ⊢
    rcases ho with ⟨rfl, ho, rfl⟩ | ⟨rfl, ho⟩
    all_goals repeat' first | with_reducible exact True.intro | (with_reducible refine ens_at (by omega) ?_; intro _ _ _; try dsimp only) | with_reducible refine ens_bind ?_ | with_reducible refine ens_t ?_ | with_reducible refine ens_f ?_ | with_reducible refine ens_nt ?_ | with_reducible refine ens_nf ?_ | (with_reducible refine ens_need ?_ ?_; first | exact And.intro (by omega) (by omega) | omega | (simp only [List.length_append, List.length_cons, List.length_nil]; omega)) | (with_reducible refine ens_ite ?_ ?_ <;> intro _) | (with_reducible refine ens_bif ?_ ?_ <;> intro _) | (with_reducible refine ens_some ?_; try dsimp only) | (with_reducible refine ens_row (by omega) (by omega) ?_; intro _ _ _; try dsimp only) | (with_reducible refine ens_sum ?_ ?_ <;> (intro _ e; subst e; try dsimp only))
    all_goals (refine ⟨fun e => ?_, fun e1 e2 e3 => ?_⟩)
    all_goals (try simp only [beq_iff_eq, beq_eq_false_iff_ne, bne_iff_ne, ne_eq, bne_eq_false_iff_eq, decide_eq_true_eq, decide_eq_false_iff_not, Bool.not_eq_true, Bool.not_eq_false, true_and, and_true, true_or, or_true, Bool.true_eq_false, Bool.false_eq_true, false_and, or_false, false_or] at *)
    all_goals first | omega | exact ⟨by omega, fun _ => by omega, by omega, fun _ => by omega, fun _ => by omega, by omega, fun _ => by omega, fun _ => by omega⟩
  by_cases hd : Dues p
  · rcases hd with h0 | h2
    · exact key _ _ (due_0 h0) (.inl ⟨rfl, .inl h0, (if_pos h0).symm⟩)
    · exact key _ _ (due_2 h2) (.inl ⟨rfl, .inr h2, (if_neg (by omega)).symm⟩)
  · exact key _ _ (due_no hd) (.inr ⟨rfl, hd⟩)

theorem called49 {ps : List Bnd.Pol} {pol : Pol} {n : Nat} {p : PgT} (h : PG ps pol n p) : ∃ r : List Int, m49 ((p, ()), ()) = some ((), (r, ())) ∧ setL r := by
  have hf := h.few
  by_cases h0 : (pSts p).length = 0
  · have e : (((pSts p).length : Int) == 0) = true := beq_iff_eq.2 (by omega)
    refine ⟨[], ?_, set_nil⟩
    unfold m49
    simp only [e, sumE, sS]
  · have e : (((pSts p).length : Int) == 0) = false := beq_eq_false_iff_ne.2 (by omega)
    have w : w64 (((pSts p).length : Int) - 1) = (((pSts p).length - 1 : Nat) : Int) := by rw [w64_id (by omega) (by omega)]; omega
    obtain ⟨s, hs⟩ := getD_some (l := pSts p) (i := (pSts p).length - 1) (by omega)
    have hset := SL_sets h.sts s (List.mem_of_getElem? hs)
    have b1 : decide (0 + s.2.2.1.length ≤ 4294967296) = true := decide_eq_true (by have := set_len hset; omega)
    refine ⟨s.2.2.1, ?_, hset⟩
    unfold m49
    simp only [e, w, rowAt_G, rowG_nat hs, b1, sumE, sS]

theorem loop16 (l : List Int) (hl : l.length ≤ 1000) (x : Bool) (c0 c1 : Core) (a : AnT) (p : PgT) (sts : List StT) (dec seen : List Int) (hd : dec.length ≤ 1000) :
    ∃ y : Bool, loopT l16_0_23 ((0, x, ()), (l, ((c1, ()), ((c0, ()), ((a, ()), ((p, ()), (sts, (dec, (seen, ()))))))))) = some ((y, ()), ((c0, ()), ((c1, ()), ((a, ()), ((p, ()), (sts, (dec, (seen, ())))))))) := by
  have hh := loop_ind (f := l16_0_23) (Q := fun b => ∃ y : Bool, b = ((y, ()), ((c0, ()), ((c1, ()), ((a, ()), ((p, ()), (sts, (dec, (seen, ())))))))))
    (fun i s => ∃ y : Bool, s = (((i : Int), y, ()), (l, ((c1, ()), ((c0, ()), ((a, ()), ((p, ()), (sts, (dec, (seen, ())))))))))) l.length ?_ ?_ _ ⟨x, rfl⟩
  · obtain ⟨_, h1, y, rfl⟩ := hh
    exact ⟨y, h1⟩
  · rintro i _ hi ⟨y, rfl⟩
    obtain ⟨e, he⟩ := getD_some (l := l) (i := i) hi
    have hw : w64 ((i : Int) + 1) = ((i + 1 : Nat) : Int) := w64_nat (by omega)
    have b0 : decide ((0 : Int) ≤ (i : Int) ∧ (i : Int) < ((l.length : Nat) : Int)) = true := decide_eq_true (by omega)
    have he' : l[(i : Int).toNat]? = some e := by rw [Int.toNat_natCast]; exact he
    have q := has_eq dec e (by omega)
    cases y with
    | true =>
      refine ⟨_, ?_, decide (e ∈ dec), rfl⟩
      simp only [l16_0_23, lt_t hi, b0, he', q, hw, sumE, sS]
    | false =>
      refine ⟨_, ?_, false, rfl⟩
      simp only [l16_0_23, lt_t hi, hw, sumE, sS]
  · rintro _ ⟨y, rfl⟩
    refine ⟨_, ?_, y, rfl⟩
    simp only [l16_0_23, lt_f, sumE, sS]

/-- What an answer makes of a page. -/
structure AnsTo (ps : List Bnd.Pol) (pol : Pol) (n : Nat) (p : PgT) (a : AnT) (p' : PgT) : Prop where
  pg : PG ps pol n p'
  ord : pLast p ≤ aAt a ∧ (Dues p → aAt a < dueP p)
  id : pId p' = pId p
  start : pStart p' = pStart p
  seen : pSeen p' = pSeen p ++ [aId a]
  last : pLast p' ≤ max (pLast p) (aAt a)
  was : pState p ≠ 4 ∧ (pState p = 3 → aKind a = 5)
  k1 : aKind a = 1 → pState p' = 1 ∧ (pState p ≠ 1 → pLast p' = aAt a)
  k2 : aKind a = 2 → pState p' = pState p ∧ lat pol n p' ≤ lat pol n p ∧ pSn p' = pSn p ∧ pHd p' = pHd p
  k3 : aKind a = 3 → pState p' = 2 ∧ lat pol n p' = aAt a + aArg a + rest pol n ∧ pSn p' = pSn p + 1 ∧ pHd p' = pHd p
  k4 : aKind a = 4 → pState p' = 0 ∧ lat pol n p' = aAt a + 600 + rest pol n ∧ pSn p' = pSn p ∧ pHd p' = pHd p + 1
  k5 : aKind a = 5 → pState p' = 4 ∧ pLast p' = aAt a

theorem answer16 {c : CfgT} {b : BookT} (hbl : b.2.1.length ≤ 1000) {pol : Pol} {n : Nat} {p : PgT} (h : PG b.2.1 pol n p) {a : AnT} (ha : AnOK a) (hp : aPage a = pId p) :
    ∃ (e : Int) (p' : PgT), m16 ((c, b, p, a, ()), ()) = some (ret e p') ∧ (e = 0 → p' = p ∧ aId a ∈ pSeen p ∨ AnsTo b.2.1 pol n p a p') ∧ (pState p = 0 → pLast p ≤ aAt a → aAt a < pDue p → e = 0 ∨ e = 5) := by
  have q43 := check43 h hbl
  have q46 := valid46 ha (by rw [hp]; exact h.id)
  have q44 := copyPG h
  have hne : (aPage a != pId p) = false := by rw [hp]; simp
  have q47 := has_eq (pSeen p) (aId a) (by have := h.seen.2.1; omega)
  by_cases hm : aId a ∈ pSeen p
  · rw [decide_eq_true hm] at q47
    refine ⟨0, p, ?_, fun _ => .inl ⟨rfl, hm⟩, fun _ _ _ => .inl rfl⟩
    unfold m16
    simp only [q43, q46, hne, q44, q47, core, sumE, sS]
    rfl
  · rw [decide_eq_false hm] at q47
    obtain ⟨⟨⟨e, ⟨⟩⟩, ⟨⟩⟩, q48, r1, r2⟩ := refused48 p a
    simp only at r1 r2
    by_cases he : e = 0
    · subst he
      obtain ⟨o1, o2, o3, o4, o5, o6, o7, o8⟩ := r1 rfl
      have hz : ((0 : Int) != 0) = false := rfl
      have hsw := PG.saw_ok h hm o6 ha.id.1
      have b1 : decide ((pSeen p).length + [aId a].length ≤ 4294967296) = true := decide_eq_true (by simp; omega)
      have hat := ha.at'
      have hrest := rest_bound h.pok h.nle
      have hdu := h.due; have hun := h.unt; have hla := h.last; have hsn := h.sn; have hhd := h.hd; have hst := h.state; have hby := h.by'; have hwho := ha.who
      have hs := h.sts; have hsl := h.stl; have hsn' := h.stn
      have hdP0 : pState p = 0 → dueP p = pDue p := fun e => if_pos e
      have hdP2 : pState p = 2 → dueP p = pUntil p := fun e => if_neg (by omega)
      rcases ha.kind with ek | ek | ek | ek | ek
      · -- an acknowledgement
        have k1 : (aKind a == 1) = true := by rw [ek]; rfl
        by_cases h1 : pState p = 1
        · have s1 : (pState p == 1) = true := beq_iff_eq.2 h1
          refine ⟨0, page p (pDue p) (pState p) (pBy p) (pUntil p) (pLast p) (pSn p) (pHd p) (pSts p) (pDec p) (pSeen p ++ [aId a]), ?_, fun _ => .inr ⟨h.put hst hby ⟨Int.le_refl _, hla.2⟩ hdu hun hsn hhd ⟨hs, hsl, hsn'⟩ h.dec hsw (fun e => by omega) (fun e => by omega), ⟨o1, o2⟩, rfl, rfl, rfl, ?_, ⟨o3, o4⟩, fun _ => ⟨h1, fun e => absurd h1 e⟩, fun e => by omega, fun e => by omega, fun e => by omega, fun e => by omega⟩, fun _ _ _ => .inl rfl⟩
          · unfold m16
            simp only [q43, q46, hne, q44, q47, q48, hz, b1, k1, s1, core, sumE, sS]
            rfl
          · show pLast p ≤ _; omega
        · have s1 : (pState p == 1) = false := beq_eq_false_iff_ne.2 h1
          refine ⟨0, page p (pDue p) 1 (aWho a) (pUntil p) (aAt a) (pSn p) (pHd p) (pSts p) (pDec p) (pSeen p ++ [aId a]), ?_, fun _ => .inr ⟨h.put (by omega) (by omega) (by omega) hdu hun hsn hhd ⟨hs, by omega, hsn'⟩ h.dec hsw (fun e => by omega) (fun e => by omega), ⟨o1, o2⟩, rfl, rfl, rfl, ?_, ⟨o3, o4⟩, fun _ => ⟨rfl, fun _ => rfl⟩, fun e => by omega, fun e => by omega, fun e => by omega, fun e => by omega⟩, fun _ _ _ => .inl rfl⟩
          · unfold m16
            simp only [q43, q46, hne, q44, q47, q48, hz, b1, k1, s1, core, sumE, sS]
            rfl
          · show aAt a ≤ _; omega
      · -- a decline
        have k1 : (aKind a == 1) = false := by rw [ek]; rfl
        have k2 : (aKind a == 2) = true := by rw [ek]; rfl
        obtain ⟨r, q49, hr⟩ := called49 h
        have hrl := set_len hr
        have qh := has_eq r (aWho a) (by omega)
        have hs1 : pState p ≠ 1 := fun e => o5 e ek
        obtain ⟨dec', hdec', hdl, hqA, hqB⟩ : ∃ dec' : List Int, setL dec' ∧ dec'.length ≤ 1000 ∧ (aWho a ∈ r → m50 ((pDec p, aWho a, ()), ()) = some ((), (dec', ()))) ∧ (aWho a ∉ r → dec' = pDec p) := by
          by_cases hin : aWho a ∈ r
          · have hb := hr.2 _ hin
            have hw := with_eq (pDec p) (aWho a) (by have := set_len h.dec; omega)
            exact ⟨withR (aWho a) false (pDec p), with_set h.dec hb.1 hb.2, by have := set_len (with_set h.dec hb.1 hb.2); omega, fun _ => hw, fun e => absurd hin e⟩
          · exact ⟨pDec p, h.dec, by have := set_len h.dec; omega, fun e => absurd e hin, fun _ => rfl⟩
        obtain ⟨y, ql⟩ := loop16 r (by omega) (decide (((r.length : Nat) : Int) > 0)) (0, 0, 0, 0, 0, 0, 0, 0, 0, 0, 0, ()) (pId p, pPol p, pStart p, pNext p, pDue p, pState p, pBy p, pUntil p, aAt a, pSn p, pHd p, ()) a p (pSts p) dec' (pSeen p ++ [aId a]) hdl
        obtain ⟨due', hdue', hq2⟩ : ∃ due' : Int, (due' = pDue p ∨ due' = aAt a ∧ pState p = 0) ∧ due' = (bif (bif y then pState p == 0 else false) then aAt a else pDue p) := by
          cases y with
          | false => exact ⟨_, .inl rfl, rfl⟩
          | true =>
            cases h0 : (pState p == 0) with
            | true => exact ⟨_, .inr ⟨rfl, beq_iff_eq.1 h0⟩, rfl⟩
            | false => exact ⟨_, .inl rfl, rfl⟩
        have hst13 : pState p = 0 ∨ pState p = 2 := by
          have : pState p ≠ 3 := fun e => by have := o4 e; omega
          omega
        refine ⟨0, page p due' (pState p) (pBy p) (pUntil p) (aAt a) (pSn p) (pHd p) (pSts p) dec' (pSeen p ++ [aId a]), ?_, fun _ => .inr ⟨h.put hst hby ⟨o1, by omega⟩ (by omega) hun hsn hhd ⟨hs, by omega, hsn'⟩ hdec' hsw (fun e => ?_) (fun e => ?_), ⟨o1, o2⟩, rfl, rfl, rfl, ?_, ⟨o3, o4⟩, fun e => by omega, fun _ => ⟨rfl, ?_, rfl, rfl⟩, fun e => by omega, fun e => by omega, fun e => by omega⟩, fun _ _ _ => .inl rfl⟩
        · by_cases hin : aWho a ∈ r
          · rw [decide_eq_true hin] at qh
            unfold m16
            simp only [q43, q46, hne, q44, q47, q48, hz, b1, k1, k2, q49, qh, hqA hin, core, sumE, sS]
            refine bind_in _ ql ?_
            cases y with
            | false =>
              simp only [sumE, sS] at hq2 ⊢
              rw [hq2]
              rfl
            | true =>
              cases h0 : (pState p == 0) with
              | true =>
                rw [h0] at hq2
                simp only [h0, sumE, sS] at hq2 ⊢
                rw [hq2]
                rfl
              | false =>
                rw [h0] at hq2
                simp only [h0, sumE, sS] at hq2 ⊢
                rw [hq2]
                rfl
          · rw [decide_eq_false hin] at qh
            have hdd := hqB hin
            subst hdd
            unfold m16
            simp only [q43, q46, hne, q44, q47, q48, hz, b1, k1, k2, q49, qh, core, sumE, sS]
            refine bind_in _ ql ?_
            cases y with
            | false =>
              simp only [sumE, sS] at hq2 ⊢
              rw [hq2]
              rfl
            | true =>
              cases h0 : (pState p == 0) with
              | true =>
                rw [h0] at hq2
                simp only [h0, sumE, sS] at hq2 ⊢
                rw [hq2]
                rfl
              | false =>
                rw [h0] at hq2
                simp only [h0, sumE, sS] at hq2 ⊢
                rw [hq2]
                rfl
        · have := h.op e
          have := o2 (.inl e)
          rw [hdP0 e] at this
          omega
        · have := h.sno e
          have := o2 (.inr e)
          rw [hdP2 e] at this
          omega
        · show aAt a ≤ _; omega
        · rw [lat_page]
          unfold lat
          by_cases e0 : pState p = 0
          · rw [if_pos e0, if_pos e0]
            have := o2 (.inl e0)
            rw [hdP0 e0] at this
            omega
          · rw [if_neg e0, if_neg e0, if_pos (by omega), if_pos (by omega)]
            exact Int.le_refl _
      · -- a snooze
        have w1 : w64 (aAt a + aArg a) = aAt a + aArg a := by have := ha.arg3 ek; exact w64_id (by omega) (by omega)
        have w2 : w64 (pSn p + 1) = pSn p + 1 := w64_id (by omega) (by omega)
        have harg := ha.arg3 ek
        have h4 := o7 ek
        refine ⟨0, page p (pDue p) 2 (aWho a) (aAt a + aArg a) (aAt a) (pSn p + 1) (pHd p) (pSts p) (pDec p) (pSeen p ++ [aId a]), ?_, fun _ => .inr ⟨h.put (by omega) (by omega) (by omega) hdu (by omega) (by omega) hhd ⟨hs, by omega, hsn'⟩ h.dec hsw (fun e => by omega) (fun _ => by omega), ⟨o1, o2⟩, rfl, rfl, rfl, ?_, ⟨o3, o4⟩, fun e => by omega, fun e => by omega, fun _ => ⟨rfl, rfl, rfl, rfl⟩, fun e => by omega, fun e => by omega⟩, fun _ _ _ => .inl rfl⟩
        · unfold m16
          have k1 : (aKind a == 1) = false := by rw [ek]; rfl
          have k2 : (aKind a == 2) = false := by rw [ek]; rfl
          have k3 : (aKind a == 3) = true := by rw [ek]; rfl
          simp only [q43, q46, hne, q44, q47, q48, hz, b1, k1, k2, k3, w1, w2, core, sumE, sS]
          rfl
        · show aAt a ≤ _; omega
      · -- a handover
        have k1 : (aKind a == 1) = false := by rw [ek]; rfl
        have k2 : (aKind a == 2) = false := by rw [ek]; rfl
        have k3 : (aKind a == 3) = false := by rw [ek]; rfl
        have k4 : (aKind a == 4) = true := by rw [ek]; rfl
        have w1 : w64 (aAt a + 600) = aAt a + 600 := w64_id (by omega) (by omega)
        have w2 : w64 (pHd p + 1) = pHd p + 1 := w64_id (by omega) (by omega)
        have harg := ha.arg4 ek
        have h4 := o8 ek
        have hf := h.few
        have b2 : decide ((pSts p).length + ([(-1, aAt a, [aArg a], ())] : List StT).length ≤ 4294967296) = true := decide_eq_true (by simp; omega)
        refine ⟨0, page p (aAt a + 600) 0 (pBy p) (pUntil p) (aAt a) (pSn p) (pHd p + 1) (pSts p ++ [(-1, aAt a, [aArg a], ())]) [] (pSeen p ++ [aId a]), ?_, fun _ => .inr ⟨h.put (by omega) hby (by omega) (by omega) hun hsn (by omega) ⟨SL_snoc hs ?_ (.inl rfl) (set_one harg.1 (by omega)), ?_, ?_⟩ set_nil hsw (fun _ => by omega) (fun e => by omega), ⟨o1, o2⟩, rfl, rfl, rfl, ?_, ⟨o3, o4⟩, fun e => by omega, fun e => by omega, fun e => by omega, fun _ => ⟨rfl, rfl, rfl, rfl⟩, fun e => by omega⟩, fun _ _ _ => .inl rfl⟩
        · unfold m16
          simp only [q43, q46, hne, q44, q47, q48, hz, b1, k1, k2, k3, k4, w1, w2, b2, core, sumE, sS]
          rfl
        · show _ ≤ aAt a; omega
        · rw [lastAt_snoc]; exact Int.le_refl _
        · rw [List.length_append, List.length_singleton]; omega
        · show aAt a ≤ _; omega
      · -- a resolution
        have k1 : (aKind a == 1) = false := by rw [ek]; rfl
        have k2 : (aKind a == 2) = false := by rw [ek]; rfl
        have k3 : (aKind a == 3) = false := by rw [ek]; rfl
        have k4 : (aKind a == 4) = false := by rw [ek]; rfl
        have k5 : (aKind a == 5) = true := by rw [ek]; rfl
        refine ⟨0, page p (pDue p) 4 (aWho a) (pUntil p) (aAt a) (pSn p) (pHd p) (pSts p) (pDec p) (pSeen p ++ [aId a]), ?_, fun _ => .inr ⟨h.put (by omega) (by omega) (by omega) hdu hun hsn hhd ⟨hs, by omega, hsn'⟩ h.dec hsw (fun e => by omega) (fun e => by omega), ⟨o1, o2⟩, rfl, rfl, rfl, ?_, ⟨o3, o4⟩, fun e => by omega, fun e => by omega, fun e => by omega, fun e => by omega, fun _ => ⟨rfl, rfl⟩⟩, fun _ _ _ => .inl rfl⟩
        · unfold m16
          simp only [q43, q46, hne, q44, q47, q48, hz, b1, k1, k2, k3, k4, k5, core, sumE, sS]
          rfl
        · show aAt a ≤ _; omega
    · have hz : (e != 0) = true := bne_iff_ne.2 he
      refine ⟨e, (0, 0, 0, 0, 0, 0, 0, 0, 0, 0, 0, [], [], [], ()), ?_, fun e0 => absurd e0 he, r2⟩
      unfold m16
      simp only [q43, q46, hne, q44, q47, q48, hz, core, sumE, sS]
      rfl

end Go.Proofs.YtcelhemfoehedaaGreat

namespace Go.Proofs.YtcelhemfoehedaaGreat
open Go Go.Abs Go.Bnd Go.Plain
def offs (l : List Bnd.Step) (n : Nat) : List Int := (List.range (n + 1)).map (S l)

theorem offs_succ (l : List Bnd.Step) (n : Nat) : offs l (n + 1) = offs l n ++ [S l (n + 1)] := by
  unfold offs
  rw [List.range_succ (n := n + 1), List.map_append]
  rfl

theorem offs_len (l : List Bnd.Step) (n : Nat) : (offs l n).length = n + 1 := by simp [offs]

theorem offs_get (l : List Bnd.Step) {n k : Nat} (h : k ≤ n) : (offs l n)[k]? = some (S l k) := by
  unfold offs
  rw [List.getElem?_map, List.getElem?_range (by omega)]
  rfl

theorem m83_eq {p : Pol} (hp : POK p) : m83 ((p, ()), ()) = some ((), (offs p.2.1 (cnt p), ())) := by
  obtain ⟨c1, c2, c3⟩ := cnt_le hp
  have hl := hp.2.1
  have h1 : loopT l83_0_3 ((0, (cnt p : Int), ()), ((p, ()), ([0], ()))) = some ((), (offs p.2.1 (cnt p), ((p, ()), ()))) := by
    refine drop_e (loop_ind (f := l83_0_3) (Q := fun b => b = ((), (offs p.2.1 (cnt p), ((p, ()), ())))) (fun i st => st = (((i : Int), (cnt p : Int), ()), ((p, ()), (offs p.2.1 i, ())))) (cnt p) ?_ ?_ _ rfl)
    · rintro i _ hi rfl
      obtain ⟨s, hg, hm, he⟩ := wt_get (l := p.2.1) (k := i) (by omega)
      have hb := S_bound (l := p.2.1) (by omega) hp.2.2 i
      have hs := hp.2.2 s hm
      have hw : w64 ((i : Int) + 1) = ((i + 1 : Nat) : Int) := w64_nat (by omega)
      have hw2 : w64 (S p.2.1 i + s.1) = S p.2.1 (i + 1) := by
        unfold SOK at hs
        rw [w64_id (by omega) (by omega), he]; rfl
      have b0 : decide ((0 : Int) ≤ (i : Int) ∧ (i : Int) < (((offs p.2.1 i).length : Nat) : Int)) = true := decide_eq_true (by rw [offs_len]; omega)
      have b1 : decide ((p.2.1.length : Int) ≠ (0 : Int)) = true := decide_eq_true (by omega)
      have b2 : decide ((offs p.2.1 i).length + [S p.2.1 (i + 1)].length ≤ 4294967296) = true := decide_eq_true (by rw [offs_len]; simp; omega)
      have hx : (offs p.2.1 i)[(i : Int).toNat]? = some (S p.2.1 i) := by rw [Int.toNat_natCast]; exact offs_get _ (Nat.le_refl _)
      refine ⟨_, ?_, rfl⟩
      rw [offs_succ]
      simp only [l83_0_3, lt_t hi, b0, hx, b1, tmod_nat, rowAt_G, rowG_nat hg, hw2, b2, hw, sumE, sS]
    · rintro _ rfl
      refine ⟨_, ?_, rfl⟩
      simp only [l83_0_3, lt_f, sumE, sS]
  have h2 : loopT l83_0_8 ((0, p.2.1, (p.2.1.length : Int), ()), (offs p.2.1 (cnt p), ())) = some (.inr ((), (offs p.2.1 (cnt p), ()))) := by
    refine loop_thru (f := l83_0_8) p.2.1 (fun i => (((i : Int), p.2.1, (p.2.1.length : Int), ()), (offs p.2.1 (cnt p), ()))) _ ?_ ?_
    · intro i e he hi
      have hw : w64 ((i : Int) + 1) = ((i + 1 : Nat) : Int) := w64_nat (by omega)
      have hs := hp.2.2 e (List.mem_of_getElem? he)
      have d1 : decide (0 ≤ e.1 ∧ e.1 ≤ 86400) = true := decide_eq_true (by unfold SOK at hs; omega)
      simp only [l83_0_8, lt_t hi, rowAt_G, rowG_nat he, c84, d1, hw, sumE, sS]
    · simp only [l83_0_8, lt_f, sumE, sS]
  unfold m83
  simp only [cnt58 hp, sumE, sS]
  refine bind_of _ h1 ?_
  refine bind_of _ h2 ?_
  simp only [sumE]

theorem m57_eq {p : Pol} (hp : POK p) {k : Nat} (hk : k ≤ cnt p) : m57 ((p, (k : Int), ()), ()) = some ((S p.2.1 k, true, ()), ()) := by
  obtain ⟨c1, c2, c3⟩ := cnt_le hp
  have h1 : w64 ((((offs p.2.1 (cnt p)).length : Nat) : Int) - 1) = (cnt p : Int) := by rw [offs_len, w64_id (by omega) (by omega)]; omega
  have d1 : decide (0 ≤ (k : Int) ∧ (k : Int) ≤ (cnt p : Int)) = true := decide_eq_true (by omega)
  have d2 : decide ((0 : Int) ≤ (k : Int) ∧ (k : Int) < (((offs p.2.1 (cnt p)).length : Nat) : Int)) = true := decide_eq_true (by rw [offs_len]; omega)
  have h4 : (offs p.2.1 (cnt p))[(k : Int).toNat]? = some (S p.2.1 k) := by rw [Int.toNat_natCast]; exact offs_get _ hk
  unfold m57
  simp only [m83_eq hp, c84, h1, d1, d2, h4, sumE, sS]

theorem m59_eq {p : Pol} (hp : POK p) : m59 ((p, ()), ()) = some ((S p.2.1 (cnt p), ()), ()) := by
  unfold m59
  simp only [cnt58 hp, m57_eq hp (Nat.le_refl _), sumE, sS]

theorem m52_two {a b : Int} (ha : -1000000000000 ≤ a ∧ a ≤ 1000000000000) (hb : -1000000000000 ≤ b ∧ b ≤ 1000000000000) : m52 (([a, b], ()), ()) = some ((a + b, ()), ()) := by
  have w1 : w64 (0 + a) = a := by rw [Int.zero_add]; exact w64_id (by omega) (by omega)
  have w2 : w64 (a + b) = a + b := w64_id (by omega) (by omega)
  have s0 : l52_0_3 ((0, 0, [a, b], 2, ()), ()) = some (.inl ((1, a, [a, b], 2, ()), ())) := by
    have : l52_0_3 ((0, 0, [a, b], 2, ()), ()) = some (.inl ((1, w64 (0 + a), [a, b], 2, ()), ())) := rfl
    rw [this, w1]
  have s1 : l52_0_3 ((1, a, [a, b], 2, ()), ()) = some (.inl ((2, a + b, [a, b], 2, ()), ())) := by
    have : l52_0_3 ((1, a, [a, b], 2, ()), ()) = some (.inl ((2, w64 (a + b), [a, b], 2, ()), ())) := rfl
    rw [this, w2]
  have s2 : l52_0_3 ((2, a + b, [a, b], 2, ()), ()) = some (.inr ((a + b, ()), ())) := rfl
  unfold m52
  refine bind_of _ (show loopT l52_0_3 ((0, 0, [a, b], 2, ()), ()) = _ from (loopT_inl s0).trans ((loopT_inl s1).trans (loopT_inr s2))) ?_
  rfl

theorem m32_eq {b : BookT} (hbl : b.2.1.length ≤ 1000) {pol : Pol} {n : Nat} {p : PgT} (h : PG b.2.1 pol n p) : m32 ((b, p, ()), ()) = some ((rest pol n, true, ()), ()) := by
  have hp := h.pok
  have q57 := m57_eq hp h.nle
  rw [← h.next] at q57
  have b1 := S_bound (l := pol.2.1) hp.2.1.1 hp.2.2 (cnt pol)
  have b2 := S_bound (l := pol.2.1) hp.2.1.1 hp.2.2 n
  have c2 := (cnt_le hp).2.1
  have hnl := h.nle
  have w1 : w64 (0 - S pol.2.1 n) = - S pol.2.1 n := by rw [w64_id (by omega) (by omega)]; omega
  have q52 := m52_two (a := S pol.2.1 (cnt pol)) (b := - S pol.2.1 n) (by omega) (by omega)
  unfold m32
  simp only [check60 h hbl, rowAt_G, rowG_int h.pol0 h.polAt, q57, m59_eq hp, w1, q52, sumE, sS]
  rfl

/-- The latest instant of a page. -/
theorem latest17 {b : BookT} (hbl : b.2.1.length ≤ 1000) {pol : Pol} {n : Nat} {p : PgT} (h : PG b.2.1 pol n p) : m17 ((b, p, ()), ()) = some ((lat pol n p, true, ()), ()) := by
  have hr := rest_bound h.pok h.nle
  have hdu := h.due; have hun := h.unt
  have q32 := m32_eq hbl h
  have q51 := due51 p
  unfold lat
  by_cases h0 : pState p = 0
  · rw [if_pos h0, decide_eq_true (.inl h0)] at q51
    rw [if_pos h0]
    have q52 := m52_two (a := pDue p) (b := rest pol n) (by omega) (by omega)
    unfold m17
    simp only [q32, q51, q52, sumE, sS]
  · by_cases h2 : pState p = 2
    · rw [if_neg h0, if_pos h2, decide_eq_true (.inr h2)] at q51
      rw [if_neg h0, if_pos h2]
      have q52 := m52_two (a := pUntil p) (b := rest pol n) (by omega) (by omega)
      unfold m17
      simp only [q32, q51, q52, sumE, sS]
    · rw [if_neg h0, if_neg h2, decide_eq_false (by omega)] at q51
      rw [if_neg h0, if_neg h2]
      unfold m17
      simp only [q32, q51, sumE, sS]

end Go.Proofs.YtcelhemfoehedaaGreat

namespace Go.Proofs.YtcelhemfoehedaaGreat
open Go Go.Abs Go.Bnd Go.Plain
abbrev Dice := List Int × Int × Unit

def DOK (d : Dice) : Prop := 0 ≤ d.2.1 ∧ d.2.1 ≤ d.1.length ∧ d.1.length ≤ 500

theorem c19 (n : Int) (d : Dice) (hd : DOK d) (hn : n ≤ 9223372036854775807) : Ens (m19 ((n, ()), ((d, ()), ()))) (fun r => DOK r.2.1.1 ∧ 0 ≤ r.1.1 ∧ (1 ≤ n → r.1.1 < n)) := by
  obtain ⟨l, i, ⟨⟩⟩ := d
  obtain ⟨h0, h1, h2⟩ := hd
  simp only at h0 h1 h2
  have hw : w64 (i + 1) = i + 1 := w64_up h0 (by omega)
  have hd2 : i < l.length → DOK (l, i + 1, ()) := fun _ => ⟨by show 0 ≤ i + 1; omega, by show i + 1 ≤ (l.length : Int); omega, h2⟩
  have hd1 : DOK (l, i, ()) := ⟨h0, h1, h2⟩
  have ht : ∀ e : Int, 1 ≤ n → -n < e.tmod n ∧ e.tmod n < n ∧ (e.tmod n < 0 → w64 (e.tmod n + n) = e.tmod n + n) := fun e hn1 => by
    have a := Int.tmod_lt_of_pos e (show 0 < n by omega)
    have b : -n < e.tmod n := by
      have := Int.lt_tmod_of_pos e (show 0 < n by omega)
      omega
    exact ⟨b, a, fun h => w64_id (by omega) (by omega)⟩
  unfold m19
  dsimp only
  repeat' first | with_reducible refine ens_bind ?_ | with_reducible refine ens_t ?_ | with_reducible refine ens_f ?_ | (with_reducible refine ens_need ?_ ?_; first | exact And.intro (by omega) (by omega) | omega) | (with_reducible refine ens_ite ?_ ?_ <;> intro _) | (with_reducible refine ens_bif ?_ ?_ <;> intro _) | (with_reducible refine ens_some ?_; try dsimp only) | (with_reducible refine ens_row (by omega) (by omega) ?_; intro _ _ _; try dsimp only)
  all_goals first
    | exact ⟨hd1, by omega, fun _ => by omega⟩
    | (rename_i e _ _ hneg; have hh := ht e (by omega); rw [hw, hh.2.2 hneg]; exact ⟨hd2 (by omega), by omega, fun _ => by omega⟩)
    | (rename_i e _ _ hneg; have hh := ht e (by omega); rw [hw]; exact ⟨hd2 (by omega), by omega, fun _ => hh.2.1⟩)

theorem c22 (l : List Int) (d : Dice) (hd : DOK d) (h0 : 0 < l.length) (h1 : l.length ≤ 1000) : Ens (m22 ((l, ()), ((d, ()), ()))) (fun r => DOK r.2.1.1 ∧ r.1.1 ∈ l) := by
  unfold m22
  dsimp only
  refine ens_call (c19 _ _ hd (by omega)) ?_
  rintro ⟨⟨x, ⟨⟩⟩, ⟨⟨d', ⟨⟩⟩, ⟨⟩⟩⟩ ⟨g1, g2, g3⟩
  dsimp only at g1 g2 g3
  have := g3 (by omega)
  refine ens_row g2 (by dsimp only; omega) fun e _ he => ?_
  exact ens_some ⟨g1, he⟩

/-- An edit. -/
theorem c41 (d : Dice) (hd : DOK d) : Ens (m41 ((), ((d, ()), ()))) (fun r => DOK r.2.1.1 ∧ EdOK r.2.2.1.1) := by
  have ka : ∀ a b : Int, 0 ≤ a → a < 4 → 0 ≤ b → b < 3 → 0 ≤ (w64 (w64 (a + 1) + b)).tmod 4 ∧ (w64 (w64 (a + 1) + b)).tmod 4 ≤ 3 := fun a b h1 h2 h3 h4 => by
    rw [w64_up h1 (by omega), w64_id (by omega) (by omega)]
    have t1 := Int.tmod_nonneg (4 : Int) (show 0 ≤ a + 1 + b by omega)
    have t2 := Int.tmod_lt_of_pos (a + 1 + b) (show (0 : Int) < 4 by omega)
    omega
  have kb : ∀ a : Int, 0 ≤ a → a < 5 → -1 ≤ w64 (a - 1) ∧ w64 (a - 1) ≤ 3 := fun a h1 h2 => by
    rw [w64_dn h1 (by omega)]
    omega
  unfold m41
  dsimp only
  repeat' first | (with_reducible refine ens_tail (c19 _ _ (by assumption) (by omega)) ?_; rintro ⟨⟨_, ⟨⟩⟩, ⟨⟨_, ⟨⟩⟩, ⟨⟩⟩⟩ ⟨hdd, hlo, hhi⟩; dsimp only at hdd hlo hhi; try dsimp only) | (with_reducible refine ens_tail (c22 _ _ (by assumption) (by decide) (by decide)) ?_; rintro ⟨⟨_, ⟨⟩⟩, ⟨⟨_, ⟨⟩⟩, ⟨⟩⟩⟩ ⟨hdd, hm⟩; dsimp only at hdd; simp only [List.mem_cons, List.not_mem_nil, or_false] at hm; try dsimp only) | with_reducible exact True.intro | (with_reducible refine ens_at (by omega) ?_; intro _ _ _; try dsimp only) | with_reducible refine ens_bind ?_ | with_reducible refine ens_t ?_ | with_reducible refine ens_f ?_ | with_reducible refine ens_nt ?_ | with_reducible refine ens_nf ?_ | (with_reducible refine ens_need ?_ ?_; first | exact And.intro (by omega) (by omega) | omega | (simp only [List.length_append, List.length_cons, List.length_nil]; omega)) | (with_reducible refine ens_ite ?_ ?_ <;> intro _) | (with_reducible refine ens_bif ?_ ?_ <;> intro _) | (with_reducible refine ens_some ?_; try dsimp only) | (with_reducible refine ens_row (by omega) (by omega) ?_; intro _ _ _; try dsimp only) | (with_reducible refine ens_sum ?_ ?_ <;> (intro _ e; subst e; try dsimp only))
  all_goals refine ⟨by assumption, ?_⟩
  all_goals unfold EdOK
  all_goals dsimp only
  all_goals first
    | exact ⟨by omega, ka _ _ (by omega) (by omega) (by omega) (by omega)⟩
    | exact ⟨kb _ (by omega) (by omega), by omega⟩
    | omega

/-- The people of a configuration. -/
def PersOK (p : PersT) : Prop := p.2.1 = 0 ∧ p.2.2.1.length ≤ 14

theorem crew_spec (d : Dice) (hd : DOK d) : Ens (m11 ((), ((d, ()), ()))) (fun r => DOK r.2.1.1 ∧ CrewOK (r.2.2.2.1, r.2.2.2.2.1, [], r.2.2.2.2.2.1, ())) := by
  have hP : ∀ (d : Dice) (zs : List ZoneT), DOK d → Ens (loopT l11_0_4 ((0, ()), ((d, ()), (((), ()), ([(bs [97, 110, 110]), (bs [98, 111, 98]), (bs [99, 97, 116]), (bs [100, 97, 110])], (((), ()), (zs, ([], ())))))))) (fun r => DOK r.2.1.1 ∧ r.2.2.2.2.1 = zs ∧ r.2.2.2.2.2.1.length = 4 ∧ ∀ p ∈ r.2.2.2.2.2.1, PersOK p) := fun d zs hd => by
    refine ens_loop (fun v => DOK v.2.1.1 ∧ v.2.2.2.1 = [(bs [97, 110, 110]), (bs [98, 111, 98]), (bs [99, 97, 116]), (bs [100, 97, 110])] ∧ v.2.2.2.2.2.1 = zs ∧ 0 ≤ v.1.1 ∧ v.1.1 ≤ 4 ∧ (v.2.2.2.2.2.2.1.length : Int) = v.1.1 ∧ ∀ p ∈ v.2.2.2.2.2.2.1, PersOK p) (fun v => (4 - v.1.1).toNat) ?_ _ ⟨hd, rfl, rfl, by simp only; omega, by simp only; omega, rfl, fun p hp => by cases hp⟩
    rintro ⟨⟨i, ⟨⟩⟩, ⟨⟨d, ⟨⟩⟩, ⟨⟨⟩, ⟨⟩⟩, _, ⟨⟨⟩, ⟨⟩⟩, _, ps, ⟨⟩⟩⟩ ⟨hd, rfl, rfl, h0, h1, h2, h3⟩
    dsimp only at hd h0 h1 h2 h3 ⊢
    have hw : i < 4 → w64 (i + 1) = i + 1 := fun _ => w64_up h0 (by omega)
    have hsnoc : ∀ x : PersT, PersOK x → ∀ p ∈ ps ++ [x], PersOK p := fun x hx p hp => by
      rcases List.mem_append.1 hp with hp | hp
      · exact h3 p hp
      · simp only [List.mem_singleton] at hp; subst hp; exact hx
    have hlen : ∀ x : PersT, ((ps ++ [x]).length : Int) = i + 1 := fun x => by rw [List.length_append, List.length_singleton]; omega
    unfold l11_0_4
    dsimp only
    repeat' first | (with_reducible refine ens_tail (c19 _ _ (by assumption) (by omega)) ?_; rintro ⟨⟨_, ⟨⟩⟩, ⟨⟨_, ⟨⟩⟩, ⟨⟩⟩⟩ ⟨hdd, hlo, hhi⟩; dsimp only at hdd hlo hhi; try dsimp only) | (with_reducible refine ens_tail (c22 _ _ (by assumption) (by decide) (by decide)) ?_; rintro ⟨⟨_, ⟨⟩⟩, ⟨⟨_, ⟨⟩⟩, ⟨⟩⟩⟩ ⟨hdd, hm⟩; dsimp only at hdd; simp only [List.mem_cons, List.not_mem_nil, or_false] at hm; try dsimp only) | (with_reducible refine ens_at (by simp only [List.length_cons, List.length_nil]; omega) ?_; intro _ _ _; try dsimp only) | with_reducible refine ens_bind ?_ | (with_reducible refine ens_need ?_ ?_; first | exact And.intro (by omega) (by simp only [List.length_cons, List.length_nil]; omega) | (simp only [List.length_cons, List.length_nil]; omega)) | (with_reducible refine ens_ite ?_ ?_ <;> intro _) | (with_reducible refine ens_bif ?_ ?_ <;> intro _) | (with_reducible refine ens_some ?_; try dsimp only)
    all_goals first | exact ⟨hd, rfl, by omega, h3⟩ | (rw [hw (by omega)]; exact ⟨⟨by assumption, rfl, rfl, by omega, by omega, hlen _, hsnoc _ ⟨rfl, by simp only [List.length_cons, List.length_nil]; omega⟩⟩, by omega⟩)
  have hM : ∀ (k i : Int) (d : Dice) (lay : ByteArray × Int × Int × Int × Int × Int × Int × Int × Unit) (zs : List ZoneT) (ps : List PersT) (ss : List SchT), DOK d → 1 ≤ k → k ≤ 3 →
      Ens (loopT l11_0_15 ((k, i, ()), ((d, ()), ((lay, ()), (((), ()), (((), ()), ([], (zs, (ps, (ss, ())))))))))) (fun r => DOK r.2.1.1 ∧ r.1.1 = i ∧ r.2.2.2.2.1.1 = lay ∧ r.2.2.2.2.2.1 = zs ∧ r.2.2.2.2.2.2.1 = ps ∧ r.2.2.2.2.2.2.2.1 = ss ∧ (1 ≤ r.2.2.2.2.2.2.2.2.1.length ∧ r.2.2.2.2.2.2.2.2.1.length ≤ 3) ∧ ∀ m ∈ r.2.2.2.2.2.2.2.2.1, 0 ≤ m ∧ m ≤ 3) := fun k i d lay zs ps ss hd hk1 hk3 => by
    refine ens_loop (fun v => DOK v.2.1.1 ∧ v.1.2.1 = i ∧ v.2.2.1.1 = lay ∧ v.2.2.2.2.2.2.1 = zs ∧ v.2.2.2.2.2.2.2.1 = ps ∧ v.2.2.2.2.2.2.2.2.1 = ss ∧ 0 ≤ v.1.1 ∧ v.1.1 ≤ 3 ∧ (v.2.2.2.2.2.1.length : Int) + v.1.1 = k ∧ ∀ m ∈ v.2.2.2.2.2.1, 0 ≤ m ∧ m ≤ 3) (fun v => v.1.1.toNat) ?_ _ ⟨hd, rfl, rfl, rfl, rfl, rfl, by simp only; omega, hk3, by simp, fun m hm => by cases hm⟩
    rintro ⟨⟨j, _, ⟨⟩⟩, ⟨⟨d, ⟨⟩⟩, ⟨_, ⟨⟩⟩, ⟨⟨⟩, ⟨⟩⟩, ⟨⟨⟩, ⟨⟩⟩, ms, _, _, _, ⟨⟩⟩⟩ ⟨hd, rfl, rfl, rfl, rfl, rfl, h0, h1, h2, h3⟩
    dsimp only at hd h0 h1 h2 h3 ⊢
    have hw : 0 < j → w64 (j - 1) = j - 1 := fun _ => w64_dn h0 (by omega)
    have hsnoc : ∀ x : Int, 0 ≤ x → x < 4 → ∀ p ∈ ms ++ [x], 0 ≤ p ∧ p ≤ 3 := fun x hx hx2 p hp => by
      rcases List.mem_append.1 hp with hp | hp
      · exact h3 p hp
      · simp only [List.mem_singleton] at hp; subst hp; exact ⟨hx, by omega⟩
    unfold l11_0_15
    dsimp only
    repeat' first | (with_reducible refine ens_tail (c19 _ _ (by assumption) (by omega)) ?_; rintro ⟨⟨_, ⟨⟩⟩, ⟨⟨_, ⟨⟩⟩, ⟨⟩⟩⟩ ⟨hdd, hlo, hhi⟩; dsimp only at hdd hlo hhi; try dsimp only) | (with_reducible refine ens_tail (c22 _ _ (by assumption) (by decide) (by decide)) ?_; rintro ⟨⟨_, ⟨⟩⟩, ⟨⟨_, ⟨⟩⟩, ⟨⟩⟩⟩ ⟨hdd, hm⟩; dsimp only at hdd; simp only [List.mem_cons, List.not_mem_nil, or_false] at hm; try dsimp only) | with_reducible refine ens_bind ?_ | (with_reducible refine ens_need ?_ ?_; (simp only [List.length_cons, List.length_nil]; omega)) | (with_reducible refine ens_ite ?_ ?_ <;> intro _) | (with_reducible refine ens_some ?_; try dsimp only)
    all_goals first | exact ⟨hd, rfl, rfl, rfl, rfl, rfl, ⟨by omega, by omega⟩, h3⟩ | (rw [hw (by omega)]; exact ⟨⟨by assumption, rfl, rfl, rfl, rfl, rfl, by omega, by omega, by rw [List.length_append, List.length_singleton]; omega, hsnoc _ (by omega) (by omega)⟩, by omega⟩)
  have hE : ∀ (k i : Int) (d : Dice) (nm : ByteArray) (ls : List LayT) (zs : List ZoneT) (ps : List PersT) (ss : List SchT), DOK d → 0 ≤ k → k ≤ 3 →
      Ens (loopT l11_0_20 ((k, i, ()), ((d, ()), (((nm, ()), ()), (((), ()), (((), ()), (ls, ([], (zs, (ps, (ss, ()))))))))))) (fun r => DOK r.2.1.1 ∧ r.1.1 = i ∧ r.2.2.2.2.1.1.1 = nm ∧ r.2.2.2.2.2.1 = zs ∧ r.2.2.2.2.2.2.1 = ps ∧ r.2.2.2.2.2.2.2.1 = ss ∧ r.2.2.2.2.2.2.2.2.1 = ls ∧ r.2.2.2.2.2.2.2.2.2.1.length ≤ 3 ∧ ∀ m ∈ r.2.2.2.2.2.2.2.2.2.1, EdOK m) := fun k i d nm ls zs ps ss hd hk1 hk3 => by
    refine ens_loop (fun v => DOK v.2.1.1 ∧ v.1.2.1 = i ∧ v.2.2.1.1.1 = nm ∧ v.2.2.2.2.2.1 = ls ∧ v.2.2.2.2.2.2.2.1 = zs ∧ v.2.2.2.2.2.2.2.2.1 = ps ∧ v.2.2.2.2.2.2.2.2.2.1 = ss ∧ 0 ≤ v.1.1 ∧ v.1.1 ≤ 3 ∧ (v.2.2.2.2.2.2.1.length : Int) + v.1.1 = k ∧ ∀ m ∈ v.2.2.2.2.2.2.1, EdOK m) (fun v => v.1.1.toNat) ?_ _ ⟨hd, rfl, rfl, rfl, rfl, rfl, rfl, hk1, hk3, by simp, fun m hm => by cases hm⟩
    rintro ⟨⟨j, _, ⟨⟩⟩, ⟨⟨d, ⟨⟩⟩, ⟨⟨_, ⟨⟩⟩, ⟨⟩⟩, ⟨⟨⟩, ⟨⟩⟩, ⟨⟨⟩, ⟨⟩⟩, _, es, _, _, _, ⟨⟩⟩⟩ ⟨hd, rfl, rfl, rfl, rfl, rfl, rfl, h0, h1, h2, h3⟩
    dsimp only at hd h0 h1 h2 h3 ⊢
    have hw : 0 < j → w64 (j - 1) = j - 1 := fun _ => w64_dn h0 (by omega)
    have hsnoc : ∀ x : EdT, EdOK x → ∀ p ∈ es ++ [x], EdOK p := fun x hx p hp => by
      rcases List.mem_append.1 hp with hp | hp
      · exact h3 p hp
      · simp only [List.mem_singleton] at hp; subst hp; exact hx
    unfold l11_0_20
    dsimp only
    repeat' first | (with_reducible refine ens_tail (c41 _ (by assumption)) ?_; rintro ⟨⟨⟩, ⟨⟨_, ⟨⟩⟩, ⟨_, ⟨⟩⟩, ⟨⟩⟩⟩ ⟨hdd, hee⟩; dsimp only at hdd hee; try dsimp only) | with_reducible refine ens_bind ?_ | (with_reducible refine ens_need ?_ ?_; (simp only [List.length_cons, List.length_nil]; omega)) | (with_reducible refine ens_ite ?_ ?_ <;> intro _) | (with_reducible refine ens_some ?_; try dsimp only)
    all_goals first | exact ⟨hd, rfl, rfl, rfl, rfl, rfl, rfl, by omega, h3⟩ | (rw [hw (by omega)]; exact ⟨⟨by assumption, rfl, rfl, rfl, rfl, rfl, rfl, by omega, by omega, by rw [List.length_append, List.length_singleton]; omega, hsnoc _ (by assumption)⟩, by omega⟩)
  have hw1 : ∀ x : Int, 0 ≤ x → x < 9 → w64 (1 + x) = 1 + x := fun x h0 h1 => w64_id (by omega) (by omega)
  have hS : ∀ (d : Dice) (zs : List ZoneT) (ps : List PersT), DOK d → Ens (loopT l11_0_11 ((0, ()), ((d, ()), (((), ()), (((), ()), (zs, (ps, ([], ())))))))) (fun r => DOK r.2.1.1 ∧ r.2.2.2.2.1 = zs ∧ r.2.2.2.2.2.1 = ps ∧ r.2.2.2.2.2.2.1.length = 2 ∧ ∀ s ∈ r.2.2.2.2.2.2.1, SchOK s) := fun d zs ps hd => by
    refine ens_loop (fun v => DOK v.2.1.1 ∧ v.2.2.2.2.1 = zs ∧ v.2.2.2.2.2.1 = ps ∧ 0 ≤ v.1.1 ∧ v.1.1 ≤ 2 ∧ (v.2.2.2.2.2.2.1.length : Int) = v.1.1 ∧ ∀ s ∈ v.2.2.2.2.2.2.1, SchOK s) (fun v => (2 - v.1.1).toNat) ?_ _ ⟨hd, rfl, rfl, by simp only; omega, by simp only; omega, rfl, fun s hs => by cases hs⟩
    rintro ⟨⟨i, ⟨⟩⟩, ⟨⟨d, ⟨⟩⟩, ⟨⟨⟩, ⟨⟩⟩, ⟨⟨⟩, ⟨⟩⟩, _, _, ss, ⟨⟩⟩⟩ ⟨hd, rfl, rfl, h0, h1, h2, h3⟩
    dsimp only at hd h0 h1 h2 h3 ⊢
    have hw : i < 2 → w64 (i + 1) = i + 1 := fun _ => w64_up h0 (by omega)
    have hsnoc : ∀ x : SchT, SchOK x → ∀ p ∈ ss ++ [x], SchOK p := fun x hx p hp => by
      rcases List.mem_append.1 hp with hp | hp
      · exact h3 p hp
      · simp only [List.mem_singleton] at hp; subst hp; exact hx
    have hlen : ∀ x : SchT, ((ss ++ [x]).length : Int) = i + 1 := fun x => by rw [List.length_append, List.length_singleton]; omega
    unfold l11_0_11
    dsimp only
    repeat' first | (with_reducible refine ens_tail (c19 _ _ (by assumption) (by omega)) ?_; rintro ⟨⟨_, ⟨⟩⟩, ⟨⟨_, ⟨⟩⟩, ⟨⟩⟩⟩ ⟨hdd, hlo, hhi⟩; dsimp only at hdd hlo hhi; try dsimp only) | (with_reducible refine ens_tail (c22 _ _ (by assumption) (by decide) (by decide)) ?_; rintro ⟨⟨_, ⟨⟩⟩, ⟨⟨_, ⟨⟩⟩, ⟨⟩⟩⟩ ⟨hdd, hm⟩; dsimp only at hdd; simp only [List.mem_cons, List.not_mem_nil, or_false] at hm; try dsimp only) | (with_reducible refine ens_tail (hM _ _ _ _ _ _ _ (by assumption) (by rw [hw1 _ (by omega) (by omega)]; omega) (by rw [hw1 _ (by omega) (by omega)]; omega)) ?_; rintro ⟨⟨_, ⟨⟩⟩, ⟨_, ⟨⟩⟩, ⟨⟨⟩, ⟨⟩⟩, ⟨⟨⟩, ⟨⟩⟩, ⟨_, ⟨⟩⟩, _, _, _, ms, ⟨⟩⟩ ⟨hdd, rfl, rfl, rfl, rfl, rfl, hml, hme⟩; try dsimp only at *) | (with_reducible refine ens_tail (hE _ _ _ _ _ _ _ _ (by assumption) (by omega) (by omega)) ?_; rintro ⟨⟨_, ⟨⟩⟩, ⟨_, ⟨⟩⟩, ⟨⟨⟩, ⟨⟩⟩, ⟨⟨⟩, ⟨⟩⟩, ⟨⟨_, ⟨⟩⟩, ⟨⟩⟩, _, _, _, _, es, ⟨⟩⟩ ⟨hdd, rfl, rfl, rfl, rfl, rfl, rfl, hel, hee⟩; try dsimp only at *) | (with_reducible refine ens_at (by simp only [List.length_cons, List.length_nil]; omega) ?_; intro _ _ _; try dsimp only) | with_reducible refine ens_bind ?_ | (with_reducible refine ens_need ?_ ?_; first | exact And.intro (by omega) (by simp only [List.length_cons, List.length_nil]; omega) | (simp only [List.length_cons, List.length_nil]; omega)) | (with_reducible refine ens_ite ?_ ?_ <;> intro _) | (with_reducible refine ens_some ?_; try dsimp only)
    all_goals first | exact ⟨hd, rfl, rfl, by omega, h3⟩ | skip
    all_goals (rw [hw (by omega)])
    exact ⟨⟨by assumption, rfl, rfl, by omega, by omega, hlen _, hsnoc _ ⟨by simp, fun l hl => by
      simp only [List.mem_singleton] at hl
      subst hl
      refine ⟨rfl, ?_, hml, hme, rfl, by simp⟩
      show 1 ≤ w64 (1 + _) ∧ w64 (1 + _) ≤ 3
      rw [hw1 _ (by omega) (by omega)]
      omega, by show es.length ≤ 48; omega, hee⟩⟩, by omega⟩
  unfold m11
  dsimp only
  refine ens_call (c22 _ _ hd (by decide) (by decide)) ?_
  rintro ⟨⟨x, ⟨⟩⟩, ⟨⟨d1, ⟨⟩⟩, ⟨⟩⟩⟩ ⟨hd1, hm⟩
  dsimp only at hd1
  simp only [List.mem_cons, List.not_mem_nil, or_false] at hm
  refine ens_call (hP d1 [((bs [122]), x, [], ())] hd1) ?_
  rintro ⟨⟨⟩, ⟨⟨d2, ⟨⟩⟩, ⟨⟨⟩, ⟨⟩⟩, ⟨⟨⟩, ⟨⟩⟩, zs, ps, ⟨⟩⟩⟩ ⟨hd2, hz, hp1, hp2⟩
  dsimp only at hd2 hz hp1 hp2
  refine ens_call (hS d2 zs ps hd2) ?_
  rintro ⟨⟨⟩, ⟨⟨d3, ⟨⟩⟩, ⟨⟨⟩, ⟨⟩⟩, ⟨⟨⟩, ⟨⟩⟩, zs', ps', ss, ⟨⟩⟩⟩ ⟨hd3, hz', hp', hs1, hs2⟩
  dsimp only at hd3 hz' hp' hs1 hs2
  subst hz hz' hp'
  refine ens_some ⟨hd3, ?_⟩
  exact ⟨⟨rfl, fun z hz => by
    simp only [List.mem_singleton] at hz
    subst hz
    exact ⟨rfl, by show -64800 ≤ x; omega, by show x ≤ 64800; omega⟩⟩, ⟨hp1, hp2⟩, rfl, ⟨hs1, hs2⟩⟩

end Go.Proofs.YtcelhemfoehedaaGreat

namespace Go.Proofs.YtcelhemfoehedaaGreat
open Go Go.Abs Go.Bnd Go.Plain
theorem c42 (b : BookT) (d : Dice) (hd : DOK d) (hb : b.1.length ≤ 2) : Ens (m42 ((b, ()), ((d, ()), ()))) (fun r => DOK r.2.1.1) := by
  unfold m42
  dsimp only
  repeat' first | (with_reducible refine ens_tail (c19 _ _ (by assumption) (by omega)) ?_; rintro ⟨⟨_, ⟨⟩⟩, ⟨⟨_, ⟨⟩⟩, ⟨⟩⟩⟩ ⟨hdd, hlo, hhi⟩; dsimp only at hdd hlo hhi; try dsimp only) | (with_reducible refine ens_tail (c22 _ _ (by assumption) (by decide) (by decide)) ?_; rintro ⟨⟨_, ⟨⟩⟩, ⟨⟨_, ⟨⟩⟩, ⟨⟩⟩⟩ ⟨hdd, hm⟩; dsimp only at hdd; simp only [List.mem_cons, List.not_mem_nil, or_false] at hm; try dsimp only) | (with_reducible refine ens_at (by simp only [List.length_cons, List.length_nil]; omega) ?_; intro _ _ hm; simp only [List.mem_cons, List.not_mem_nil, or_false] at hm; try dsimp only) | with_reducible refine ens_bind ?_ | (with_reducible refine ens_need ?_ ?_; first | exact And.intro (by omega) (by simp only [List.length_cons, List.length_nil]; omega) | (simp only [List.length_cons, List.length_nil]; omega)) | (with_reducible refine ens_ite ?_ ?_ <;> intro _) | (with_reducible refine ens_bif ?_ ?_ <;> intro _) | (with_reducible refine ens_some ?_; try dsimp only)
  all_goals assumption

def TmOK (t : Bnd.Team) : Prop := t.2.1.length ≤ 3

def StOK (s : Bnd.Step) : Prop := SOK s ∧ s.2.2.1.length ≤ 3

def PoOK (p : Pol) : Prop := POK p ∧ ∀ s ∈ p.2.1, s.2.2.1.length ≤ 3

theorem book_spec (d : Dice) (hd : DOK d) : Ens (m12 ((), ((d, ()), ()))) (fun r => DOK r.2.1.1 ∧ BookOK (r.2.2.2.1, r.2.2.2.2.1, ()) ∧ 1 ≤ r.2.2.2.2.1.length ∧ r.2.2.2.2.1.length ≤ 3) := by
  have hw1 : ∀ x : Int, 0 ≤ x → x < 9 → w64 (1 + x) = 1 + x := fun x h0 h1 => w64_id (by omega) (by omega)
  have hT : ∀ (k : Int) (d : Dice), DOK d → 0 ≤ k → k ≤ 2 → Ens (loopT l12_0_3 ((k, ()), ((d, ()), (((), ()), (((), ()), ([], ())))))) (fun r => DOK r.2.1.1 ∧ r.2.2.2.2.1.length ≤ 2 ∧ ∀ t ∈ r.2.2.2.2.1, TmOK t) := fun k d hd hk0 hk1 => by
    refine ens_loop (fun v => DOK v.2.1.1 ∧ 0 ≤ v.1.1 ∧ (v.2.2.2.2.1.length : Int) + v.1.1 ≤ 2 ∧ ∀ t ∈ v.2.2.2.2.1, TmOK t) (fun v => v.1.1.toNat) ?_ _ ⟨hd, hk0, by simpa using hk1, fun t ht => by cases ht⟩
    rintro ⟨⟨j, ⟨⟩⟩, ⟨⟨d, ⟨⟩⟩, ⟨⟨⟩, ⟨⟩⟩, ⟨⟨⟩, ⟨⟩⟩, ts, ⟨⟩⟩⟩ ⟨hd, h0, h1, h2⟩
    dsimp only at hd h0 h1 h2 ⊢
    have hw : 0 < j → w64 (j - 1) = j - 1 := fun _ => w64_dn h0 (by omega)
    have hsnoc : ∀ x : Bnd.Team, TmOK x → ∀ p ∈ ts ++ [x], TmOK p := fun x hx p hp => by
      rcases List.mem_append.1 hp with hp | hp
      · exact h2 p hp
      · simp only [List.mem_singleton] at hp; subst hp; exact hx
    unfold l12_0_3
    dsimp only
    repeat' first | (with_reducible refine ens_tail (c19 _ _ (by assumption) (by omega)) ?_; rintro ⟨⟨_, ⟨⟩⟩, ⟨⟨_, ⟨⟩⟩, ⟨⟩⟩⟩ ⟨hdd, hlo, hhi⟩; dsimp only at hdd hlo hhi; try dsimp only) | (with_reducible refine ens_tail (c22 _ _ (by assumption) (by decide) (by decide)) ?_; rintro ⟨⟨_, ⟨⟩⟩, ⟨⟨_, ⟨⟩⟩, ⟨⟩⟩⟩ ⟨hdd, hm⟩; dsimp only at hdd; simp only [List.mem_cons, List.not_mem_nil, or_false] at hm; try dsimp only) | (with_reducible refine ens_at (by simp only [List.length_cons, List.length_nil]; omega) ?_; intro _ _ _; try dsimp only) | with_reducible refine ens_bind ?_ | (with_reducible refine ens_need ?_ ?_; first | exact And.intro (by omega) (by simp only [List.length_cons, List.length_nil]; omega) | (simp only [List.length_cons, List.length_nil]; omega)) | (with_reducible refine ens_ite ?_ ?_ <;> intro _) | (with_reducible refine ens_bif ?_ ?_ <;> intro _) | (with_reducible refine ens_some ?_; try dsimp only)
    all_goals first | exact ⟨hd, by omega, h2⟩ | (rw [hw (by omega)]; exact ⟨⟨by assumption, by omega, by rw [List.length_append, List.length_singleton]; omega, hsnoc _ (by show List.length _ ≤ 3; simp)⟩, by omega⟩)
  have hG : ∀ (k a b : Int) (d : Dice) (wu : Int × Bool × Unit) (nr : ByteArray × Int × Unit) (ts : List Bnd.Team) (ps : List Pol) (ss : List Bnd.Step), DOK d → 0 ≤ k → k ≤ 3 → ts.length ≤ 2 →
      Ens (loopT l12_0_18 ((k, a, b, ()), ((d, ()), ((wu, ()), (((), ()), ((nr, ()), (((), ()), ([], (ts, (ps, (ss, ()))))))))))) (fun r => DOK r.2.1.1 ∧ r.1 = (a, b, ()) ∧ r.2.2.2.1.1 = nr ∧ r.2.2.2.2.2.1.1 = wu ∧ r.2.2.2.2.2.2.1 = ts ∧ r.2.2.2.2.2.2.2.1 = ps ∧ r.2.2.2.2.2.2.2.2.1 = ss ∧ r.2.2.2.2.2.2.2.2.2.1.length ≤ 3) := fun k a b d wu nr ts ps ss hd hk0 hk1 hts => by
    refine ens_loop (fun v => DOK v.2.1.1 ∧ v.1.2 = (a, b, ()) ∧ v.2.2.1.1 = wu ∧ v.2.2.2.2.1.1 = nr ∧ v.2.2.2.2.2.2.2.1 = ts ∧ v.2.2.2.2.2.2.2.2.1 = ps ∧ v.2.2.2.2.2.2.2.2.2.1 = ss ∧ 0 ≤ v.1.1 ∧ (v.2.2.2.2.2.2.1.length : Int) + v.1.1 ≤ 3) (fun v => v.1.1.toNat) ?_ _ ⟨hd, rfl, rfl, rfl, rfl, rfl, rfl, hk0, by simpa using hk1⟩
    rintro ⟨⟨j, _⟩, ⟨⟨d, ⟨⟩⟩, ⟨_, ⟨⟩⟩, ⟨⟨⟩, ⟨⟩⟩, ⟨_, ⟨⟩⟩, ⟨⟨⟩, ⟨⟩⟩, tg, _, _, _, ⟨⟩⟩⟩ ⟨hd, rfl, rfl, rfl, rfl, rfl, rfl, h0, h1⟩
    dsimp only at *
    have hw : 0 < j → w64 (j - 1) = j - 1 := fun _ => w64_dn h0 (by omega)
    unfold l12_0_18
    dsimp only
    repeat' first | (with_reducible refine ens_tail (c42 _ _ (by assumption) (by assumption)) ?_; rintro ⟨⟨⟩, ⟨⟨_, ⟨⟩⟩, ⟨_, ⟨⟩⟩, ⟨⟩⟩⟩ hdd; dsimp only at hdd; try dsimp only) | with_reducible refine ens_bind ?_ | (with_reducible refine ens_need ?_ ?_; (simp only [List.length_cons, List.length_nil]; omega)) | (with_reducible refine ens_ite ?_ ?_ <;> intro _) | (with_reducible refine ens_some ?_; try dsimp only)
    all_goals first | exact ⟨hd, rfl, rfl, rfl, rfl, rfl, rfl, by omega⟩ | (rw [hw (by omega)]; exact ⟨⟨by assumption, rfl, rfl, rfl, rfl, rfl, rfl, by omega, by rw [List.length_append, List.length_singleton]; omega⟩, by omega⟩)
  have hL : ∀ (k i : Int) (d : Dice) (nr : ByteArray × Int × Unit) (ts : List Bnd.Team) (ps : List Pol), DOK d → 1 ≤ k → k ≤ 3 → ts.length ≤ 2 →
      Ens (loopT l12_0_14 ((k, i, ()), ((d, ()), (((), ()), ((nr, ()), (((), ()), (ts, (ps, ([], ()))))))))) (fun r => DOK r.2.1.1 ∧ r.1.1 = i ∧ r.2.2.2.2.1.1 = nr ∧ r.2.2.2.2.2.1 = ts ∧ r.2.2.2.2.2.2.1 = ps ∧ (1 ≤ r.2.2.2.2.2.2.2.1.length ∧ r.2.2.2.2.2.2.2.1.length ≤ 3) ∧ ∀ s ∈ r.2.2.2.2.2.2.2.1, StOK s) := fun k i d nr ts ps hd hk0 hk1 hts => by
    refine ens_loop (fun v => DOK v.2.1.1 ∧ v.1.2.1 = i ∧ v.2.2.2.1.1 = nr ∧ v.2.2.2.2.2.1 = ts ∧ v.2.2.2.2.2.2.1 = ps ∧ 0 ≤ v.1.1 ∧ (v.2.2.2.2.2.2.2.1.length : Int) + v.1.1 = k ∧ ∀ s ∈ v.2.2.2.2.2.2.2.1, StOK s) (fun v => v.1.1.toNat) ?_ _ ⟨hd, rfl, rfl, rfl, rfl, by simp only; omega, by simp, fun s hs => by cases hs⟩
    rintro ⟨⟨j, _, ⟨⟩⟩, ⟨⟨d, ⟨⟩⟩, ⟨⟨⟩, ⟨⟩⟩, ⟨_, ⟨⟩⟩, ⟨⟨⟩, ⟨⟩⟩, _, _, ss, ⟨⟩⟩⟩ ⟨hd, rfl, rfl, rfl, rfl, h0, h1, h2⟩
    dsimp only at *
    have hw : 0 < j → w64 (j - 1) = j - 1 := fun _ => w64_dn h0 (by omega)
    have hsnoc : ∀ x : Bnd.Step, StOK x → ∀ p ∈ ss ++ [x], StOK p := fun x hx p hp => by
      rcases List.mem_append.1 hp with hp | hp
      · exact h2 p hp
      · simp only [List.mem_singleton] at hp; subst hp; exact hx
    unfold l12_0_14
    dsimp only
    repeat' first | (with_reducible refine ens_tail (c19 _ _ (by assumption) (by omega)) ?_; rintro ⟨⟨_, ⟨⟩⟩, ⟨⟨_, ⟨⟩⟩, ⟨⟩⟩⟩ ⟨hdd, hlo, hhi⟩; dsimp only at hdd hlo hhi; try dsimp only) | (with_reducible refine ens_tail (c22 _ _ (by assumption) (by decide) (by decide)) ?_; rintro ⟨⟨_, ⟨⟩⟩, ⟨⟨_, ⟨⟩⟩, ⟨⟩⟩⟩ ⟨hdd, hm⟩; dsimp only at hdd; simp only [List.mem_cons, List.not_mem_nil, or_false] at hm; try dsimp only) | (with_reducible refine ens_tail (hG _ _ _ _ _ _ _ _ _ (by assumption) (by omega) (by omega) (by assumption)) ?_; rintro ⟨_, ⟨⟨_, ⟨⟩⟩, ⟨⟨⟩, ⟨⟩⟩, ⟨_, ⟨⟩⟩, ⟨⟨⟩, ⟨⟩⟩, ⟨_, ⟨⟩⟩, _, _, _, tg, ⟨⟩⟩⟩ ⟨hdd, rfl, rfl, rfl, rfl, rfl, rfl, htg⟩; try dsimp only at *) | with_reducible refine ens_bind ?_ | (with_reducible refine ens_need ?_ ?_; (simp only [List.length_cons, List.length_nil]; omega)) | (with_reducible refine ens_ite ?_ ?_ <;> intro _) | (with_reducible refine ens_some ?_; try dsimp only)
    all_goals first | exact ⟨hd, rfl, rfl, rfl, rfl, ⟨by omega, by omega⟩, h2⟩ | (rw [hw (by omega)]; exact ⟨⟨by assumption, rfl, rfl, rfl, rfl, by omega, by rw [List.length_append, List.length_singleton]; omega, hsnoc _ ⟨⟨by dsimp only; omega, by dsimp only; omega⟩, htg⟩⟩, by omega⟩)
  have hQ : ∀ (k : Int) (d : Dice) (ts : List Bnd.Team), DOK d → 1 ≤ k → k ≤ 3 → ts.length ≤ 2 →
      Ens (loopT l12_0_10 ((k, ()), ((d, ()), (((), ()), (((), ()), (ts, ([], ()))))))) (fun r => DOK r.2.1.1 ∧ r.2.2.2.2.1 = ts ∧ (1 ≤ r.2.2.2.2.2.1.length ∧ r.2.2.2.2.2.1.length ≤ 3) ∧ ∀ s ∈ r.2.2.2.2.2.1, PoOK s) := fun k d ts hd hk0 hk1 hts => by
    refine ens_loop (fun v => DOK v.2.1.1 ∧ v.2.2.2.2.1 = ts ∧ 0 ≤ v.1.1 ∧ (v.2.2.2.2.2.1.length : Int) + v.1.1 = k ∧ ∀ s ∈ v.2.2.2.2.2.1, PoOK s) (fun v => v.1.1.toNat) ?_ _ ⟨hd, rfl, by simp only; omega, by simp, fun s hs => by cases hs⟩
    rintro ⟨⟨j, ⟨⟩⟩, ⟨⟨d, ⟨⟩⟩, ⟨⟨⟩, ⟨⟩⟩, ⟨⟨⟩, ⟨⟩⟩, _, ps, ⟨⟩⟩⟩ ⟨hd, rfl, h0, h1, h2⟩
    dsimp only at *
    have hw : 0 < j → w64 (j - 1) = j - 1 := fun _ => w64_dn h0 (by omega)
    have hsnoc : ∀ x : Pol, PoOK x → ∀ p ∈ ps ++ [x], PoOK p := fun x hx p hp => by
      rcases List.mem_append.1 hp with hp | hp
      · exact h2 p hp
      · simp only [List.mem_singleton] at hp; subst hp; exact hx
    unfold l12_0_10
    dsimp only
    repeat' first | (with_reducible refine ens_tail (c19 _ _ (by assumption) (by omega)) ?_; rintro ⟨⟨_, ⟨⟩⟩, ⟨⟨_, ⟨⟩⟩, ⟨⟩⟩⟩ ⟨hdd, hlo, hhi⟩; dsimp only at hdd hlo hhi; try dsimp only) | (with_reducible refine ens_tail (c22 _ _ (by assumption) (by decide) (by decide)) ?_; rintro ⟨⟨_, ⟨⟩⟩, ⟨⟨_, ⟨⟩⟩, ⟨⟩⟩⟩ ⟨hdd, hm⟩; dsimp only at hdd; simp only [List.mem_cons, List.not_mem_nil, or_false] at hm; try dsimp only) | (with_reducible refine ens_tail (hL _ _ _ _ _ _ (by assumption) (by rw [hw1 _ (by omega) (by omega)]; omega) (by rw [hw1 _ (by omega) (by omega)]; omega) (by assumption)) ?_; rintro ⟨⟨_, ⟨⟩⟩, ⟨⟨_, ⟨⟩⟩, ⟨⟨⟩, ⟨⟩⟩, ⟨⟨⟩, ⟨⟩⟩, ⟨_, ⟨⟩⟩, _, _, ss, ⟨⟩⟩⟩ ⟨hdd, rfl, rfl, rfl, rfl, hsl, hss⟩; try dsimp only at *) | (with_reducible refine ens_at (by simp only [List.length_cons, List.length_nil]; omega) ?_; intro _ _ _; try dsimp only) | with_reducible refine ens_bind ?_ | (with_reducible refine ens_need ?_ ?_; first | exact And.intro (by omega) (by simp only [List.length_cons, List.length_nil]; omega) | (simp only [List.length_cons, List.length_nil]; omega)) | (with_reducible refine ens_ite ?_ ?_ <;> intro _) | (with_reducible refine ens_some ?_; try dsimp only)
    all_goals first | exact ⟨hd, rfl, ⟨by omega, by omega⟩, h2⟩ | (rw [hw (by omega)]; exact ⟨⟨by assumption, rfl, by omega, by rw [List.length_append, List.length_singleton]; omega, hsnoc _ ⟨⟨⟨by dsimp only; omega, by dsimp only; omega⟩, hsl, fun s hs => (hss s hs).1⟩, fun s hs => (hss s hs).2⟩⟩, by omega⟩)
  unfold m12
  dsimp only
  refine ens_call (c19 _ _ hd (by omega)) ?_
  rintro ⟨⟨x, ⟨⟩⟩, ⟨⟨d1, ⟨⟩⟩, ⟨⟩⟩⟩ ⟨hd1, a0, a1⟩
  dsimp only at hd1 a0 a1
  refine ens_call (hT x d1 hd1 a0 (by omega)) ?_
  rintro ⟨⟨⟩, ⟨⟨d2, ⟨⟩⟩, ⟨⟨⟩, ⟨⟩⟩, ⟨⟨⟩, ⟨⟩⟩, ts, ⟨⟩⟩⟩ ⟨hd2, t1, t2⟩
  dsimp only at hd2 t1 t2
  refine ens_call (c19 _ _ hd2 (by omega)) ?_
  rintro ⟨⟨y, ⟨⟩⟩, ⟨⟨d3, ⟨⟩⟩, ⟨⟩⟩⟩ ⟨hd3, b0, b1⟩
  dsimp only at hd3 b0 b1
  have w := hw1 y b0 (by omega)
  refine ens_call (hQ (w64 (1 + y)) d3 ts hd3 (by rw [w]; omega) (by rw [w]; omega) t1) ?_
  rintro ⟨⟨⟩, ⟨⟨d4, ⟨⟩⟩, ⟨⟨⟩, ⟨⟩⟩, ⟨⟨⟩, ⟨⟩⟩, _, ps, ⟨⟩⟩⟩ ⟨hd4, rfl, p1, p2⟩
  dsimp only at *
  exact ens_some ⟨hd4, ⟨⟨t1, t2⟩, p2⟩, p1.1, p1.2⟩

end Go.Proofs.YtcelhemfoehedaaGreat

namespace Go.Proofs.YtcelhemfoehedaaGreat
open Go Go.Abs Go.Bnd Go.Plain
theorem c15 (id pg at' : Int) (d : Dice) (hd : DOK d) (h1 : 1 ≤ id ∧ id ≤ 999) (h2 : 0 ≤ at' ∧ at' ≤ 8000000000) : Ens (m15 ((id, pg, at', ()), ((d, ()), ()))) (fun r => DOK r.2.1.1 ∧ AnOK r.2.2.1.1 ∧ aId r.2.2.1.1 = id ∧ aPage r.2.2.1.1 = pg ∧ aAt r.2.2.1.1 = at') := by
  have hw1 : ∀ x : Int, 0 ≤ x → x < 9 → w64 (1 + x) = 1 + x := fun x h0 h1 => w64_id (by omega) (by omega)
  have hw2 : ∀ x : Int, 0 ≤ x → x < 9 → w64 (x - 1) = x - 1 := fun x h0 h1 => w64_id (by omega) (by omega)
  unfold m15
  dsimp only
  repeat' first | (rw [hw1 _ (by omega) (by omega)]) | (rw [hw2 _ (by omega) (by omega)]) | (with_reducible refine ens_tail (c19 _ _ (by assumption) (by omega)) ?_; rintro ⟨⟨_, ⟨⟩⟩, ⟨⟨_, ⟨⟩⟩, ⟨⟩⟩⟩ ⟨hdd, hlo, hhi⟩; dsimp only at hdd hlo hhi; try dsimp only) | (with_reducible refine ens_tail (c22 _ _ (by assumption) (by decide) (by decide)) ?_; rintro ⟨⟨_, ⟨⟩⟩, ⟨⟨_, ⟨⟩⟩, ⟨⟩⟩⟩ ⟨hdd, hm⟩; dsimp only at hdd; simp only [List.mem_cons, List.not_mem_nil, or_false] at hm; try dsimp only) | with_reducible exact True.intro | (with_reducible refine ens_at (by omega) ?_; intro _ _ _; try dsimp only) | with_reducible refine ens_bind ?_ | with_reducible refine ens_t ?_ | with_reducible refine ens_f ?_ | with_reducible refine ens_nt ?_ | with_reducible refine ens_nf ?_ | (with_reducible refine ens_need ?_ ?_; first | exact And.intro (by omega) (by omega) | omega | (simp only [List.length_append, List.length_cons, List.length_nil]; omega)) | (with_reducible refine ens_ite ?_ ?_ <;> intro _) | (with_reducible refine ens_bif ?_ ?_ <;> intro _) | (with_reducible refine ens_some ?_; try dsimp only) | (with_reducible refine ens_row (by omega) (by omega) ?_; intro _ _ _; try dsimp only) | (with_reducible refine ens_sum ?_ ?_ <;> (intro _ e; subst e; try dsimp only))
  all_goals refine ⟨by assumption, ?_, rfl, rfl, rfl⟩
  all_goals (try simp only [beq_iff_eq, beq_eq_false_iff_ne] at *)
  all_goals exact ⟨h1, by dsimp only [aWho]; omega, by dsimp only [aKind]; omega, by dsimp only [aKind, aArg]; omega, by dsimp only [aKind, aArg]; omega, by dsimp only [aKind, aArg]; omega, h2⟩

end Go.Proofs.YtcelhemfoehedaaGreat

namespace Go.Proofs.YtcelhemfoehedaaGreat
open Go Go.Abs Go.Bnd Go.Plain
theorem m9_true : m9 ((), ()) = some ((true, ()), ()) := by kernel_rfl

abbrev YT : (Bool × Unit) × Unit := ((true, ()), ())

theorem ne_zero : ((0 : Int) != 0) = false := rfl

theorem ens_tt {o : Option ((Bool × Unit) × Unit)} (h : Ens o (fun r => r = YT)) : o = some YT := by
  obtain ⟨_, rfl, rfl⟩ := h
  rfl

theorem dok_start {x : List Int} (h : (x.length : Int) ≤ 500) : DOK (x, 0, ()) := ⟨Int.le_refl _, by show (0 : Int) ≤ (x.length : Int); omega, by show x.length ≤ 500; omega⟩

/-- What is left of a page's waits when something is due. -/
theorem lat_due {ps : List Bnd.Pol} {pol : Pol} {n : Nat} {p : PgT} (h : PG ps pol n p) (hd : Dues p) : lat pol n p = dueP p + rest pol n ∧ pLast p ≤ dueP p ∧ lat pol n p ≤ 9000000000 := by
  unfold lat dueP
  rcases hd with h0 | h2
  · have := h.op h0
    rw [if_pos h0, if_pos h0]; omega
  · have := h.sno h2
    have hn : ¬ pState p = 0 := by omega
    rw [if_neg hn, if_pos h2, if_neg hn]; omega

end Go.Proofs.YtcelhemfoehedaaGreat

namespace Go.Proofs.YtcelhemfoehedaaGreat
open Go Go.Abs Go.Bnd Go.Plain
end Go.Proofs.YtcelhemfoehedaaGreat

namespace Go.Proofs.YtcelhemfoehedaaGreat
open Go Go.Abs Go.Bnd Go.Plain
theorem m52_three {a : Int} (h0 : 0 ≤ a) (h1 : a ≤ 100000) : m52 (([a, 345600, 2400], ()), ()) = some ((a + 345600 + 2400, ()), ()) := by
  unfold m52
  rw [loopT_inl (a' := ((1, a, [a, 345600, 2400], 3, ()), ())) (by unfold l52_0_3; simp [Abs.rowAt, w64_id (x := a) (by omega) (by omega), w64_id (x := 1) (by omega) (by omega)])]
  rw [loopT_inl (a' := ((2, a + 345600, [a, 345600, 2400], 3, ()), ())) (by unfold l52_0_3; simp [Abs.rowAt, w64_id (x := a + 345600) (by omega) (by omega), w64_id (x := 2) (by omega) (by omega)])]
  rw [loopT_inl (a' := ((3, a + 345600 + 2400, [a, 345600, 2400], 3, ()), ())) (by unfold l52_0_3; simp [Abs.rowAt, w64_id (x := a + 345600 + 2400) (by omega) (by omega), w64_id (x := 3) (by omega) (by omega)])]
  rw [loopT_inr (d := ((a + 345600 + 2400, ()), ())) (by unfold l52_0_3; simp)]
  rfl

theorem S_end {p : Pol} (hp : POK p) : 0 ≤ S p.2.1 (cnt p) ∧ S p.2.1 (cnt p) ≤ 8100 := by
  obtain ⟨c1, c2, c3⟩ := cnt_le hp
  have := S_bound (l := p.2.1) (by have := hp.2.1.1; omega) hp.2.2 (cnt p)
  omega

theorem m21_eq {p : Pol} (hp : POK p) : m21 ((p, ()), ()) = some ((S p.2.1 (cnt p) + 345600 + 2400, ()), ()) := by
  obtain ⟨c1, c2, c3⟩ := cnt_le hp
  have h := S_end hp
  unfold m21
  have h0 : m57 ((p, (0, ())), ()) = some ((0, true, ()), ()) := m57_eq hp (k := 0) (by omega)
  have hne : ((cnt p : Int) == 0) = false := by simpa using (show ¬ (cnt p = 0) by omega)
  simp only [h0, cnt58 hp, hne, m59_eq hp, m52_three h.1 (show S p.2.1 (cnt p) ≤ 100000 by omega), sS]

/-- A page of which no one has said that he has it: when it has ended at the latest. -/
def JB (ps : List Bnd.Pol) (pol : Pol) (p : PgT) (n : Nat) : Prop := PG ps pol n p ∧ pId p = 1 ∧ (Dues p → lat pol n p ≤ 864000 + S pol.2.1 (cnt pol) + 86400 * pSn p + 600 * pHd p)

theorem JB.run {ps : List Bnd.Pol} {pol : Pol} {p p' : PgT} {n n' : Nat} {now : Int} (h : JB ps pol p n) (r : RunsTo ps pol n p now n' p') : JB ps pol p' n' := by
  refine ⟨r.pg, r.same.id.trans h.2.1, fun hd => ?_⟩
  have := h.2.2 (r.was hd)
  have := r.lat
  rw [r.same.sn, r.same.hd]
  omega

theorem JB.ans {ps : List Bnd.Pol} {pol : Pol} {p p' : PgT} {n : Nat} {a : AnT} (h : JB ps pol p n) (ha : AnOK a) (hs : pState p ≠ 1) (k : AnsTo ps pol n p a p') : JB ps pol p' n := by
  refine ⟨k.pg, k.id.trans h.2.1, fun hd => ?_⟩
  have h0 := h.1.state
  obtain ⟨w1, w2⟩ := k.was
  rcases ha.kind with e | e | e | e | e
  · have := (k.k1 e).1
    rcases hd with h | h <;> omega
  · obtain ⟨e1, e2, e3, e4⟩ := k.k2 e
    have hd' : Dues p := by unfold Dues; rw [← e1]; exact hd
    have := h.2.2 hd'
    rw [e3, e4]; omega
  · obtain ⟨e1, e2, e3, e4⟩ := k.k3 e
    have hd' : Dues p := by
      have : pState p ≠ 3 := fun e' => by have := w2 e'; omega
      unfold Dues; omega
    have h1 := h.2.2 hd'
    have h2 := (lat_due h.1 hd').1
    have h3 := k.ord.2 hd'
    have h4 := (ha.arg3 e).2
    rw [e2, e3, e4]; omega
  · obtain ⟨e1, e2, e3, e4⟩ := k.k4 e
    have hd' : Dues p := by
      have : pState p ≠ 3 := fun e' => by have := w2 e'; omega
      unfold Dues; omega
    have h1 := h.2.2 hd'
    have h2 := (lat_due h.1 hd').1
    have h3 := k.ord.2 hd'
    rw [e2, e3, e4]; omega
  · have := (k.k5 e).1
    rcases hd with h | h <;> omega

theorem m23_eq (p : PgT) : m23 ((p, ()), ()) = some ((decide (pState p = 3 ∨ pState p = 4), ()), ()) := by
  obtain ⟨_, _, _, _, _, s, _, _, _, _, _, _, _, _, ⟨⟩⟩ := p
  unfold m23
  dsimp only [pState]
  by_cases h : s = 3
  · subst h; rfl
  · have e : (s == 3) = false := beq_false_of_ne h
    simp only [e, sS, h, false_or]
    rfl

theorem loop5 {b1 : List Bnd.Team} {b2 : List Bnd.Pol} {c1 : List ZoneT} {c2 : List PersT} {c3 : List SchT} (hc : CrewOK (c1, c2, [], c3, ())) (hb : BookOK (b1, b2, ())) (hbl : b2.length ≤ 1000) {pol : Pol} {n : Nat} {p : PgT} (hp : JB b2 pol p n) (hs : pState p ≠ 1) (d : Dice) (hd : DOK d) :
    Ens (loopT l5_0_11 ((0, 864000 + (S pol.2.1 (cnt pol) + 345600 + 2400), 864000, ()), ((core p, ()), (((), ()), ((d, ()), (((), ()), (pSts p, (pDec p, (pSeen p, (b1, (b2, (c1, (c2, (c3, ()))))))))))))) ) (fun r => r = .inl YT ∨ r = .inr ((), ())) := by
  refine ens_loop (fun v => 0 ≤ v.1.1 ∧ 0 ≤ v.1.2.2.1 ∧ v.1.2.2.1 ≤ 864000 + 5000 * v.1.1 ∧ ∃ p n d, DOK d ∧ JB b2 pol p n ∧ pState p ≠ 1 ∧ v = ((v.1.1, 864000 + (S pol.2.1 (cnt pol) + 345600 + 2400), v.1.2.2.1, ()), ((core p, ()), (((), ()), ((d, ()), (((), ()), (pSts p, (pDec p, (pSeen p, (b1, (b2, (c1, (c2, (c3, ())))))))))))))) (fun v => (14 - v.1.1).toNat) ?_ _ ⟨Int.le_refl _, by dsimp only; omega, by dsimp only; omega, p, n, d, hd, hp, hs, rfl⟩
  clear hp hs hd d n p
  rintro ⟨⟨k, _, now, ⟨⟩⟩, r⟩ ⟨h0, h1, h2, p, n, d, hd, hp, hs, e⟩
  obtain ⟨e1, rfl⟩ := Prod.mk.inj e
  have e4 := congrArg (fun v => v.2.1) e1
  dsimp only at e4
  subst e4
  clear e e1
  dsimp only at h0 h1 h2 ⊢
  unfold l5_0_11
  refine ens_ite (fun hk => ?_) (fun hk => ens_some (.inr rfl))
  have hk : k < 14 := hk
  have hw : w64 (k + 1) = k + 1 := w64_up h0 (by omega)
  refine ens_call (c22 _ d hd (by decide) (by decide)) ?_
  rintro ⟨⟨x, ⟨⟩⟩, ⟨⟨d1, ⟨⟩⟩, ⟨⟩⟩⟩ ⟨hd1, hx⟩
  dsimp only at hd1
  simp only [List.mem_cons, List.not_mem_nil, or_false] at hx
  have hx0 : 0 ≤ x ∧ x ≤ 5000 := by omega
  clear hx
  have hwx : w64 (now + x) = now + x := w64_id (by omega) (by omega)
  obtain ⟨p1, n1, q14, r⟩ := run14 hc hb hbl hp.1 (now + x)
  have hp1 := hp.run r
  have hs1 : pState p1 ≠ 1 := fun e => hs (r.acked e)
  obtain ⟨_, _, _, _, _, _, _, _, _, _, _, _, _, _, ⟨⟩⟩ := p
  obtain ⟨i, po, st, nx, du, s, by', un, la, sn, hd', sts, dec, seen, ⟨⟩⟩ := p1
  dsimp only [core, pSts, pDec, pSeen, ret] at q14 ⊢
  simp only [hw, hwx, q14, ne_zero, sS]
  -- what the answer makes of the page
  refine ens_call (R := fun v => ∃ p n d, DOK d ∧ JB b2 pol p n ∧ v = ((864000 + (S pol.2.1 (cnt pol) + 345600 + 2400), now + x, k, ()), ((core p, ()), (((), ()), ((d, ()), (((), ()), (pSts p, (pDec p, (pSeen p, (b1, (b2, (c1, (c2, (c3, ())))))))))))))) ?_ ?_
  · refine ens_call (c15 (k + 1) 1 (now + x) _ hd1 (by omega) (by omega)) ?_
    rintro ⟨⟨⟩, ⟨⟨d4, ⟨⟩⟩, ⟨a, ⟨⟩⟩, ⟨⟩⟩⟩ ⟨hd4, ha, ha1, ha2, ha3⟩
    dsimp only at hd4 ha ha1 ha2 ha3
    obtain ⟨e, p2, q16, k1, _⟩ := answer16 (c := (c1, c2, [], c3, ())) (b := (b1, b2, ())) hbl hp1.1 ha (ha2.trans hp1.2.1.symm)
    have hp2 : e = 0 → JB b2 pol p2 n1 := fun e0 => by
      rcases k1 e0 with ⟨rfl, _⟩ | k1
      · exact hp1
      · exact hp1.ans ha hs1 k1
    clear k1
    obtain ⟨i2, po2, st2, nx2, du2, s2, by2, un2, la2, sn2, hd2', sts2, dec2, seen2, ⟨⟩⟩ := p2
    dsimp only [core, pSts, pDec, pSeen, ret] at q16 ⊢
    simp only [q16, sS]
    refine ens_bif (fun he => ?_) (fun _ => ?_)
    · exact ens_some ⟨_, n1, d4, hd4, hp2 (beq_iff_eq.1 he), rfl⟩
    · exact ens_some ⟨_, n1, d4, hd4, hp1, rfl⟩
  · rintro _ ⟨p2, n2, d2, hd2, hp2, rfl⟩
    have l2 := latest17 (b := (b1, b2, ())) hbl hp2.1
    have l3 := m23_eq p2
    have hst := hp2.1.state
    have hsn := hp2.1.sn
    have hhd := hp2.1.hd
    obtain ⟨a1, a2, a3, a4, a5, s2, a7, a8, a9, a10, a11, a12, a13, a14, ⟨⟩⟩ := p2
    dsimp only [core, pSts, pDec, pSeen, pState, pSn, pHd] at l2 l3 hst hsn hhd ⊢
    refine ens_bif (fun he => ?_) (fun he => ?_)
    · simp only [m9_true, sS]
      exact ens_some (.inl rfl)
    · have he : s2 ≠ 1 := fun e => by rw [e] at he; cases he
      have hfin : s2 = 3 ∨ s2 = 4 ∨ lat pol n2 (a1, a2, a3, a4, a5, s2, a7, a8, a9, a10, a11, a12, a13, a14, ()) ≤ 864000 + (S pol.2.1 (cnt pol) + 345600 + 2400) := by
        by_cases hx : s2 = 3 ∨ s2 = 4
        · rcases hx with h | h
          · exact .inl h
          · exact .inr (.inl h)
        · have := hp2.2.2 (show s2 = 0 ∨ s2 = 2 by omega)
          refine .inr (.inr (Int.le_trans this ?_))
          show 864000 + S pol.2.1 (cnt pol) + 86400 * a10 + 600 * a11 ≤ _
          omega
      simp only [l2, sS]
      refine ens_call (R := fun v => v = ((false, 864000 + (S pol.2.1 (cnt pol) + 345600 + 2400), now + x, k, ()), ((core (a1, a2, a3, a4, a5, s2, a7, a8, a9, a10, a11, a12, a13, a14, ()), ()), (((), ()), ((d2, ()), (((), ()), (a12, (a13, (a14, (b1, (b2, (c1, (c2, (c3, ()))))))))))))) ) ?_ ?_
      · refine ens_ite (fun hgt => ?_) (fun _ => ens_some rfl)
        have hcl : s2 = 3 ∨ s2 = 4 := by
          rcases hfin with h | h | h
          · exact .inl h
          · exact .inr h
          · exact absurd hgt (Int.not_lt.2 h)
        simp only [l3, hcl, sS]
        exact ens_some rfl
      · rintro _ rfl
        dsimp only
        simp only [hw, sS]
        exact ens_some ⟨⟨by dsimp only; omega, by dsimp only; omega, by dsimp only; omega, _, n2, d2, hd2, hp2, he, rfl⟩, by dsimp only; omega⟩

theorem law5' (x : List Int) : m5 ((x, ()), ()) = some ((true, ()), ()) := by
  refine ens_tt ?_
  unfold m5
  simp only [m8, m10, m9_true, sS]
  refine ens_bif (fun _ => ens_some rfl) (fun hx => ?_)
  have hx' : (x.length : Int) ≤ 500 := by simpa using hx
  clear hx
  refine ens_call (crew_spec _ (dok_start hx')) ?_
  rintro ⟨⟨⟩, ⟨⟨d1, ⟨⟩⟩, _, c1, c2, c3, ⟨⟩⟩⟩ ⟨hd1, hc⟩
  dsimp only at hd1 hc
  refine ens_call (book_spec _ hd1) ?_
  rintro ⟨⟨⟩, ⟨⟨d2, ⟨⟩⟩, _, b1, b2, ⟨⟩⟩⟩ ⟨hd2, hb, hbl⟩
  dsimp only at hd2 hb hbl
  have hbl' : b2.length ≤ 1000 := by have := hbl.2; omega
  refine ens_call (c19 _ _ hd2 (by dsimp only; omega)) ?_
  rintro ⟨⟨z, ⟨⟩⟩, ⟨⟨d3, ⟨⟩⟩, ⟨⟩⟩⟩ ⟨hd3, z0, z1⟩
  dsimp only at hd3 z0 z1
  have hz : z < (b2.length : Int) := z1 (by have := hbl.1; omega)
  have q20 := new_ok (b := (b1, b2, ())) (id := 1) (pol := z) (st := 864000) (by omega) (by omega) ⟨z0, hz⟩ (by dsimp only; omega)
  simp only [q20, ne_zero, sS]
  have hzl : z.toNat < b2.length := by omega
  have hpol := hb.2 _ (List.getElem_mem hzl)
  have hgz : b2[z.toNat]? = some b2[z.toNat] := List.getElem?_eq_getElem hzl
  refine ens_need ⟨z0, hz⟩ ?_
  simp only [hgz, sS]
  generalize b2[z.toNat] = pol at hpol hgz
  have hrest := rest_bound hpol.1 (Nat.zero_le (cnt pol))
  have hS := S_end hpol.1
  have hw : w64 (864000 + (S pol.2.1 (cnt pol) + 345600 + 2400)) = 864000 + (S pol.2.1 (cnt pol) + 345600 + 2400) := w64_id (by omega) (by omega)
  simp only [m21_eq hpol.1, hw, sS]
  have hpg : JB b2 pol (1, z, 864000, 0, 864000, 0, -1, 0, 864000, 0, 0, [], [], [], ()) 0 := by
    refine ⟨⟨by dsimp only [pId]; omega, z0, hgz, hpol.1, by dsimp only [pStart]; omega, rfl, Nat.zero_le _, by dsimp only [pState]; omega, by dsimp only [pBy]; omega, by dsimp only [pStart, pLast]; omega, by dsimp only [pDue]; omega, by dsimp only [pUntil]; omega, by dsimp only [pSn]; omega, by dsimp only [pHd]; omega, trivial, Int.le_refl _, by show ((0 : Nat) : Int) ≤ ((0 : Nat) : Int) + 0; omega, set_nil, ⟨List.nodup_nil, Nat.zero_le _, fun x hx => by cases hx⟩, fun _ => ⟨Int.le_refl _, by dsimp only [pDue]; omega⟩, fun e => by dsimp only [pState] at e; omega⟩, rfl, fun _ => ?_⟩
    show (864000 : Int) + rest pol 0 ≤ 864000 + S pol.2.1 (cnt pol) + 86400 * 0 + 600 * 0
    unfold rest
    simp only [S]
    omega
  refine ens_call (loop5 hc hb hbl' hpg (by dsimp only [pState]; omega) d3 hd3) ?_
  rintro _ (rfl | rfl)
  · exact ens_some rfl
  · exact ens_some rfl

theorem law5 : ∀ x, Abs.InRs [.row (.int .i64)] x → m5 (x, ()) = some ((true, ()), ()) := fun x _ => law5' x.1

end Go.Proofs.YtcelhemfoehedaaGreat
