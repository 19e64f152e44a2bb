/- Lemmas for the statement of the last text of this claim. -/
import Derived.Test.YtcblbcpnfidndaaDoorChecked
import Derived.Shelf.Strings.OnBuilder
import Derived.Shelf.Strings.IndexAnyAll
import Derived.Shelf.Strings.Search1
import Derived.ProofKit
import Derived.Test.YtcblbcpnfidndaaDoorPxO
import Derived.WalkKit
import Derived.BigCall
import Derived.Test.YtcblbcpnfidndaaDoorPlD
import Derived.Deep.RegionLaw
import Derived.Deep.LoopGhost
import Derived.Lib.Walk
import Derived.Maps.Own
import Derived.Shelf.RegionOpenPlain
import Derived.Lib.LazyBuf
import Derived.Test.YtcblbcpnfidndaaDoorV10A
set_option linter.unusedSimpArgs false
set_option linter.unusedVariables false
namespace Go.Proofs.YtcblbcpnfidndaaDoor
open Go Go.Abs Go.Lab
def mch (l : List RtT) (x : List LT) (k : Nat) : Bool := match l[k]? with | some r => allM r.2.1 x | none => false

def cnt (l : List RtT) (k : Nat) : Bool := match l[k]? with | some r => r.2.2.2.2.2.2.2.1 | none => false

/-- The way from a route down to another. -/
inductive Down (l : List RtT) (x : List LT) : Nat → Nat → Prop where
  | here (i : Nat) (h : ∀ c ∈ chN l (i : Int), mch l x c = false) : Down l x i i
  | step (i k j : Nat) (hk : k ∈ chN l (i : Int)) (hm : mch l x k = true) (hs : ∀ c ∈ chN l (i : Int), c < k → mch l x c = true → cnt l c = true) (h : Down l x k j) : Down l x i j

theorem goC_mem {rec : Nat → List Nat} {l : List RtT} {x : List LT} : ∀ {ks : List Nat}, ks.Pairwise (· < ·) → (∀ k ∈ ks, k < l.length) → ∀ j ∈ goC rec l x ks, ∃ k ∈ ks, mch l x k = true ∧ j ∈ rec k ∧ ∀ c ∈ ks, c < k → mch l x c = true → cnt l c = true
  | [], _, _, j, hj => by cases hj
  | k :: ks, hp, hl, j, hj => by
    obtain ⟨r, hr⟩ := getD_some (hl k (List.mem_cons_self ..))
    unfold goC at hj
    rw [hr] at hj
    simp only at hj
    have hp := List.pairwise_cons.1 hp
    have hm : mch l x k = allM r.2.1 x := by unfold mch; rw [hr]
    have hc : cnt l k = r.2.2.2.2.2.2.2.1 := by unfold cnt; rw [hr]
    have tail : j ∈ goC rec l x ks → (mch l x k = true → cnt l k = true) → ∃ k' ∈ k :: ks, mch l x k' = true ∧ j ∈ rec k' ∧ ∀ c ∈ k :: ks, c < k' → mch l x c = true → cnt l c = true := fun h hk => by
      obtain ⟨k', h1, h2, h3, h4⟩ := goC_mem hp.2 (fun y hy => hl y (List.mem_cons_of_mem _ hy)) j h
      refine ⟨k', List.mem_cons_of_mem _ h1, h2, h3, fun c hcm hlt hmc => ?_⟩
      rcases List.mem_cons.1 hcm with rfl | hcm
      · exact hk hmc
      · exact h4 c hcm hlt hmc
    cases hq : allM r.2.1 x
    · rw [hq] at hj
      exact tail hj (fun h => by rw [hm, hq] at h; cases h)
    · rw [hq] at hj
      simp only [cond_true] at hj
      rcases List.mem_append.1 hj with h | h
      · refine ⟨k, List.mem_cons_self .., by rw [hm, hq], h, fun c hcm hlt => ?_⟩
        rcases List.mem_cons.1 hcm with rfl | hcm
        · omega
        · have := hp.1 c hcm; omega
      · cases hco : r.2.2.2.2.2.2.2.1
        · rw [hco] at h; cases h
        · rw [hco] at h
          exact tail h (fun _ => by rw [hc, hco])

theorem findN_ne (l : List RtT) (x : List LT) (n i : Nat) : findN l x (n + 1) i ≠ [] := by
  unfold findN
  split
  · simp
  · assumption

/-- Without results no child matches. -/
theorem goC_nil {rec : Nat → List Nat} {l : List RtT} {x : List LT} : ∀ {ks : List Nat}, (∀ k ∈ ks, k < l.length ∧ rec k ≠ []) → goC rec l x ks = [] → ∀ c ∈ ks, mch l x c = false
  | [], _, _, c, hc => by cases hc
  | k :: ks, hl, h, c, hc => by
    obtain ⟨r, hr⟩ := getD_some (hl k (List.mem_cons_self ..)).1
    unfold goC at h
    rw [hr] at h
    simp only at h
    have hm : mch l x k = allM r.2.1 x := by unfold mch; rw [hr]
    cases hq : allM r.2.1 x
    · rw [hq] at h
      rcases List.mem_cons.1 hc with rfl | hc
      · rw [hm, hq]
      · exact goC_nil (fun y hy => hl y (List.mem_cons_of_mem _ hy)) h c hc
    · rw [hq] at h
      simp only [cond_true] at h
      exact absurd (List.append_eq_nil_iff.1 h).1 (hl k (List.mem_cons_self ..)).2

theorem find_down {l : List RtT} (hl : TOK l) (x : List LT) : ∀ (n i : Nat), l.length - i ≤ n → i < l.length → ∀ j ∈ findN l x n i, Down l x i j
  | 0, i, h, hi, j, hj => by omega
  | n + 1, i, h, hi, j, hj => by
    have hc : ∀ k ∈ chN l (i : Int), k < l.length ∧ findN l x n k ≠ [] := fun k hk => by
      obtain ⟨a, b⟩ := ch_ok hl hk
      obtain ⟨m, rfl⟩ : ∃ m, n = m + 1 := ⟨n - 1, by omega⟩
      exact ⟨b, findN_ne l x m k⟩
    unfold findN at hj
    split at hj
    · rename_i h0
      simp only [List.mem_singleton] at hj
      subst hj
      exact .here j (goC_nil hc h0)
    · obtain ⟨k, h1, h2, h3, h4⟩ := goC_mem (chN_sorted l _) (fun k hk => (hc k hk).1) j hj
      obtain ⟨a, b⟩ := ch_ok hl h1
      exact .step i k j h1 h2 h4 (find_down hl x n k (by omega) b j h3)

theorem path_fuel {l : List RtT} (hl : TOK l) : ∀ (n m i : Nat), i < n → i < m → i < l.length → pathN l n i = pathN l m i
  | 0, _, _, h, _, _ => by omega
  | _ + 1, 0, _, _, h, _ => by omega
  | n + 1, m + 1, i, hn, hm, hi => by
    unfold pathN
    by_cases h0 : i = 0
    · rw [if_pos h0, if_pos h0]
    · rw [if_neg h0, if_neg h0]
      obtain ⟨r, hr⟩ := getD_some hi
      obtain ⟨p1, p2⟩ := hl.par i r hr (by omega)
      rw [hr]
      simp only
      rw [path_fuel hl n m r.1.toNat (by omega) (by omega) (by omega)]

theorem path_child {l : List RtT} (hl : TOK l) {i k : Nat} (hk : k ∈ chN l (i : Int)) : pathN l 400 k = pathN l 400 i ++ [k] := by
  obtain ⟨a, b⟩ := ch_ok hl hk
  obtain ⟨r, hr, hi⟩ := chN_mem.1 hk
  have hlen := hl.len
  rw [show (400 : Nat) = 399 + 1 from rfl]
  conv => lhs; unfold pathN
  rw [if_neg (by omega), hr]
  simp only
  rw [hi, Int.toNat_natCast, path_fuel hl 399 (399 + 1) i (by omega) (by omega) (by omega)]

/-- What is right on the way to a route. -/
def PathOK (l : List RtT) (x : List LT) (p : List Nat) : Prop :=
  (∀ k ∈ p, k < l.length ∧ mch l x k = true) ∧ ∀ (k a b : Nat), p[k]? = some a → p[k + 1]? = some b → ∀ c ∈ chN l (a : Int), c < b → mch l x c = true → cnt l c = true

theorem path_last {l : List RtT} (hl : TOK l) {i : Nat} (hi : i < l.length) : ∃ q, pathN l 400 i = q ++ [i] := by
  have hlen := hl.len
  rw [show (400 : Nat) = 399 + 1 from rfl]
  unfold pathN
  by_cases h0 : i = 0
  · rw [if_pos h0, h0]; exact ⟨[], rfl⟩
  · rw [if_neg h0]
    obtain ⟨r, hr⟩ := getD_some hi
    rw [hr]
    exact ⟨_, rfl⟩

theorem down_path {l : List RtT} (hl : TOK l) {x : List LT} {i j : Nat} (h : Down l x i j) : i < l.length → PathOK l x (pathN l 400 i) → ∃ s, pathN l 400 j = pathN l 400 i ++ s ∧ PathOK l x (pathN l 400 j) ∧ j < l.length ∧ ∀ c ∈ chN l (j : Int), mch l x c = false := by
  induction h with
  | here i h => intro hi hp; exact ⟨[], by simp, hp, hi, h⟩
  | step i k j hk hm hs h ih =>
    intro hi hp
    obtain ⟨a, b⟩ := ch_ok hl hk
    have e := path_child hl hk
    have hp2 : PathOK l x (pathN l 400 k) := by
      rw [e]
      refine ⟨fun y hy => ?_, fun n a b ha hb => ?_⟩
      · rcases List.mem_append.1 hy with h | h
        · exact hp.1 y h
        · simp only [List.mem_singleton] at h; subst h; exact ⟨by assumption, hm⟩
      · by_cases hn : n + 1 < (pathN l 400 i).length
        · rw [List.getElem?_append_left (by omega)] at ha hb
          exact hp.2 n a b ha hb
        · have hlt := (List.getElem?_eq_some_iff.1 hb).1
          rw [List.length_append, List.length_singleton] at hlt
          obtain ⟨q, hq⟩ := path_last hl hi
          have hl2 : (pathN l 400 i).length = q.length + 1 := by rw [hq]; simp
          obtain rfl : n = q.length := by omega
          rw [List.getElem?_append_left (by omega), hq, List.getElem?_append_right (Nat.le_refl _), Nat.sub_self] at ha
          rw [List.getElem?_append_right (by omega), show q.length + 1 - (pathN l 400 i).length = 0 by omega] at hb
          simp at ha hb
          subst ha; subst hb
          exact hs
    obtain ⟨s, h1, h2, h3, h4⟩ := ih b hp2
    exact ⟨[k] ++ s, by rw [h1, e, List.append_assoc], h2, h3, h4⟩

theorem root_path {l : List RtT} (hl : TOK l) (x : List LT) : PathOK l x (pathN l 400 0) := by
  have e : pathN l 400 0 = [0] := rfl
  rw [e]
  refine ⟨fun k hk => ?_, fun k a b ha hb => ?_⟩
  · simp only [List.mem_singleton] at hk
    subst hk
    obtain ⟨r, hr⟩ := getD_some hl.pos
    refine ⟨hl.pos, ?_⟩
    unfold mch
    rw [hr]
    simp only [(hl.root r hr).2]
    rfl
  · simp at hb

theorem goC_nodup {rec : Nat → List Nat} {l : List RtT} {x : List LT} : ∀ {ks : List Nat}, ks.Pairwise (· < ·) → (∀ k ∈ ks, k < l.length ∧ (rec k).Nodup) → (∀ k ∈ ks, ∀ k' ∈ ks, ∀ j, j ∈ rec k → j ∈ rec k' → k = k') → (goC rec l x ks).Nodup
  | [], _, _, _ => List.nodup_nil
  | k :: ks, hp, hl, hd => by
    obtain ⟨h1, h2⟩ := hl k (List.mem_cons_self ..)
    obtain ⟨r, hr⟩ := getD_some h1
    have hp := List.pairwise_cons.1 hp
    have ih := goC_nodup (rec := rec) (l := l) (x := x) hp.2 (fun y hy => hl y (List.mem_cons_of_mem _ hy)) (fun a ha b hb => hd a (List.mem_cons_of_mem _ ha) b (List.mem_cons_of_mem _ hb))
    unfold goC
    rw [hr]
    simp only
    cases allM r.2.1 x
    · exact ih
    · simp only [cond_true]
      cases r.2.2.2.2.2.2.2.1
      · simp only [cond_false, List.append_nil]; exact h2
      · simp only [cond_true]
        refine List.nodup_append.2 ⟨h2, ih, fun a ha b hb e => ?_⟩
        subst e
        obtain ⟨k', g1, _, g3, _⟩ := goC_mem hp.2 (fun y hy => (hl y (List.mem_cons_of_mem _ hy)).1) a hb
        have := hd k (List.mem_cons_self ..) k' (List.mem_cons_of_mem _ g1) a ha g3
        have := hp.1 k' g1
        omega

theorem down_pre {l : List RtT} (hl : TOK l) {x : List LT} {i j : Nat} (h : Down l x i j) : ∃ s, pathN l 400 j = pathN l 400 i ++ s := by
  induction h with
  | here i h => exact ⟨[], by simp⟩
  | step i k j hk hm hs h ih =>
    obtain ⟨s, hs⟩ := ih
    exact ⟨[k] ++ s, by rw [hs, path_child hl hk, List.append_assoc]⟩

theorem findN_nodup {l : List RtT} (hl : TOK l) (x : List LT) : ∀ (n i : Nat), l.length - i ≤ n → i < l.length → (findN l x n i).Nodup
  | 0, _, h, hi => by omega
  | n + 1, i, h, hi => by
    unfold findN
    split
    · simp
    · refine goC_nodup (chN_sorted l _) (fun k hk => ?_) (fun k hk k' hk' j hj hj' => ?_)
      · obtain ⟨a, b⟩ := ch_ok hl hk
        exact ⟨b, findN_nodup hl x n k (by omega) b⟩
      · obtain ⟨a, b⟩ := ch_ok hl hk
        obtain ⟨a', b'⟩ := ch_ok hl hk'
        obtain ⟨s, hs⟩ := down_pre hl (find_down hl x n k (by omega) b j hj)
        obtain ⟨s', hs'⟩ := down_pre hl (find_down hl x n k' (by omega) b' j hj')
        rw [path_child hl hk] at hs
        rw [path_child hl hk', hs, List.append_assoc, List.append_assoc] at hs'
        have := List.append_cancel_left hs'
        simp at this
        exact this.1

/-- All that is said of a found route. -/
theorem found {l : List RtT} (hl : TOK l) {x : List LT} {j : Nat} (hj : j ∈ findN l x 400 0) :
    j < l.length ∧ (∃ q, pathN l 400 j = 0 :: q) ∧ (∃ q, pathN l 400 j = q ++ [j]) ∧ PathOK l x (pathN l 400 j) ∧ ∀ c ∈ chN l (j : Int), mch l x c = false := by
  have hlen := hl.len
  obtain ⟨s, h1, h2, h3, h4⟩ := down_path hl (find_down hl x 400 0 (by omega) hl.pos j hj) hl.pos (root_path hl x)
  exact ⟨h3, ⟨s, h1⟩, path_last hl h3, h2, h4⟩

end Go.Proofs.YtcblbcpnfidndaaDoor

namespace Go.Proofs.YtcblbcpnfidndaaDoor
open Go Go.Abs Go.Lab
theorem mpGet_put {α : Type} (n k : Int) (x : α) : ∀ l : List (Int × α), mpGet k (mpSet n x l) = if k = n then some x else mpGet k l
  | [] => by
    simp only [mpSet, mpGet]
  | p :: r => by
    simp only [mpSet]
    by_cases h : n = p.1
    · rw [if_pos h]
      simp only [mpGet]
      by_cases hk : k = p.1
      · rw [if_pos hk, if_pos (by omega)]
      · rw [if_neg hk, if_neg (by omega), if_neg hk]
    · rw [if_neg h]
      simp only [mpGet]
      by_cases hk : k = p.1
      · rw [if_pos hk, if_neg (by omega), if_pos hk]
      · rw [if_neg hk, if_neg hk]
        exact mpGet_put n k x r

theorem mch_at {l : List RtT} {x : List LT} {k : Nat} {r : RtT} (h : l[k]? = some r) : mch l x k = allM r.2.1 x := by unfold mch; rw [h]

theorem cnt_at {l : List RtT} {k : Nat} {r : RtT} (h : l[k]? = some r) : cnt l k = r.2.2.2.2.2.2.2.1 := by unfold cnt; rw [h]

theorem ints_at {p : List Nat} {k a : Nat} (h : p[k]? = some a) : (ints p)[k]? = some (a : Int) := by rw [List.getElem?_map, h]; rfl

theorem ints_bd {p : List Nat} {k : Nat} (h : k < p.length) : decide ((0 : Int) ≤ (k : Int) ∧ (k : Int) < (((ints p).length : Nat) : Int)) = true := decide_eq_true (by rw [List.length_map]; omega)

theorem rt_bd {l : List RtT} {k : Nat} (h : k < l.length) : decide ((0 : Int) ≤ (k : Int) ∧ (k : Int) < ((l.length : Nat) : Int)) = true := decide_eq_true (by omega)

theorem loop10a (l : List RtT) (hl : TOK l) (x : List LT) (hx : LSz x) (P : List Nat) (k a b : Nat) (hk : P[k + 1]? = some b)
    (hs : ∀ c ∈ chN l (a : Int), c < b → mch l x c = true → cnt l c = true) (n i e pl : Int) (seen : List (Int × Bool)) (F : List Int) :
    loopT l10_0_25 ((0, ((k + 1 : Nat) : Int), n, i, e, pl, ((k + 1 : Nat) : Int), (((ints (chN l (a : Int))).length : Nat) : Int), ()), (l, x, ints P, ints (chN l (a : Int)), seen, F, ())) = some (.inr ((n, i, e, pl, ((k + 1 : Nat) : Int), ()), (l, x, ints P, seen, F, ()))) := by
  have hc := ch_len hl (a : Int)
  rw [List.length_map]
  refine loop_thru (f := l10_0_25) (chN l (a : Int)) (fun j => (((j : Int), ((k + 1 : Nat) : Int), n, i, e, pl, ((k + 1 : Nat) : Int), (((chN l (a : Int)).length : Nat) : Int), ()), (l, x, ints P, ints (chN l (a : Int)), seen, F, ()))) _ ?_ ?_
  · intro j c hcj hj
    have hw : w64 ((j : Int) + 1) = ((j + 1 : Nat) : Int) := w64_nat (by omega)
    have hm := List.mem_of_getElem? hcj
    obtain ⟨c1, c2⟩ := ch_ok hl hm
    obtain ⟨r, hr⟩ := getD_some c2
    have hp := hl.psz (List.mem_of_getElem? hr)
    have hkl := (List.getElem?_eq_some_iff.1 hk).1
    by_cases hlt : c < b
    · have d1 : decide ((c : Int) < (b : Int)) = true := decide_eq_true (by omega)
      cases hq : allM r.2.1 x
      · simp only [l10_0_25, lt_t hj, ints_bd hj, Int.toNat_natCast, ints_at hcj, ints_bd hkl, ints_at hk, d1, rt_bd c2, hr, m31_eq r.2.1 x hp hx, hq, hw, sumE, sS]
      · have hcn := hs c hm hlt (by rw [mch_at hr, hq])
        rw [cnt_at hr] at hcn
        simp only [l10_0_25, lt_t hj, ints_bd hj, Int.toNat_natCast, ints_at hcj, ints_bd hkl, ints_at hk, d1, rt_bd c2, hr, m31_eq r.2.1 x hp hx, hq, hcn, hw, sumE, sS]
    · have d1 : decide ((c : Int) < (b : Int)) = false := decide_eq_false (by omega)
      simp only [l10_0_25, lt_t hj, ints_bd hj, Int.toNat_natCast, ints_at hcj, ints_bd hkl, ints_at hk, d1, hw, sumE, sS]
  · simp only [l10_0_25, lt_f, sumE, sS]

theorem loop10b (l : List RtT) (hl : TOK l) (x : List LT) (hx : LSz x) (P : List Nat) (hP : PathOK l x P) (hpl : P.length ≤ 400) (n i e : Int) (seen : List (Int × Bool)) (F : List Int) :
    loopT l10_0_19 ((0, n, i, e, (((ints P).length : Nat) : Int), ()), (l, x, ints P, seen, F, ())) = some (.inr ((n, i, e, ()), (x, l, seen, F, ()))) := by
  rw [List.length_map]
  refine loop_thru (f := l10_0_19) P (fun k => (((k : Int), n, i, e, ((P.length : Nat) : Int), ()), (l, x, ints P, seen, F, ()))) _ ?_ ?_
  · intro k b hb hk
    have hw : w64 ((k : Int) + 1) = ((k + 1 : Nat) : Int) := w64_nat (by omega)
    obtain ⟨g1, g2⟩ := hP.1 b (List.mem_of_getElem? hb)
    obtain ⟨r, hr⟩ := getD_some g1
    have hp := hl.psz (List.mem_of_getElem? hr)
    rw [mch_at hr] at g2
    by_cases h0 : k = 0
    · subst h0
      simp only [l10_0_19, lt_t hk, ints_bd hk, Int.toNat_natCast, ints_at hb, rt_bd g1, hr, m31_eq r.2.1 x hp hx, g2, show (((0 : Nat) : Int) == 0) = true from rfl, hw, sumE, sumE, sS]
    · obtain ⟨m, rfl⟩ : ∃ m, k = m + 1 := ⟨k - 1, by omega⟩
      obtain ⟨a, ha⟩ := getD_some (l := P) (i := m) (by omega)
      have hw1 : w64 (((m + 1 : Nat) : Int) - 1) = (m : Int) := by rw [w64_id (by omega) (by omega)]; omega
      have hlen := hl.len
      have q := loop10a l hl x hx P m a b hb (hP.2 m a b ha hb) n i e ((P.length : Nat) : Int) seen F
      simp only [l10_0_19, lt_t hk, ints_bd hk, Int.toNat_natCast, ints_at hb, rt_bd g1, hr, m31_eq r.2.1 x hp hx, g2, beq_eq_false_iff_ne.2 (show ((m + 1 : Nat) : Int) ≠ 0 by omega), hw1, ints_bd (p := P) (k := m) (by omega), ints_at ha, m60_eq l (by omega) (a : Int), sumE, sS]
      refine bind_of _ (bind_of _ q rfl) ?_
      simp only [sumE, hw]
  · simp only [l10_0_19, lt_f, sumE, sS]

theorem loop10c (l : List RtT) (hl : TOK l) (x : List LT) (hx : LSz x) (e : Nat) (hs : ∀ c ∈ chN l (e : Int), mch l x c = false) (n i : Int) (seen : List (Int × Bool)) (F : List Int) :
    loopT l10_0_32 ((0, n, i, (((ints (chN l (e : Int))).length : Nat) : Int), ()), (x, l, ints (chN l (e : Int)), seen, F, ())) = some (.inr ((n, i, ()), (l, x, seen, F, ()))) := by
  have hc := ch_len hl (e : Int)
  rw [List.length_map]
  refine loop_thru (f := l10_0_32) (chN l (e : Int)) (fun j => (((j : Int), n, i, (((chN l (e : Int)).length : Nat) : Int), ()), (x, l, ints (chN l (e : Int)), seen, F, ()))) _ ?_ ?_
  · intro j c hcj hj
    have hw : w64 ((j : Int) + 1) = ((j + 1 : Nat) : Int) := w64_nat (by omega)
    have hm := List.mem_of_getElem? hcj
    obtain ⟨c1, c2⟩ := ch_ok hl hm
    obtain ⟨r, hr⟩ := getD_some c2
    have hp := hl.psz (List.mem_of_getElem? hr)
    have hq := hs c hm
    rw [mch_at hr] at hq
    simp only [l10_0_32, lt_t hj, ints_bd hj, Int.toNat_natCast, ints_at hcj, rt_bd c2, hr, m31_eq r.2.1 x hp hx, hq, hw, sumE, sS]
  · simp only [l10_0_32, lt_f, sumE, sS]

theorem law10c (t : List Int) : m10 ((t, ()), ()) = some ((true, ()), ()) := by
  unfold m10
  simp only [light, sumE, sS]
  by_cases ht : t.length ≤ 500
  · simp only [decide_eq_true ht, sumE, sS, roll]
    obtain ⟨l, d1, e1, hd1, hl⟩ := routes_spec 8 _ (dok0 ht) (by omega) (by omega)
    obtain ⟨x, d2, e2, hd2, hx⟩ := labels_spec d1 hd1
    have hlen := hl.len
    have hk := from_k hx
    have hv := from_valid hx
    have hxz := (from_good hx).z
    have tl := tok_of hl.chk
    have q0 := m48_eq l hl.z x hk
    have f0 : findE l x = findN l x 400 0 := by unfold findE; rw [if_pos ⟨hl.chk, hv⟩]
    rw [f0] at q0
    have hnd := findN_nodup tl x 400 0 (by omega) hl.pos
    have hfl : (findN l x 400 0).length ≤ 16777216 := by
      have := findN_len tl x 400 0 hl.pos
      exact small tl 1 this
    have hall : ∀ j ∈ findN l x 400 0, _ := fun j hj => found tl hj
    have hne : findN l x 400 0 ≠ [] := findN_ne l x 399 0
    generalize findN l x 400 0 = F at q0 hnd hfl hall hne
    have h0 : (((ints F).length : Int) == 0) = false := beq_eq_false_iff_ne.2 (by
      rw [List.length_map]
      intro e
      exact hne (List.length_eq_zero_iff.1 (by omega)))
    have main : loopT l10_0_10 ((0, (((ints F).length : Nat) : Int), ()), (l, x, [], ints F, ())) = some (.inr ((), ())) := by
      rw [List.length_map]
      refine drop_e (loop_ind (f := l10_0_10) (Q := fun b => b = .inr ((), ())) (fun i st => ∃ seen : List (Int × Bool), (∀ j : Nat, j ∉ F.take i → (mpGet (j : Int) seen).getD false = false) ∧ st = (((i : Int), ((F.length : Nat) : Int), ()), (l, x, seen, ints F, ()))) F.length ?_ ?_ _ ⟨[], fun _ _ => rfl, rfl⟩)
      · rintro i _ hi ⟨seen, hsn, rfl⟩
        obtain ⟨j, hj⟩ := getD_some (l := F) (i := i) hi
        obtain ⟨g1, ⟨p1, g2⟩, ⟨p2, g3⟩, g4, g5⟩ := hall j (List.mem_of_getElem? hj)
        have hjn : j ∉ F.take i := by
          intro hm
          obtain ⟨k, hk, he⟩ := List.mem_iff_getElem.1 hm
          rw [List.length_take] at hk
          rw [List.getElem_take] at he
          have := (List.getElem_inj hnd (h₀ := by omega) (h₁ := hi)).1 (he.trans (List.getElem?_eq_some_iff.1 hj).2.symm)
          omega
        have hw : w64 ((i : Int) + 1) = ((i + 1 : Nat) : Int) := w64_nat (by omega)
        have d1 : decide ((j : Int) < 0) = false := decide_eq_false (by omega)
        have d2 : decide ((j : Int) ≥ ((l.length : Nat) : Int)) = false := decide_eq_false (by omega)
        have hpe : pathE l (j : Int) = pathN l 400 j := by
          unfold pathE
          rw [if_pos ⟨hl.chk, by omega, by omega⟩, Int.toNat_natCast]
        have qp := m51_eq l hl.z (j : Int)
        rw [hpe] at qp
        have hpl := pathN_len l 400 j
        have hpl0 : 0 < (pathN l 400 j).length := by rw [g2]; simp
        have z0 : (((ints (pathN l 400 j)).length : Int) == 0) = false := beq_eq_false_iff_ne.2 (by rw [List.length_map]; omega)
        have b0 : decide ((0 : Int) ≤ 0 ∧ (0 : Int) < (((ints (pathN l 400 j)).length : Nat) : Int)) = true := decide_eq_true (by rw [List.length_map]; omega)
        have a0 : (ints (pathN l 400 j))[0]? = some 0 := by rw [g2]; rfl
        have wl : w64 ((((ints (pathN l 400 j)).length : Nat) : Int) - 1) = (((pathN l 400 j).length - 1 : Nat) : Int) := by rw [List.length_map, w64_id (by omega) (by omega)]; omega
        have al : (ints (pathN l 400 j))[(pathN l 400 j).length - 1]? = some (j : Int) := by
          refine ints_at ?_
          rw [g3]
          simp
        have q1 := loop10b l tl x hxz (pathN l 400 j) g4 hpl ((F.length : Nat) : Int) (i : Int) (j : Int) (mpSet (j : Int) true seen) (ints F)
        have q2 := loop10c l tl x hxz j g5 ((F.length : Nat) : Int) (i : Int) (mpSet (j : Int) true seen) (ints F)
        refine ⟨_, ?_, mpSet (j : Int) true seen, fun k hk => ?_, rfl⟩
        · simp only [l10_0_10, lt_t hi, ints_bd hi, Int.toNat_natCast, ints_at hj, hsn j hjn, d1, d2, qp, z0, b0, a0, wl, ints_bd (p := pathN l 400 j) (k := (pathN l 400 j).length - 1) (by omega), al, sumE, sS]
          refine bind_of _ q1 ?_
          simp only [sumE, m60_eq l (by omega) (j : Int), sumE, sS]
          refine bind_of _ q2 ?_
          simp only [hw]
        · rw [List.take_add_one, hj] at hk
          simp only [Option.toList_some, List.mem_append, List.mem_singleton, not_or] at hk
          rw [mpGet_put, if_neg (by omega)]
          exact hsn k hk.1
      · rintro _ ⟨seen, _, rfl⟩
        refine ⟨_, ?_, rfl⟩
        simp only [l10_0_10, lt_f, sumE, sS]
    simp only [e1, e2, q0, h0, sumE, sS]
    refine bind_of _ main ?_
    simp only [sumE, sane21, sumE, sS]
  · simp only [decide_eq_false ht, sumE, sS, sane21]

theorem law10 : ∀ x, Abs.InRs [.row (.int .i64)] x → m10 (x, ()) = some ((true, ()), ()) := fun x _ => law10c x.1

end Go.Proofs.YtcblbcpnfidndaaDoor
