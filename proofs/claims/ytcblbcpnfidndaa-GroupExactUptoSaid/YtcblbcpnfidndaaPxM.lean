/- Calls told by hand: a map of functions that is only read; slices.Delete. -/
import Derived.Test.YtcblbcpnfidndaaPxL
set_option linter.unusedSimpArgs false
set_option linter.unusedVariables false
namespace Go.Abs
open Go

/-! ### A map of functions -/

def fmS (l : List (Int × FuncId × List FuncId)) : SCall := fun args sub => match args, sub with
  | [], [] => .ret (.fm l, [], [])
  | _, _ => .fail

/-- What a function makes that returns a new map of functions. -/
def MakesFm (l : List (Int × FuncId × List FuncId)) (w : World) (e : Ending) (w' : World) : Prop :=
  ∃ r es clock, e = .returned (.map (some r)) ∧ w.heap.size ≤ r ∧ w'.heap[r]? = some (.map es clock) ∧ es.size = l.length ∧
    (∀ (i : Nat) (k : Int) (f : FuncId) (gs : List FuncId), l[i]? = some (k, f, gs) → ∃ (e : MapEntry) (cs : Array Value), es[i]? = some e ∧ e.key = .int .i64 k ∧ e.val = .func (.func f) #[] cs ∧ cs.size = gs.length ∧
      ∀ (j : Nat) (g : FuncId), gs[j]? = some g → ∃ b, cs.getD j undef = .pointer (some ⟨b, 0, none⟩) ∧ w.heap.size ≤ b ∧ w'.cell? ⟨b, 0, none⟩ = some (.func (.func g) #[] #[])) ∧
    w'.os = w.os ∧ w'.tape = w.tape ∧ w'.output = w.output ∧ w.heap.size ≤ w'.heap.size ∧ ∀ i, i < w.heap.size → w'.heap[i]? = w.heap[i]?

theorem cell_same {w w' : World} {b : Nat} (h : w'.heap[b]? = w.heap[b]?) (o : Nat) : w'.cell? ⟨b, o, none⟩ = w.cell? ⟨b, o, none⟩ := by
  simp only [World.cell?, h]

theorem fm_ok {P : Program} {f : FuncId} {l : List (Int × FuncId × List FuncId)} (hent : Entered P f) (h : ∀ w, Calls P f #[] w (MakesFm l w)) : CallOK P f (fmS l) := by
  intro args sub out hc ℓ0 ℓ' _ _
  refine ⟨hent, ?_⟩
  unfold fmS at hc
  split at hc
  · have := Tr.mean_ret hc
    subst this
    intro Y w ρ vals hr hsz _
    have hv : vals = #[] := by
      apply Array.eq_empty_of_size_eq_zero
      simpa using hsz
    subst hv
    refine (h w).mono ?_
    rintro e w' ⟨r, es, clock, rfl, h1, h2, h3, h4, h5, h6, h7, h8, h9⟩
    have hH : ∀ g, get (heapBack (([] : List (Option Blk))) ([] : List Blk)) g = none := fun g => by simp [get, heapBack]
    have hXX : ∀ b o, ¬ XX ρ (heapBack [] []) b o := by
      rintro b o ⟨g, k, a1, _⟩
      rw [hH] at a1; cases a1
    have hXX0 : ∀ b o, ¬ XX ρ (heapOf []) b o := by
      rintro b o ⟨g, k, a1, _⟩
      have : get (heapOf []) g = none := by simp [get, heapOf]
      rw [this] at a1; cases a1
    have hY : ∀ b o, w.heap.size ≤ b → ¬ XU Y ρ (heapBack [] []) b o := by
      rintro b o hb (hx | hy)
      · exact hXX b o hx
      · have := hr.ylt b o hy; omega
    refine ⟨_, ρ, rfl, ?_, ?_, ?_, fun _ _ h => h⟩
    · refine ⟨fun g k hg => ?_, fun g g' k k' b hg => ?_, fun g b hb => ?_, fun g b hb => ?_, fun g k b o hg => ?_, fun b o hy => ?_⟩
      · exact absurd ((hH g).symm.trans hg) (by simp)
      · exact absurd ((hH g).symm.trans hg) (by simp)
      · exact hr.dom g b hb
      · have := hr.lt g b hb; omega
      · exact absurd ((hH g).symm.trans hg) (by simp)
      · have := hr.ylt b o hy; omega
    · refine .pur _ _ (.fm r l es clock (fun o => hY r o h1) h2 h3 (fun i k f gs hi => ?_))
      obtain ⟨e, cs, e1, e2, e3, e4, e5⟩ := h4 i k f gs hi
      refine ⟨e, cs, e1, e2, e3, e4, fun j g hj => ?_⟩
      obtain ⟨b, b1, b2, b3⟩ := e5 j g hj
      exact ⟨b, b1, hY b 0 b2, b3⟩
    · refine ⟨h5, h6, h7, h8, fun b o hb _ => ⟨hXX b o, cell_same (h9 b hb) o⟩, fun b hb => ?_, fun b hb _ => h9 b hb⟩
      simp only [bsize, h9 b hb]
  · exact (Tr.mean_fail hc).elim

/-! ### slices.Delete -/

def delS (t : Ty) : SCall := fun args sub => match args, sub with
  | [.own t' g, .int .i64 i, .int .i64 j], [.arr t2 l .zero] =>
    .when (decide (t' = t ∧ g = (0, 0) ∧ 0 < t.size)) (if h : t2 = t then
      .need (decide (0 ≤ i ∧ i < j ∧ j ≤ l.length ∧ l.length ≤ 4294967296)) (.ret (.own t (1, 0), [.dead l.length], [.arr t ((h ▸ l : List t.den).take i.toNat ++ (h ▸ l : List t.den).drop j.toNat) .zero])) else .fail)
  | _, _ => .fail

/-- What slices.Delete makes of a block whose slice begins it: the elements behind are moved to the left. -/
def MakesDel (sz b n cap i j : Nat) (w : World) (cs : Array Value) (T : TypeId) (e : Ending) (w' : World) : Prop :=
  ∃ cs' : Array Value, e = .returned (.slice (some ⟨b, 0, none⟩) (n - (j - i)) cap) ∧ w'.heap[b]? = some (.cells cs' T (0, 0)) ∧ cs'.size = cs.size ∧
    (∀ k, k < i * sz → cs'.getD k undef = cs.getD k undef) ∧ (∀ k, i * sz ≤ k → k < (n - (j - i)) * sz → cs'.getD k undef = cs.getD (k + (j - i) * sz) undef) ∧
    w'.os = w.os ∧ w'.tape = w.tape ∧ w'.output = w.output ∧ w'.heap.size = w.heap.size ∧ ∀ k, k ≠ b → w'.heap[k]? = w.heap[k]?

theorem del_ok {P : Program} {f : FuncId} {t : Ty} (hent : Entered P f)
    (h : ∀ (w : World) (b n cap i j : Nat) (cs : Array Value) (T : TypeId), w.heap[b]? = some (.cells cs T (0, 0)) → cap * t.size ≤ cs.size → (∀ k, k < n * t.size → (cs.getD k undef).oneCell' = true) → i < j → j ≤ n → n ≤ cap → n ≤ 4294967296 →
      Calls P f #[.slice (some ⟨b, 0, none⟩) n cap, .int .i64 i, .int .i64 j] w (MakesDel t.size b n cap i j w cs T)) : CallOK P f (delS t) := by
  intro args sub out hc ℓ0 ℓ' hs0 hs'
  refine ⟨hent, ?_⟩
  unfold delS at hc
  split at hc
  · rename_i t' g i j t2 l
    obtain ⟨q1, hc2⟩ := Tr.mean_when hc
    clear hc
    obtain ⟨rfl, rfl, hps⟩ := of_decide_eq_true q1
    split at hc2
    · rename_i ht2
      subst ht2
      obtain ⟨q2, hc3⟩ := Tr.mean_need hc2
      obtain ⟨i0, ij, jl, ll⟩ := of_decide_eq_true q2
      have := Tr.mean_ret hc3
      subst this
      clear hc2 hc3 q1 q2
      simp only at hs'
      obtain ⟨i, rfl⟩ := Int.eq_ofNat_of_zero_le i0
      obtain ⟨j, rfl⟩ := Int.eq_ofNat_of_zero_le (show 0 ≤ j by omega)
      simp only [Int.toNat_natCast] at hs' ⊢
      have hl0 : ℓ0 (0, 0) = l.length := hs0 0 _ rfl
      have hl1 : ℓ' (1, 0) = l.length - (j - i) := by
        have := hs' 1 _ rfl
        rw [this]
        simp only [SB.len, List.length_append, List.length_take, List.length_drop]
        omega
      intro Y w ρ vals hr hsz hv
      have hsz3 : vals.size = 3 := by simpa using hsz
      have v0 := hv 0 _ rfl
      have v1 := hv 1 _ rfl
      have v2 := hv 2 _ rfl
      have hvals : vals = #[vals.getD 0 undef, vals.getD 1 undef, vals.getD 2 undef] := by
        apply Array.ext
        · simp [hsz3]
        · intro k hk _
          have : k = 0 ∨ k = 1 ∨ k = 2 := by omega
          rcases this with rfl | rfl | rfl <;> simp [Array.getD, hsz3]
      rw [hvals]
      generalize vals.getD 0 undef = a0 at v0
      generalize vals.getD 1 undef = a1 at v1
      generalize vals.getD 2 undef = a2 at v2
      rw [v1.intInv, v2.intInv]
      have v0 : VR w (XU Y ρ (heapOf [⟨t2.size, l.map (enc t2), 0, false⟩])) ρ a0 (.own (0, 0) t2.size 0 l.length) := by
        rw [← hl0]; exact v0
      have hr : HR Y w ρ (heapOf [⟨t2.size, l.map (enc t2), 0, false⟩]) := hr
      rcases v0.ownInv with ⟨_, _, hlen⟩ | ⟨b, cap, rfl, hρ, hb, hcap, hk⟩
      · omega
      have hg : get (heapOf [⟨t2.size, l.map (enc t2), 0, false⟩]) (0, 0) = some ⟨t2.size, l.map (enc t2), 0, false⟩ := rfl
      obtain ⟨cs, T, hh, hel⟩ := (hr.at hg hρ).cells hps
      have hbs : bsize w b = cs.size := by simp [bsize, hh]
      rw [hbs] at hk
      simp only [Nat.zero_mul, Nat.zero_add] at hk ⊢
      have hone : ∀ k, k < l.length * t2.size → (cs.getD k undef).oneCell' = true := by
        intro k hk'
        have hp : 0 < t2.size := by
          rcases Nat.eq_zero_or_pos t2.size with h0 | h0
          · rw [h0] at hk'; omega
          · exact h0
        have hq : k / t2.size < l.length := (Nat.div_lt_iff_lt_mul hp).2 hk'
        have hx : (l.map (enc t2))[k / t2.size]? = some (enc t2 l[k / t2.size]) := by rw [List.getElem?_map, List.getElem?_eq_getElem hq]; rfl
        obtain ⟨c1, c2⟩ := hel.2 _ _ hx
        have hm : k % t2.size < (enc t2 l[k / t2.size]).cells.length := by rw [c1]; exact Nat.mod_lt _ hp
        have := (c2 (k % t2.size) _ (List.getElem?_eq_getElem hm)).1
        rwa [show k / t2.size * t2.size + k % t2.size = k by rw [Nat.mul_comm]; exact Nat.div_add_mod k t2.size] at this
      refine (h w b l.length cap i j cs T hh hk hone (by omega) (by omega) hcap ll).mono ?_
      rintro e w' ⟨cs', rfl, m1, m2, m3, m4, m5, m6, m7, m8, m9⟩
      have hel' : ElemsAt false w (XU Y ρ (heapOf [⟨t2.size, l.map (enc t2), 0, false⟩])) ρ cs' t2.size ((l.take i ++ l.drop j).map (enc t2)) := by
        obtain ⟨s1, s2⟩ := hel
        have hlen' : (l.take i ++ l.drop j).length = l.length - (j - i) := by
          simp only [List.length_append, List.length_take, List.length_drop]; omega
        refine ⟨?_, fun q x hq => ?_⟩
        · rw [List.length_map, hlen', m2]
          refine Nat.le_trans ?_ s1
          rw [List.length_map]
          exact Nat.mul_le_mul_right _ (by omega)
        · rw [List.getElem?_map] at hq
          obtain ⟨y, hy, rfl⟩ := Option.map_eq_some_iff.1 hq
          have hql := (List.getElem?_eq_some_iff.1 hy).1
          rw [hlen'] at hql
          rcases Nat.lt_or_ge q i with hlt | hge
          · rw [List.getElem?_append_left (by rw [List.length_take]; omega), List.getElem?_take_of_lt hlt] at hy
            obtain ⟨c1, c2⟩ := s2 q (enc t2 y) (by rw [List.getElem?_map, hy]; rfl)
            replace c1 : (enc t2 y).cells.length = t2.size := c1
            refine ⟨c1, fun r u hu => ?_⟩
            have hrl := (List.getElem?_eq_some_iff.1 hu).1
            rw [c1] at hrl
            have hpos : q * t2.size + r < i * t2.size := by
              have := Nat.mul_le_mul_right t2.size (show q + 1 ≤ i by omega)
              rw [Nat.add_mul, Nat.one_mul] at this
              omega
            rw [m3 _ hpos]
            exact c2 r u hu
          · rw [List.getElem?_append_right (by rw [List.length_take]; omega), List.getElem?_drop, List.length_take, show j + (q - min i l.length) = q + (j - i) by omega] at hy
            obtain ⟨c1, c2⟩ := s2 (q + (j - i)) (enc t2 y) (by rw [List.getElem?_map, hy]; rfl)
            replace c1 : (enc t2 y).cells.length = t2.size := c1
            refine ⟨c1, fun r u hu => ?_⟩
            have hrl := (List.getElem?_eq_some_iff.1 hu).1
            rw [c1] at hrl
            have h1 : i * t2.size ≤ q * t2.size + r := Nat.le_trans (Nat.mul_le_mul_right _ hge) (Nat.le_add_right _ _)
            have h2 : q * t2.size + r < (l.length - (j - i)) * t2.size := by
              have := Nat.mul_le_mul_right t2.size (show q + 1 ≤ l.length - (j - i) by omega)
              rw [Nat.add_mul, Nat.one_mul] at this
              omega
            rw [m4 _ h1 h2, show q * t2.size + r + (j - i) * t2.size = (q + (j - i)) * t2.size + r by rw [Nat.add_mul]; omega]
            exact c2 r u hu
      obtain ⟨w1, w2⟩ := hr.write (k1 := ⟨t2.size, (l.take i ++ l.drop j).map (enc t2), 0, false⟩) hg hρ hps m5 m6 m7 m8 m9 hh m1 m2 (fun o ho => by simp at ho) rfl (Nat.le_refl _) hel'
      have hset : Abs.set (heapOf [⟨t2.size, l.map (enc t2), 0, false⟩]) (0, 0) (some ⟨t2.size, (l.take i ++ l.drop j).map (enc t2), 0, false⟩) = [[some ⟨t2.size, (l.take i ++ l.drop j).map (enc t2), 0, false⟩]] := rfl
      rw [hset] at w1 w2
      generalize hk1 : (⟨t2.size, (l.take i ++ l.drop j).map (enc t2), 0, false⟩ : Blk) = k1 at w1 w2
      have hfr : k1.frz = 0 := by rw [← hk1]
      have hbx : k1.box = false := by rw [← hk1]
      have hnone : ρ (1, 0) = none := by
        cases hq : ρ (1, 0) with
        | none => rfl
        | some c => have := w1.dom _ _ hq; simp at this
      have old1 : ∀ g k, get [[some k1]] g = some k → g = (0, 0) ∧ k = k1 := by
        rintro ⟨x, y⟩ k hg'
        match x, y, hg' with
        | 0, 0, hg' => simp [get] at hg'; exact ⟨rfl, hg'.symm⟩
        | 0, y + 1, hg' => simp [get] at hg'
        | x + 1, y, hg' => simp [get] at hg'
      have new1 : ∀ g k, get (heapBack [none] [k1]) g = some k → g = (1, 0) ∧ k = k1 := by
        rintro ⟨x, y⟩ k hg'
        match x, y, hg' with
        | 0, 0, hg' => simp [get, heapBack] at hg'
        | 0, y + 1, hg' => simp [get, heapBack] at hg'
        | 1, 0, hg' => simp [get, heapBack] at hg'; exact ⟨rfl, hg'.symm⟩
        | 1, y + 1, hg' => simp [get, heapBack] at hg'
        | x + 2, y, hg' => simp [get, heapBack] at hg'
      have hupd : upd ρ (1, 0) b (1, 0) = some b := by simp [upd]
      have hXX : XX (upd ρ (1, 0) b) (heapBack [none] [k1]) = XX ρ [[some k1]] := by
        funext c o
        apply propext
        constructor
        · rintro ⟨g, k, a1, a2, a3⟩
          obtain ⟨rfl, e⟩ := new1 g k a1
          rw [hupd] at a2
          cases a2
          rw [e] at a3
          exact ⟨(0, 0), k1, rfl, hρ, a3⟩
        · rintro ⟨g, k, a1, a2, a3⟩
          obtain ⟨rfl, e⟩ := old1 g k a1
          rw [hρ] at a2
          cases a2
          rw [e] at a3
          exact ⟨(1, 0), k1, rfl, hupd, a3⟩
      have hXU : XU Y (upd ρ (1, 0) b) (heapBack [none] [k1]) = XU Y ρ [[some k1]] := by
        funext c o
        simp only [XU, hXX]
      have hsub : ∀ g c, ρ g = some c → upd ρ (1, 0) b g = some c := by
        intro g c hgc
        unfold upd
        split
        · rename_i e; rw [e, hnone] at hgc; cases hgc
        · exact hgc
      have goal : HR Y w' (upd ρ (1, 0) b) (heapBack [none] [k1]) ∧ VR w' (XU Y (upd ρ (1, 0) b) (heapBack [none] [k1])) (upd ρ (1, 0) b) (.slice (some ⟨b, 0, none⟩) (l.length - (j - i)) cap) (.own (1, 0) t2.size 0 (l.length - (j - i))) ∧
          Stable w (XX ρ (heapOf [⟨t2.size, l.map (enc t2), 0, false⟩])) w' (XX (upd ρ (1, 0) b) (heapBack [none] [k1])) := by
        refine ⟨⟨fun g k hgk => ?_, fun g g' k k' c h1 h2 _ _ => ?_, fun g c hgc => ?_, fun g c hgc => ?_, fun g k c o hgk hgc => ?_, fun c o hy => w1.ylt c o hy⟩, ?_, ?_⟩
        · obtain ⟨rfl, e⟩ := new1 g k hgk
          rw [e]
          right
          refine ⟨b, hupd, ?_⟩
          rcases w1.blk (0, 0) k1 rfl with ⟨n1, _⟩ | ⟨b', n1, hb1⟩
          · rw [hρ] at n1; cases n1
          · rw [hρ] at n1; cases n1
            rw [hXU]
            have hz1 : 0 < k1.sz := by rw [← hk1]; exact hps
            obtain ⟨cs1, T1, n2, n3⟩ := hb1.cells hz1
            refine .inl ⟨hz1, cs1, T1, n2, n3.1, fun q x hq => ⟨(n3.2 q x hq).1, fun r u hu => ?_⟩⟩
            obtain ⟨p1, p2⟩ := (n3.2 q x hq).2 r u hu
            refine ⟨p1, ?_⟩
            rw [hbx] at p2 ⊢
            exact p2
        · rw [(new1 g k h1).1, (new1 g' k' h2).1]
        · unfold upd at hgc
          split at hgc
          · rename_i e; subst e; simp [heapBack]
          · have := w1.dom g c hgc
            obtain ⟨x, y⟩ := g
            match x, y, this with
            | 0, 0, _ => simp [heapBack]
            | 0, y + 1, hd => simp at hd
            | x + 1, y, hd => simp at hd
        · unfold upd at hgc
          split at hgc
          · cases hgc; exact w1.lt (0, 0) b hρ
          · exact w1.lt g c hgc
        · obtain ⟨rfl, _⟩ := new1 g k hgk
          rw [hupd] at hgc
          cases hgc
          exact w1.sep (0, 0) k1 b o rfl hρ
        · have := VR.own (w := w') (X := XU Y (upd ρ (1, 0) b) (heapBack [none] [k1])) (ρ := upd ρ (1, 0) b) (1, 0) b t2.size 0 (l.length - (j - i)) cap hupd (w1.lt (0, 0) b hρ) (by omega) (by simp [bsize, m1, m2, hk])
          simpa using this
        · rw [hXX]; exact w2
      subst hk1
      refine ⟨_, upd ρ (1, 0) b, rfl, goal.1, ?_, goal.2.2, hsub⟩
      show VR w' _ _ _ (.own (1, 0) t2.size 0 (ℓ' (1, 0)))
      rw [hl1]
      exact goal.2.1
    · exact (Tr.mean_fail hc2).elim
  · exact (Tr.mean_fail hc).elim

end Go.Abs
