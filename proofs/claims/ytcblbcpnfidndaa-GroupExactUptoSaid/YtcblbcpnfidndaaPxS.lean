/- Calls told by hand: slices.Insert of one element. -/
import Derived.Test.YtcblbcpnfidndaaPxM
set_option linter.unusedSimpArgs false
set_option linter.unusedVariables false
namespace Go.Abs
open Go

def insertS (t : Ty) : SCall := fun args sub => match args, sub with
  | [.own t' g, .int .i64 i, .own t1 g1], [.arr t2 l .zero, .arr t3 vl .zero] =>
    .when (decide (t' = t ∧ t1 = t ∧ g = (0, 0) ∧ g1 = (1, 0) ∧ 0 < t.size)) (if h : t2 = t ∧ t3 = t then
      .need (decide (0 ≤ i ∧ i ≤ l.length ∧ l.length ≤ 4294967295 ∧ vl.length = 1)) (.ret (.own t (2, 0), [.dead l.length, .dead vl.length],
        [.arr t ((h.1 ▸ l : List t.den).take i.toNat ++ (h.2 ▸ vl : List t.den) ++ (h.1 ▸ l : List t.den).drop i.toNat) .zero])) else .fail)
  | _, _ => .fail

/-- What slices.Insert makes of a slice and one more element: the elements behind are moved to the right, in place or in a new block. -/
def MakesInsert (sz n i : Nat) (w : World) (cs xs : Array Value) (old : Option (Nat × TypeId)) (e : Ending) (w' : World) : Prop :=
  ∃ (b' cap' : Nat) (cs' : Array Value) (T' : TypeId), e = .returned (.slice (some ⟨b', 0, none⟩) (n + 1) cap') ∧ n + 1 ≤ cap' ∧ w'.heap[b']? = some (.cells cs' T' (0, 0)) ∧ cap' * sz ≤ cs'.size ∧
    (∀ k, k < i * sz → cs'.getD k undef = cs.getD k undef) ∧ (∀ k, k < sz → cs'.getD (i * sz + k) undef = xs.getD k undef) ∧ (∀ k, i * sz ≤ k → k < n * sz → cs'.getD (k + sz) undef = cs.getD k undef) ∧
    w'.os = w.os ∧ w'.tape = w.tape ∧ w'.output = w.output ∧
    ((old = some (b', T') ∧ cs'.size = cs.size ∧ w'.heap.size = w.heap.size ∧ ∀ k, k ≠ b' → w'.heap[k]? = w.heap[k]?) ∨ (w.heap.size ≤ b' ∧ b' < w'.heap.size ∧ ∀ k, k < w.heap.size → w'.heap[k]? = w.heap[k]?))

/-- The elements with one more. -/
theorem ElemsAt.ins {w : World} {X : XT} {ρ : Rho} {cs xs cs' : Array Value} {sz : Nat} {l vl : List AV} {i cap' : Nat} (h : ElemsAt false w X ρ cs sz l) (hv : ElemsAt false w X ρ xs sz vl) (hv1 : vl.length = 1) (hi : i ≤ l.length)
    (hc : l.length + 1 ≤ cap') (hk : cap' * sz ≤ cs'.size)
    (g1 : ∀ k, k < i * sz → cs'.getD k undef = cs.getD k undef) (g2 : ∀ k, k < sz → cs'.getD (i * sz + k) undef = xs.getD k undef) (g3 : ∀ k, i * sz ≤ k → k < l.length * sz → cs'.getD (k + sz) undef = cs.getD k undef) :
    ElemsAt false w X ρ cs' sz (l.take i ++ vl ++ l.drop i) := by
  obtain ⟨s1, s2⟩ := h
  obtain ⟨t1, t2⟩ := hv
  have hlen : (l.take i ++ vl ++ l.drop i).length = l.length + 1 := by
    simp only [List.length_append, List.length_take, List.length_drop]; omega
  refine ⟨?_, fun q x hq => ?_⟩
  · rw [hlen]; exact Nat.le_trans (Nat.mul_le_mul_right _ hc) hk
  · have hql := (List.getElem?_eq_some_iff.1 hq).1
    rw [hlen] at hql
    rcases Nat.lt_trichotomy q i with hlt | rfl | hgt
    · rw [List.append_assoc, List.getElem?_append_left (by rw [List.length_take]; omega), List.getElem?_take_of_lt hlt] at hq
      obtain ⟨c1, c2⟩ := s2 q x hq
      refine ⟨c1, fun r u hu => ?_⟩
      have hrl := (List.getElem?_eq_some_iff.1 hu).1
      rw [c1] at hrl
      have hpos : q * sz + r < i * sz := by
        have := Nat.mul_le_mul_right sz (show q + 1 ≤ i by omega)
        rw [Nat.add_mul, Nat.one_mul] at this
        omega
      rw [g1 _ hpos]
      exact c2 r u hu
    · rw [List.append_assoc, List.getElem?_append_right (by rw [List.length_take]; omega), List.length_take, show q - min q l.length = 0 by omega, List.getElem?_append_left (by omega)] at hq
      obtain ⟨c1, c2⟩ := t2 0 x hq
      refine ⟨c1, fun r u hu => ?_⟩
      have hrl := (List.getElem?_eq_some_iff.1 hu).1
      rw [c1] at hrl
      rw [g2 _ hrl]
      have := c2 r u hu
      rw [Nat.zero_mul, Nat.zero_add] at this
      exact this
    · rw [List.getElem?_append_right (by rw [List.length_append, List.length_take]; omega), List.length_append, List.length_take, List.getElem?_drop, show i + (q - (min i l.length + vl.length)) = q - 1 by omega] at hq
      obtain ⟨c1, c2⟩ := s2 (q - 1) x hq
      refine ⟨c1, fun r u hu => ?_⟩
      have hrl := (List.getElem?_eq_some_iff.1 hu).1
      rw [c1] at hrl
      have h1 : i * sz ≤ (q - 1) * sz + r := Nat.le_trans (Nat.mul_le_mul_right _ (by omega)) (Nat.le_add_right _ _)
      have h2 : (q - 1) * sz + r < l.length * sz := by
        have := Nat.mul_le_mul_right sz (show (q - 1) + 1 ≤ l.length by omega)
        rw [Nat.add_mul, Nat.one_mul] at this
        omega
      have h3 : q * sz + r = (q - 1) * sz + r + sz := by
        have := Nat.add_mul (q - 1) 1 sz
        rw [show q - 1 + 1 = q by omega, Nat.one_mul] at this
        omega
      rw [h3, g3 _ h1 h2]
      exact c2 r u hu

theorem insert_ok {P : Program} {f : FuncId} {t : Ty} (hent : Entered P f)
    (h0 : ∀ (w : World) (a : Option Addr) (b2 cap2 : Nat) (xs : Array Value) (T2 : TypeId), w.heap[b2]? = some (.cells xs T2 (0, 0)) → cap2 * t.size ≤ xs.size → (∀ k, k < t.size → (xs.getD k undef).oneCell' = true) → 1 ≤ cap2 →
      Calls P f #[.slice a 0 0, .int .i64 0, .slice (some ⟨b2, 0, none⟩) 1 cap2] w (MakesInsert t.size 0 0 w #[] xs none))
    (h1 : ∀ (w : World) (b n cap i b2 cap2 : Nat) (cs xs : Array Value) (T T2 : TypeId), w.heap[b]? = some (.cells cs T (0, 0)) → cap * t.size ≤ cs.size → (∀ k, k < n * t.size → (cs.getD k undef).oneCell' = true) → i ≤ n → n ≤ cap → n ≤ 4294967295 →
      b2 ≠ b → w.heap[b2]? = some (.cells xs T2 (0, 0)) → cap2 * t.size ≤ xs.size → (∀ k, k < t.size → (xs.getD k undef).oneCell' = true) → 1 ≤ cap2 →
      Calls P f #[.slice (some ⟨b, 0, none⟩) n cap, .int .i64 i, .slice (some ⟨b2, 0, none⟩) 1 cap2] w (MakesInsert t.size n i w cs xs (some (b, T)))) : CallOK P f (insertS t) := by
  intro args sub out hc ℓ0 ℓ' hs0 hs'
  refine ⟨hent, ?_⟩
  unfold insertS at hc
  split at hc
  case h_2 => exact (Tr.mean_fail hc).elim
  rename_i t' g i t1 g1 t2 l t3 vl
  obtain ⟨q1, hc2⟩ := Tr.mean_when hc
  clear hc
  obtain ⟨rfl, rfl, rfl, rfl, hps⟩ := of_decide_eq_true q1
  split at hc2
  case isFalse => exact (Tr.mean_fail hc2).elim
  rename_i ht2
  obtain ⟨rfl, rfl⟩ := ht2
  obtain ⟨q2, hc3⟩ := Tr.mean_need hc2
  obtain ⟨i0, il, ll, vl1⟩ := of_decide_eq_true q2
  have := Tr.mean_ret hc3
  subst this
  clear hc2 hc3 q1 q2
  simp only at hs'
  obtain ⟨i, rfl⟩ := Int.eq_ofNat_of_zero_le i0
  simp only [Int.toNat_natCast] at hs' ⊢
  have hl0 : ℓ0 (0, 0) = l.length := hs0 0 _ rfl
  have hl1 : ℓ0 (1, 0) = vl.length := hs0 1 _ rfl
  have hl2 : ℓ' (2, 0) = l.length + 1 := by
    have := hs' 2 _ rfl
    rw [this]
    simp only [SB.len, List.length_append, List.length_take, List.length_drop]
    omega
  intro Y w ρ vals hr hsz hv
  have hsz3 : vals.size = 3 := by simpa using hsz
  have v0 := hv 0 _ rfl
  have v1 := hv 1 _ rfl
  have v2 := hv 2 _ rfl
  have hvals : vals = #[vals.getD 0 undef, vals.getD 1 undef, vals.getD 2 undef] := by
    apply Array.ext
    · simp [hsz3]
    · intro k hk _
      have : k = 0 ∨ k = 1 ∨ k = 2 := by omega
      rcases this with rfl | rfl | rfl <;> simp [Array.getD, hsz3]
  rw [hvals]
  generalize vals.getD 0 undef = a0 at v0
  generalize vals.getD 1 undef = a1 at v1
  generalize vals.getD 2 undef = a2 at v2
  rw [v1.intInv]
  generalize hk0 : (⟨t3.size, l.map (enc t3), 0, false⟩ : Blk) = k0
  generalize hk1 : (⟨t3.size, vl.map (enc t3), 0, false⟩ : Blk) = k1
  have hr : HR Y w ρ (heapOf [k0, k1]) := by subst hk0; subst hk1; exact hr
  have v0 : VR w (XU Y ρ (heapOf [k0, k1])) ρ a0 (.own (0, 0) t3.size 0 l.length) := by subst hk0; subst hk1; rw [← hl0]; exact v0
  have v2 : VR w (XU Y ρ (heapOf [k0, k1])) ρ a2 (.own (1, 0) t3.size 0 1) := by
    subst hk0; subst hk1
    have e : (AV.own (1, 0) t3.size 0 1) = .own (1, 0) t3.size 0 (ℓ0 (1, 0)) := by rw [hl1, vl1]
    rw [e]; exact v2
  have hg0 : get (heapOf [k0, k1]) (0, 0) = some k0 := rfl
  have hg1 : get (heapOf [k0, k1]) (1, 0) = some k1 := rfl
  have z0 : k0.sz = t3.size := by rw [← hk0]
  have z1 : k1.sz = t3.size := by rw [← hk1]
  have e0 : k0.elems = l.map (enc t3) := by rw [← hk0]
  have e1 : k1.elems = vl.map (enc t3) := by rw [← hk1]
  have x0 : k0.box = false := by rw [← hk0]
  have x1 : k1.box = false := by rw [← hk1]
  have f0 : k0.frz = 0 := by rw [← hk0]
  -- the element
  rcases v2.ownInv with ⟨_, _, hlen⟩ | ⟨b2, cap2, rfl, hρ2, hb2, hcap2, hk2⟩
  · omega
  obtain ⟨xs, T2, hh2, hel2⟩ := (hr.at hg1 hρ2).cells (by rw [z1]; exact hps)
  have hbs2 : bsize w b2 = xs.size := by simp [bsize, hh2]
  rw [hbs2] at hk2
  rw [z1, e1, x1] at hel2
  simp only [Nat.zero_mul, Nat.zero_add] at hk2 ⊢
  have one_of : ∀ {X : XT} {cs : Array Value} {ll : List t3.den}, ElemsAt false w X ρ cs t3.size (ll.map (enc t3)) → ∀ k, k < ll.length * t3.size → (cs.getD k undef).oneCell' = true := by
    intro X cs ll hel k hk'
    have hq : k / t3.size < ll.length := (Nat.div_lt_iff_lt_mul hps).2 hk'
    have hx : (ll.map (enc t3))[k / t3.size]? = some (enc t3 ll[k / t3.size]) := by rw [List.getElem?_map, List.getElem?_eq_getElem hq]; rfl
    obtain ⟨c1, c2⟩ := hel.2 _ _ hx
    have hm : k % t3.size < (enc t3 ll[k / t3.size]).cells.length := by rw [c1]; exact Nat.mod_lt _ hps
    have := (c2 (k % t3.size) _ (List.getElem?_eq_getElem hm)).1
    rwa [show k / t3.size * t3.size + k % t3.size = k by rw [Nat.mul_comm]; exact Nat.div_add_mod k t3.size] at this
  have hone2 : ∀ k, k < t3.size → (xs.getD k undef).oneCell' = true := fun k hk => one_of hel2 k (by rw [vl1, Nat.one_mul]; exact hk)
  -- the heap with a place more
  have hrm := hr.more 1
  have hXm : XX ρ (heapOf [k0, k1] ++ List.replicate 1 []) = XX ρ (heapOf [k0, k1]) := XX_more _ _ _
  have hfree : Free (heapOf [k0, k1] ++ List.replicate 1 []) 2 := Free.more (by simp [heapOf]) (by simp [heapOf])
  generalize hkn : (⟨t3.size, (l.take i ++ vl ++ l.drop i).map (enc t3), 0, false⟩ : Blk) = kn
  have zn : kn.sz = t3.size := by rw [← hkn]
  have en : kn.elems = (l.take i ++ vl ++ l.drop i).map (enc t3) := by rw [← hkn]
  have xn : kn.box = false := by rw [← hkn]
  have hout : ∀ (w' : World) (v : Value) (ρ' : Rho), HR Y w' ρ' [[none], [none], [some kn]] → (∀ X', VR w' X' ρ' v (.own (2, 0) t3.size 0 (l.length + 1))) → Stable w (XX ρ (heapOf [k0, k1])) w' (XX ρ' [[none], [none], [some kn]]) → (∀ g b, ρ g = some b → ρ' g = some b) →
      ∃ v' ρ', (Ending.returned v) = .returned v' ∧ HR Y w' ρ' (heapBack [none, none] [kn]) ∧ VR w' (XU Y ρ' (heapBack [none, none] [kn])) ρ' v' (.own (2, 0) t3.size 0 (l.length + 1)) ∧ Stable w (XX ρ (heapOf [k0, k1])) w' (XX ρ' (heapBack [none, none] [kn])) ∧ ∀ g b, ρ g = some b → ρ' g = some b :=
    fun w' v ρ' a b c d => ⟨v, ρ', rfl, a, b _, c, d⟩
  have goal : ∀ (cs : Array Value) (old : Option (Nat × TypeId)) (hel : ElemsAt false w (XU Y ρ (heapOf [k0, k1])) ρ cs t3.size (l.map (enc t3)))
      (hold : ∀ b T, old = some (b, T) → ρ (0, 0) = some b ∧ w.heap[b]? = some (.cells cs T (0, 0))) (e : Ending) (w' : World), MakesInsert t3.size l.length i w cs xs old e w' →
      ∃ v' ρ', e = .returned v' ∧ HR Y w' ρ' (heapBack [none, none] [kn]) ∧ VR w' (XU Y ρ' (heapBack [none, none] [kn])) ρ' v' (.own (2, 0) t3.size 0 (l.length + 1)) ∧ Stable w (XX ρ (heapOf [k0, k1])) w' (XX ρ' (heapBack [none, none] [kn])) ∧ ∀ g b, ρ g = some b → ρ' g = some b := by
    rintro cs old hel hold e w' ⟨b', cap', cs', T', rfl, m1, m2, m3, m4, m5, m6, m7, m8, m9, m10⟩
    have hins : ∀ X, (∀ b o, X b o → XU Y ρ (heapOf [k0, k1]) b o) → ElemsAt false w X ρ cs' t3.size ((l.take i ++ vl ++ l.drop i).map (enc t3)) := by
      intro X hX
      have st : Stable w (XU Y ρ (heapOf [k0, k1])) w X := (Stable.refl w _).less fun b o _ h => hX b o h
      have := ElemsAt.ins (hel.mono st fun _ _ h => h) (hel2.mono st fun _ _ h => h) (by rw [List.length_map]; exact vl1) (i := i) (by rw [List.length_map]; omega) (by rw [List.length_map]; exact m1) m3 m4 m5 (by rw [List.length_map]; exact m6)
      rw [List.map_append, List.map_append, List.map_take, List.map_drop]
      exact this
    have hval : ∀ X', VR w' X' (upd ρ (2, 0) b') (.slice (some ⟨b', 0, none⟩) (l.length + 1) cap') (.own (2, 0) t3.size 0 (l.length + 1)) := fun X' => VR.newOwn m2 m1 m3
    rcases m10 with ⟨ho, n1, n2, n3⟩ | ⟨n1, n2, n3⟩
    · obtain ⟨p1, p2⟩ := hold b' T' ho
      obtain ⟨r1, r2, r3⟩ := hrm.move hfree (g := (0, 0)) (k := k0) (k1 := kn) (by rw [get_more]; exact hg0) p1 (by rw [zn]; exact hps) m7 m8 m9 n2 n3 p2 m2 n1 (fun o ho => by rw [f0] at ho; simp at ho) (zn.trans z0.symm) (by rw [f0]; exact Nat.zero_le _)
        (by rw [zn, en, xn]; exact hins _ (fun b o h => by unfold XU at h ⊢; rw [hXm] at h; exact h))
      have hl : Less (Abs.set [[none], [some k1], [some kn]] (1, 0) none) [[none], [some k1], [some kn]] := Less.set_none _ _
      have r1' : HR Y w' (upd ρ (2, 0) b') [[none], [some k1], [some kn]] := r1
      have r2' : Stable w (XX ρ (heapOf [k0, k1] ++ List.replicate 1 [])) w' (XX (upd ρ (2, 0) b') [[none], [some k1], [some kn]]) := r2
      rw [hXm] at r2'
      exact hout w' _ _ (r1'.less hl) hval (r2'.trans hl.st) r3
    · have hl : Less (Abs.set (Abs.set (heapOf [k0, k1] ++ List.replicate 1 []) (0, 0) none) (1, 0) none) (heapOf [k0, k1] ++ List.replicate 1 []) := (Less.set_none _ _).trans (Less.set_none _ _)
      have hf1 : Free (Abs.set (Abs.set (heapOf [k0, k1] ++ List.replicate 1 []) (0, 0) none) (1, 0) none) 2 := hfree.less hl (by simp [len_set])
      have hmade := made_new (v := .slice (some ⟨b', 0, none⟩) (l.length + 1) cap') (x := .own (2, 0) t3.size 0 (l.length + 1)) hrm hl hf1 n1 n2 m7 m8 m9 n3 kn (by rw [zn]; exact hps) m2 (by
          rw [zn, en, xn]
          refine hins _ (fun b o h => ?_)
          have := hl.xu (Y := Y) h
          unfold XU at this ⊢
          rw [hXm] at this
          exact this) hval
      have q1 : HR Y w' (upd ρ (2, 0) b') [[none], [none], [some kn]] := hmade.hr
      have q2 : Stable w (XX ρ (heapOf [k0, k1] ++ List.replicate 1 [])) w' (XX (upd ρ (2, 0) b') [[none], [none], [some kn]]) := hmade.st
      rw [hXm] at q2
      exact hout w' _ _ q1 hval q2 hmade.le
  have fin : ∀ (cs : Array Value) (old : Option (Nat × TypeId)) (hel : ElemsAt false w (XU Y ρ (heapOf [k0, k1])) ρ cs t3.size (l.map (enc t3)))
      (hold : ∀ b T, old = some (b, T) → ρ (0, 0) = some b ∧ w.heap[b]? = some (.cells cs T (0, 0))) (vs : Array Value), Calls P f vs w (MakesInsert t3.size l.length i w cs xs old) →
      Calls P f vs w fun e w' => ∃ v' ρ', e = .returned v' ∧ HR Y w' ρ' (heapBack [none, none] [kn]) ∧ VR w' (XU Y ρ' (heapBack [none, none] [kn])) ρ' v' (dV ℓ' (.own t3 (2, 0))) ∧ Stable w (XX ρ (heapOf [k0, k1])) w' (XX ρ' (heapBack [none, none] [kn])) ∧ ∀ g b, ρ g = some b → ρ' g = some b := by
    intro cs old hel hold vs hcall
    refine hcall.mono fun e w' hm => ?_
    have := goal cs old hel hold e w' hm
    show ∃ v' ρ', e = .returned v' ∧ HR Y w' ρ' (heapBack [none, none] [kn]) ∧ VR w' (XU Y ρ' (heapBack [none, none] [kn])) ρ' v' (.own (2, 0) t3.size 0 (ℓ' (2, 0))) ∧ _
    rw [hl2]
    exact this
  subst hk0
  subst hk1
  subst hkn
  rcases v0.ownInv with ⟨a, rfl, hlen⟩ | ⟨b, cap, rfl, hρ, hb, hcap, hk⟩
  · have hln : l = [] := List.eq_nil_of_length_eq_zero hlen
    have hi0 : i = 0 := by omega
    subst hi0
    have hel : ElemsAt false w (XU Y ρ (heapOf [⟨t3.size, l.map (enc t3), 0, false⟩, ⟨t3.size, vl.map (enc t3), 0, false⟩])) ρ #[] t3.size (l.map (enc t3)) := by
      subst hln
      exact ⟨by simp, fun i x h => by simp at h⟩
    refine fin #[] none hel (fun b T h => by cases h) _ ?_
    rw [hlen]
    exact h0 w a b2 cap2 xs T2 hh2 (by omega) hone2 hcap2
  · obtain ⟨cs, T, hh, hel⟩ := (hr.at hg0 hρ).cells hps
    have hbs : bsize w b = cs.size := by simp [bsize, hh]
    rw [hbs] at hk
    simp only [Nat.zero_mul, Nat.zero_add] at hk
    refine fin cs (some (b, T)) hel (fun b1 T1 h => by cases h; exact ⟨hρ, hh⟩) _ ?_
    have hne : b2 ≠ b := fun e => by
      subst e
      have := hr.inj (1, 0) (0, 0) _ _ b2 hg1 hg0 hρ2 hρ
      cases this
    simp only [Nat.zero_mul]
    exact h1 w b l.length cap i b2 cap2 cs xs T T2 hh hk (one_of hel) (by omega) hcap (by omega) hne hh2 (by omega) hone2 hcap2
end Go.Abs
