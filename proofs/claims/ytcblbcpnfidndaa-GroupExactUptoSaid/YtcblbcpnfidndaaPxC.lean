/- Operations on typed values are those on abstract ones, third part: new blocks, calls. -/
import Derived.Test.YtcblbcpnfidndaaPxB
set_option linter.unusedSimpArgs false
set_option linter.unusedVariables false
namespace Go.Abs
open Go

section
variable {P : Program} {H : SHeap} {ℓ : Lens}

theorem fillAS_spec {place : Nat → Option (Nat × Nat)} : ∀ (ps : List (Nat × SV)) (cells r : List SV), fillAS place cells ps = some r → fillA place (cells.map (dC ℓ)) (ps.map fun p => (p.1, dV ℓ p.2)) = some (r.map (dC ℓ)) := by
  intro ps
  induction ps with
  | nil => intro cells r h; cases h; rfl
  | cons p ps ih =>
    intro cells r h
    obtain ⟨i, v⟩ := p
    simp only [fillAS] at h
    simp only [List.map_cons, fillA]
    split at h
    · cases h
    · rename_i off size hp
      simp only [hp]
      split at h
      · rename_i hc
        obtain ⟨h1, h2, h3⟩ := hc
        rw [notTup_d (okSV_notTup h3)]
        rw [if_pos ⟨by rw [cells_dA, List.length_map]; exact h1, by simpa using h2, by rw [okV_dA]; exact h3⟩]
        have := ih _ _ h
        rw [spliceS_d, ← cells_dA] at this
        exact this
      · cases h

theorem szero_spec {t : TypeId} {v : SV} (h : szero P t = some v) : ∃ z, tzero P t = some (cv z) ∧ v = svC z := by
  unfold szero at h
  unfold tzero
  split at h
  · rename_i i hi
    split at h
    · rename_i z hz
      cases h
      exact ⟨z, by simp only [hi, hz], rfl⟩
    · cases h
  · cases h

theorem partsOfS_d (fr : SFr) (ps : Array (Nat × Operand)) : (partsOfS fr ps).map (fun p => (p.1, dV ℓ p.2)) = partsOf (dF ℓ fr) ps := by
  simp only [partsOfS, partsOf, List.map_map]
  refine List.map_congr_left fun p _ => ?_
  simp only [Function.comp, evS_d]

theorem opBuildS_spec {t : TypeId} {ps : List (Nat × SV)} {u : SV} (h : opBuildS P t ps = some u) : opBuild P t (ps.map fun p => (p.1, dV ℓ p.2)) = some (dV ℓ u) := by
  unfold opBuildS at h
  split at h
  · rename_i z fs hz hu
    obtain ⟨zv, h1, h2⟩ := szero_spec hz
    have hcv : cv zv = .agg (z.map (dC ℓ)) := by rw [← (svC_d ℓ zv).1, ← h2]; rfl
    simp only [opBuild, h1, hcv, hu]
    split at h
    · cases h
    · rename_i hs
      rw [if_neg hs]
      obtain ⟨r, h3, rfl⟩ := Option.map_eq_some_iff.1 h
      exact congrArg (Option.map AV.agg) (fillAS_spec (ℓ := ℓ) _ _ _ h3)
  · rename_i z n e hz hu
    obtain ⟨zv, h1, h2⟩ := szero_spec hz
    have hcv : cv zv = .agg (z.map (dC ℓ)) := by rw [← (svC_d ℓ zv).1, ← h2]; rfl
    simp only [opBuild, h1, hcv, hu]
    split at h
    · rename_i s hs
      simp only [hs]
      obtain ⟨r, h3, rfl⟩ := Option.map_eq_some_iff.1 h
      exact congrArg (Option.map AV.agg) (fillAS_spec (ℓ := ℓ) _ _ _ h3)
    · cases h
  · cases h

/-! ### Zeros -/

theorem paC_nt : ∀ (t : Ty) (cs : List SV) (x : t.den) (r : List SV), paC t cs = some (x, r) → ∃ pre, cs = pre ++ r ∧ pre.map (fun c => nt1 (dC ℓ c)) = encC t x := by
  intro t
  induction t with
  | int k =>
    intro cs x r h
    cases cs with
    | nil => cases h
    | cons c cs =>
      cases c <;> first | (cases h; done) | skip
      simp only [paC] at h
      split at h
      · rename_i e; subst e; cases h; exact ⟨[_], rfl, rfl⟩
      · cases h
  | bool =>
    intro cs x r h
    cases cs with
    | nil => cases h
    | cons c cs => cases c <;> first | (cases h; done) | skip
                   cases h; exact ⟨[_], rfl, rfl⟩
  | str =>
    intro cs x r h
    cases cs with
    | nil => cases h
    | cons c cs => cases c <;> first | (cases h; done) | skip
                   cases h; exact ⟨[_], rfl, rfl⟩
  | row t ih =>
    intro cs x r h
    cases cs with
    | nil => cases h
    | cons c cs =>
      cases c <;> first | cases h | skip
      rename_i t' l tg
      simp only [paC] at h
      split at h
      · rename_i l' hl
        cases h
        refine ⟨[_], rfl, ?_⟩
        have := castL_spec hl false
        simp only [List.map_cons, List.map_nil, dC, d1]
        show [nt1 (rowAV t' l tg)] = _
        rw [show nt1 (rowAV t' l tg) = rowAV t' l false from rfl, this]
        rfl
      · cases h
  | unit => intro cs x r h; cases h; exact ⟨[], rfl, rfl⟩
  | cons a b iha ihb =>
    intro cs x r h
    simp only [paC] at h
    split at h
    · rename_i y r1 h1
      split at h
      · rename_i z r2 h2
        cases h
        obtain ⟨p1, rfl, f1⟩ := iha _ _ _ h1
        obtain ⟨p2, rfl, f2⟩ := ihb _ _ _ h2
        exact ⟨p1 ++ p2, by simp, by rw [List.map_append, f1, f2]; rfl⟩
      · cases h
    · cases h

theorem dzero_spec {e : TypeId} {t : Ty} {x : t.den} (h : dzero P e t = some x) : tzeroP P e = some (enc t x) := by
  unfold dzero at h
  obtain ⟨v, h1, h2⟩ := Option.bind_eq_some_iff.1 h
  obtain ⟨zv, h3, rfl⟩ := szero_spec h1
  unfold tzeroP
  rw [h3, Option.map_some, ← (svC_d (fun _ => 0) zv).1]
  congr 1
  generalize svC zv = v at h2
  unfold paT at h2
  split at h2
  · rename_i hagg
    split at h2
    · rename_i y hy
      cases h2
      obtain ⟨pre, e1, e2⟩ := paC_nt (ℓ := fun _ => 0) t _ _ _ hy
      rw [List.append_nil] at e1
      subst e1
      unfold enc wrap
      rw [← e2, ← hagg]
      cases v <;> first | rfl | (simp [SV.isAgg, SV.cells, dA, ntV]; done)
    · cases h2
  · cases h2

theorem okV_enc' (t : Ty) (x : t.den) : okV (enc t x) = true := okV_enc t x

theorem fillSS_spec (ha : Agr ℓ H) {size : Nat} {t : Ty} : ∀ (ps : List (Nat × SV)) (es : List t.den) (l : List Nm) (r : List t.den × List Nm), (fillSS H size t es l ps).mean = some r → (∀ g ∈ l, IsArr H g) →
    fillS (dH ℓ H) size t.agg (es.map (enc t)) l (ps.map fun p => (p.1, dV ℓ p.2)) = some (r.1.map (enc t), r.2) ∧ (∀ g ∈ r.2, IsArr H g) := by
  intro ps
  induction ps with
  | nil => intro es l r h hl; have := Tr.mean_ret h; subst this; exact ⟨rfl, hl⟩
  | cons p ps ih =>
    intro es l r h hl
    obtain ⟨i, v⟩ := p
    simp only [fillSS] at h
    obtain ⟨⟨u, m⟩, h1, h2⟩ := Tr.mean_bind h
    obtain ⟨h3, h4⟩ := Tr.mean_when h2
    obtain ⟨c1, c2, c3, c4⟩ := of_decide_eq_true h3
    obtain ⟨y, h5, h6⟩ := Tr.mean_bind h4
    obtain ⟨h7, h8⟩ := Tr.mean_need h6
    obtain ⟨e1, e2⟩ := pureVS_spec ha h1
    have hv : dV ℓ v = dA ℓ v := by cases v <;> first | rfl | exact (Tr.mean_fail h1).elim
    have hy := paT_exact (ℓ := ℓ) (Tr.mean_of h5) c4
    simp only [List.map_cons, fillS, hv, e1]
    rw [if_pos ⟨by rw [cells_dA, List.length_map]; exact c1, by rw [isAgg_dA]; exact c2, by simpa using of_decide_eq_true h7, by rw [okV_dA]; exact c3⟩, hy, set_map_enc]
    exact ih _ _ _ h8 (fun g hg => (List.mem_append.1 hg).elim (hl g) (e2 g))

theorem NewOK.one {slot : Nat} {b : SB} {new : List SB} (h : NewOK ℓ slot (b :: new)) : ℓ (slot, 0) = b.len := h 0 b rfl

theorem opBuildSliceS_spec (ha : Agr ℓ H) {t : TypeId} {n : Nat} {ps : List (Nat × SV)} {slot : Nat} {r : SRes} (h : (opBuildSliceS P t n ps H slot).mean = some r) (hn : NewOK ℓ slot r.new) :
    opBuildSlice P t n (ps.map fun p => (p.1, dV ℓ p.2)) (dH ℓ H) slot = some (dR ℓ r) ∧ LenOK H r.wr := by
  unfold opBuildSliceS at h
  unfold opBuildSlice
  split at h
  · rename_i e he
    simp only [he]
    split at h
    · rename_i size agg ty h1 h2 h3
      obtain ⟨h4, hA⟩ := Tr.mean_when h
      obtain ⟨c1, c2, c3, c4⟩ := of_decide_eq_true h4
      clear h h4
      subst c3
      subst c4
      obtain ⟨z, h5, h⟩ := Tr.mean_bind hA
      obtain ⟨⟨es, l⟩, h6, h⟩ := Tr.mean_bind h
      have := Tr.mean_ret h; subst this
      obtain ⟨e1, e2⟩ := fillSS_spec ha _ _ _ _ h6 (fun g hg => by simp at hg)
      rw [List.map_replicate] at e1
      simp only [h1, h2, dzero_spec (Tr.mean_of h5)]
      rw [if_pos ⟨c1, c2, by rw [cells_enc, length_encC], okV_enc ty z⟩]
      simp only [e1]
      refine ⟨?_, stopsS_len _⟩
      have hl := hn.one
      have hlen : ∀ (ps : List (Nat × SV)) (es : List ty.den) (l : List Nm) (r : List ty.den × List Nm), (fillSS H ty.size ty es l ps).mean = some r → r.1.length = es.length := by
        intro ps
        induction ps with
        | nil => intro es l r h; have := Tr.mean_ret h; subst this; rfl
        | cons p ps ih =>
          intro es l r h
          obtain ⟨i, v⟩ := p
          simp only [fillSS] at h
          obtain ⟨_, _, h⟩ := Tr.mean_bind h
          obtain ⟨_, h⟩ := Tr.mean_when h
          obtain ⟨_, _, h⟩ := Tr.mean_bind h
          obtain ⟨_, h⟩ := Tr.mean_need h
          rw [ih _ _ _ h, List.length_set]
      have hl2 := hlen _ _ _ _ h6
      simp only [List.length_replicate] at hl2
      simp only [SB.len] at hl
      have hw : dW ℓ (stopsS H l) = stops (dH ℓ H) l := stopsS_spec e2
      simp only [dR, dV_own, hl, hl2, hw, List.map_cons, List.map_nil, dN, dB, Fz.n]
    · exact (Tr.mean_fail h).elim
  · exact (Tr.mean_fail h).elim

theorem opMakeSliceS_spec {t : TypeId} {l c : SV} {slot : Nat} {r : SRes} (h : (opMakeSliceS P t l c slot).mean = some r) (hn : NewOK ℓ slot r.new) :
    opMakeSlice P t (dV ℓ l) (dV ℓ c) slot = some (dR ℓ r) ∧ LenOK H r.wr := by
  unfold opMakeSliceS at h
  split at h
  · rename_i e k n k' m he
    split at h
    · rename_i size bytes ty h1 h2 h3
      obtain ⟨h4, hA⟩ := Tr.mean_when h
      obtain ⟨c1, c2, c3⟩ := of_decide_eq_true h4
      clear h h4
      subst c3
      obtain ⟨z, h5, h⟩ := Tr.mean_bind hA
      obtain ⟨h6, h⟩ := Tr.mean_need h
      have := Tr.mean_ret h; subst this
      obtain ⟨d1, d2, d3⟩ := of_decide_eq_true h6
      have hl := hn.one
      simp only [SB.len, List.length_replicate] at hl
      simp only [opMakeSlice, he, dV_int, h1, h2, dzero_spec (Tr.mean_of h5)]
      rw [if_pos ⟨d1, d2, d3, c1, c2, by rw [cells_enc, length_encC], okV_enc ty z⟩]
      refine ⟨?_, LenOK.nil⟩
      simp only [dR, dV_own, hl, dW, List.map_nil, List.map_cons, dN, dB, Fz.n, List.map_replicate]
    · exact (Tr.mean_fail h).elim
  · exact (Tr.mean_fail h).elim

theorem castL_map {t t' : Ty} {l : List t.den} {l' : List t'.den} (h : castL l = some l') : l.map (enc t) = l'.map (enc t') ∧ (t' = t ∨ l' = []) := by
  unfold castL at h
  split at h
  · rename_i e; subst e; cases h; exact ⟨rfl, .inl rfl⟩
  · split at h
    · cases h; exact ⟨rfl, .inr rfl⟩
    · cases h

theorem srcOfS_spec (ha : Agr ℓ H) {ty : Ty} {x : SV} {q : List ty.den × List Nm} (h : (srcOfS H ty x).mean = some q) : ∃ sz, srcOf (dH ℓ H) (dV ℓ x) = some (sz, q.1.map (enc ty), q.2) ∧ (sz = ty.size ∨ q.1.map (enc ty) = []) := by
  unfold srcOfS at h
  split at h
  · rename_i t l tg
    obtain ⟨l', h1, rfl⟩ := Tr.mean_map h
    obtain ⟨e1, e2⟩ := castL_map (Tr.mean_of h1)
    simp only [dV_row, rowAV, srcOf, e1]
    refine ⟨_, rfl, ?_⟩
    cases l' with
    | nil => exact .inr rfl
    | cons y ys =>
      rcases e2 with rfl | e2
      · exact .inl rfl
      · cases e2
  · rename_i t g
    split at h
    · rename_i t' l z hg
      obtain ⟨h0, hA⟩ := Tr.mean_when h
      obtain ⟨h0, hps⟩ := of_decide_eq_true h0
      subst h0
      obtain ⟨l', h1, rfl⟩ := Tr.mean_map hA
      obtain ⟨e1, e2⟩ := castL_map (Tr.mean_of h1)
      have hl : ℓ g = l.length := ha g _ hg
      simp only [dV_own, srcOf, get_dH, hg, Option.bind_some, dB, hl]
      refine ⟨t'.size, ?_, ?_⟩
      · rw [if_pos (by simp [hps])]
        simp only [List.drop_zero]
        rw [List.take_of_length_le (by simp), e1]
      · rcases e2 with rfl | e2
        · exact .inl rfl
        · exact .inr (by rw [e2]; rfl)
    · exact (Tr.mean_fail h).elim
  · rename_i t g off len
    split at h
    · rename_i t' l z hg
      obtain ⟨h0, hA⟩ := Tr.mean_when h
      obtain ⟨h0, hps⟩ := of_decide_eq_true h0
      subst h0
      obtain ⟨h2, hB⟩ := Tr.mean_need hA
      obtain ⟨l', h1, rfl⟩ := Tr.mean_map hB
      obtain ⟨e1, e2⟩ := castL_map (Tr.mean_of h1)
      simp only [dV_part, srcOf, get_dH, hg, Option.bind_some, dB]
      refine ⟨t'.size, ?_, ?_⟩
      · rw [if_pos (by simpa [hps] using of_decide_eq_true h2)]
        simp only [e1, List.map_drop, List.map_take]
      · rcases e2 with rfl | e2
        · exact .inl rfl
        · exact .inr (by rw [e2]; simp)
    · exact (Tr.mean_fail h).elim
  · exact (Tr.mean_fail h).elim

theorem fz_grow (z : Fz) (a b : Nat) : (z.grow b).n (a + b) = z.n a := by
  cases z <;> simp only [Fz.grow, Fz.n] <;> omega
theorem fz_le (z : Fz) (a : Nat) : z.n a ≤ a := by
  cases z <;> simp only [Fz.n] <;> omega

theorem opAppendS_spec (ha : Agr ℓ H) {t : TypeId} {s x : SV} {slot : Nat} {r : SRes} (h : (opAppendS P t s x H slot).mean = some r) (hn : NewOK ℓ slot r.new) :
    opAppend P t (dV ℓ s) (dV ℓ x) (dH ℓ H) slot = some (dR ℓ r) ∧ LenOK H r.wr := by
  unfold opAppendS at h
  unfold opAppend
  split at h
  · rename_i e he
    simp only [he]
    split at h
    · rename_i size bytes z ty h1 h2 h3 h4
      obtain ⟨h5, hA⟩ := Tr.mean_when h
      obtain ⟨c1, c2, c3, c4, c5⟩ := of_decide_eq_true h5
      clear h h5
      subst c5
      obtain ⟨⟨ys, m⟩, h6, h⟩ := Tr.mean_bind hA
      obtain ⟨sz, e1, e2⟩ := srcOfS_spec ha h6
      simp only [h1, h2, h3, e1]
      rw [if_pos ⟨c1, c2, c3, c4, e2⟩]
      simp only at h
      -- a block that grows
      have grown : ∀ (g : Nm) (l : List ty.den) (len : Nat) (z zz : Fz), getS H g = some (.arr ty l z) → len ≤ l.length → z.n l.length ≤ len → zz.n (len + ys.length) = z.n l.length → len + ys.length ≤ 4294967296 →
          r = { val := .own ty (slot, 0), rd := g :: m, wr := [(g, .dead l.length)], new := [.arr ty (l.take len ++ ys) zz] } →
          (if True ∧ True ∧ True ∧ len ≤ (l.map (enc ty)).length ∧ True ∧ z.n l.length ≤ len ∧ len + (ys.map (enc ty)).length ≤ 4294967296 then
            some ({ val := .own (slot, 0) ty.size 0 (len + (ys.map (enc ty)).length), rd := g :: m, wr := [(g, none)], new := [⟨ty.size, (l.map (enc ty)).take len ++ ys.map (enc ty), z.n l.length, false⟩] } : Res) else none) = some (dR ℓ r) ∧ LenOK H r.wr := by
        intro g l len z zz hg hlen hz hzz hle hr
        subst hr
        have hl := hn.one
        have htl : (l.take len).length = len := by simp; omega
        simp only [SB.len, List.length_append, htl] at hl
        rw [if_pos ⟨trivial, trivial, trivial, by simpa using hlen, trivial, hz, by simpa using hle⟩]
        refine ⟨?_, LenOK.one hg rfl⟩
        simp only [dR, dV_own, hl, dW, List.map_cons, List.map_nil, dB, dN, List.map_append, List.length_append, htl, hzz, List.length_map, List.map_take]
      split at h
      · rename_i t' l
        obtain ⟨l', h7, h⟩ := Tr.mean_bind h
        obtain ⟨f1, f2⟩ := castL_map (Tr.mean_of h7)
        have key : ((l' = [] ∨ ys ≠ []) ∧ (Tr.need (decide (l'.length + ys.length ≤ 4294967296)) (.ret ({ val := .own ty (slot, 0), rd := m, new := [.arr ty (l' ++ ys) .zero] } : SRes))).mean = some r) ∨ (l' ≠ [] ∧ ys = [] ∧ ({ val := .row ty l' true, rd := m } : SRes) = r) := by
          have h : cond l'.isEmpty _ _ = some r := h
          cases hle : l'.isEmpty
          · rw [hle] at h
            have h : cond ys.isEmpty _ _ = some r := h
            cases hye : ys.isEmpty
            · rw [hye] at h
              exact .inl ⟨.inr (fun e => by subst e; cases hye), h⟩
            · rw [hye] at h
              exact .inr ⟨(fun e => by subst e; cases hle), List.isEmpty_iff.1 hye, Tr.mean_ret h⟩
          · rw [hle] at h
            exact .inl ⟨.inl (List.isEmpty_iff.1 hle), h⟩
        clear h
        rcases key with ⟨hc, h⟩ | ⟨hln, hy, hr⟩
        · obtain ⟨h8, h⟩ := Tr.mean_need h
          have := Tr.mean_ret h; subst this
          have h8 := of_decide_eq_true h8
          have hl := hn.one
          simp only [SB.len, List.length_append] at hl
          simp only [dV_row, rowAV, f1]
          rw [if_neg (by
            rintro ⟨a, b⟩
            rcases hc with hc | hc
            · exact b (by rw [hc]; rfl)
            · exact hc (List.map_eq_nil_iff.1 a)), if_pos]
          · refine ⟨?_, LenOK.nil⟩
            simp only [dR, dV_own, hl, dW, List.map_cons, List.map_nil, dB, dN, List.map_append, Fz.n, List.length_map]
          · refine ⟨trivial, ?_, ?_, ?_⟩
            · cases l' with
              | nil => exact .inr rfl
              | cons y ys =>
                rcases f2 with rfl | f2
                · exact .inl rfl
                · cases f2
            · rcases hc with hc | hc
              · exact .inl (by rw [hc]; rfl)
              · exact .inr (by simpa using List.length_pos_iff.2 hc)
            · simpa using h8
        · subst hy hr
          simp only [dV_row, rowAV, f1]
          cases l' with
          | nil => exact absurd rfl hln
          | cons y ys =>
            rw [if_pos ⟨rfl, fun e => by cases e⟩, if_pos (by
              rcases f2 with rfl | f2
              · rfl
              · cases f2)]
            exact ⟨by simp only [dR, dV_row, rowAV, dW, List.map_nil]; rfl, LenOK.nil⟩
      · rename_i t' g
        split at h
        · rename_i t2 l z hg
          split at h
          · rename_i ht
            subst ht
            obtain ⟨h7, h⟩ := Tr.mean_when h
            have h7 := of_decide_eq_true h7
            subst h7
            obtain ⟨h8, h⟩ := Tr.mean_need h
            have := Tr.mean_ret h
            have hlen : ℓ g = l.length := ha g _ hg
            simp only [dV_own, get_dH, hg, Option.bind_some, dB, hlen]
            exact grown g l l.length z (z.grow ys.length) hg (Nat.le_refl _) (fz_le z _) (fz_grow z _ _) (of_decide_eq_true h8) (by rw [List.take_length]; exact this.symm)
          · exact (Tr.mean_fail h).elim
        · exact (Tr.mean_fail h).elim
      · rename_i t' g off len
        split at h
        · rename_i t2 l z hg
          split at h
          · rename_i ht
            subst ht
            obtain ⟨h7, h⟩ := Tr.mean_when h
            have h7 := of_decide_eq_true h7
            subst h7
            split at h
            · obtain ⟨h8, h⟩ := Tr.mean_need h
              have := Tr.mean_ret h
              obtain ⟨rfl, h8, h9⟩ := of_decide_eq_true h8
              simp only [dV_part, get_dH, hg, Option.bind_some, dB]
              exact grown g l len .zero .zero hg h8 (Nat.zero_le _) rfl h9 this.symm
            · obtain ⟨h8, h⟩ := Tr.mean_need h
              have := Tr.mean_ret h
              obtain ⟨rfl, rfl, h9⟩ := of_decide_eq_true h8
              simp only [dV_part, get_dH, hg, Option.bind_some, dB]
              exact grown g l l.length z (z.grow ys.length) hg (Nat.le_refl _) (fz_le z _) (fz_grow z _ _) h9 (by rw [List.take_length]; exact this.symm)
          · exact (Tr.mean_fail h).elim
        · exact (Tr.mean_fail h).elim
      · exact (Tr.mean_fail h).elim
    · exact (Tr.mean_fail h).elim
  · exact (Tr.mean_fail h).elim


/-! ### copy, clear -/

theorem spliceL_map {α β : Type} (f : α → β) (l : List α) (off : Nat) (new : List α) : (spliceL l off new).map f = (l.map f).take off ++ new.map f ++ (l.map f).drop (off + (new.map f).length) := by
  simp [spliceL, List.map_append, List.map_take, List.map_drop]
theorem spliceL_length {α : Type} {l : List α} {off : Nat} {new : List α} (h : off + new.length ≤ l.length) : (spliceL l off new).length = l.length := by
  simp [spliceL]; omega

theorem midS {g : Nm} {ty : Ty} {l : List ty.den} {off : Nat} {new : List ty.den} {v : SV} {rd : List Nm} (hg : getS H g = some (.arr ty l .zero)) (hle : off + new.length ≤ l.length) :
    dR ℓ ({ val := v, rd := rd, wr := [(g, .arr ty (spliceL l off new) .zero)] } : SRes) = ({ val := dV ℓ v, rd := rd, wr := [(g, some ⟨ty.size, splice (l.map (enc ty)) off (new.map (enc ty)), 0, false⟩)] } : Res) ∧ LenOK H [(g, .arr ty (spliceL l off new) .zero)] := by
  refine ⟨?_, LenOK.one hg (spliceL_length hle)⟩
  simp only [dR, dW, List.map_cons, List.map_nil, dB, spliceL_map, Fz.n, splice]

theorem opCopyS_spec (ha : Agr ℓ H) {t : TypeId} {d x : SV} {r : SRes} (h : (opCopyS P t d x H).mean = some r) : opCopy P t (dV ℓ d) (dV ℓ x) (dH ℓ H) = some (dR ℓ r) ∧ LenOK H r.wr := by
  unfold opCopyS at h
  unfold opCopy
  split at h
  · rename_i e he
    simp only [he]
    split at h
    · rename_i size ty h1 h2
      obtain ⟨h3, hA⟩ := Tr.mean_when h
      obtain ⟨c1, c2⟩ := of_decide_eq_true h3
      clear h h3
      subst c2
      obtain ⟨⟨ys, m⟩, h4, h⟩ := Tr.mean_bind hA
      obtain ⟨sz, e1, e2⟩ := srcOfS_spec ha h4
      simp only [h1, e1]
      simp only at h
      split at h
      · rename_i t' g
        split at h
        · rename_i t2 l hg
          split at h
          · rename_i ht
            subst ht
            obtain ⟨h5, h⟩ := Tr.mean_when h
            have h5 := of_decide_eq_true h5
            subst h5
            have := Tr.mean_ret h; subst this
            have hlen : ℓ g = l.length := ha g _ hg
            have hle : 0 + (ys.take l.length).length ≤ l.length := by simp; omega
            obtain ⟨m1, m2⟩ := midS (ℓ := ℓ) (v := .int .i64 (min ys.length l.length : Nat)) (rd := g :: m) hg hle
            simp only [dV_own, get_dH, hg, Option.bind_some, dB, hlen]
            rw [if_pos ⟨trivial, trivial, c1, by simp, trivial, Nat.le_refl _, e2⟩, m1]
            exact ⟨by simp only [List.map_take, List.length_map, dV_int, Fz.n], m2⟩
          · exact (Tr.mean_fail h).elim
        · exact (Tr.mean_fail h).elim
      · rename_i t' g off len
        split at h
        · rename_i t2 l hg
          split at h
          · rename_i ht
            subst ht
            obtain ⟨h5, h⟩ := Tr.mean_when h
            have h5 := of_decide_eq_true h5
            subst h5
            obtain ⟨h6, h⟩ := Tr.mean_need h
            have h6 := of_decide_eq_true h6
            have := Tr.mean_ret h; subst this
            have hle : off + (ys.take len).length ≤ l.length := by simp; omega
            obtain ⟨m1, m2⟩ := midS (ℓ := ℓ) (v := .int .i64 (min ys.length len : Nat)) (rd := g :: m) hg hle
            simp only [dV_part, get_dH, hg, Option.bind_some, dB]
            rw [if_pos ⟨trivial, trivial, c1, by simpa using h6, trivial, Nat.zero_le _, e2⟩, m1]
            exact ⟨by simp only [List.map_take, List.length_map, dV_int, Fz.n], m2⟩
          · exact (Tr.mean_fail h).elim
        · exact (Tr.mean_fail h).elim
      · exact (Tr.mean_fail h).elim
    · exact (Tr.mean_fail h).elim
  · exact (Tr.mean_fail h).elim

theorem opClearS_spec (ha : Agr ℓ H) {t : TypeId} {d : SV} {r : SRes} (h : (opClearS P t d H).mean = some r) : opClear P t (dV ℓ d) (dH ℓ H) = some (dR ℓ r) ∧ LenOK H r.wr := by
  unfold opClearS at h
  unfold opClear
  split at h
  · rename_i e he
    simp only [he]
    split at h
    · rename_i size ty h1 h2
      obtain ⟨h3, hA⟩ := Tr.mean_when h
      obtain ⟨c1, c2⟩ := of_decide_eq_true h3
      clear h h3
      subst c2
      obtain ⟨z, h4, h⟩ := Tr.mean_bind hA
      have z1 := dzero_spec (Tr.mean_of h4)
      have z2 : (enc ty z).cells.length = ty.size := by rw [cells_enc, length_encC]
      have z3 : okV (enc ty z) = true := okV_enc ty z
      simp only [h1, z1]
      split at h
      · rename_i t' g
        split at h
        · rename_i t2 l hg
          split at h
          · rename_i ht
            subst ht
            obtain ⟨h5, h⟩ := Tr.mean_when h
            have h5 := of_decide_eq_true h5
            subst h5
            have := Tr.mean_ret h; subst this
            have hlen : ℓ g = l.length := ha g _ hg
            have hle : 0 + (List.replicate l.length z).length ≤ l.length := by simp
            obtain ⟨m1, m2⟩ := midS (ℓ := ℓ) (v := .tup []) (rd := [g]) hg hle
            simp only [dV_own, get_dH, hg, Option.bind_some, dB, hlen]
            rw [if_pos ⟨trivial, trivial, c1, by simp, trivial, Nat.le_refl _, z2, z3⟩, m1]
            exact ⟨by simp only [List.map_replicate, List.length_map, dV_tup, List.map_nil, Fz.n], m2⟩
          · exact (Tr.mean_fail h).elim
        · exact (Tr.mean_fail h).elim
      · rename_i t' g off len
        split at h
        · rename_i t2 l hg
          split at h
          · rename_i ht
            subst ht
            obtain ⟨h5, h⟩ := Tr.mean_when h
            have h5 := of_decide_eq_true h5
            subst h5
            obtain ⟨h6, h⟩ := Tr.mean_need h
            have h6 := of_decide_eq_true h6
            have := Tr.mean_ret h; subst this
            have hle : off + (List.replicate len z).length ≤ l.length := by simp; omega
            obtain ⟨m1, m2⟩ := midS (ℓ := ℓ) (v := .tup []) (rd := [g]) hg hle
            simp only [dV_part, get_dH, hg, Option.bind_some, dB]
            rw [if_pos ⟨trivial, trivial, c1, by simpa using h6, trivial, Nat.zero_le _, z2, z3⟩, m1]
            exact ⟨by simp only [List.map_replicate, List.length_map, dV_tup, List.map_nil, Fz.n], m2⟩
          · exact (Tr.mean_fail h).elim
        · exact (Tr.mean_fail h).elim
      · exact (Tr.mean_fail h).elim
    · exact (Tr.mean_fail h).elim
  · exact (Tr.mean_fail h).elim

theorem opLenS_spec (ha : Agr ℓ H) {t : TypeId} {x u : SV} (h : opLenS P t x H = some u) : opLen P t (dV ℓ x) = some (dV ℓ u) := by
  unfold opLenS at h
  unfold opLen
  split at h
  · rename_i hu; cases h; simp only [hu]; rfl
  · rename_i hu
    simp only [hu]
    cases x with
    | row t l b => cases h; simp [dV_row, rowAV, dV_int]
    | own t g =>
      simp only at h
      split at h
      · rename_i b hb
        cases h
        simp only [dV_own, dV_int, ha g b hb]
      · cases h
    | part t g off len => cases h; simp only [dV_part, dV_int]
    | _ => cases h
  · rename_i hu
    simp only [hu]
    cases x with
    | str s => cases h; rfl
    | _ => cases h
  · cases h

theorem minS_spec : ∀ (r : List SV) (x u : SV), minS x r = some u → minA (dV ℓ x) (r.map (dV ℓ)) = some (dV ℓ u) := by
  intro r
  induction r with
  | nil =>
    intro x u h
    unfold minS at h
    split at h
    · cases h; rfl
    · cases h
  | cons y r ih =>
    intro x u h
    unfold minS at h
    split at h
    · rename_i e; cases e
    · rename_i e
      cases e
      split at h
      · rename_i e; subst e
        simp only [List.map_cons, dV_int, minA, if_true]
        exact ih _ _ h
      · cases h
    · cases h

theorem maxS_spec : ∀ (r : List SV) (x u : SV), maxS x r = some u → maxA (dV ℓ x) (r.map (dV ℓ)) = some (dV ℓ u) := by
  intro r
  induction r with
  | nil =>
    intro x u h
    unfold maxS at h
    split at h
    · cases h; rfl
    · cases h
  | cons y r ih =>
    intro x u h
    unfold maxS at h
    split at h
    · rename_i e; cases e
    · rename_i e
      cases e
      split at h
      · rename_i e; subst e
        simp only [List.map_cons, dV_int, maxA, if_true]
        exact ih _ _ h
      · cases h
    · cases h

end
end Go.Abs
