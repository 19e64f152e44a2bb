/- Operations on typed values are those on abstract ones, second part. -/
import Derived.Test.YtcblbcpnfidndaaPxA
set_option linter.unusedSimpArgs false
set_option linter.unusedVariables false
namespace Go.Abs
open Go

section
variable {P : Program} {H : SHeap} {ℓ : Lens}

theorem rowAt_some {A B : Type} {l : List A} {n : Int} {k : (x : A) → l[n.toNat]? = some x → Option B} {b : B} (h : rowAt l n k = some b) : 0 ≤ n ∧ n < l.length ∧ ∃ x, ∃ hx : l[n.toNat]? = some x, k x hx = some b := by
  unfold rowAt at h
  cases hn : decide (0 ≤ n) with
  | false => rw [hn] at h; cases h
  | true =>
    rw [hn] at h
    have h0 := of_decide_eq_true hn
    obtain ⟨x, hx, hk⟩ := Option.pbind_eq_some_iff.1 (show Option.pbind l[n.toNat]? k = some b from h)
    have := (List.getElem?_eq_some_iff.1 hx).1
    exact ⟨h0, by omega, x, hx, hk⟩

theorem opFieldAddrS_spec {t : TypeId} {p u : SV} {f : Nat} (h : opFieldAddrS P t p f = some u) : opFieldAddr P t (dV ℓ p) f = some (dV ℓ u) := by
  unfold opFieldAddrS at h
  unfold opFieldAddr
  split at h
  · rename_i o ft hf
    simp only [hf]
    split at h
    · cases h
    · rename_i hs
      rw [if_neg hs]
      cases p with
      | ptr g sz i off =>
        by_cases h0 : 0 < sz
        · simp only [if_pos h0] at h
          cases h
          simp only [dV_ptr, if_pos h0]
        · simp only [if_neg h0] at h
          cases h
      | lp t l i x hx off => cases h; rfl
      | _ => cases h
  · cases h

theorem opFieldS_spec {t : TypeId} {p u : SV} {f : Nat} (h : opFieldS P t p f = some u) : opField P t (dV ℓ p) f = some (dV ℓ u) := by
  unfold opFieldS at h
  split at h
  · rename_i o ft cs hf
    simp only [dV_agg, opField, hf]
    exact partOfS_spec h ℓ
  · cases h

theorem lsz_pos {sz : Nat} {xs : List AV} (h : 0 < xs.length) : lsz sz xs = sz := by
  cases xs with
  | nil => simp at h
  | cons _ _ => rfl

theorem opIndexAddrS_spec (ha : Agr ℓ H) {t : TypeId} {x i u : SV} (h : (opIndexAddrS P t x i H).mean = some u) : opIndexAddr P t (dV ℓ x) (dV ℓ i) = some (dV ℓ u) := by
  unfold opIndexAddrS at h
  split at h
  · rename_i e k n hu
    unfold opIndexAddr
    simp only [dV_int, hu]
    cases x with
    | own t' g =>
      simp only at h
      split at h
      · rename_i b hb
        obtain ⟨h1, h2⟩ := Tr.mean_when h
        obtain ⟨h3, h4⟩ := Tr.mean_need h2
        have := Tr.mean_ret h4
        subst this
        obtain ⟨h5, h6⟩ := of_decide_eq_true h3
        obtain ⟨h1, h7⟩ := of_decide_eq_true h1
        simp only [dV_own, ha g b hb]
        rw [if_pos ⟨h1, h5, h6, h7⟩]
        simp only [dV_ptr, Nat.zero_add]
      · exact (Tr.mean_fail h).elim
    | part t' g off len =>
      obtain ⟨h1, h2⟩ := Tr.mean_when h
      obtain ⟨h3, h4⟩ := Tr.mean_need h2
      have := Tr.mean_ret h4
      subst this
      obtain ⟨h5, h6⟩ := of_decide_eq_true h3
      obtain ⟨h1, h7⟩ := of_decide_eq_true h1
      simp only [dV_part]
      rw [if_pos ⟨h1, h5, h6, h7⟩]
      rfl
    | row t' l tg =>
      obtain ⟨h1, h2⟩ := Tr.mean_when h
      simp only [Tr.mean] at h2
      obtain ⟨h3, h4, y, hy, h5⟩ := rowAt_some h2
      have h5 := Option.some.inj h5
      subst h5
      have hl : lsz t'.size (l.map (enc t')) = t'.size := lsz_pos (by simp; omega)
      simp only [dV_row, rowAV, hl]
      rw [if_pos ⟨h3, by simpa using h4, of_decide_eq_true h1⟩]
      rfl
    | _ => exact (Tr.mean_fail h).elim
  · rename_i len e k n hu
    unfold opIndexAddr
    simp only [dV_int, hu]
    cases x with
    | ptr g sz j off =>
      simp only at h
      simp only [dV_ptr]
      split at h
      · rename_i es he
        obtain ⟨h0, h⟩ := Tr.mean_when h
        obtain ⟨h3, h4⟩ := Tr.mean_need h
        have := Tr.mean_ret h4
        subst this
        simp only [he]
        rw [if_pos ⟨(of_decide_eq_true h3).1, (of_decide_eq_true h3).2, of_decide_eq_true h0⟩]
        rfl
      · exact (Tr.mean_fail h).elim
    | _ => exact (Tr.mean_fail h).elim
  · exact (Tr.mean_fail h).elim

theorem fmAtS_spec {n : Int} {k : SV → Bool → Tr SV} {u : SV} : ∀ (l : List (Int × FuncId × List FuncId)), (fmAtS l n k).mean = some u → ∃ v b, (k v b).mean = some u ∧ dV ℓ v = (fmAt l n).1 ∧ notTup v = true ∧ b = (fmAt l n).2 := by
  intro l
  induction l with
  | nil => intro h; exact ⟨_, _, h, rfl, rfl, rfl⟩
  | cons p r ih =>
    intro h
    obtain ⟨m, f, gs⟩ := p
    simp only [fmAtS, Tr.mean] at h
    by_cases hn : n = m
    · rw [show (n == m) = true by simpa using hn, cond_true] at h
      refine ⟨_, _, h, ?_, rfl, ?_⟩
      · simp only [dV_clo, fmAt, if_pos hn, List.map_map]
        rfl
      · simp only [fmAt, if_pos hn]
    · rw [show (n == m) = false by simpa using hn, cond_false] at h
      simp only [fmAt, if_neg hn]
      exact ih h

theorem opLookupS_spec {t : TypeId} {m k u : SV} {ok : Bool} (h : (opLookupS P t m k ok).mean = some u) : opLookup P t (dV ℓ m) (dV ℓ k) ok = some (dV ℓ u) := by
  unfold opLookupS at h
  split at h
  · rename_i kt et l n hu
    split at h
    · rename_i hkt hz
      obtain ⟨v, b, h1, h2, h3, h4⟩ := fmAtS_spec (ℓ := ℓ) l h
      have := Tr.mean_ret h1; subst this
      simp only [show dV ℓ (.fm l) = .fm l from rfl, dV_int, opLookup, hu, hkt, hz]
      cases ok
      · simp only [Bool.false_eq_true, if_false, h2]
      · simp only [if_true, dV_tup, List.map_cons, List.map_nil, ← h2, ← h4, notTup_d h3]
        rfl
    · exact (Tr.mean_fail h).elim
  · exact (Tr.mean_fail h).elim

theorem opIndexS_spec {t : TypeId} {x i u : SV} (h : (opIndexS P t x i).mean = some u) : opIndex P t (dV ℓ x) (dV ℓ i) = some (dV ℓ u) := by
  unfold opIndexS at h
  split at h
  · rename_i len e cs k n hu
    simp only [opIndex, dV_agg, dV_int, hu]
    split at h
    · rename_i es he
      obtain ⟨h3, h4⟩ := Tr.mean_need h
      simp only [he]
      rw [if_pos (of_decide_eq_true h3)]
      exact partOfS_spec (Tr.mean_of h4) ℓ
    · exact (Tr.mean_fail h).elim
  · rename_i s k n hu
    obtain ⟨h3, h4⟩ := Tr.mean_need h
    have := Tr.mean_ret h4
    subst this
    obtain ⟨h5, h6⟩ := of_decide_eq_true h3
    have hlt : n.toNat < s.size := by omega
    simp only [opIndex, dV_str, dV_int, hu, h5, if_true]
    have : s[n.toNat]? = some s[n.toNat] := by simp [hlt]
    simp [this]
  · exact (Tr.mean_fail h).elim

theorem arrL_spec {e : TypeId} {ty : Ty} {cs : List SV} {es : Nat} : ∀ (n i : Nat) (l : List ty.den), arrL P e ty cs es n i = some l → ∀ (k : Nat) (x : ty.den), l[k]? = some x → k < n ∧ partOf P e (cs.map (dC ℓ)) ((i + k) * es) = some (dV ℓ (unT ty x)) := by
  intro n
  induction n with
  | zero => intro i l h k x hx; cases h; simp at hx
  | succ n ih =>
    intro i l h k x hx
    simp only [arrL] at h
    split at h
    · rename_i v r h1 h2
      split at h
      · rename_i hs
        obtain ⟨y, h3, rfl⟩ := Option.map_eq_some_iff.1 h
        cases k with
        | zero =>
          simp only [List.getElem?_cons_zero, Option.some.injEq] at hx
          subst hx
          refine ⟨Nat.succ_pos n, ?_⟩
          rw [Nat.add_zero, partOfS_spec h1 ℓ]
          have hv : dV ℓ v = dA ℓ v := by
            cases v <;> first | rfl | (exfalso; cases ty <;> simp [paT, paC, SV.cells, SV.isAgg, Ty.agg] at h3)
          have hu : dV ℓ (unT ty y) = dA ℓ (unT ty y) := by cases ty <;> rfl
          rw [hv, paT_exact h3 hs, hu, unT_enc]
        | succ k =>
          simp only [List.getElem?_cons_succ] at hx
          obtain ⟨a1, a2⟩ := ih _ _ h2 k x hx
          exact ⟨Nat.succ_lt_succ a1, by rw [show i + (k + 1) = i + 1 + k by omega]; exact a2⟩
      · cases h
    · cases h

theorem opIndexVS_spec {t : TypeId} {x i u : SV} (h : (opIndexVS P t x i).mean = some u) : opIndex P t (dV ℓ x) (dV ℓ i) = some (dV ℓ u) := by
  unfold opIndexVS at h
  split at h
  · rename_i len e cs k n hu
    split at h
    · rename_i es ty he hty
      obtain ⟨l, h1, h2⟩ := Tr.mean_bind h
      have h1 := Tr.mean_of h1
      simp only [Tr.mean] at h2
      obtain ⟨h3, h4, y, hy, h5⟩ := rowAt_some h2
      have h5 := Option.some.inj h5
      subst h5
      obtain ⟨a1, a2⟩ := arrL_spec (ℓ := ℓ) _ _ _ h1 _ _ hy
      simp only [opIndex, dV_agg, dV_int, hu, he]
      rw [if_pos ⟨h3, by omega⟩]
      rw [Nat.zero_add] at a2
      exact a2
    · exact (Tr.mean_fail h).elim
  · exact opIndexS_spec h

theorem opIndex3S_spec {t : TypeId} {x i u : SV} {oi : Operand} (h : (opIndex3S P t x i oi).mean = some u) : opIndex P t (dV ℓ x) (dV ℓ i) = some (dV ℓ u) := by
  unfold opIndex3S at h
  split at h
  · exact opIndexS_spec h
  · exact opIndexVS_spec h

theorem binI_spec {op : BinOp} {k : IntKind} {a b : Int} {u : SV} (h : (binI op k a b).mean = some u) : opBin op (.int k a) (.int k b) = some (dV ℓ u) := by
  unfold binI at h
  split at h <;> first
    | (have := Tr.mean_ret h; subst this; simp [opBin, dV_int, dV_bool]; done)
    | (obtain ⟨h1, h2⟩ := Tr.mean_need h; have := Tr.mean_ret h2; subst this; have h1 := of_decide_eq_true h1; simp [opBin, dV_int, h1]; done)
    | exact (Tr.mean_fail h).elim

theorem shiftI_spec {op : BinOp} {k k' : IntKind} {a b : Int} {u : SV} (h : (shiftI op k a b).mean = some u) : opBin op (.int k a) (.int k' b) = some (dV ℓ u) := by
  unfold shiftI at h
  split at h <;> first
    | (obtain ⟨h1, h2⟩ := Tr.mean_need h; have := Tr.mean_ret h2; subst this; have h1 := of_decide_eq_true h1; simp [opBin, dV_int, h1]; done)
    | exact (Tr.mean_fail h).elim

theorem binS_spec {op : BinOp} {a b : ByteArray} {u : SV} (h : (binS op a b).mean = some u) : opBin op (.str a) (.str b) = some (dV ℓ u) := by
  unfold binS at h
  split at h <;> first
    | (have := Tr.mean_ret h; subst this; simp [opBin, dV_str, dV_bool]; done)
    | (obtain ⟨h1, h2⟩ := Tr.mean_need h; have := Tr.mean_ret h2; subst this; have h1 := of_decide_eq_true h1; simp [opBin, dV_str, h1]; done)
    | exact (Tr.mean_fail h).elim

theorem eqFieldsS_spec {eq : TypeId → SV → SV → Option Bool} {eq' : TypeId → AV → AV → Option Bool} (he : ∀ t x y b, eq t x y = some b → eq' t (dV ℓ x) (dV ℓ y) = some b) (xs ys : List SV) :
    ∀ (fs : List Field) (b : Bool), eqFieldsS P eq xs ys fs = some b → eqFields P eq' (xs.map (dC ℓ)) (ys.map (dC ℓ)) fs = some b := by
  intro fs
  induction fs with
  | nil => intro b h; exact h
  | cons f r ih =>
    intro b h
    simp only [eqFieldsS] at h
    simp only [eqFields]
    split at h
    · cases h
    · rename_i hn
      rw [if_neg hn]
      split at h
      · rename_i x y h1 h2
        simp only [partOfS_spec h1 ℓ, partOfS_spec h2 ℓ]
        split at h
        · rename_i c d h3 h4
          simp only [he _ _ _ _ h3, ih _ h4]
          exact h
        · cases h
      · cases h

theorem eqElemsS_spec {eq : TypeId → SV → SV → Option Bool} {eq' : TypeId → AV → AV → Option Bool} (he : ∀ t x y b, eq t x y = some b → eq' t (dV ℓ x) (dV ℓ y) = some b) (e : TypeId) (size : Nat) (xs ys : List SV) :
    ∀ (n i : Nat) (b : Bool), eqElemsS P eq e size xs ys n i = some b → eqElems P eq' e size (xs.map (dC ℓ)) (ys.map (dC ℓ)) n i = some b := by
  intro n
  induction n with
  | zero => intro i b h; exact h
  | succ n ih =>
    intro i b h
    simp only [eqElemsS] at h
    simp only [eqElems]
    split at h
    · rename_i x y h1 h2
      simp only [partOfS_spec h1 ℓ, partOfS_spec h2 ℓ]
      split at h
      · rename_i c d h3 h4
        simp only [he _ _ _ _ h3, ih _ _ h4]
        exact h
      · cases h
    · cases h

theorem eqAS_spec : ∀ (d : Nat) (t : TypeId) (x y : SV) (b : Bool), eqAS P d t x y = some b → eqA P d t (dV ℓ x) (dV ℓ y) = some b := by
  intro d
  induction d with
  | zero => intro t x y b h; cases h
  | succ d ih =>
    intro t x y b h
    unfold eqAS at h
    split at h
    · rename_i hu; simp only [eqA, dV_bool, hu]; exact h
    · rename_i hu; simp only [eqA, dV_int, hu]; exact h
    · rename_i hu; simp only [eqA, dV_str, hu]; exact h
    · rename_i fs xs ys hu
      simp only [eqA, dV_agg, hu]
      split at h
      · cases h
      · rename_i hs
        rw [if_neg hs]
        exact eqFieldsS_spec ih xs ys _ _ h
    · rename_i n e xs ys hu
      simp only [eqA, dV_agg, hu]
      split at h
      · rename_i size he
        simp only [he]
        exact eqElemsS_spec ih e size xs ys n 0 b h
      · cases h
    · cases h

theorem opEqlS_spec {t : TypeId} {x y : SV} {b : Bool} (h : opEqlS P t x y = some b) : opEql P t (dV ℓ x) (dV ℓ y) = some b := by
  unfold opEqlS at h
  split at h
  · simp only [opEql, dV_bool]
    exact eqAS_spec (ℓ := ℓ) 8 t _ _ b h
  · simp only [opEql, dV_agg]
    split at h
    · cases h
    · rename_i hg
      rw [if_neg hg]
      exact eqAS_spec (ℓ := ℓ) 8 t _ _ b h
  · cases h

theorem opBinS_spec {op : BinOp} {t : TypeId} {x y u : SV} (h : (opBinS P op t x y).mean = some u) : opBin2 P op t (dV ℓ x) (dV ℓ y) = some (dV ℓ u) := by
  unfold opBinS at h
  split at h
  · rename_i k a k' b
    split at h
    · have := shiftI_spec (ℓ := ℓ) (k' := k') h
      simp only [opBin2, dV_int, this]
    · obtain ⟨h1, h2⟩ := Tr.mean_when h
      have h1 := of_decide_eq_true h1
      subst h1
      have := binI_spec (ℓ := ℓ) h2
      simp only [opBin2, dV_int, this]
  · rename_i a b
    have := binS_spec (ℓ := ℓ) h
    simp only [opBin2, dV_str, this]
  · rename_i hn1 hn2
    have hx : ∀ z b, opEqlS P t x y = some b → opBin z (dV ℓ x) (dV ℓ y) = none := by
      intro z b hb
      unfold opEqlS at hb
      split at hb
      · rfl
      · rfl
      · cases hb
    split at h
    · obtain ⟨b, h1, rfl⟩ := Tr.mean_map h
      have h1 := Tr.mean_of h1
      simp only [opBin2, hx _ b h1, opEqlS_spec (ℓ := ℓ) h1, Option.map_some, dV_bool]
    · obtain ⟨b, h1, rfl⟩ := Tr.mean_map h
      have h1 := Tr.mean_of h1
      simp only [opBin2, hx _ b h1, opEqlS_spec (ℓ := ℓ) h1, Option.map_some, dV_bool]
    · exact (Tr.mean_fail h).elim

theorem opBin3S_spec {op : BinOp} {t : TypeId} {x y u : SV} {oy : Operand} (h : (opBin3S P op t x y oy).mean = some u) : opBin3 P op t (dV ℓ x) (dV ℓ y) oy = some (dV ℓ u) := by
  unfold opBin3S at h
  split at h
  · rename_i ty l tight
    unfold nilCmpS at h
    split at h
    · rename_i e ht
      obtain ⟨h1, h2⟩ := Tr.mean_need h
      have := Tr.mean_ret h2
      subst this
      have h1 := of_decide_eq_true h1
      cases l with
      | nil => simp at h1
      | cons a r =>
        have e1 : opBin2 P .eql t (dV ℓ (.row ty (a :: r) tight)) (dV ℓ y) = none := by
          simp only [opBin2, dV, dA, dC, d1, rowAV, opBin, opEql, Option.map_none]
        simp only [opBin3, e1]
        simp only [nilCmp, ht, dV, dA, dC, d1, rowAV, List.map_cons]
    · exact (Tr.mean_fail h).elim
  · simp only [opBin3, opBinS_spec (ℓ := ℓ) h]


theorem opUnS_spec {op : UnOp} {x u : SV} (h : opUnS op x = some u) : opUn op (dV ℓ x) = some (dV ℓ u) := by
  unfold opUnS at h
  split at h
  · cases h; rfl
  · cases h; rfl
  · cases h

theorem opConvertS_spec {a b : TypeId} {x u : SV} (h : opConvertS P a b x = some u) : opConvert P a b (dV ℓ x) = some (dV ℓ u) := by
  unfold opConvertS at h
  split at h
  · rename_i h1 h2; cases h; simp only [opConvert, dV_int, h1, h2]
  · rename_i h1 h2; cases h; simp only [opConvert, dV_str, h1, h2]
  · cases h

theorem boundS_spec {o : Option SV} {d r : Nat} (h : (boundS o d).mean = some r) : bound (o.map (dV ℓ)) d = some r := by
  unfold boundS at h
  split at h
  · have := Tr.mean_ret h; subst this; rfl
  · obtain ⟨h1, h2⟩ := Tr.mean_need h
    have := Tr.mean_ret h2; subst this
    simp only [Option.map_some, dV_int, bound]
    rw [if_pos (of_decide_eq_true h1)]
  · exact (Tr.mean_fail h).elim

theorem opSliceS_spec (ha : Agr ℓ H) {t : TypeId} {x : SV} {lo hi mx : Option SV} {r : SRes} (h : (opSliceS P t x lo hi mx H).mean = some r) :
    opSlice P t (dV ℓ x) (lo.map (dV ℓ)) (hi.map (dV ℓ)) (mx.map (dV ℓ)) (dH ℓ H) = some (dR ℓ r) ∧ LenOK H r.wr ∧ r.new = [] := by
  unfold opSliceS at h
  split at h
  · rename_i s hu
    simp only [opSlice, dV_str, hu]
    cases mx with
    | some _ => exact (Tr.mean_fail h).elim
    | none =>
      obtain ⟨l, h1, h⟩ := Tr.mean_bind h
      obtain ⟨hh, h2, h⟩ := Tr.mean_bind h
      obtain ⟨h3, h⟩ := Tr.mean_need h
      have := Tr.mean_ret h; subst this
      refine ⟨?_, LenOK.nil, rfl⟩
      simp only [Option.map_none, boundS_spec (ℓ := ℓ) h1, boundS_spec (ℓ := ℓ) h2]
      rw [if_pos (of_decide_eq_true h3)]
      rfl
  · rename_i e t' xs tight hu
    obtain ⟨h0, h⟩ := Tr.mean_when h
    have h0 := of_decide_eq_true h0
    have hsz : ((tsize P e).isSome && (decide (tsize P e = some (lsz t'.size (xs.map (enc t')))) || (xs.map (enc t')).isEmpty)) = true := by
      rw [h0]
      cases xs with
      | nil => simp
      | cons y ys => simp [lsz]
    have hlz : ∀ l k, lsz (lsz t'.size (xs.map (enc t'))) (((xs.map (enc t')).drop l).take k) = lsz t'.size (((xs.drop l).take k).map (enc t')) := by
      intro l k
      rw [← List.map_drop, ← List.map_take]
      cases xs with
      | nil => simp [lsz]
      | cons y ys => rfl
    simp only [opSlice, dV_row, rowAV, hu]
    rw [if_pos hsz]
    simp only [List.length_map]
    cases mx with
    | none =>
      obtain ⟨l, h1, h⟩ := Tr.mean_bind h
      obtain ⟨hh, h2, h⟩ := Tr.mean_bind h
      obtain ⟨h3, h⟩ := Tr.mean_need h
      have := Tr.mean_ret h; subst this
      refine ⟨?_, LenOK.nil, rfl⟩
      simp only [Option.map_none, boundS_spec (ℓ := ℓ) h1, boundS_spec (ℓ := ℓ) h2]
      rw [if_pos (of_decide_eq_true h3), hlz]
      simp only [dR, dV_row, rowAV, List.map_drop, List.map_take, dW, List.map_nil, Option.isNone_map]
    | some m =>
      obtain ⟨l, h1, h⟩ := Tr.mean_bind h
      obtain ⟨hh, h2, h⟩ := Tr.mean_bind h
      obtain ⟨mm, h4, h⟩ := Tr.mean_bind h
      obtain ⟨h5, h⟩ := Tr.mean_when h
      obtain ⟨h3, h⟩ := Tr.mean_need h
      have := Tr.mean_ret h; subst this
      obtain ⟨c1, rfl, c3⟩ := of_decide_eq_true h3
      refine ⟨?_, LenOK.nil, rfl⟩
      have h4' := boundS_spec (ℓ := ℓ) h4
      simp only [Option.map_some] at h4'
      simp only [Option.map_some, boundS_spec (ℓ := ℓ) h1, boundS_spec (ℓ := ℓ) h2, h4']
      rw [if_pos ⟨c1, Nat.le_refl _, c3, by simpa using h5⟩, hlz]
      simp only [dR, dV_row, rowAV, List.map_drop, List.map_take, dW, List.map_nil, beq_self_eq_true]
  · rename_i e t' g hu
    split at h
    · rename_i t2 l2 z hg
      split at h
      · rename_i ht
        subst ht
        obtain ⟨h0, h⟩ := Tr.mean_when h
        have h0 := of_decide_eq_true h0
        have hlen : ℓ g = l2.length := ha g _ hg
        simp only [opSlice, dV_own, hu]
        rw [if_pos h0]
        simp only [hlen]
        cases mx with
        | none =>
          have gen : ∀ (lo hi : Option SV), ((boundS lo 0).bind fun l => (boundS hi l2.length).bind fun h => Tr.need (decide (l ≤ h ∧ h ≤ l2.length)) (.ret { val := SV.part t2 g l (h - l) })).mean = some r →
              (match (none : Option AV), bound (lo.map (dV ℓ)) 0, bound (hi.map (dV ℓ)) l2.length with
              | none, some l, some h => if l ≤ h ∧ h ≤ l2.length then some { val := AV.own g t2.size (0 + l) (h - l) } else none
              | some m, some l, some h => match bound (some m) 0, get (dH ℓ H) g with
                | some m, some b => if l ≤ h ∧ h ≤ m ∧ m ≤ l2.length ∧ 0 + l2.length ≤ b.elems.length ∧ b.box = false ∧ b.sz = t2.size ∧ (hi.map (dV ℓ)).isSome = true ∧ 0 < t2.size then
                    some { val := .lst (lsz t2.size ((b.elems.drop (0 + l)).take (h - l))) ((b.elems.drop (0 + l)).take (h - l)) (h == m), rd := [g], wr := stops (dH ℓ H) [g] } else none
                | _, _ => none
              | _, _, _ => none) = some (dR ℓ r) ∧ LenOK H r.wr ∧ r.new = [] := by
            intro lo hi h
            obtain ⟨l, h1, h⟩ := Tr.mean_bind h
            obtain ⟨hh, h2, h⟩ := Tr.mean_bind h
            obtain ⟨h3, h⟩ := Tr.mean_need h
            have := Tr.mean_ret h; subst this
            refine ⟨?_, LenOK.nil, rfl⟩
            simp only [boundS_spec (ℓ := ℓ) h1, boundS_spec (ℓ := ℓ) h2]
            rw [if_pos (of_decide_eq_true h3)]
            simp only [dR, dV_part, dW, List.map_nil, Nat.zero_add]
          simp only at h
          split at h
          · have := Tr.mean_ret h; subst this
            refine ⟨?_, LenOK.nil, rfl⟩
            simp [bound, dR, dV_own, hlen, dW]
          · exact gen lo hi h
        | some m =>
          obtain ⟨l, h1, h⟩ := Tr.mean_bind h
          obtain ⟨hh, h2, h⟩ := Tr.mean_bind h
          obtain ⟨mm, h4, h⟩ := Tr.mean_bind h
          obtain ⟨h5, h⟩ := Tr.mean_when h
          obtain ⟨h3, h⟩ := Tr.mean_need h
          have := Tr.mean_ret h; subst this
          obtain ⟨c1, rfl, c3⟩ := of_decide_eq_true h3
          have hs : ∀ g' ∈ [g], IsArr H g' := fun g' hg' => by simp at hg'; subst hg'; exact ⟨_, _, _, hg⟩
          refine ⟨?_, stopsS_len _, rfl⟩
          have h4' := boundS_spec (ℓ := ℓ) h4
          simp only [Option.map_some] at h4'
          simp only [Option.map_some, boundS_spec (ℓ := ℓ) h1, boundS_spec (ℓ := ℓ) h2, h4', get_dH, hg, Option.bind_some, dB]
          simp only [Bool.and_eq_true, decide_eq_true_eq] at h5
          rw [if_pos (by simp [c1, c3, h5])]
          simp only [dR, dV_row, rowAV, List.map_drop, List.map_take, dW, stopsS_spec hs, List.map_nil, Nat.zero_add, beq_self_eq_true]
      · exact (Tr.mean_fail h).elim
    · exact (Tr.mean_fail h).elim
  · rename_i e t' g off len hu
    obtain ⟨h0, h⟩ := Tr.mean_when h
    have h0 := of_decide_eq_true h0
    simp only [opSlice, dV_part, hu]
    rw [if_pos h0]
    cases mx with
    | some _ => exact (Tr.mean_fail h).elim
    | none =>
      obtain ⟨l, h1, h⟩ := Tr.mean_bind h
      obtain ⟨hh, h2, h⟩ := Tr.mean_bind h
      obtain ⟨h3, h⟩ := Tr.mean_need h
      have := Tr.mean_ret h; subst this
      refine ⟨?_, LenOK.nil, rfl⟩
      simp only [Option.map_none, boundS_spec (ℓ := ℓ) h1, boundS_spec (ℓ := ℓ) h2]
      rw [if_pos (of_decide_eq_true h3)]
      rfl
  · exact (Tr.mean_fail h).elim

end
end Go.Abs
