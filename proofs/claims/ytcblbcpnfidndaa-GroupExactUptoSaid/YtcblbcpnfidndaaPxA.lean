/- Operations on typed values are those on abstract ones. -/
import Derived.Test.YtcblbcpnfidndaaPwZ
set_option linter.unusedSimpArgs false
set_option linter.unusedVariables false
namespace Go.Abs
open Go

def dN (ℓ : Lens) (b : SB) : Blk := match dB ℓ b with
  | some k => k
  | none => ⟨0, [], 0, false⟩

def dW (ℓ : Lens) (wr : List (Nm × SB)) : List (Nm × Option Blk) := wr.map fun p => (p.1, dB ℓ p.2)

def dR (ℓ : Lens) (r : SRes) : Res := { val := dV ℓ r.val, rd := r.rd, wr := dW ℓ r.wr, new := r.new.map (dN ℓ) }

theorem dR_val1 (ℓ : Lens) (v : SV) : dR ℓ (val1 v) = { val := dV ℓ v } := rfl

/-- The lengths of the new blocks. -/
def NewOK (ℓ : Lens) (slot : Nat) (new : List SB) : Prop := ∀ (k : Nat) (b : SB), new[k]? = some b → ℓ (slot, k) = b.len

theorem svC1_d (ℓ : Lens) (v : Value) : d1 ℓ (svC1 v) = cv1 v ∧ dC ℓ (svC1 v) = cv1 v ∧ dA ℓ (svC1 v) = cv1 v ∧ dV ℓ (svC1 v) = cv1 v := by
  cases v with
  | pointer p => cases p <;> exact ⟨rfl, rfl, rfl, rfl⟩
  | slice a n c =>
    cases a with
    | some _ => exact ⟨rfl, rfl, rfl, rfl⟩
    | none =>
      cases n with
      | succ n => exact ⟨rfl, rfl, rfl, rfl⟩
      | zero => cases c <;> exact ⟨rfl, rfl, rfl, rfl⟩
  | _ => exact ⟨rfl, rfl, rfl, rfl⟩

theorem okSC_svC1 (v : Value) : okSC (svC1 v) = okC (cv1 v) := by
  cases v with
  | pointer p => cases p <;> rfl
  | slice a n c =>
    cases a with
    | some _ => rfl
    | none =>
      cases n with
      | succ n => rfl
      | zero => cases c <;> rfl
  | _ => rfl

theorem svC_d (ℓ : Lens) (v : Value) : dA ℓ (svC v) = cv v ∧ dV ℓ (svC v) = cv v := by
  cases v with
  | agg cs =>
    have e : (cs.toList.map svC1).all okSC = (cs.toList.map cv1).all okC := by
      simp only [List.all_map]
      congr 1
      funext v
      exact okSC_svC1 v
    simp only [svC, cv, e]
    split
    · have : List.map (dC ℓ) (cs.toList.map svC1) = cs.toList.map cv1 := by
        simp only [List.map_map]
        exact List.map_congr_left fun v _ => (svC1_d ℓ v).2.1
      exact ⟨by simp only [dA, this], by simp only [dV, dA, this]⟩
    · exact ⟨rfl, rfl⟩
  | _ => first | exact ⟨(svC1_d ℓ _).2.2.1, (svC1_d ℓ _).2.2.2⟩ | exact ⟨rfl, rfl⟩

theorem dV_undef (ℓ : Lens) : dV ℓ .undef = .undef := rfl
theorem dV_int (ℓ : Lens) (k : IntKind) (n : Int) : dV ℓ (.int k n) = .int k n := rfl
theorem dV_bool (ℓ : Lens) (b : Bool) : dV ℓ (.bool b) = .bool b := rfl
theorem dV_str (ℓ : Lens) (s : ByteArray) : dV ℓ (.str s) = .str s := rfl
theorem dV_row (ℓ : Lens) (t : Ty) (l : List t.den) (b : Bool) : dV ℓ (.row t l b) = rowAV t l b := rfl
theorem dV_own (ℓ : Lens) (t : Ty) (g : Nm) : dV ℓ (.own t g) = .own g t.size 0 (ℓ g) := rfl
theorem dV_part (ℓ : Lens) (t : Ty) (g : Nm) (off len : Nat) : dV ℓ (.part t g off len) = .own g t.size off len := rfl
theorem dV_ptr (ℓ : Lens) (g : Nm) (sz i off : Nat) : dV ℓ (.ptr g sz i off) = .ptr g sz i off := rfl
theorem dV_lp (ℓ : Lens) (t : Ty) (l : List t.den) (i : Nat) (x : t.den) (h : l[i]? = some x) (off : Nat) : dV ℓ (.lp t l i x h off) = .lp t.size (l.map (enc t)) i off := rfl
theorem dV_clo (ℓ : Lens) (f : FuncId) (cs : List SV) : dV ℓ (.clo f cs) = .clo f (cs.map (d1 ℓ)) := rfl
theorem dV_agg (ℓ : Lens) (cs : List SV) : dV ℓ (.agg cs) = .agg (cs.map (dC ℓ)) := rfl
theorem dV_tup (ℓ : Lens) (vs : List SV) : dV ℓ (.tup vs) = .tup (vs.map (dA ℓ)) := rfl

theorem evS_d (ℓ : Lens) (fr : SFr) (x : Operand) : dV ℓ (evS fr x) = evO (dF ℓ fr) x := by
  cases x with
  | tmp t => exact (look_dF ℓ fr t).symm
  | const v => exact (svC_d ℓ v).2
  | global g => rfl
  | func f => rfl

theorem isOne_d {v : SV} (h : isOne v = true) (ℓ : Lens) : dV ℓ v = dC ℓ v ∧ dA ℓ v = dC ℓ v := by cases v <;> first | exact ⟨rfl, rfl⟩ | cases h
theorem notTup_d {v : SV} (h : notTup v = true) (ℓ : Lens) : dV ℓ v = dA ℓ v := by cases v <;> first | rfl | cases h

/-! ### Parts of values -/

theorem ofCellsS_spec {agg : Bool} {cs : List SV} {u : SV} (h : ofCellsS agg cs = some u) (ℓ : Lens) : ofCells agg (cs.map (dC ℓ)) = some (dV ℓ u) := by
  cases agg with
  | true => cases h; rfl
  | false =>
    cases cs with
    | nil => cases h
    | cons c r =>
      cases r with
      | cons _ _ => cases h
      | nil =>
        simp only [ofCellsS] at h
        split at h
        · rename_i h1; cases h; rw [(isOne_d h1 ℓ).1]; rfl
        · cases h

theorem loadAtS_spec {size off : Nat} {agg : Bool} {x u : SV} (h : loadAtS size agg x off = some u) (ℓ : Lens) : loadAt size agg (dA ℓ x) off = some (dV ℓ u) := by
  unfold loadAtS at h
  unfold loadAt
  rw [cells_dA, List.length_map, isAgg_dA]
  split at h
  · rename_i h1
    rw [if_pos h1]
    split at h
    · rename_i h2
      rw [if_pos h2]
      split at h
      · rename_i h3; cases h; rw [notTup_d h3]
      · cases h
    · rename_i h2
      rw [if_neg h2, ← List.map_drop, ← List.map_take]
      exact ofCellsS_spec h ℓ
  · cases h

theorem partOfS_spec {P : Program} {t : TypeId} {cs : List SV} {off : Nat} {u : SV} (h : partOfS P t cs off = some u) (ℓ : Lens) : partOf P t (cs.map (dC ℓ)) off = some (dV ℓ u) := by
  unfold partOfS at h
  unfold partOf
  split at h
  · rename_i size agg h1 h2
    simp only [h1, h2, List.length_map]
    split at h
    · rename_i h3
      rw [if_pos h3, ← List.map_drop, ← List.map_take]
      exact ofCellsS_spec h ℓ
    · cases h
  · cases h

section
variable {P : Program} {H : SHeap} {ℓ : Lens}

theorem opLoadS_spec {t : TypeId} {p : SV} {r : SRes} (h : (opLoadS P t p H).mean = some r) : opLoad P t (dV ℓ p) (dH ℓ H) = some (dR ℓ r) ∧ r.wr = [] := by
  unfold opLoadS at h
  unfold opLoad
  split at h
  · rename_i size agg h1 h2
    simp only [h1, h2]
    cases p with
    | ptr g sz i off =>
      simp only at h
      simp only [dV_ptr, get_dH]
      split at h
      · rename_i sz' v hg
        obtain ⟨h3, h4⟩ := Tr.mean_when h
        obtain ⟨rfl, rfl, h0⟩ := of_decide_eq_true h3
        obtain ⟨u, h5, rfl⟩ := Tr.mean_map h4
        have := loadAtS_spec (Tr.mean_of h5) ℓ
        simp [hg, dB, this, dR, dW, h0]
      · rename_i t' l z hg
        obtain ⟨h3, h4⟩ := Tr.mean_when h
        have h3 := of_decide_eq_true h3
        simp only [Tr.mean] at h4
        obtain ⟨x, h5, h6⟩ := Option.bind_eq_some_iff.1 h4
        obtain ⟨u, h7, rfl⟩ := Tr.mean_map h6
        have := loadAtS_spec (Tr.mean_of h7) ℓ
        rw [unT_enc] at this
        simp [hg, dB, h3, h5, this, dR, dW]
      · exact (Tr.mean_fail h).elim
    | lp t' l i x hx off =>
      simp only at h
      obtain ⟨u, h7, rfl⟩ := Tr.mean_map h
      have := loadAtS_spec (Tr.mean_of h7) ℓ
      rw [unT_enc] at this
      simp [dV_lp, hx, cells_enc, length_encC, this, dR, dW, val1]
    | fp g =>
      simp only at h
      obtain ⟨h3, h4⟩ := Tr.mean_when h
      have h3 := of_decide_eq_true h3
      have := Tr.mean_ret h4; subst this
      simp only [show dV ℓ (.fp g) = .fp g from rfl]
      rw [if_pos h3]
      exact ⟨rfl, rfl⟩
    | _ => exact (Tr.mean_fail h).elim
  · exact (Tr.mean_fail h).elim

theorem slack1_enc {v : SV} (h : slack1 v = true) : v.isAgg = false := by cases v <;> first | rfl | cases h

/-- A datum out of cells of which none may be appended to is just that. -/
theorem paC_exact : ∀ (t : Ty) (cs : List SV) (x : t.den) (r : List SV), paC t cs = some (x, r) → (∀ c ∈ cs, slack1 c = true) → ∃ pre, cs = pre ++ r ∧ pre.map (dC ℓ) = encC t x := by
  intro t
  induction t with
  | int k =>
    intro cs x r h _
    cases cs with
    | nil => cases h
    | cons c cs =>
      cases c <;> first | (cases h; done) | skip
      simp only [paC] at h
      split at h
      · rename_i e; subst e; cases h; exact ⟨[_], rfl, rfl⟩
      · cases h
  | bool =>
    intro cs x r h _
    cases cs with
    | nil => cases h
    | cons c cs => cases c <;> first | (cases h; done) | skip
                   cases h; exact ⟨[_], rfl, rfl⟩
  | str =>
    intro cs x r h _
    cases cs with
    | nil => cases h
    | cons c cs => cases c <;> first | (cases h; done) | skip
                   cases h; exact ⟨[_], rfl, rfl⟩
  | row t ih =>
    intro cs x r h hs
    cases cs with
    | nil => cases h
    | cons c cs =>
      have hc := hs c (by simp)
      cases c <;> first | cases h | skip
      rename_i t' l tg
      cases tg with
      | true => cases hc
      | false =>
        simp only [paC] at h
        split at h
        · rename_i l' hl
          cases h
          exact ⟨[_], rfl, by simp only [List.map_cons, List.map_nil, dC, d1, castL_spec hl false]; rfl⟩
        · cases h
  | unit => intro cs x r h _; cases h; exact ⟨[], rfl, rfl⟩
  | cons a b iha ihb =>
    intro cs x r h hs
    simp only [paC] at h
    split at h
    · rename_i y r1 h1
      split at h
      · rename_i z r2 h2
        cases h
        obtain ⟨p1, rfl, f1⟩ := iha _ _ _ h1 hs
        obtain ⟨p2, rfl, f2⟩ := ihb _ _ _ h2 (fun c hc => hs c (by simp at hc ⊢; right; exact hc))
        exact ⟨p1 ++ p2, by simp, by rw [List.map_append, f1, f2]; rfl⟩
      · cases h
    · cases h

theorem paT_exact {t : Ty} {v : SV} {x : t.den} (h : paT t v = some x) (hs : slack v = true) : dA ℓ v = enc t x := by
  unfold paT at h
  split at h
  · rename_i hagg
    split at h
    · rename_i y hy
      cases h
      have hsl : ∀ c ∈ v.cells, slack1 c = true := by
        cases v with
        | agg cs => simpa [slack, SV.cells] using hs
        | _ => intro c hc; simp [SV.cells] at hc; subst hc; exact hs
      obtain ⟨pre, h1, h2⟩ := paC_exact (ℓ := ℓ) t _ _ _ hy hsl
      rw [List.append_nil] at h1
      subst h1
      rw [← cells_dA] at h2
      unfold enc wrap
      rw [← h2, ← hagg, ← isAgg_dA ℓ]
      generalize dA ℓ v = z
      cases z <;> rfl
    · cases h
  · cases h

theorem spliceS_d (cs : List SV) (off : Nat) (new : List SV) : (spliceS cs off new).map (dC ℓ) = splice (cs.map (dC ℓ)) off (new.map (dC ℓ)) := by
  simp [spliceS, splice, List.map_take, List.map_drop]

theorem LenOK.append {wr wr' : List (Nm × SB)} (h : LenOK H wr) (k : LenOK H wr') : LenOK H (wr ++ wr') := by
  intro p hp
  rcases List.mem_append.1 hp with hp | hp
  · exact h p hp
  · exact k p hp
theorem LenOK.nil : LenOK H [] := fun p hp => by simp at hp
theorem LenOK.one {g : Nm} {b b0 : SB} (h : getS H g = some b0) (hl : b.len = b0.len) : LenOK H [(g, b)] := by
  intro p hp x hx
  simp at hp
  subst hp
  rw [h] at hx
  cases hx
  exact hl

theorem set_map_enc {t : Ty} (l : List t.den) (i : Nat) (y : t.den) : (l.map (enc t)).set i (enc t y) = (l.set i y).map (enc t) := by rw [List.map_set]

theorem fzNeed_spec {z : Fz} {len i : Nat} {t : Tr SRes} {r : SRes} (h : (fzNeed z len i t).mean = some r) : z.n len ≤ i ∧ t.mean = some r := by
  cases z with
  | zero => exact ⟨Nat.zero_le _, h⟩
  | all => obtain ⟨h1, h2⟩ := Tr.mean_need h; exact ⟨of_decide_eq_true h1, h2⟩
  | low k => obtain ⟨h1, h2⟩ := Tr.mean_need h; exact ⟨of_decide_eq_true h1, h2⟩

theorem okSV_notTup {v : SV} (h : okSV v = true) : notTup v = true := by cases v <;> first | rfl | cases h

theorem opStoreS_spec (ha : Agr ℓ H) {t : TypeId} {p v : SV} {r : SRes} (h : (opStoreS P t p v H).mean = some r) : opStore P t (dV ℓ p) (dV ℓ v) (dH ℓ H) = some (dR ℓ r) ∧ LenOK H r.wr ∧ r.new = [] := by
  unfold opStoreS at h
  unfold opStore
  split at h
  · rename_i size h1
    simp only [h1]
    cases p with
    | ptr g sz i off =>
      simp only at h
      simp only [dV_ptr, get_dH]
      split at h
      · rename_i sz' x hg
        obtain ⟨h2, h3⟩ := Tr.mean_when h
        obtain ⟨rfl, rfl, h4, h5, h6, h0⟩ := of_decide_eq_true h2
        have hv : dV ℓ v = dA ℓ v := notTup_d (okSV_notTup h6) ℓ
        have hc : (dA ℓ v).cells.length = size ∧ off + size ≤ sz' ∧ okV (dA ℓ v) = true := ⟨by rw [cells_dA, List.length_map]; exact h4, h5, by rw [okV_dA]; exact h6⟩
        simp only [hg, Option.bind_some, dB, true_and, Nat.le_refl, h0, if_true, List.getElem?_cons_zero, show dV ℓ v = dA ℓ v from hv]
        rw [if_pos hc]
        split at h3
        · rename_i he
          have := Tr.mean_ret h3
          subst this
          refine ⟨?_, LenOK.one hg rfl, rfl⟩
          unfold newElem
          rw [if_pos he]
          rfl
        · rename_i he
          split at h3
          · rename_i hx
            have := Tr.mean_ret h3
            subst this
            refine ⟨?_, LenOK.one hg rfl, rfl⟩
            unfold newElem
            rw [if_neg he, isAgg_dA, if_pos hx]
            simp only [cells_dA, ← spliceS_d]
            rfl
          · exact (Tr.mean_fail h3).elim
      · rename_i t' l z hg
        obtain ⟨⟨u, m⟩, h2, h3⟩ := Tr.mean_bind h
        obtain ⟨h4, h5⟩ := Tr.mean_when h3
        obtain ⟨rfl, c1, c2, c3, c4, c5, h0⟩ := of_decide_eq_true h4
        obtain ⟨c6, h6⟩ := fzNeed_spec h5
        obtain ⟨e1, e2⟩ := pureVS_spec ha h2
        have hv : dV ℓ v = dA ℓ v := by
          cases v <;> first | rfl | exact (Tr.mean_fail h2).elim
        have hcc : (dA ℓ u).cells.length = size ∧ off + size ≤ t'.size ∧ ¬ g ∈ m ∧ okV (dA ℓ u) = true := ⟨by rw [cells_dA, List.length_map]; exact c1, c2, c3, by rw [okV_dA]; exact c4⟩
        have hwr : ∀ y : t'.den, LenOK H (stopsS H m ++ [(g, .arr t' (l.set i y) z)]) := fun y => (stopsS_len m).append (LenOK.one hg (by simp [SB.len]))
        have hdw : ∀ y : t'.den, dW ℓ (stopsS H m ++ [(g, .arr t' (l.set i y) z)]) = stops (dH ℓ H) m ++ [(g, some ⟨t'.size, (l.set i y).map (enc t'), z.n l.length, false⟩)] := fun y => by
          rw [← stopsS_spec e2]
          simp only [dW, List.map_append, List.map_cons, List.map_nil, dB, List.length_set]
        simp only [hg, Option.bind_some, dB, true_and, show dV ℓ v = dA ℓ v from hv, e1, Bool.false_eq_true, if_false]
        rw [if_pos ⟨c6, h0⟩]
        split at h6
        · rename_i he
          obtain ⟨c7, h7⟩ := Tr.mean_need h6
          obtain ⟨y, h8, h9⟩ := Tr.mean_bind h7
          have := Tr.mean_ret h9
          subst this
          have hi := of_decide_eq_true c7
          have hy := paT_exact (ℓ := ℓ) (Tr.mean_of h8) c5
          refine ⟨?_, hwr y, rfl⟩
          simp only [List.getElem?_map, List.getElem?_eq_getElem hi, Option.map_some]
          rw [if_pos hcc]
          unfold newElem
          rw [if_pos he]
          simp only [dR, hdw, hy, set_map_enc, dV_tup, List.map_nil]
        · rename_i he
          simp only [Tr.mean] at h6
          obtain ⟨x, h7, h8⟩ := Option.bind_eq_some_iff.1 h6
          obtain ⟨h9, h10⟩ := Tr.mean_when h8
          obtain ⟨y, h11, h12⟩ := Tr.mean_bind h10
          have := Tr.mean_ret h12
          subst this
          have hx : dA ℓ (SV.agg (spliceS (unC t' x) off u.cells)) = .agg (splice (enc t' x).cells off (dA ℓ u).cells) := by
            rw [cells_enc, cells_dA, ← (enc_cells t' x ℓ).2, ← spliceS_d]
            rfl
          have hsl : slack (SV.agg (spliceS (unC t' x) off u.cells)) = true := by
            simp only [slack, List.all_eq_true]
            intro c hc
            have h1 : ∀ c ∈ unC t' x, slack1 c = true := by
              have : ∀ (t : Ty) (x : t.den), ∀ c ∈ unC t x, slack1 c = true := by
                intro t
                induction t with
                | cons a b iha ihb => intro x c hc; simp only [unC, List.mem_append] at hc; exact hc.elim (iha _ c) (ihb _ c)
                | unit => intro x c hc; cases hc
                | _ => intro x c hc; simp [unC] at hc; subst hc; rfl
              exact this t' x
            have h2 : ∀ c ∈ u.cells, slack1 c = true := by
              cases u with
              | agg cs => simpa [slack, SV.cells] using c5
              | _ => intro c hc; simp [SV.cells] at hc; subst hc; exact c5
            simp only [spliceS, List.mem_append] at hc
            rcases hc with (hc | hc) | hc
            · exact h1 c (List.mem_of_mem_take hc)
            · exact h2 c hc
            · exact h1 c (List.mem_of_mem_drop hc)
          have hy := paT_exact (ℓ := ℓ) (Tr.mean_of h11) hsl
          refine ⟨?_, hwr y, rfl⟩
          simp only [List.getElem?_map, h7, Option.map_some]
          rw [if_pos hcc]
          unfold newElem
          rw [if_neg he, isAgg_enc, if_pos h9, ← hx, hy]
          simp only [dR, hdw, set_map_enc, dV_tup, List.map_nil]
      · exact (Tr.mean_fail h).elim
    | _ => exact (Tr.mean_fail h).elim
  · exact (Tr.mean_fail h).elim

end
end Go.Abs
