/- Operations that only read, continued. -/
import Derived.Test.YtcblbcpnfidndaaPwE
import Derived.Lib.SliceRun
set_option linter.unusedSimpArgs false
set_option linter.unusedVariables false
namespace Go.Abs
open Go

section
variable {P : Program} {w : World} {X Y : XT} {ρ : Rho}

theorem opIndexAddr_sound {t : TypeId} {x i y : AV} {v u : Value} (hv : VR w X ρ v x) (hu : VR w X ρ u i) (h : opIndexAddr P t x i = some y) :
    ∃ r, (Instr.indexAt t v u).run P w = .ok r w ∧ VR w X ρ r y := by
  unfold opIndexAddr at h
  cases hd : P.underlying t with
  | none => simp [hd] at h
  | some d =>
    cases i with
    | int k n =>
      have hu' := hu.intInv
      subst hu'
      cases d with
      | slice e =>
        simp only [hd] at h
        cases x with
        | own g sz off len =>
          simp only at h
          split at h
          · rename_i hc
            obtain ⟨hs, h0, hl, hsp⟩ := hc
            cases h
            rcases hv.ownInv with ⟨a, rfl, rfl⟩ | ⟨b, cap, rfl, hρ, _, _, _⟩
            · exact absurd (Int.lt_of_le_of_lt h0 hl) (by simp)
            · refine ⟨.pointer (some ⟨b, (off + n.toNat) * sz + 0, none⟩), ?_, .ptr _ _ _ _ _ hsp hρ⟩
              simp [Instr.indexAt, asIntOf, run_underlying hd, h0, hl, run_tsize hs, addr_add, Nat.add_mul]
          · cases h
        | lst sz xs tt =>
          simp only at h
          split at h
          · rename_i hc
            obtain ⟨h0, hl, hs⟩ := hc
            cases h
            cases hv with
            | pur v x hp =>
              cases hp with
              | lst0 a cap sz t ht => simp at hl; omega
              | lst b o n' cap sz t xs f hn hc ht hsz hx hr =>
                refine ⟨.pointer (some ⟨b, o + (n.toNat * sz + 0), none⟩), ?_, .pur _ _ (.lp _ _ _ _ _ _ _ hsz hx hr)⟩
                have : n < (n' : Int) := by rw [← hn]; exact hl
                simp [Instr.indexAt, asIntOf, run_underlying hd, h0, this, run_tsize hs, addr_add]
          · cases h
        | _ => simp at h
      | array len e =>
        simp only [hd] at h
        cases x with
        | ptr g sz j off =>
          simp only at h
          cases hs : tsize P e with
          | none => simp [hs] at h
          | some es =>
            simp only [hs] at h
            split at h
            · rename_i hc
              cases h
              obtain ⟨b, rfl, hρ⟩ := hv.ptrInv hc.2.2
              refine ⟨.pointer (some ⟨b, j * sz + (off + n.toNat * es), none⟩), ?_, .ptr _ _ _ _ _ hc.2.2 hρ⟩
              simp [Instr.indexAt, asIntOf, run_underlying hd, Instr.sureAddr, hc.1, hc.2.1, run_tsize hs, addr_add, Nat.add_assoc]
            · cases h
        | _ => simp at h
      | _ => simp [hd] at h
    | _ => cases d <;> simp [hd] at h

theorem opIndex_sound {t : TypeId} {x i y : AV} {v u : Value} (hv : VR w X ρ v x) (hu : VR w X ρ u i) (h : opIndex P t x i = some y) :
    ∃ r, (Instr.index t v u).run P w = .ok r w ∧ VR w X ρ r y := by
  unfold opIndex at h
  cases hd : P.underlying t with
  | none => simp [hd] at h
  | some d =>
    cases i with
    | int k n =>
      have hu' := hu.intInv
      subst hu'
      cases d with
      | array len e =>
        cases x with
        | agg xs =>
          simp only [hd] at h
          obtain ⟨cs, rfl, hn, h1, hc⟩ := hv.aggInv
          cases hs : tsize P e with
          | none => simp [hs] at h
          | some es =>
            simp only [hs] at h
            split at h
            · rename_i hb
              obtain ⟨r, hr, hrel⟩ := part_rel (P := P) hn h1 hc h
              exact ⟨r, by simp [Instr.index, asIntOf, run_underlying hd, hb.1, hb.2, run_tsize hs, hr], hrel⟩
            · cases h
        | _ => simp [hd] at h
      | string =>
        cases x with
        | str s =>
          simp only [hd] at h
          have := hv.strInv
          subst this
          split at h
          · rename_i b hb
            cases h
            refine ⟨.int .u8 b.toNat, ?_, .pur _ _ (.int _ _)⟩
            simp only [Instr.index, asIntOf, Sem.run_bind, Sem.run_pure, Result.andThen_ok, run_underlying hd, hb]
          · cases h
        | _ => simp [hd] at h
      | _ => simp [hd] at h
    | _ => cases d <;> cases x <;> simp [hd] at h

/-! ### Numbers and strings -/

theorem toList_beq (a b : ByteArray) : (a.toList == b.toList) = (a.toList == b.toList) := rfl

theorem opBin_sound {op : BinOp} {t : TypeId} {x y z : AV} {v u : Value} {ox oy : Operand} (hv : VR w X ρ v x) (hu : VR w X ρ u y) (h : opBin op x y = some z) :
    ∃ r, (do eqGuard op t ox oy v u; binOp op t v u : Sem Value).run P w = .ok r w ∧ VR w X ρ r z := by
  cases x with
  | int k a =>
    have hv' := hv.intInv
    subst hv'
    cases y with
    | int k' b =>
      have hu' := hu.intInv
      subst hu'
      have hg : (eqGuard op t ox oy (.int k a) (.int k' b)).run P w = .ok () w := by
        unfold eqGuard
        split <;> rfl
      rw [Sem.run_bind, hg, Result.andThen_ok]
      unfold opBin at h
      cases op <;> simp only at h <;>
        first
          | (split at h
             · rename_i hk
               first
                 | (subst hk; cases h; refine ⟨_, ?_, .pur _ _ (.int _ _)⟩; simp [binOp, Op.intArith]; done)
                 | (subst hk; cases h; refine ⟨_, ?_, .pur _ _ (.bool _)⟩; simp [binOp, Op.intCmp]; done)
                 | (obtain ⟨hk, hb⟩ := hk; subst hk; cases h; refine ⟨_, ?_, .pur _ _ (.int _ _)⟩; simp [binOp, Op.intDiv, hb]; done)
                 | (subst hk; cases h; refine ⟨_, ?_, .pur _ _ (.int _ _)⟩; simp [binOp, Op.intBits, bitI]; done)
                 | (cases h; refine ⟨_, ?_, .pur _ _ (.int _ _)⟩; simp [binOp, Op.shift, shlI, shrI, show ¬ (b < 0) from Int.not_lt.2 hk]; done)
             · cases h)
          | cases h
    | _ => simp [opBin] at h
  | str a =>
    have hv' := hv.strInv
    subst hv'
    cases y with
    | str b =>
      have hu' := hu.strInv
      subst hu'
      have hg : (eqGuard op t ox oy (.string a) (.string b)).run P w = .ok () w := by
        unfold eqGuard
        split <;> rfl
      rw [Sem.run_bind, hg, Result.andThen_ok]
      unfold opBin at h
      cases op <;> simp only at h <;>
        first
          | (split at h
             · rename_i hk
               cases h
               refine ⟨_, ?_, .pur _ _ (.str _)⟩
               have : ¬ ((a.size + b.size : Nat) : Int) > IntKind.i64.max := by
                 have : IntKind.i64.max = 9223372036854775807 := rfl
                 omega
               simp only [binOp, Op.stringOp, if_neg this, Sem.run_pure]
             · cases h)
          | (cases h; refine ⟨_, ?_, .pur _ _ (.bool _)⟩; simp [binOp, Op.stringOp]; done)
          | cases h
    | _ => simp [opBin] at h
  | _ => simp [opBin] at h

theorem part_det {t : TypeId} {cs : Array Value} {xs : List AV} {off : Nat} {y : AV} (hn : cs.size = xs.length) (h1 : ∀ i, i < cs.size → (cs.getD i undef).oneCell' = true)
    (hv : ∀ (i : Nat) (x : AV), xs[i]? = some x → VR w X ρ (cs.getD i undef) x) (h : partOf P t xs off = some y) : ∃ v, (∀ w, (part t cs off).run P w = .ok v w) ∧ VR w X ρ v y := by
  obtain ⟨v, hr, hrel⟩ := part_rel (P := P) hn h1 hv h
  refine ⟨v, fun w' => ?_, hrel⟩
  unfold partOf at h
  cases hs : tsize P t with
  | none => simp [hs] at h
  | some size =>
    cases ha : tagg P t with
    | none => simp [hs, ha] at h
    | some agg =>
      simp only [part, Sem.run_bind, run_tagg ha, Result.andThen_ok] at hr ⊢
      cases agg with
      | true =>
        simp only [if_true, Sem.run_bind, run_tsize hs, Result.andThen_ok, Sem.run_pure] at hr ⊢
        cases hr; rfl
      | false =>
        simp only [Bool.false_eq_true, if_false] at hr ⊢
        cases hc : cs[off]? with
        | none => simp [hc] at hr
        | some c => simp only [hc, Sem.run_pure] at hr ⊢; cases hr; rfl

theorem forIn_fields (eq : TypeId → AV → AV → Option Bool) (f : Field → Sem Unit) : True := trivial

theorem eqA_sound : ∀ (d D : Nat), d ≤ D → ∀ (t : TypeId) (x y : AV) (v u : Value) (c : Bool), VR w X ρ v x → VR w X ρ u y → eqA P d t x y = some c → (Op.equalIn D t v u).run P w = .ok c w := by
  intro d
  induction d with
  | zero => intro D _ t x y v u c _ _ h; simp [eqA] at h
  | succ d ih =>
    intro D hD t x y v u c hv hu h
    obtain ⟨D, rfl⟩ : ∃ D', D = D' + 1 := ⟨D - 1, by omega⟩
    have ih' := ih D (by omega)
    unfold eqA at h
    cases hd : P.underlying t with
    | none => simp [hd] at h
    | some ty =>
      cases ty with
      | bool =>
        cases x <;> cases y <;> simp [hd] at h
        have := hv.boolInv; subst this
        have := hu.boolInv; subst this
        subst h
        simp [Op.equalIn, run_underlying hd]
      | int k =>
        cases x <;> cases y <;> simp [hd] at h
        have := hv.intInv; subst this
        have := hu.intInv; subst this
        obtain ⟨h1, h2⟩ := h
        subst h1 h2
        simp [Op.equalIn, run_underlying hd]
      | string =>
        cases x <;> cases y <;> simp [hd] at h
        have := hv.strInv; subst this
        have := hu.strInv; subst this
        subst h
        simp [Op.equalIn, run_underlying hd]
      | struct fs =>
        cases x <;> cases y <;> simp [hd] at h
        rename_i xs ys
        obtain ⟨as, rfl, hn, h1, hc⟩ := hv.aggInv
        obtain ⟨bs, rfl, hn', h1', hc'⟩ := hu.aggInv
        obtain ⟨hst, h⟩ := h
        have loop : ∀ (l : List Field) (c : Bool), eqFields P (eqA P d) xs ys l = some c →
            (forIn l ((none, ()) : Option Bool × Unit) fun f _ => do
              if f.name ≠ "_" then
                let a ← part f.type as f.offset
                let b ← part f.type bs f.offset
                let q ← Op.equalIn D f.type a b
                if (!q) = true then pure (ForInStep.done (some false, ())) else pure (ForInStep.yield (none, ()))
              else pure (ForInStep.yield (none, ())) : Sem (Option Bool × Unit)).run P w = .ok (if c then (none, ()) else (some false, ())) w := by
          intro l
          induction l with
          | nil => intro c h; simp [eqFields] at h; subst h; rfl
          | cons f r ihl =>
            intro c h
            unfold eqFields at h
            split at h
            · cases h
            · rename_i hname
              cases hp : partOf P f.type xs f.offset with
              | none => simp [hp] at h
              | some a =>
                cases hq : partOf P f.type ys f.offset with
                | none => simp [hp, hq] at h
                | some b =>
                  simp only [hp, hq] at h
                  obtain ⟨va, ra, ea⟩ := part_det (P := P) hn h1 hc hp
                  obtain ⟨vb, rb, eb⟩ := part_det (P := P) hn' h1' hc' hq
                  cases he : eqA P d f.type a b with
                  | none => simp [he] at h
                  | some c1 =>
                    cases hr : eqFields P (eqA P d) xs ys r with
                    | none => simp [he, hr] at h
                    | some c2 =>
                      simp only [he, hr, Option.some.injEq] at h
                      subst h
                      have e1 := ih' f.type a b va vb c1 ea eb he
                      rw [List.forIn_cons]
                      simp only [ne_eq, hname, not_false_eq_true, if_true, Sem.run_bind, ra, rb, Result.andThen_ok, e1]
                      cases c1 with
                      | true => simpa using ihl c2 hr
                      | false => simp
        have hl := loop fs.toList c h
        simp only [Op.equalIn, Sem.run_bind, run_underlying hd, Result.andThen_ok, run_program, hst, Bool.false_eq_true, if_false]
        rw [← Array.forIn_toList, hl]
        cases c <;> rfl
      | array n e =>
        cases x <;> cases y <;> simp [hd] at h
        rename_i xs ys
        obtain ⟨as, rfl, hn, h1, hc⟩ := hv.aggInv
        obtain ⟨bs, rfl, hn', h1', hc'⟩ := hu.aggInv
        cases hs : tsize P e with
        | none => simp [hs] at h
        | some size =>
          simp only [hs] at h
          have loop : ∀ (m i : Nat) (c : Bool), eqElems P (eqA P d) e size xs ys m i = some c →
              (forIn (List.range' i m) ((none, ()) : Option Bool × Unit) fun i _ => do
                let a ← part e as (i * size)
                let b ← part e bs (i * size)
                let q ← Op.equalIn D e a b
                if (!q) = true then pure (ForInStep.done (some false, ())) else pure (ForInStep.yield (none, ())) : Sem (Option Bool × Unit)).run P w = .ok (if c then (none, ()) else (some false, ())) w := by
            intro m
            induction m with
            | zero => intro i c h; simp [eqElems] at h; subst h; rfl
            | succ m ihm =>
              intro i c h
              unfold eqElems at h
              cases hp : partOf P e xs (i * size) with
              | none => simp [hp] at h
              | some a =>
                cases hq : partOf P e ys (i * size) with
                | none => simp [hp, hq] at h
                | some b =>
                  simp only [hp, hq] at h
                  obtain ⟨va, ra, ea⟩ := part_det (P := P) hn h1 hc hp
                  obtain ⟨vb, rb, eb⟩ := part_det (P := P) hn' h1' hc' hq
                  cases he : eqA P d e a b with
                  | none => simp [he] at h
                  | some c1 =>
                    cases hr : eqElems P (eqA P d) e size xs ys m (i + 1) with
                    | none => simp [he, hr] at h
                    | some c2 =>
                      simp only [he, hr, Option.some.injEq] at h
                      subst h
                      have e1 := ih' e a b va vb c1 ea eb he
                      rw [List.range'_succ, List.forIn_cons]
                      simp only [Sem.run_bind, ra, rb, Result.andThen_ok, e1]
                      cases c1 with
                      | true => simpa using ihm (i + 1) c2 hr
                      | false => simp
          have hl := loop n 0 c h
          simp only [Op.equalIn, Sem.run_bind, run_underlying hd, Result.andThen_ok, run_tsize hs]
          rw [Std.Legacy.Range.forIn_eq_forIn_range']
          simp only [Std.Legacy.Range.size, Nat.sub_zero, Nat.add_sub_cancel, Nat.div_one]
          rw [hl]
          cases c <;> rfl
      | _ => cases x <;> cases y <;> simp [hd] at h

theorem opEql_sound {t : TypeId} {x y : AV} {v u : Value} {c : Bool} {op : BinOp} (hop : op = .eql ∨ op = .neq) {ox oy : Operand} (hv : VR w X ρ v x) (hu : VR w X ρ u y) (h : opEql P t x y = some c) :
    (do eqGuard op t ox oy v u; binOp op t v u : Sem Value).run P w = .ok (.bool (if op = .eql then c else !c)) w := by
  unfold opEql at h
  have fin : ∀ v u : Value, (∀ w, (eqGuard op t ox oy v u).run P w = .ok () w) → (binOp op t v u = match op with | .eql => (do pure (.bool (← Op.equal t v u)) : Sem Value) | _ => (do pure (.bool (!(← Op.equal t v u))) : Sem Value)) →
      (Op.equal t v u).run P w = .ok c w → (do eqGuard op t ox oy v u; binOp op t v u : Sem Value).run P w = .ok (.bool (if op = .eql then c else !c)) w := by
    intro v u h1 h2 h3
    rw [Sem.run_bind, h1, Result.andThen_ok, h2]
    rcases hop with rfl | rfl
    · simp [h3]
    · simp [h3]
  cases x <;> cases y <;> simp at h
  · have e1 := hv.boolInv; subst e1
    have e2 := hu.boolInv; subst e2
    refine fin _ _ (fun w => ?_) ?_ (eqA_sound 8 10000 (by decide) t _ _ _ _ c hv hu h)
    · unfold eqGuard; split <;> rfl
    · rcases hop with rfl | rfl <;> rfl
  · rename_i xs ys
    obtain ⟨as, rfl, _⟩ := hv.aggInv
    obtain ⟨bs, rfl, _⟩ := hu.aggInv
    refine fin _ _ (fun w => ?_) ?_ (eqA_sound 8 10000 (by decide) t _ _ _ _ c hv hu h.2)
    · unfold eqGuard
      split <;> simp [h.1]
    · rcases hop with rfl | rfl <;> rfl

theorem opBin2_sound {op : BinOp} {t : TypeId} {x y z : AV} {v u : Value} {ox oy : Operand} (hv : VR w X ρ v x) (hu : VR w X ρ u y) (h : opBin2 P op t x y = some z) :
    ∃ r, (do eqGuard op t ox oy v u; binOp op t v u : Sem Value).run P w = .ok r w ∧ VR w X ρ r z := by
  unfold opBin2 at h
  cases hb : opBin op x y with
  | some v' => simp only [hb] at h; cases h; exact opBin_sound hv hu hb
  | none =>
    simp only [hb] at h
    cases op <;> simp only at h <;> first
      | cases h
      | (obtain ⟨c, hc, rfl⟩ := Option.map_eq_some_iff.1 h
         exact ⟨_, opEql_sound (by simp) hv hu hc, .pur _ _ (by simpa using PR.bool _)⟩)

theorem nilCmp_sound {op : BinOp} {t : TypeId} {x z : AV} {v u : Value} {ox oy : Operand} (hv : VR w X ρ v x) (hu : ∀ c, oy = .const c → u = c) (h : nilCmp P op t x oy = some z) :
    ∃ r, (do eqGuard op t ox oy v u; binOp op t v u : Sem Value).run P w = .ok r w ∧ VR w X ρ r z := by
  unfold nilCmp at h
  split at h
  · rename_i e b ht
    cases h
    cases hu _ rfl
    cases hv with
    | pur v x h => cases h with
      | slc a cap =>
        refine ⟨_, ?_, .pur _ _ (.bool _)⟩
        have hg : (eqGuard .eql t ox (.const (.slice none 0 0)) (.slice a 0 cap) (.slice none 0 0)).run P w = .ok () w := rfl
        rw [Sem.run_bind, hg, Result.andThen_ok]
        exact Lib.run_eql_slice_nil w t e a 0 cap 0 0 ht
  · rename_i e sz y ys tight ht
    cases h
    cases hu _ rfl
    cases hv with
    | pur v x h => cases h with
      | lst b o n cap sz t' xs f hn hc ht' hsz hx hr =>
        refine ⟨_, ?_, .pur _ _ (.bool _)⟩
        have hg : (eqGuard .eql t ox (.const (.slice none 0 0)) (.slice (some ⟨b, o, none⟩) n cap) (.slice none 0 0)).run P w = .ok () w := rfl
        rw [Sem.run_bind, hg, Result.andThen_ok]
        exact Lib.run_eql_slice_nil w t e (some ⟨b, o, none⟩) n cap 0 0 ht
  · cases h

theorem opBin3_sound {op : BinOp} {t : TypeId} {x y z : AV} {v u : Value} {ox oy : Operand} (hv : VR w X ρ v x) (hu : VR w X ρ u y) (hu' : ∀ c, oy = .const c → u = c) (h : opBin3 P op t x y oy = some z) :
    ∃ r, (do eqGuard op t ox oy v u; binOp op t v u : Sem Value).run P w = .ok r w ∧ VR w X ρ r z := by
  unfold opBin3 at h
  split at h
  · rename_i z' hz
    cases h
    exact opBin2_sound hv hu hz
  · exact nilCmp_sound hv hu' h


/-! ### The rest that makes no memory -/

theorem opUn_sound {op : UnOp} {x z : AV} {v : Value} (hv : VR w X ρ v x) (h : opUn op x = some z) : ∃ r, (Op.unary op v).run P w = .ok r w ∧ VR w X ρ r z := by
  unfold opUn at h
  cases op <;> cases x <;> simp at h
  all_goals
    first
      | (have := hv.intInv; subst this; subst h; exact ⟨_, by simp [Op.unary, Op.intArith], .pur _ _ (.int _ _)⟩)
      | (have := hv.boolInv; subst this; subst h; exact ⟨_, by simp [Op.unary], .pur _ _ (.bool _)⟩)

theorem opConvert_sound {a b : TypeId} {x z : AV} {v : Value} (hv : VR w X ρ v x) (h : opConvert P a b x = some z) : ∃ r, (convert a b v).run P w = .ok r w ∧ VR w X ρ r z := by
  unfold opConvert at h
  cases ha : P.underlying a with
  | none => simp [ha] at h
  | some da =>
    cases hb : P.underlying b with
    | none => simp [ha, hb] at h
    | some db =>
      cases da <;> cases db <;> cases x <;> simp [ha, hb] at h
      · have := hv.intInv; subst this; subst h
        exact ⟨_, by simp [convert, run_underlying ha, run_underlying hb, Conv.intToInt], .pur _ _ (.int _ _)⟩
      · have := hv.strInv; subst this; subst h
        exact ⟨_, by simp [convert, run_underlying ha, run_underlying hb], .pur _ _ (.str _)⟩

theorem opLen_sound {t : TypeId} {x z : AV} {v : Value} (hv : VR w X ρ v x) (h : opLen P t x = some z) (ty : TypeId) : ∃ r, (Builtin.len_ #[t] ty #[v]).run P w = .ok r w ∧ VR w X ρ r z := by
  unfold opLen at h
  cases ha : P.underlying t with
  | none => simp [ha] at h
  | some d =>
    cases d <;> cases x <;> simp [ha] at h
    all_goals try subst h
    all_goals
      first
        | (have := hv.strInv; subst this; exact ⟨_, by simp [Builtin.len_, run_underlying ha, goInt], .pur _ _ (.int _ _)⟩)
        | (obtain ⟨a, cap, rfl, _, _, _⟩ := hv.lstInv; exact ⟨_, by simp [Builtin.len_, run_underlying ha, goInt], .pur _ _ (.int _ _)⟩)
        | (rcases hv.ownInv with ⟨a, rfl, rfl⟩ | ⟨b, cap, rfl, _⟩ <;> exact ⟨_, by simp [Builtin.len_, run_underlying ha, goInt], .pur _ _ (.int _ _)⟩)
        | (exact ⟨_, by simp [Builtin.len_, run_underlying ha, goInt], .pur _ _ (.int _ _)⟩)

theorem minA_sound : ∀ (l : List AV) (x : AV) (z : AV) (v : Value) (vs : List Value), VR w X ρ v x → vs.length = l.length → (∀ (i : Nat) (y : AV), l[i]? = some y → ∃ u, vs[i]? = some u ∧ VR w X ρ u y) → minA x l = some z →
    ∃ r, (vs.foldlM Builtin.min2 v).run P w = .ok r w ∧ VR w X ρ r z := by
  intro l
  induction l with
  | nil =>
    intro x z v vs hv hl _ h
    have : vs = [] := List.eq_nil_of_length_eq_zero hl
    subst this
    cases x <;> simp [minA] at h <;> subst h <;> exact ⟨_, rfl, hv⟩
  | cons y r ih =>
    intro x z v vs hv hl hr h
    cases vs with
    | nil => simp at hl
    | cons u us =>
      obtain ⟨u', hu', hrel⟩ := hr 0 y rfl
      simp at hu'
      subst hu'
      cases x <;> cases y <;> simp [minA] at h
      have e1 := hv.intInv; subst e1
      have e2 := hrel.intInv; subst e2
      obtain ⟨rfl, h⟩ := h
      obtain ⟨q, hq, hqr⟩ := ih _ z (.int _ _) us (.pur _ _ (.int _ _)) (by simpa using hl) (fun i y hi => by simpa using hr (i + 1) y hi) h
      refine ⟨q, ?_, hqr⟩
      simp only [List.foldlM_cons, Sem.run_bind, Builtin.min2, Sem.run_pure, Result.andThen_ok]
      exact hq

theorem maxA_sound : ∀ (l : List AV) (x : AV) (z : AV) (v : Value) (vs : List Value), VR w X ρ v x → vs.length = l.length → (∀ (i : Nat) (y : AV), l[i]? = some y → ∃ u, vs[i]? = some u ∧ VR w X ρ u y) → maxA x l = some z →
    ∃ r, (vs.foldlM Builtin.max2 v).run P w = .ok r w ∧ VR w X ρ r z := by
  intro l
  induction l with
  | nil =>
    intro x z v vs hv hl _ h
    have : vs = [] := List.eq_nil_of_length_eq_zero hl
    subst this
    cases x <;> simp [maxA] at h <;> subst h <;> exact ⟨_, rfl, hv⟩
  | cons y r ih =>
    intro x z v vs hv hl hr h
    cases vs with
    | nil => simp at hl
    | cons u us =>
      obtain ⟨u', hu', hrel⟩ := hr 0 y rfl
      simp at hu'
      subst hu'
      cases x <;> cases y <;> simp [maxA] at h
      have e1 := hv.intInv; subst e1
      have e2 := hrel.intInv; subst e2
      obtain ⟨rfl, h⟩ := h
      obtain ⟨q, hq, hqr⟩ := ih _ z (.int _ _) us (.pur _ _ (.int _ _)) (by simpa using hl) (fun i y hi => by simpa using hr (i + 1) y hi) h
      refine ⟨q, ?_, hqr⟩
      simp only [List.foldlM_cons, Sem.run_bind, Builtin.max2, Sem.run_pure, Result.andThen_ok]
      exact hq

/-! ### Slices of slices and of strings -/

theorem bound_run {o : Option AV} {vo : Option Value} {dflt l : Nat} (hrel : match o, vo with | none, none => True | some x, some v => VR w X ρ v x | _, _ => False) (h : bound o dflt = some l) :
    (o = none ∧ vo = none ∧ l = dflt) ∨ ∃ k, vo = some (.int k l) := by
  cases o with
  | none =>
    cases vo with
    | none => simp [bound] at h; exact .inl ⟨rfl, rfl, h.symm⟩
    | some v => exact hrel.elim
  | some x =>
    cases vo with
    | none => exact hrel.elim
    | some v =>
      cases x <;> simp [bound] at h
      rename_i k n
      have e := VR.intInv hrel
      subst e
      refine .inr ⟨k, ?_⟩
      rw [← h.2, Int.toNat_of_nonneg h.1]

theorem sliceBound_run (k : IntKind) (l y : Nat) (c : BoundsCode) (h : l ≤ y) (w : World) : (Instr.sliceBound (.int k l) y c).run P w = .ok l w := by
  simp [Instr.sliceBound, asIntOf, h]

/-- The elements of a piece of a list. -/
theorem PR.piece {sz : Nat} {xs : List AV} {t t' : Bool} {a : Option Addr} {cap l h : Nat} {m : Nat} (hp : PR w X (.slice a xs.length cap) (.lst sz xs t)) (hlh : l ≤ h) (hh : h ≤ xs.length) (hm : h ≤ m)
    (ht : t' = true → m - l = h - l) :
    PR w X (.slice (if m = l then a else a.map (·.add (l * sz))) (h - l) (m - l)) (.lst sz ((xs.drop l).take (h - l)) t') := by
  by_cases h0 : h - l = 0
  · rw [h0]
    simp only [List.take_zero]
    exact .lst0 _ _ _ _ (fun e => by rw [ht e, h0])
  · have hml : m ≠ l := by omega
    rw [if_neg hml]
    generalize hn : xs.length = n at hp
    cases hp with
    | lst0 => simp at hh; omega
    | lst b o _ cap _ _ _ f hn' hc ht' hsz hx hr =>
      simp only [Option.map_some, addr_add]
      have hlen : ((xs.drop l).take (h - l)).length = h - l := by simp; omega
      have hget : ∀ i x, ((xs.drop l).take (h - l))[i]? = some x → xs[l + i]? = some x := by
        intro i x hi
        rw [List.getElem?_take, List.getElem?_drop] at hi
        split at hi
        · exact hi
        · cases hi
      refine .lst b (o + l * sz) (h - l) (m - l) sz t' _ (fun i j => f (l + i) j) hlen (by omega) ht (fun i x hi => hsz _ _ (hget i x hi)) (fun i x hi j u hj => ?_) (fun i x hi j u hj => hr _ _ (hget i x hi) j u hj)
      have := hx _ _ (hget i x hi) j u hj
      rw [show o + l * sz + (i * sz + j) = o + ((l + i) * sz + j) by rw [Nat.add_mul]; omega]
      exact this

/-- What is said of an operand that may be missing. -/
def ORel (w : World) (X : XT) (ρ : Rho) (o : Option AV) (v : Option Value) : Prop :=
  match o, v with
  | none, none => True
  | some x, some v => VR w X ρ v x
  | _, _ => False

theorem sliceBounds2 (isSlice : Bool) {lo hi : Option AV} {vl vh : Option Value} {len cap l h : Nat} (hl : ORel w X ρ lo vl) (hh : ORel w X ρ hi vh)
    (h1 : bound lo 0 = some l) (h2 : bound hi len = some h) (hlh : l ≤ h) (hhc : h ≤ cap) : (Instr.sliceBounds isSlice len cap vl vh none).run P w = .ok (l, h, cap) w := by
  unfold Instr.sliceBounds
  rcases bound_run hl h1 with ⟨rfl, rfl, rfl⟩ | ⟨k, rfl⟩ <;> rcases bound_run hh h2 with ⟨rfl, rfl, rfl⟩ | ⟨k', rfl⟩ <;>
    simp [sliceBound_run, hlh, hhc]

theorem sliceBounds3 {lo hi mx : Option AV} {vl vh vm : Option Value} {x : AV} {len cap l h m : Nat} (hl : ORel w X ρ lo vl) (hh : ORel w X ρ hi vh) (hm : ORel w X ρ mx vm)
    (h1 : bound lo 0 = some l) (h2 : bound hi len = some h) (hx : mx = some x) (h3 : bound (some x) 0 = some m) (hlh : l ≤ h) (hhm : h ≤ m) (hmc : m ≤ cap) (hhi : hi.isSome = true) : (Instr.sliceBounds true len cap vl vh vm).run P w = .ok (l, h, m) w := by
  unfold Instr.sliceBounds
  subst hx
  rcases bound_run (o := some x) hm h3 with ⟨h, _⟩ | ⟨km, rfl⟩
  · cases h
  rcases bound_run hl h1 with ⟨rfl, rfl, rfl⟩ | ⟨k, rfl⟩ <;> rcases bound_run hh h2 with ⟨rfl, rfl, rfl⟩ | ⟨k', rfl⟩ <;>
    first
      | (simp at hhi; done)
      | (simp [sliceBound_run, hlh, hhm, hmc]; done)

/-- A block that is no longer written, as a list that is only read. -/
theorem BlkAt.lst {b : Nat} {k : Blk} {X' : XT} (hb : BlkAt w X ρ b k) (hs0 : 0 < k.sz) (hbox : k.box = false) (hsub : ∀ c o, X' c o → X c o) (hX : ∀ o, o < k.elems.length * k.sz → ¬ X' b o)
    {off len cap : Nat} {t : Bool} (hl : off + len ≤ k.elems.length) (hc : len ≤ cap) (ht : t = true → cap = len) :
    PR w X' (.slice (some ⟨b, off * k.sz, none⟩) len cap) (.lst k.sz ((k.elems.drop off).take len) t) := by
  obtain ⟨cs, T, hh, hle, he⟩ := hb.cells hs0
  have hlen : ((k.elems.drop off).take len).length = len := by simp; omega
  have hget : ∀ i x, ((k.elems.drop off).take len)[i]? = some x → k.elems[off + i]? = some x := by
    intro i x hi
    rw [List.getElem?_take, List.getElem?_drop] at hi
    split at hi
    · exact hi
    · cases hi
  have hst : Stable w X w X' := (Stable.refl w X).less fun c o _ h => hsub c o h
  refine .lst b (off * k.sz) len cap k.sz t _ (fun i j => cs.getD ((off + i) * k.sz + j) undef) hlen hc ht (fun i x hi => (he _ _ (hget i x hi)).1) (fun i x hi j u hj => ?_) (fun i x hi j u hj => ?_)
  · have hx := hget i x hi
    have hilt : off + i < k.elems.length := (List.getElem?_eq_some_iff.1 hx).1
    have hjlt : j < k.sz := by rw [← (he _ _ hx).1]; exact (List.getElem?_eq_some_iff.1 hj).1
    have hlt : (off + i) * k.sz + j < k.elems.length * k.sz := by
      have : (off + i + 1) * k.sz ≤ k.elems.length * k.sz := Nat.mul_le_mul_right _ hilt
      rw [Nat.add_mul] at this
      omega
    have e : off * k.sz + (i * k.sz + j) = (off + i) * k.sz + j := by rw [Nat.add_mul]; omega
    rw [e]
    refine ⟨hX _ hlt, ?_, ((he _ _ hx).2 j u hj).1⟩
    rw [cell_of_row w b _ cs T (0, 0) hh]
    have : (off + i) * k.sz + j < cs.size := Nat.lt_of_lt_of_le hlt hle
    simp [Array.getD_eq_getD_getElem?, this]
  · have h := ((he _ _ (hget i x hi)).2 j u hj).2
    rw [hbox] at h
    exact PR.mono hst h

/-- What an operation leaves that makes nothing new: less may be written. -/
structure Still (Y : XT) (w : World) (ρ : Rho) (H : Heap) (r : Res) (v : Value) : Prop where
  new : r.new = []
  less : Less (putAll H r.wr) H
  val : VR w (XU Y ρ (putAll H r.wr)) ρ v r.val

theorem Still.quiet {H : Heap} {v : Value} {x : AV} {rd : List Nm} (h : VR w (XU Y ρ H) ρ v x) : Still Y w ρ H { val := x, rd := rd } v := ⟨rfl, Less.refl H, h⟩

/-- Behind 'stops' the block's known elements are not among the cells that may be written. -/
theorem XX_stopped {H : Heap} (hr : HR Y w ρ H) {g : Nm} {k : Blk} (hg : get H g = some k) {b : Nat} (hρ : ρ g = some b) {H' : Heap} (hl : Less H' H)
    (hs : ∀ k', get H' g = some k' → k.elems.length ≤ k'.frz) (o : Nat) (ho : o < k.elems.length * k.sz) : ¬ XU Y ρ H' b o := by
  intro hh
  obtain ⟨g', k', hg', hρ', h⟩ : XX ρ H' b o := hh.resolve_right (hr.sep g k b o hg hρ)
  obtain ⟨k0, h0, h1, _, _, h4⟩ := hl.sub g' k' hg'
  have e := hr.inj g' g k0 k b h0 hg hρ' hρ
  subst e
  rw [hg] at h0
  cases h0
  have h2 := hs k' hg'
  rw [h1] at h
  have : k.elems.length * k.sz ≤ k'.frz * k.sz := Nat.mul_le_mul_right _ h2
  omega

theorem get_stops_ne (H0 : Heap) (g : Nm) : ∀ (l : List Nm) (H : Heap), g ∉ l → get (putAll H (stops H0 l)) g = get H g := by
  intro l
  induction l with
  | nil => intro H _; rfl
  | cons a r ih =>
    intro H h
    simp only [List.mem_cons, not_or] at h
    show get (putAll (set H a ((get H0 a).map Blk.stop)) (stops H0 r)) g = _
    rw [ih _ h.2, get_set_ne h.1]

theorem stops_frz (H0 : Heap) (g : Nm) {k : Blk} (hk : get H0 g = some k) : ∀ (l : List Nm) (H : Heap), g ∈ l → ∀ k', get (putAll H (stops H0 l)) g = some k' → k.elems.length ≤ k'.frz := by
  intro l
  induction l with
  | nil => intro H h; simp at h
  | cons a r ih =>
    intro H h k' hk'
    change get (putAll (set H a ((get H0 a).map Blk.stop)) (stops H0 r)) g = some k' at hk'
    by_cases hr : g ∈ r
    · exact ih _ hr k' hk'
    · have ha : g = a := by simpa [hr] using h
      subst ha
      rw [get_stops_ne H0 g r _ hr, get_set] at hk'
      split at hk'
      · rw [hk] at hk'
        cases hk'
        exact Nat.le_max_right _ _
      · rename_i hne
        exfalso
        apply hne
        exact ⟨rfl, get_some_lt hk'⟩

theorem opSlice_sound {H : Heap} (hr : HR Y w ρ H) {t : TypeId} {x : AV} {v : Value} {lo hi mx : Option AV} {vl vh vm : Option Value} {r : Res} (hv : VR w (XU Y ρ H) ρ v x)
    (hl : ORel w (XU Y ρ H) ρ lo vl) (hh : ORel w (XU Y ρ H) ρ hi vh) (hm : ORel w (XU Y ρ H) ρ mx vm) (h : opSlice P t x lo hi mx H = some r) :
    ∃ u, (Instr.sliceAt t v vl vh vm).run P w = .ok u w ∧ Still Y w ρ H r u := by
  unfold opSlice at h
  cases hd : P.underlying t with
  | none => simp [hd] at h
  | some d =>
    cases d with
    | string =>
      cases x with
      | str s =>
        have e := hv.strInv
        subst e
        simp only [hd] at h
        cases mx with
        | some m => simp at h
        | none =>
          cases h1 : bound lo 0 with
          | none => simp [h1] at h
          | some l =>
            cases h2 : bound hi s.size with
            | none => simp [h1, h2] at h
            | some hh' =>
              simp only [h1, h2] at h
              split at h
              · rename_i hc
                cases h
                cases vm with
                | some _ => exact hm.elim
                | none =>
                  refine ⟨.string (s.extract l hh'), ?_, .quiet (.pur _ _ (.str _))⟩
                  have hb := sliceBounds2 (P := P) false hl hh h1 h2 hc.1 hc.2
                  simp [Instr.sliceAt, Instr.slice, run_underlying hd, hb]
              · cases h
      | _ => simp [hd] at h
    | slice e =>
      cases x with
      | lst sz xs tight =>
        obtain ⟨a, cap, rfl, hcap, htight, hp⟩ := hv.lstInv
        simp only [hd] at h
        split at h
        · rename_i hsz
          obtain ⟨n, hn⟩ : ∃ n, tsize P e = some n := by
            cases hx : tsize P e with
            | none => simp [hx] at hsz
            | some n => exact ⟨n, rfl⟩
          have hsz' : n = sz ∨ xs = [] := by
            simp only [hn, Option.isSome_some, Bool.true_and, Bool.or_eq_true, decide_eq_true_eq, Option.some.injEq, List.isEmpty_iff] at hsz
            exact hsz
          -- what comes out, whatever the size said
          have out : ∀ l hh' m t', l ≤ hh' → hh' ≤ xs.length → hh' ≤ m → (t' = true → m - l = hh' - l) →
              PR w (XU Y ρ H) (.slice (if m = l then a else a.map (·.add (l * n))) (hh' - l) (m - l)) (.lst (lsz sz ((xs.drop l).take (hh' - l))) ((xs.drop l).take (hh' - l)) t') := by
            intro l hh' m t' a1 a2 a3 a4
            refine PR.canon ?_
            rcases hsz' with rfl | rfl
            · exact hp.piece a1 a2 a3 a4
            · have : hh' - l = 0 := by simp at a2; omega
              rw [this]
              simp only [List.take_zero]
              exact .lst0 _ _ _ _ (fun e => by rw [a4 e, this])
          cases mx with
          | none =>
            cases h1 : bound lo 0 with
            | none => simp [h1] at h
            | some l =>
              cases h2 : bound hi xs.length with
              | none => simp [h1, h2] at h
              | some hh' =>
                simp only [h1, h2] at h
                split at h
                · rename_i hc
                  cases h
                  cases vm with
                  | some _ => exact hm.elim
                  | none =>
                    have hb := sliceBounds2 (P := P) true hl hh h1 h2 hc.1 (Nat.le_trans hc.2 hcap)
                    refine ⟨.slice (if cap = l then a else a.map (·.add (l * n))) (hh' - l) (cap - l), ?_, .quiet (.pur _ _ (out l hh' cap _ hc.1 hc.2 (Nat.le_trans hc.2 hcap) (fun e => ?_)))⟩
                    · simp [Instr.sliceAt, Instr.slice, run_underlying hd, hb, run_tsize hn]
                    · simp only [Bool.and_eq_true] at e
                      cases hi with
                      | some _ => simp at e
                      | none => simp [bound] at h2; rw [htight e.1, h2]
                · cases h
          | some mv =>
            cases h1 : bound lo 0 with
            | none => simp [h1] at h
            | some l =>
              cases h2 : bound hi xs.length with
              | none => simp [h1, h2] at h
              | some hh' =>
                cases h3 : bound (some mv) 0 with
                | none => simp [h1, h2, h3] at h
                | some m =>
                  simp only [h1, h2, h3] at h
                  split at h
                  · rename_i hc
                    cases h
                    have hb := sliceBounds3 (P := P) (cap := cap) hl hh hm h1 h2 rfl h3 hc.1 hc.2.1 (by omega) hc.2.2.2
                    refine ⟨.slice (if m = l then a else a.map (·.add (l * n))) (hh' - l) (m - l), ?_, .quiet (.pur _ _ (out l hh' m _ hc.1 (by omega) hc.2.1 (fun e => ?_)))⟩
                    · simp [Instr.sliceAt, Instr.slice, run_underlying hd, hb, run_tsize hn]
                    · rw [beq_iff_eq] at e; rw [e]
                  · cases h
        · cases h
      | own g sz off len =>
        simp only [hd] at h
        split at h
        · rename_i hsz
          cases mx with
          | none =>
            cases h1 : bound lo 0 with
            | none => simp [h1] at h
            | some l =>
              cases h2 : bound hi len with
              | none => simp [h1, h2] at h
              | some hh' =>
                simp only [h1, h2] at h
                split at h
                · rename_i hc
                  cases h
                  cases vm with
                  | some _ => exact hm.elim
                  | none =>
                    rcases hv.ownInv with ⟨a, rfl, rfl⟩ | ⟨b, cap, rfl, hρ, hb, hlc, hk⟩
                    · have hb := sliceBounds2 (P := P) true (cap := 0) hl hh h1 h2 hc.1 hc.2
                      have e1 : l = 0 := by omega
                      have e2 : hh' = 0 := by omega
                      subst e1 e2
                      refine ⟨.slice a 0 0, ?_, .quiet (.own0 _ _ _ _)⟩
                      simp [Instr.sliceAt, Instr.slice, run_underlying hd, hb, run_tsize hsz]
                    · have hb' := sliceBounds2 (P := P) true (cap := cap) hl hh h1 h2 hc.1 (by omega)
                      refine ⟨.slice (if cap = l then some ⟨b, off * sz, none⟩ else some ⟨b, off * sz + l * sz, none⟩) (hh' - l) (cap - l), ?_, .quiet ?_⟩
                      · simp [Instr.sliceAt, Instr.slice, run_underlying hd, hb', run_tsize hsz, addr_add]
                      · by_cases e : cap = l
                        · have e1 : hh' - l = 0 := by omega
                          have e2 : cap - l = 0 := by omega
                          rw [e1, e2]
                          exact .own0 _ _ _ _
                        · rw [if_neg e, ← Nat.add_mul]
                          refine .own _ _ _ _ _ _ hρ hb (by omega) ?_
                          have : (off + l) * sz + (cap - l) * sz = off * sz + cap * sz := by
                            rw [← Nat.add_mul, ← Nat.add_mul]; congr 1; omega
                          omega
                · cases h
          | some mv =>
            cases h1 : bound lo 0 with
            | none => simp [h1] at h
            | some l =>
              cases h2 : bound hi len with
              | none => simp [h1, h2] at h
              | some hh' =>
                cases h3 : bound (some mv) 0 with
                | none => simp [h1, h2, h3] at h
                | some m =>
                  cases hg : get H g with
                  | none => simp [h1, h2, h3, hg] at h
                  | some k =>
                    simp only [h1, h2, h3, hg] at h
                    split at h
                    · rename_i hc
                      obtain ⟨c1, c2, c3, c4, c5, c6, c7, c8⟩ := hc
                      cases h
                      have hless : Less (putAll H (stops H [g])) H := Less.stops [g] H (Less.refl H)
                      rcases hv.ownInv with ⟨a, rfl, rfl⟩ | ⟨b, cap, rfl, hρ, hb, hlc, hk⟩
                      · have hb := sliceBounds3 (P := P) (cap := 0) hl hh hm h1 h2 rfl h3 c1 c2 (by omega) c7
                        have e1 : l = 0 := by omega
                        have e2 : hh' = 0 := by omega
                        have e3 : m = 0 := by omega
                        subst e1 e2 e3
                        refine ⟨.slice a 0 0, ?_, rfl, hless, ?_⟩
                        · simp [Instr.sliceAt, Instr.slice, run_underlying hd, hb, run_tsize hsz]
                        · simp only [Nat.sub_self, List.take_zero]
                          exact .pur _ _ (.lst0 _ _ _ _ (fun _ => rfl))
                      · have hb' := sliceBounds3 (P := P) (cap := cap) hl hh hm h1 h2 rfl h3 c1 c2 (by omega) c7
                        refine ⟨.slice (if m = l then some ⟨b, off * sz, none⟩ else some ⟨b, off * sz + l * sz, none⟩) (hh' - l) (m - l), ?_, rfl, hless, ?_⟩
                        · simp [Instr.sliceAt, Instr.slice, run_underlying hd, hb', run_tsize hsz, addr_add]
                        · by_cases e : m = l
                          · have e1 : hh' - l = 0 := by omega
                            have e2 : m - l = 0 := by omega
                            rw [e1, e2]
                            simp only [List.take_zero]
                            exact .pur _ _ (.lst0 _ _ _ _ (fun _ => rfl))
                          · rw [if_neg e, ← Nat.add_mul]
                            subst c6
                            refine .pur _ _ (PR.canon ((hr.at hg hρ).lst c8 c5 (fun _ _ h => hless.xu h) (XX_stopped hr hg hρ hless (fun k' hk' => stops_frz H g hg [g] H (by simp) k' hk')) (by omega) (by omega) (fun e => ?_)))
                            rw [beq_iff_eq] at e; rw [e]
                    · cases h
        · cases h
      | _ => simp [hd] at h
    | _ => cases x <;> simp [hd] at h

end

/-! ### A map of functions -/

/-- The entries of a map of functions. -/
def FmRel (w : World) (X : XT) (l : List (Int × FuncId × List FuncId)) (L : List MapEntry) : Prop :=
  L.length = l.length ∧ ∀ (i : Nat) (k : Int) (f : FuncId) (gs : List FuncId), l[i]? = some (k, f, gs) → ∃ (e : MapEntry) (cs : Array Value), L[i]? = some e ∧ e.key = .int .i64 k ∧ e.val = .func (.func f) #[] cs ∧ cs.size = gs.length ∧
    ∀ (j : Nat) (g : FuncId), gs[j]? = some g → ∃ b, cs.getD j undef = .pointer (some ⟨b, 0, none⟩) ∧ ¬ X b 0 ∧ w.cell? ⟨b, 0, none⟩ = some (.func (.func g) #[] #[])

theorem fm_find {w : World} {X : XT} {ρ : Rho} (n : Int) : ∀ (l : List (Int × FuncId × List FuncId)) (L : List MapEntry) (i : Nat), FmRel w X l L →
    (∃ j v, Instr.findNow (.int .i64) (.int .i64 n) L i = some (some (j, v)) ∧ (fmAt l n).2 = true ∧ VR w X ρ v (fmAt l n).1) ∨ (Instr.findNow (.int .i64) (.int .i64 n) L i = some none ∧ fmAt l n = (.nilf, false)) := by
  intro l
  induction l with
  | nil =>
    intro L i h
    have : L = [] := List.length_eq_zero_iff.1 h.1
    subst this
    exact .inr ⟨rfl, rfl⟩
  | cons p l ih =>
    intro L i h
    obtain ⟨k, f, gs⟩ := p
    obtain ⟨h1, h2⟩ := h
    cases L with
    | nil => simp at h1
    | cons e L =>
      obtain ⟨e', cs, e1, e2, e3, e4, e5⟩ := h2 0 k f gs rfl
      simp only [List.getElem?_cons_zero, Option.some.injEq] at e1
      subst e1
      by_cases hn : n = k
      · left
        refine ⟨i, e.val, ?_, ?_, ?_⟩
        · simp [Instr.findNow, Instr.sameNow, e2, hn]
        · simp [fmAt, hn]
        · simp only [fmAt, if_pos hn]
          rw [e3]
          refine .clo f cs _ (by simp [e4]) (fun j x hj => ?_)
          rw [List.getElem?_map] at hj
          obtain ⟨g, hg, rfl⟩ := Option.map_eq_some_iff.1 hj
          obtain ⟨b, b1, b2, b3⟩ := e5 j g hg
          rw [b1]
          exact .pur _ _ (.fp b g b2 b3)
      · have hf : fmAt ((k, f, gs) :: l) n = fmAt l n := by simp [fmAt, hn]
        have hr : FmRel w X l L := ⟨by simpa using h1, fun j k' f' gs' hj => by simpa using h2 (j + 1) k' f' gs' (by simpa using hj)⟩
        have hstep : Instr.findNow (.int .i64) (.int .i64 n) (e :: L) i = Instr.findNow (.int .i64) (.int .i64 n) L (i + 1) := by
          have hb : (n == k) = false := by simpa using hn
          simp only [Instr.findNow, Instr.sameNow, e2, if_true, hb]
        rw [hf, hstep]
        exact ih L (i + 1) hr

theorem opLookup_sound {P : Program} {w : World} {X : XT} {ρ : Rho} {t : TypeId} {m k y : AV} {mv kv : Value} {ok : Bool} (hm : VR w X ρ mv m) (hk : VR w X ρ kv k) (h : opLookup P t m k ok = some y) :
    ∃ u, (Instr.lookup t mv kv ok).run P w = .ok u w ∧ VR w X ρ u y := by
  unfold opLookup at h
  split at h
  · rename_i kt et l n hu
    split at h
    · rename_i hkt hz
      cases h
      have hkv : kv = .int .i64 n := by
        cases hk with
        | pur v x hp => cases hp; rfl
      subst hkv
      obtain ⟨z, hz1, hz2, _⟩ := run_tzero hz w
      cases hm with
      | pur v x hp =>
        cases hp with
        | fm r _ es clock hX hobj hlen hent =>
          have hrel : FmRel w X l es.toList := ⟨by simpa using hlen, fun i k' f gs hi => by
            obtain ⟨e, cs, q1, q2⟩ := hent i k' f gs hi
            exact ⟨e, cs, by simpa using q1, q2⟩⟩
          have hg : (getObj r).run P w = .ok (.map es clock) w := by simp [getObj, Sem.run, hobj]
          have hck : (Instr.checkKey es.isEmpty 10000 kt (.int .i64 n)).run P w = .ok () w := by
            rw [show (10000 : Nat) = 9999 + 1 from rfl]
            unfold Instr.checkKey
            simp only [Sem.run_bind, run_underlying hkt, Result.andThen_ok]
            rfl
          rcases fm_find (ρ := ρ) n l es.toList 0 hrel with ⟨j, v, q1, q2, q3⟩ | ⟨q1, q2⟩
          · have hfk : (Instr.findKey kt (.int .i64 n) es.toList).run P w = .ok (some (j, v)) w := by
              simp [Instr.findKey, run_underlying hkt, q1]
            refine ⟨if ok then .tuple #[v, .bool true] else v, ?_, ?_⟩
            · simp [Instr.lookup, run_underlying hu, hg, hck, hfk]
            · cases ok
              · exact q3
              · rw [q2]
                simp only [if_true]
                refine .tup _ _ rfl (fun i x hi => ?_)
                match i, hi with
                | 0, hi => simp at hi; subst hi; exact q3
                | 1, hi => simp at hi; subst hi; exact .pur _ _ (.bool _)
          · have hfk : (Instr.findKey kt (.int .i64 n) es.toList).run P w = .ok none w := by
              simp [Instr.findKey, run_underlying hkt, q1]
            have hzr : VR w X ρ z .nilf := by rw [hz2]; exact .pur _ _ (cv_rel w X z)
            refine ⟨if ok then .tuple #[z, .bool false] else z, ?_, ?_⟩
            · simp [Instr.lookup, run_underlying hu, hg, hck, hfk, hz1]
            · rw [q2]
              cases ok
              · exact hzr
              · simp only [if_true]
                refine .tup _ _ rfl (fun i x hi => ?_)
                match i, hi with
                | 0, hi => simp at hi; subst hi; exact hzr
                | 1, hi => simp at hi; subst hi; exact .pur _ _ (.bool _)
    · cases h
  · cases h

end Go.Abs
