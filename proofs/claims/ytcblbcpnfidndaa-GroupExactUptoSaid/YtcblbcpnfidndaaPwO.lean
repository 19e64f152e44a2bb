/- What an operation looks at: only its operands and the blocks that it names. -/
import Derived.Test.YtcblbcpnfidndaaPwN
set_option linter.unusedSimpArgs false
set_option linter.unusedVariables false
namespace Go.Abs
open Go

/-- The blocks named are the same. -/
def Agree (H H' : Heap) (l : List Nm) : Prop := ∀ g, g ∈ l → get H' g = get H g

theorem Agree.sub {H H' : Heap} {l m : List Nm} (h : Agree H H' l) (hs : ∀ g, g ∈ m → g ∈ l) : Agree H H' m := fun g hg => h g (hs g hg)

section
variable {P : Program} {H H' : Heap}

theorem pure1_frame {x u : AV} {l : List Nm} (h : pure1 H x = some (u, l)) (ha : Agree H H' l) : pure1 H' x = some (u, l) := by
  cases x with
  | own g sz off len =>
    have hl : l = [g] := by
      simp only [pure1] at h
      split at h
      · split at h
        · simp only [Option.some.injEq, Prod.mk.injEq] at h; exact h.2.symm
        · cases h
      · cases h
    have e := ha g (by simp [hl])
    simp only [pure1] at h ⊢
    rw [e]
    exact h
  | _ => exact h

theorem pureL_frame : ∀ (xs us : List AV) (l : List Nm), pureL H xs = some (us, l) → Agree H H' l → pureL H' xs = some (us, l) := by
  intro xs
  induction xs with
  | nil => intro us l h _; exact h
  | cons x r ih =>
    intro us l h ha
    simp only [pureL] at h ⊢
    cases h1 : pure1 H x with
    | none => simp [h1] at h
    | some p =>
      obtain ⟨y, m⟩ := p
      cases h2 : pureL H r with
      | none => simp [h1, h2] at h
      | some q =>
        obtain ⟨ys, k⟩ := q
        simp only [h1, h2, Option.some.injEq, Prod.mk.injEq] at h
        obtain ⟨rfl, rfl⟩ := h
        rw [pure1_frame h1 (ha.sub fun g hg => by simp [hg]), ih ys k h2 (ha.sub fun g hg => by simp [hg])]

theorem pureV_frame {x u : AV} {l : List Nm} (h : pureV H x = some (u, l)) (ha : Agree H H' l) : pureV H' x = some (u, l) := by
  cases x with
  | agg cs =>
    simp only [pureV] at h ⊢
    cases h1 : pureL H cs with
    | none => simp [h1] at h
    | some p =>
      obtain ⟨ys, m⟩ := p
      simp only [h1, Option.some.injEq, Prod.mk.injEq] at h
      obtain ⟨rfl, rfl⟩ := h
      rw [pureL_frame cs ys m h1 ha]
  | tup vs => exact h
  | own g sz off len => exact pure1_frame (x := .own g sz off len) h ha
  | _ => exact h

theorem stops_frame {l : List Nm} (ha : Agree H H' l) : stops H' l = stops H l := by
  unfold stops
  refine List.map_congr_left fun g hg => ?_
  rw [ha g hg]

theorem opLoad_frame {t : TypeId} {p : AV} {r : Res} (h : opLoad P t p H = some r) (ha : Agree H H' (r.rd ++ r.wr.map (·.1))) : opLoad P t p H' = some r := by
  cases p with
  | ptr g sz i off =>
    have hg : g ∈ r.rd := by
      simp only [opLoad] at h
      split at h
      · split at h
        · split at h
          · split at h
            · obtain ⟨v, _, rfl⟩ := Option.map_eq_some_iff.1 h
              simp
            · cases h
          · cases h
        · cases h
      · cases h
    have e := ha g (by simp [hg])
    simp only [opLoad] at h ⊢
    rw [e]
    exact h
  | _ => exact h

theorem opStore_frame {t : TypeId} {p v : AV} {r : Res} (h : opStore P t p v H = some r) (ha : Agree H H' (r.rd ++ r.wr.map (·.1))) : opStore P t p v H' = some r := by
  cases p with
  | ptr g sz i off =>
    simp only [opStore] at h
    split at h
    · rename_i size hs
      split at h
      · rename_i b hb
        split at h
        · rename_i h1
          split at h
          · rename_i x hx
            split at h
            · rename_i hbox
              split at h
              · rename_i h2
                split at h
                · rename_i x' hx'
                  simp only [Option.some.injEq] at h
                  subst h
                  have e := ha g (by simp)
                  simp only [opStore, hs, e, hb, h1, hx, hbox, h2, hx', and_self, if_true]
                · cases h
              · cases h
            · rename_i hbox
              split at h
              · rename_i u l hu
                split at h
                · rename_i h2
                  split at h
                  · rename_i x' hx'
                    simp only [Option.some.injEq] at h
                    subst h
                    have e := ha g (by simp)
                    have el : Agree H H' l := ha.sub fun g hg => by simp [hg]
                    simp only [opStore, hs, e, hb, h1, hx, hbox, pureV_frame hu el, h2, hx', and_self, if_true, if_false, stops_frame el, not_false_eq_true]
                    simp
                  · cases h
                · cases h
              · cases h
          · cases h
        · cases h
      · cases h
    · cases h
  | _ => exact h

theorem fillS_frame {size : Nat} {agg : Bool} : ∀ (xs : List (Nat × AV)) (es es' : List AV) (l l' : List Nm), fillS H size agg es l xs = some (es', l') → Agree H H' l' → fillS H' size agg es l xs = some (es', l') := by
  intro xs
  induction xs with
  | nil => intro es es' l l' h _; exact h
  | cons p r ih =>
    intro es es' l l' h ha
    obtain ⟨i, v⟩ := p
    simp only [fillS] at h ⊢
    cases h1 : pureV H v with
    | none => simp [h1] at h
    | some q =>
      obtain ⟨u, m⟩ := q
      simp only [h1] at h
      split at h
      · rename_i hc
        have hsub := (fillS_sub r _ es' (l ++ m) l' h).2
        rw [pureV_frame h1 (ha.sub fun g hg => hsub g (by simp [hg]))]
        simp only [hc, and_self, if_true]
        exact ih _ es' (l ++ m) l' h ha
      · cases h

theorem opBuildSlice_frame {t : TypeId} {n : Nat} {ps : List (Nat × AV)} {slot : Nat} {r : Res} (h : opBuildSlice P t n ps H slot = some r) (ha : Agree H H' (r.rd ++ r.wr.map (·.1))) : opBuildSlice P t n ps H' slot = some r := by
  simp only [opBuildSlice] at h ⊢
  split at h
  · split at h
    · split at h
      · rename_i hc
        simp only [hc, and_self, if_true]
        split at h
        · rename_i es l hl
          simp only [Option.some.injEq] at h
          subst h
          have el : Agree H H' l := ha.sub fun g hg => by simp [hg]
          rw [fillS_frame _ _ _ _ _ hl el]
          simp only [stops_frame el]
        · cases h
      · cases h
    · cases h
  · cases h

theorem opSlice_frame {t : TypeId} {x : AV} {lo hi mx : Option AV} {r : Res} (h : opSlice P t x lo hi mx H = some r) (ha : Agree H H' (r.rd ++ r.wr.map (·.1))) : opSlice P t x lo hi mx H' = some r := by
  cases x with
  | own g sz off len =>
    cases hu : P.underlying t with
    | none => simp [opSlice, hu] at h
    | some d =>
      cases d with
      | slice e =>
        simp only [opSlice, hu] at h ⊢
        split at h
        · rename_i hsz
          rw [if_pos hsz]
          cases mx with
          | none =>
            cases hl : bound lo 0 with
            | none => simp [hl] at h
            | some l =>
              cases hh : bound hi len with
              | none => simp [hl, hh] at h
              | some k => simp only [hl, hh] at h ⊢; exact h
          | some m =>
            cases hl : bound lo 0 with
            | none => simp [hl] at h
            | some l =>
              cases hh : bound hi len with
              | none => simp [hl, hh] at h
              | some k =>
                cases hm : bound (some m) 0 with
                | none => simp [hl, hh, hm] at h
                | some m' =>
                  cases hg : get H g with
                  | none => simp [hl, hh, hm, hg] at h
                  | some b =>
                    simp only [hl, hh, hm, hg] at h
                    split at h
                    · rename_i hc
                      simp only [Option.some.injEq] at h
                      subst h
                      have e := ha g (by simp)
                      have el : Agree H H' [g] := fun g' hg' => by simp at hg'; rw [hg', e]
                      simp only [hl, hh, hm, e, hg, stops_frame el]
                      rw [if_pos hc]
                    · cases h
        · cases h
      | _ => simp [opSlice, hu] at h
  | _ =>
    cases hu : P.underlying t with
    | none => simp [opSlice, hu] at h
    | some d => cases d <;> first | (simp [opSlice, hu] at h; done) | (simp only [opSlice, hu] at h ⊢; exact h)

theorem srcOf_frame {x : AV} {sz : Nat} {ys : List AV} {l : List Nm} (h : srcOf H x = some (sz, ys, l)) (ha : Agree H H' l) : srcOf H' x = some (sz, ys, l) := by
  cases x with
  | own g sz' off len =>
    have hl : l = [g] := by
      simp only [srcOf] at h
      split at h
      · split at h
        · simp only [Option.some.injEq, Prod.mk.injEq] at h; exact h.2.2.symm
        · cases h
      · cases h
    have e := ha g (by simp [hl])
    simp only [srcOf] at h ⊢
    rw [e]
    exact h
  | _ => exact h

theorem opAppend_frame {t : TypeId} {s x : AV} {slot : Nat} {r : Res} (h : opAppend P t s x H slot = some r) (ha : Agree H H' (r.rd ++ r.wr.map (·.1))) : opAppend P t s x H' slot = some r := by
  simp only [opAppend] at h ⊢
  split at h
  · split at h
    · rename_i size bytes z sz' ys l h1 h2 h3 h4
      split at h
      · rename_i hc
        have key : Agree H H' l → srcOf H' x = some (sz', ys, l) := srcOf_frame h4
        split at h
        · split at h
          · rename_i hq
            split at h
            · rename_i hd
              simp only [Option.some.injEq] at h
              subst h
              rw [key (ha.sub fun g hg => by simp [hg])]
              simp only [h1, h2, h3]
              rw [if_pos hc, if_pos hq]
              exact if_pos hd
            · cases h
          · rename_i hq
            split at h
            · rename_i hd
              simp only [Option.some.injEq] at h
              subst h
              rw [key (ha.sub fun g hg => by simp [hg])]
              simp only [h1, h2, h3]
              rw [if_pos hc, if_neg hq]
              exact if_pos hd
            · cases h
        · rename_i g sz off len
          split at h
          · rename_i b hb
            split at h
            · rename_i hd
              simp only [Option.some.injEq] at h
              subst h
              rw [key (ha.sub fun g hg => by simp [hg]), ha g (by simp)]
              simp only [h1, h2, h3, hb]
              rw [if_pos hc]
              exact if_pos hd
            · cases h
          · cases h
        · cases h
      · cases h
    · cases h
  · cases h

/-! ### A call -/

theorem addNew_sub (r l : List Nm) : ∀ g, g ∈ l → g ∈ addNew l r := fun g hg => (addNew_mem r l g).2 (.inl hg)

theorem grow_frame {l : List Nm} (ha : Agree H H' l) : grow H' l = grow H l := by
  unfold grow
  congr 1
  have : ∀ g, g ∈ l → refsB H' g = refsB H g := fun g hg => by unfold refsB; rw [ha g hg]
  clear ha
  induction l with
  | nil => rfl
  | cons a r ih => rw [List.flatMap_cons, List.flatMap_cons, this a (by simp), ih fun g hg => this g (by simp [hg])]

theorem grow_sub (l : List Nm) : ∀ g, g ∈ l → g ∈ grow H l := addNew_sub _ l

theorem reach_frame {l : List Nm} (ha : Agree H H' (reach H l)) : reach H' l = reach H l := by
  unfold reach at ha ⊢
  have h1 : Agree H H' (grow H (grow H (addNew [] l))) := ha.sub (grow_sub _)
  have h2 : Agree H H' (grow H (addNew [] l)) := h1.sub (grow_sub _)
  have h3 : Agree H H' (addNew [] l) := h2.sub (grow_sub _)
  rw [grow_frame h3, grow_frame h2, grow_frame h1]

theorem mapM_congr {α β : Type} {f g : α → Option β} : ∀ (l : List α), (∀ x, x ∈ l → f x = g x) → l.mapM f = l.mapM g := by
  intro l
  induction l with
  | nil => intro _; rfl
  | cons a r ih =>
    intro h
    rw [List.mapM_cons, List.mapM_cons, h a (by simp), ih fun x hx => h x (by simp [hx])]

theorem lend1_frame {share : Bool} {f : Ren} {x : AV} (ha : share = false → Agree H H' (lentNames x)) (hx : x.isAgg = false) : lend1 H' share f x = lend1 H share f x := by
  cases x with
  | own g sz off len =>
    cases share with
    | true => rfl
    | false =>
      have e := ha rfl g (by simp [lentNames])
      simp only [lend1, pure1, e]
  | _ => rfl

theorem lendV_frame {share : Bool} {f : Ren} {x : AV} (ha : share = false → Agree H H' (lentNames x)) : lendV H' share f x = lendV H share f x := by
  cases x with
  | agg cs =>
    simp only [lendV]
    congr 1
    refine mapM_congr cs fun c hc => ?_
    cases c with
    | own g sz off len => exact lend1_frame (fun hs g' hg' => ha hs g' (by simp only [lentNames, List.mem_flatMap]; exact ⟨_, hc, by simpa [lentNames] using hg'⟩)) rfl
    | _ => rfl
  | own g sz off len => exact lend1_frame ha rfl
  | _ => rfl

theorem opCall_names {share : Bool} {call : List AV → List Blk → Option Out} {args : List AV} {slot : Nat} {r : Res} (h : opCall share call args H slot = some r) :
    r.rd = reach H (args.flatMap (if share then fun v => seedsV v ++ lentNames v else seedsV)) ++ (if share then [] else args.flatMap lentNames) := by
  unfold opCall at h
  simp only at h
  generalize (if share then [] else args.flatMap lentNames) = lent at h ⊢
  generalize reach H (args.flatMap (if share then fun v => seedsV v ++ lentNames v else seedsV)) = R at h ⊢
  split at h
  · cases h
  · split at h
    · split at h
      · split at h
        · simp only [Option.some.injEq] at h
          rw [← h]
        · cases h
      · cases h
    · cases h

theorem opCall_frame {share : Bool} {call : List AV → List Blk → Option Out} {args : List AV} {slot : Nat} {r : Res} (h : opCall share call args H slot = some r)
    (ha : Agree H H' (r.rd ++ r.wr.map (·.1))) : opCall share call args H' slot = some r := by
  have hrd := opCall_names h
  have hR : Agree H H' (reach H (args.flatMap (if share then fun v => seedsV v ++ lentNames v else seedsV))) := ha.sub fun g hg => by rw [hrd]; simp [hg]
  have hl : Agree H H' (if share then [] else args.flatMap lentNames) := ha.sub fun g hg => by rw [hrd]; simp only [List.mem_append]; exact .inl (.inr hg)
  have e1 : reach H' (args.flatMap (if share then fun v => seedsV v ++ lentNames v else seedsV)) = reach H (args.flatMap (if share then fun v => seedsV v ++ lentNames v else seedsV)) := reach_frame hR
  unfold opCall at h ⊢
  simp only at h ⊢
  rw [e1, stops_frame hl]
  have e2 : ∀ f, args.mapM (lendV H' share f) = args.mapM (lendV H share f) := fun f => mapM_congr args fun x hx => lendV_frame fun hs g hg => hl g (by
    rw [hs]
    simp only [Bool.false_eq_true, if_false, List.mem_flatMap]
    exact ⟨x, hx, hg⟩)
  have e3 : ∀ f : Ren, (reach H (args.flatMap (if share then fun v => seedsV v ++ lentNames v else seedsV))).mapM (fun g => (get H' g).map (renB f)) =
      (reach H (args.flatMap (if share then fun v => seedsV v ++ lentNames v else seedsV))).mapM (fun g => (get H g).map (renB f)) := fun f => mapM_congr _ fun g hg => by rw [hR g hg]
  rw [e2, e3]
  exact h

theorem mpBlk_frame {m : AV} {g : Nm} {k : Blk} (h : mpBlk H m = some (g, k)) (e : get H' g = get H g) : mpBlk H' m = some (g, k) := by
  unfold mpBlk at h ⊢
  split at h
  · rename_i g'
    split at h
    · rename_i b hb
      split at h
      · rename_i hc
        cases h
        simp only [e, hb, if_pos hc]
      · cases h
    · cases h
  · cases h

theorem opLookupM_frame {t : TypeId} {m k : AV} {ok : Bool} {r : Res} (h : opLookupM P t m k ok H = some r) (ha : Agree H H' (r.rd ++ r.wr.map (·.1))) : opLookupM P t m k ok H' = some r := by
  unfold opLookupM at h ⊢
  split at h
  · rename_i et g b n h1 h2
    split at h
    · rename_i z hz
      split at h
      · rename_i hc
        cases h
        have e := ha g (by simp)
        simp only [h1, mpBlk_frame h2 e, hz, if_pos hc]
      · cases h
    · cases h
  · cases h

theorem opMapUpdate_frame {t : TypeId} {m k v : AV} {r : Res} (h : opMapUpdate P t m k v H = some r) (ha : Agree H H' (r.rd ++ r.wr.map (·.1))) : opMapUpdate P t m k v H' = some r := by
  unfold opMapUpdate at h ⊢
  split at h
  · rename_i et g b n h1 h2
    split at h
    · rename_i hc
      cases h
      have e := ha g (by simp)
      simp only [h1, mpBlk_frame h2 e, if_pos hc]
    · cases h
  · cases h

theorem opCopy_frame {t : TypeId} {d x : AV} {r : Res} (h : opCopy P t d x H = some r) (ha : Agree H H' (r.rd ++ r.wr.map (·.1))) : opCopy P t d x H' = some r := by
  unfold opCopy at h ⊢
  split at h
  · split at h
    · rename_i size g sz off len sz' ys l h1 h2
      split at h
      · rename_i b hb
        split at h
        · rename_i hc
          cases h
          have e := ha g (by simp)
          have e2 := srcOf_frame h2 (ha.sub fun g hg => by simp [hg])
          simp only [h1, e2, e, hb, if_pos hc]
        · cases h
      · cases h
    · cases h
  · cases h

theorem opClear_frame {t : TypeId} {d : AV} {r : Res} (h : opClear P t d H = some r) (ha : Agree H H' (r.rd ++ r.wr.map (·.1))) : opClear P t d H' = some r := by
  unfold opClear at h ⊢
  split at h
  · split at h
    · rename_i size z g sz off len h1 h2
      split at h
      · rename_i b hb
        split at h
        · rename_i hc
          cases h
          have e := ha g (by simp)
          simp only [h1, h2, e, hb, if_pos hc]
        · cases h
      · cases h
    · cases h
  · cases h

/-! ### An operation -/

theorem partsOf_congr {fr fr' : Fr} {ps : Array (Nat × Operand)} (h : ∀ p, p ∈ ps.toList → evO fr' p.2 = evO fr p.2) : partsOf fr' ps = partsOf fr ps := by
  unfold partsOf
  refine List.map_congr_left fun p hp => ?_
  rw [h p hp]

theorem args_congr {fr fr' : Fr} {l : List Operand} (h : ∀ x, x ∈ l → evO fr' x = evO fr x) : l.map (evO fr') = l.map (evO fr) := List.map_congr_left h

theorem stepOp_congr {N : FuncId → Note} {call : CL} {o : Oper} {fr fr' : Fr} {slot : Nat} (h : ∀ x, x ∈ o.op.operands → evO fr' x = evO fr x) : stepOp P N call o fr' H slot = stepOp P N call o fr H slot := by
  obtain ⟨dst, op, type, pos, after, guard⟩ := o
  cases op <;> simp only [Op.operands] at h <;> simp only [stepOp]
  case assign x => 
    have e := h x (by simp)
    unfold opAssign
    split
    · rfl
    · rw [e]
  case build t ps => rw [partsOf_congr fun p hp => h p.2 (by rw [List.mem_toArray]; exact List.mem_map.2 ⟨p, hp, rfl⟩)]
  case buildSlice t n ps => rw [partsOf_congr fun p hp => h p.2 (by rw [List.mem_toArray]; exact List.mem_map.2 ⟨p, hp, rfl⟩)]
  case makeMap t res => cases res <;> rfl
  case makeFunc fn first caps =>
    cases fn with
    | func f =>
      simp only
      split
      · rw [args_congr (l := caps.toList) fun x hx => h x (by simp at hx; simp [hx])]
      · rfl
    | _ => rfl
  case slice t x lo hi mx =>
    have e1 := h x (by simp)
    have e2 : lo.map (evO fr') = lo.map (evO fr) := by cases lo <;> simp_all
    have e3 : hi.map (evO fr') = hi.map (evO fr) := by cases hi <;> simp_all
    have e4 : mx.map (evO fr') = mx.map (evO fr) := by cases mx <;> simp_all
    rw [e1, e2, e3, e4]
  case call c =>
    have ea : c.args.toList.map (evO fr') = c.args.toList.map (evO fr) := args_congr fun x hx => h x (by simp at hx; simp [Call.operands, hx])
    cases hc : c.callee with
    | value f =>
      have e := h f (by simp [Call.operands, hc])
      simp only [e, ea]
    | invoke r m => rfl
    | builtin b =>
      cases b with
      | len =>
        simp only
        split
        · rename_i x t hx ht
          rw [h x (by have : x ∈ c.args.toList := by rw [hx]; simp
                      simp at this; simp [Call.operands, this])]
        · rfl
      | append =>
        simp only
        split
        · rename_i s x t t' hx ht
          have m1 : s ∈ c.args.toList := by rw [hx]; simp
          have m2 : x ∈ c.args.toList := by rw [hx]; simp
          simp at m1 m2
          rw [h s (by simp [Call.operands, m1]), h x (by simp [Call.operands, m2])]
        · rfl
      | copy =>
        simp only
        split
        · rename_i s x t t' hx ht
          have m1 : s ∈ c.args.toList := by rw [hx]; simp
          have m2 : x ∈ c.args.toList := by rw [hx]; simp
          simp at m1 m2
          rw [h s (by simp [Call.operands, m1]), h x (by simp [Call.operands, m2])]
        · rfl
      | clear =>
        simp only
        split
        · rename_i s t hx ht
          have m1 : s ∈ c.args.toList := by rw [hx]; simp
          simp at m1
          rw [h s (by simp [Call.operands, m1])]
        · rfl
      | min => simp only [ea]
      | max => simp only [ea]
      | _ => rfl
  all_goals first | rfl | (simp_all; done) | skip

theorem stepOp_heap {N : FuncId → Note} {call : CL} {o : Oper} {fr : Fr} {slot : Nat} {r : Res} (h : stepOp P N call o fr H slot = some r) (ha : Agree H H' (r.rd ++ r.wr.map (·.1))) : stepOp P N call o fr H' slot = some r := by
  obtain ⟨dst, op, type, pos, after, guard⟩ := o
  cases op <;> simp only [stepOp] at h ⊢
  case buildSlice t n ps => exact opBuildSlice_frame h ha
  case load t a => exact opLoad_frame h ha
  case store t a x => exact opStore_frame h ha
  case slice t x lo hi mx => exact opSlice_frame h ha
  case lookup t m k ok =>
    split at h
    · exact h
    · exact opLookupM_frame h ha
  case mapUpdate t m k v => exact opMapUpdate_frame h ha
  case makeMap t res =>
    cases res with
    | none => exact h
    | some x => cases h
  case call c =>
    cases hc : c.callee with
    | value f =>
      simp only [hc] at h ⊢
      cases hv : evO fr f with
      | clo fn caps => simp only [hv] at h ⊢; exact opCall_frame h ha
      | _ => simp [hv] at h
    | invoke r m => simp only [hc] at h; cases h
    | builtin b =>
      cases b with
      | append =>
        simp only [hc] at h ⊢
        revert h
        generalize c.args.toList = as
        generalize c.argTypes.toList = ts
        intro h
        match as, ts, h with
        | [s, x], [t, t'], h =>
          simp only at h ⊢
          split at h
          · rename_i e; rw [if_pos e]; exact opAppend_frame h ha
          · cases h
      | copy =>
        simp only [hc] at h ⊢
        revert h
        generalize c.args.toList = as
        generalize c.argTypes.toList = ts
        intro h
        match as, ts, h with
        | [s, x], [t, t'], h => exact opCopy_frame h ha
      | clear =>
        simp only [hc] at h ⊢
        revert h
        generalize c.args.toList = as
        generalize c.argTypes.toList = ts
        intro h
        match as, ts, h with
        | [s], [t], h => exact opClear_frame h ha
      | len => simp only [hc] at h ⊢; exact h
      | min => simp only [hc] at h ⊢; exact h
      | max => simp only [hc] at h ⊢; exact h
      | _ => simp only [hc] at h; cases h
  case makeFunc fn first caps =>
    cases fn with
    | func f => exact h
    | _ => simp only at h; cases h
  all_goals with_reducible exact h

theorem makes_of_cool {op : Op} (hh : hot op = false) : makes op = false := by
  cases op
  case call c =>
    obtain ⟨callee, args, argTypes⟩ := c
    cases callee with
    | builtin b => cases b <;> first | (simp only [hot] at hh; exact hh) | rfl | (simp [hot] at hh; done)
    | _ => first | (simp only [hot] at hh; exact hh) | rfl | (simp [hot] at hh; done)
  case slice t x lo hi mx => cases mx <;> first | rfl | (simp [hot] at hh; done)
  all_goals first | (simp only [hot] at hh; exact hh) | rfl | (simp [hot] at hh; done)

/-- An operation that is not hot meets no block. -/
theorem stepOp_cool {N : FuncId → Note} {call : CL} {o : Oper} {fr : Fr} {slot : Nat} {r : Res} (h : stepOp P N call o fr H slot = some r) (hh : hot o.op = false) : r.rd = [] ∧ r.wr = [] ∧ makes o.op = false := by
  have hm := makes_of_cool hh
  suffices hx : r.rd = [] ∧ r.wr = [] from ⟨hx.1, hx.2, hm⟩
  obtain ⟨dst, op, type, pos, after, guard⟩ := o
  cases op <;> simp only [stepOp] at h
  all_goals first | (cases h; done) | skip
  all_goals first | (simp [hot, makes] at hh; done) | skip
  case makeMap t res =>
    cases res with
    | none => simp [hot, makes] at hh
    | some x => cases h
  case assign x =>
    unfold opAssign at h
    split at h
    · simp [hot, makes] at hh
    · cases h; exact ⟨rfl, rfl⟩
  case slice t x lo hi mx =>
    cases mx with
    | some m => simp [hot] at hh
    | none =>
      simp only [opSlice, Option.map_none] at h
      split at h
      · split at h
        · split at h
          · cases h; exact ⟨rfl, rfl⟩
          · cases h
        · cases h
      · split at h
        · split at h
          · split at h
            · cases h; exact ⟨rfl, rfl⟩
            · cases h
          · rename_i e _ _; cases e
          · cases h
        · cases h
      · split at h
        · split at h
          · split at h
            · cases h; exact ⟨rfl, rfl⟩
            · cases h
          · rename_i e _ _; cases e
          · cases h
        · cases h
      · cases h
  case call c =>
    cases hc : c.callee with
    | value f =>
      obtain ⟨callee, args, argTypes⟩ := c
      simp only at hc
      subst hc
      simp [hot, makes] at hh
    | invoke r m => simp only [hc] at h; cases h
    | builtin b =>
      cases b with
      | append =>
        obtain ⟨callee, args, argTypes⟩ := c
        simp only at hc
        subst hc
        simp [hot, makes] at hh
      | copy =>
        obtain ⟨callee, args, argTypes⟩ := c
        simp only at hc
        subst hc
        simp [hot] at hh
      | clear =>
        obtain ⟨callee, args, argTypes⟩ := c
        simp only at hc
        subst hc
        simp [hot] at hh
      | len =>
        simp only [hc] at h
        split at h
        · obtain ⟨v, _, rfl⟩ := Option.map_eq_some_iff.1 h; exact ⟨rfl, rfl⟩
        · cases h
      | min =>
        simp only [hc] at h
        split at h
        · obtain ⟨v, _, rfl⟩ := Option.map_eq_some_iff.1 h; exact ⟨rfl, rfl⟩
        · cases h
      | max =>
        simp only [hc] at h
        split at h
        · obtain ⟨v, _, rfl⟩ := Option.map_eq_some_iff.1 h; exact ⟨rfl, rfl⟩
        · cases h
      | _ => simp only [hc] at h; cases h
  case makeFunc fn first caps =>
    cases fn with
    | func f =>
      simp only at h
      split at h
      · cases h; exact ⟨rfl, rfl⟩
      · cases h
    | _ => simp only at h; cases h
  all_goals first
    | (obtain ⟨v, _, rfl⟩ := Option.map_eq_some_iff.1 h; exact ⟨rfl, rfl⟩)
    | (cases h; exact ⟨rfl, rfl⟩)
    | (split at h <;> first | (cases h; done) | (cases h; exact ⟨rfl, rfl⟩) | (split at h <;> first | (cases h; done) | (cases h; exact ⟨rfl, rfl⟩)))

theorem stepOp_load {N : FuncId → Note} {call : CL} {o : Oper} {fr : Fr} {slot : Nat} {r : Res} (h : stepOp P N call o fr H slot = some r) (hh : isLoad o.op = true) : r.wr = [] ∧ makes o.op = false := by
  obtain ⟨dst, op, type, pos, after, guard⟩ := o
  cases op <;> simp only [isLoad] at hh <;> first | (cases hh; done) | skip
  case load t a =>
    refine ⟨?_, rfl⟩
    simp only [stepOp, opLoad] at h
    split at h
    · split at h
      · split at h
        · split at h
          · split at h
            · obtain ⟨v, _, rfl⟩ := Option.map_eq_some_iff.1 h; rfl
            · cases h
          · cases h
        · cases h
      · split at h
        · split at h
          · obtain ⟨v, _, rfl⟩ := Option.map_eq_some_iff.1 h; rfl
          · cases h
        · cases h
      · split at h
        · cases h; rfl
        · cases h
      · cases h
    · cases h

end
end Go.Abs
