/- Lemmas for the statement of the last text of this claim. -/
import Derived.Test.YtoihpnpfnechdaaGreatDoorV3AO
import Derived.Test.YtoihpnpfnechdaaGreatDoorChecked
import Derived.WalkKit
import Derived.Lib.Walk
import Derived.Shelf.SlSortCmp.InsertionK
import Derived.Sort.AssemblyPlain
import Derived.Shelf.SlSortCmp.NoneTotal
set_option linter.unusedSimpArgs false
set_option linter.unusedVariables false
namespace Go.Proofs.YtoihpnpfnechdaaGreatDoor
open Go Go.Abs
set_option maxRecDepth 1000000
theorem told {hand : CL} (hh : Sound Tryz.prog hand) {f : FuncId} {args : List AV} {x : AV} (h : evT hand 200 40 f args [] = some (x, [], [])) : Entered Tryz.prog f ∧ Contract Tryz.prog f args [] (x, [], []) := evT_sound hh 200 40 f args [] _ h

theorem tabL_ok : ∀ p ∈ tabL, Entered Tryz.prog p.1 ∧ Contract Tryz.prog p.1 p.2.1 [] (p.2.2, [], []) := by
  intro p hp
  simp only [tabL, List.mem_cons, List.not_mem_nil, or_false] at hp
  rcases hp with rfl | rfl | rfl | rfl | rfl | rfl | rfl
  · exact told hand1_sound kl0
  · exact told hand1_sound kl1
  · exact told hand1_sound kl2
  · exact told hand1_sound kl3
  · exact told hand1_sound kl4
  · exact told hand1_sound kl5
  · exact told hand1_sound kl6
theorem tabW_ok : ∀ p ∈ tabW, Entered Tryz.prog p.1 ∧ Contract Tryz.prog p.1 p.2.1 [] (p.2.2, [], []) := by
  intro p hp
  simp only [tabW, List.mem_cons, List.not_mem_nil, or_false] at hp
  rcases hp with rfl | rfl | rfl | rfl | rfl | rfl | rfl
  · exact told hand1_sound kw1
  · exact told hand1_sound kw2
  · exact told hand1_sound kw3
  · exact told hand1_sound kw4
  · exact told hand1_sound kw5
  · exact told hand1_sound kw6
  · exact told hand1_sound kw7
theorem parse_c : Entered Tryz.prog 38 ∧ Contract Tryz.prog 38 [textA] [] (stmA, [], []) := told (memo_sound hand1_sound tabL_ok) kp
theorem tabZ_ok : ∀ p ∈ tabZ, Entered Tryz.prog p.1 ∧ Contract Tryz.prog p.1 p.2.1 [] (p.2.2, [], []) := by
  intro p hp
  simp only [tabZ, List.mem_cons, List.not_mem_nil, or_false] at hp
  rcases hp with rfl | rfl | rfl | rfl | rfl | rfl | rfl
  · refine told (memo_sound hand1_sound (fun p hp => ?_)) ka
    simp only [List.mem_cons, List.not_mem_nil, or_false] at hp
    subst hp
    exact parse_c
  · exact told hand1_sound kb
  · exact told (hand2_sound (memo_sound noHand_sound tabW_ok)) kc
  · exact told hand1_sound kd
  · exact told hand1_sound ke
  · exact told hand1_sound kf
  · exact told hand1_sound kg
theorem k_alive : evT (memo tabZ (fun _ _ _ => none)) 200 40 5 [] [] = some (.bool true, [], []) := by kernel_rfl
theorem alive_c : Entered Tryz.prog 5 ∧ Contract Tryz.prog 5 [] [] (.bool true, [], []) := told (memo_sound noHand_sound tabZ_ok) k_alive
#print axioms alive_c
end Go.Proofs.YtoihpnpfnechdaaGreatDoor
namespace Go.Proofs.YtoihpnpfnechdaaGreatDoor
open Go Go.Abs Go.Shelf Go.RowKit Go.Proofs Go.Sort
theorem heap_grow (w : World) (os : Array Obj) {i : Nat} (h : i < w.heap.size) : (grow w os).heap[i]? = w.heap[i]? := Array.getElem?_append_left h

theorem put_row {α : Type} [Inhabited α] (enc : α → Value) (w : World) (n b off : Nat) (d : Array α) (os : Array Obj) {cs : Array Value} {T : TypeId} (hb : w.heap[b]? = some (.cells cs T (0, 0))) :
    Placed w (grow (putRow enc (Sort.ahead w n) b off d) os) b (putCells enc off d cs) T := by
  have hlt : b < w.heap.size := (Array.getElem?_eq_some_iff.1 hb).1
  have hs : (putRow enc (Sort.ahead w n) b off d).heap = w.heap.modify b (onCells (putCells enc off d)) := rfl
  have hsz : (putRow enc (Sort.ahead w n) b off d).heap.size = w.heap.size := by rw [hs]; simp
  refine ⟨rfl, rfl, rfl, ?_, ?_, fun i hi hne => ?_⟩
  · show w.heap.size ≤ ((putRow enc (Sort.ahead w n) b off d).heap ++ os).size
    rw [Array.size_append, hsz]; omega
  · rw [heap_grow _ _ (by rw [hsz]; exact hlt), hs, Array.getElem?_modify, if_pos rfl, hb]; rfl
  · rw [heap_grow _ _ (by rw [hsz]; exact hi), hs, Array.getElem?_modify, if_neg (fun e => hne e.symm)]

theorem putCells_size {α : Type} [Inhabited α] (enc : α → Value) (off : Nat) (d : Array α) (cs : Array Value) : (putCells enc off d cs).size = cs.size := by simp [putCells]
theorem putCells_at {α : Type} [Inhabited α] (enc : α → Value) (off : Nat) (d : Array α) (cs : Array Value) {i : Nat} (hc : i < cs.size) : (putCells enc off d cs).getD i undef = if off ≤ i ∧ i < off + d.size then enc d[i - off]! else cs.getD i undef := by
  simp [putCells, Array.getD_eq_getD_getElem?, hc]

theorem ints_elems {w : World} {X : XT} {ρ : Rho} {cs : Array Value} {l : List Int} (h : l.length ≤ cs.size) (hc : ∀ i, i < l.length → cs.getD i undef = .int .i64 (l.getD i 0)) : ElemsAt false w X ρ cs 1 (l.map (AV.int .i64)) := by
  refine ⟨by simpa using h, fun i x hx => ?_⟩
  rw [List.getElem?_map] at hx
  obtain ⟨n, hn, rfl⟩ := Option.map_eq_some_iff.1 hx
  refine ⟨rfl, fun j u hj => ?_⟩
  cases j with
  | succ j => simp [AV.cells] at hj
  | zero =>
    simp [AV.cells] at hj
    subst hj
    have hi : i < l.length := (List.getElem?_eq_some_iff.1 hn).1
    have := hc i hi
    rw [List.getD_eq_getElem?_getD, hn] at this
    simp only [Option.getD_some] at this
    rw [Nat.mul_one, Nat.add_zero, this]
    exact ⟨rfl, .int _ _⟩

def sortI (l : List Int) : List Int := l.mergeSort fun x y => decide (x ≤ y)
def sortAt (l : List Int) (off len : Nat) : List Int := l.take off ++ sortI ((l.drop off).take len) ++ l.drop (off + len)
theorem sortI_length (l : List Int) : (sortI l).length = l.length := List.length_mergeSort _
theorem sortAt_length {l : List Int} {off len : Nat} (h : off + len ≤ l.length) : (sortAt l off len).length = l.length := by
  simp only [sortAt, List.length_append, sortI_length, List.length_take, List.length_drop]; omega
theorem sortAt_get {l : List Int} {off len i : Nat} (h : off + len ≤ l.length) : (sortAt l off len).getD i 0 = if off ≤ i ∧ i < off + len then (sortI ((l.drop off).take len)).getD (i - off) 0 else l.getD i 0 := by
  have h1 : (l.take off).length = off := by rw [List.length_take]; omega
  have h2 : (sortI ((l.drop off).take len)).length = len := by rw [sortI_length, List.length_take, List.length_drop]; omega
  simp only [sortAt, List.getD_eq_getElem?_getD, List.append_assoc]
  rcases Nat.lt_or_ge i off with h3 | h3
  · rw [List.getElem?_append_left (by omega), if_neg (by omega), List.getElem?_take, if_pos h3]
  · rw [List.getElem?_append_right (by omega), h1]
    rcases Nat.lt_or_ge i (off + len) with h4 | h4
    · rw [List.getElem?_append_left (by omega), if_pos ⟨h3, h4⟩]
    · rw [List.getElem?_append_right (by omega), if_neg (by omega), h2, List.getElem?_drop]
      congr 2
      omega

theorem sort_c {l : List Int} {off len : Nat} (hle : off + len ≤ l.length) (hl : l.length ≤ 4294967296) : Contract Tryz.prog 126 [.own (0, 0) 1 off len] [⟨1, l.map (AV.int .i64), 0, false⟩] (.tup [], [some ⟨1, (sortAt l off len).map (AV.int .i64), 0, false⟩], []) := by
  have hlen := sortAt_length hle
  have hpl : ((l.drop off).take len).length = len := by rw [List.length_take, List.length_drop]; omega
  refine contract_place (P := Tryz.prog) (f := 126) (sz := 1) (xs := l.map (AV.int .i64)) (ys := (sortAt l off len).map (AV.int .i64)) (rest := []) (by decide)
    (fun hz => ⟨by subst hz; simp [sortAt, sortI], fun w X ρ vals a cap hsz hv _ => by
      have h9 := vals1 (vals := vals) hsz
      rw [hv] at h9
      rw [h9]
      refine (AnyM.slices_Sort_int_none Tryz.sortA a cap w).mono ?_
      rintro e w' ⟨rfl, rfl⟩
      exact ⟨rfl, Lies.refl _⟩⟩)
    (fun _ w X ρ vals b cap cs T hsz hv hh hcap hels _ => by
      have h9 := vals1 (vals := vals) hsz
      rw [hv] at h9
      rw [h9, Nat.mul_one]
      have hcell : ∀ i, i < l.length → cs.getD i undef = .int .i64 (l.getD i 0) := by
        intro i hi
        have := (hels.2 i (.int .i64 (l.getD i 0)) (by simp [hi, List.getD_eq_getElem?_getD])).2 0 _ rfl
        rw [Nat.mul_one, Nat.add_zero] at this
        exact this.2.vr.intInv
      have hsz2 : l.length ≤ cs.size := by simpa using hels.1
      have hH : Holds (Value.int .i64) w b off ((l.drop off).take len).toArray := by
        intro j hj
        have hj' : j < len := by simpa [hpl] using hj
        have hjc : off + j < cs.size := by omega
        refine ⟨?_, by simp [World.frozen?, hh]⟩
        have := hcell (off + j) (by omega)
        rw [cell_of_row w b (off + j) cs T (0, 0) hh]
        simp only [Array.getD_eq_getD_getElem?, Array.getElem?_eq_getElem hjc, Option.getD_some] at this
        rw [Array.getElem?_eq_getElem hjc, this]
        have hjl : off + j < l.length := by omega
        simp [hj', hjl, List.getD_eq_getElem?_getD]
      have hs := AnyM.slices_Sort_int Tryz.sortA b off cap ((l.drop off).take len) w hH (Array.getElem?_eq_some_iff.1 hh).1 (by rw [hpl]; omega)
      rw [hpl] at hs
      refine hs.mono ?_
      rintro e w' ⟨rfl, n, os, rfl⟩
      refine ⟨rfl, _, putCells_size _ _ _ _, put_row _ w n b off _ os hh, fun X ρ => ints_elems (by rw [putCells_size, hlen]; exact hsz2) (fun i hi => ?_)⟩
      have hil : i < l.length := by rw [← hlen]; exact hi
      rw [putCells_at _ _ _ _ (by omega), sortAt_get hle, List.size_toArray]
      have hms : (((l.drop off).take len).mergeSort fun x y => decide (x ≤ y)).length = len := by rw [List.length_mergeSort, hpl]
      rw [hms]
      by_cases hin : off ≤ i ∧ i < off + len
      · rw [if_pos hin, if_pos hin]
        have : i - off < (((l.drop off).take len).mergeSort fun x y => decide (x ≤ y)).length := by rw [hms]; omega
        simp [sortI, this, List.getD_eq_getElem?_getD]
      · rw [if_neg hin, if_neg hin]
        exact hcell i hil)

def place126 : SCall := placeS (.int .i64) [] (fun l off len => decide (off + len ≤ List.length (show List Int from l) ∧ List.length (show List Int from l) ≤ 4294967296)) (fun l off len => sortAt l off len)
theorem hand126 : CallOK Tryz.prog 126 place126 :=
  place_ok (entered Tryz.func126 rfl (by decide)) (fun l off len hl => by
    have := of_decide_eq_true hl
    exact sort_c (l := l) this.1 this.2)
end Go.Proofs.YtoihpnpfnechdaaGreatDoor
namespace Go.Proofs.YtoihpnpfnechdaaGreatDoor
open Go Go.Abs Go.Shelf Go.RowKit Go.Proofs
set_option maxRecDepth 100000
theorem stable_ev : evF Tryz.prog noteT gv0 (fun _ _ _ => none) 10 5 261 [.own (0, 0) 2 0 0, .clo 262 []] [⟨2, [], 0, false⟩] = some (.tup [], [some ⟨2, [], 0, false⟩], []) := by kernel_rfl
def place261 (t : Ty) : SCall := placeS t [262] (fun l off len => l.isEmpty && decide (off = 0 ∧ len = 0)) (fun l _ _ => l)
theorem hand261 (t : Ty) (ht : t.size = 2) : CallOK Tryz.prog 261 (place261 t) :=
  place_ok (entered Tryz.func261 rfl (by decide)) (fun l off len hl => by
    simp only [Bool.and_eq_true, decide_eq_true_eq, List.isEmpty_iff] at hl
    obtain ⟨rfl, rfl, rfl⟩ := hl
    rw [ht]
    exact (evF_sound gv0_ok goodT mixedT noHand_sound 5 261 _ _ _ stable_ev).2)
end Go.Proofs.YtoihpnpfnechdaaGreatDoor
namespace Go.Proofs.YtoihpnpfnechdaaGreatDoor
open Go Go.Abs Go.RowKit Go.Proofs
def leapB (y : Int) : Bool := (y.tmod 4 == 0) && ((y.tmod 100 != 0) || (y.tmod 400 == 0))
def dayTab : List Int := [31, 28, 31, 30, 31, 30, 31, 31, 30, 31, 30, 31]
def daysIn (y m : Int) : Int := if m < 1 ∨ 12 < m then 0 else if m = 2 ∧ leapB y = true then 29 else dayTab.getD (m - 1).toNat 0

theorem leap_calls (y : Int) (w : World) : Calls Tryz.prog 298 #[.int .i64 y] w fun e w' => e = .returned (.bool (leapB y)) ∧ w' = w := by
  go_enter Tryz.func298, Tryz.ntmps298
  go_wp2
  all_goals
    go_ret
    refine ⟨?_, rfl⟩
    show Ending.returned (Value.bool _) = Ending.returned (Value.bool _)
    congr 2
    simp_all [leapB]

set_option maxRecDepth 100000 in
set_option maxHeartbeats 4000000 in
theorem days_calls (y m : Int) (w : World) : Calls Tryz.prog 229 #[.int .i64 y, .int .i64 m] w fun e w' => e = .returned (.int .i64 (daysIn y m)) ∧ Kept w w' := by
  by_cases hm : m < 1 ∨ 12 < m
  · have h1 : (decide (m < 1) || decide (12 < m)) = true := by simpa using hm
    go_enter Tryz.func229, Tryz.ntmps229
    go_wp2
    all_goals
      go_ret
      refine ⟨?_, Kept.refl _⟩
      show Ending.returned (Value.int _ 0) = Ending.returned (Value.int _ _)
      rw [daysIn, if_pos hm]
  · have : m = 1 ∨ m = 2 ∨ m = 3 ∨ m = 4 ∨ m = 5 ∨ m = 6 ∨ m = 7 ∨ m = 8 ∨ m = 9 ∨ m = 10 ∨ m = 11 ∨ m = 12 := by omega
    have hlp := leap_calls y
    rcases this with rfl | rfl | rfl | rfl | rfl | rfl | rfl | rfl | rfl | rfl | rfl | rfl
    all_goals
      go_enter Tryz.func229, Tryz.ntmps229
      go_wp2_with (go_at_call 298; refine (hlp _).mono ?_; rintro e w' ⟨rfl, rfl⟩)
    all_goals go_ret
    all_goals (refine ⟨?_, ⟨rfl, rfl, rfl, by simp, fun i hi => Below.heap_alloc w _ i hi⟩⟩)
    all_goals
      show Ending.returned (Value.int _ _) = Ending.returned (Value.int _ _)
      first | rfl | (simp_all [daysIn, dayTab]; done)

def hfDays : List SV → Tr SV
  | [.int .i64 y, .int .i64 m] => .ret (.int .i64 (daysIn y m))
  | _ => .fail
theorem hand229 : CallOK Tryz.prog 229 (pureC hfDays) := pure_ok (entered Tryz.func229 rfl (by decide)) (by
  intro args v h
  unfold hfDays at h
  split at h
  · rename_i y m
    have := Tr.mean_ret h
    subst this
    refine ⟨_, rfl, fun w X vals hsz hv => ?_⟩
    have h0 := PR.int_inv (hv 0 _ rfl)
    have h1 := PR.int_inv (hv 1 _ rfl)
    have h2 := two_vals (vals := vals) (by simpa using hsz)
    rw [h0, h1] at h2
    rw [h2]
    exact days_calls y m w
  · exact (Tr.mean_fail h).elim)
end Go.Proofs.YtoihpnpfnechdaaGreatDoor
namespace Go.Proofs.YtoihpnpfnechdaaGreatDoor
open Go Go.Abs
theorem hand5 : CallOK Tryz.prog 5 (pureC hfTrue) := by
  intro args sub out hc ℓ0 ℓ' _ _
  refine ⟨alive_c.1, ?_⟩
  unfold pureC at hc
  split at hc
  · obtain ⟨_, hc⟩ := Tr.mean_when hc
    obtain ⟨v, h1, h2⟩ := Tr.mean_bind hc
    have := Tr.mean_ret h2
    subst this
    unfold hfTrue at h1
    split at h1
    · have := Tr.mean_ret h1
      subst this
      exact alive_c.2
    · exact (Tr.mean_fail h1).elim
  · exact (Tr.mean_fail hc).elim
end Go.Proofs.YtoihpnpfnechdaaGreatDoor
namespace Go.Abs
open Go Go.Proofs Go.Sort Go.Shelf Go.RowKit
/-- A type of numbers. -/
structure Tup (t : Ty) where
  k : Nat
  I : t.den → List Int
  kp : 0 < k
  len : ∀ x, (I x).length = k
  enc : ∀ x, encC t x = (I x).map (AV.int .i64)
  z : t.den
  hz : (I z).headD 0 = 0

namespace Tup
variable {t : Ty} (T : Tup t)
/-- Those whose first number is of moderate size. -/
abbrev Bd := { p : t.den // -2305843009213693952 ≤ (T.I p).headD 0 ∧ (T.I p).headD 0 ≤ 2305843009213693952 }
def dflt : T.Bd := ⟨T.z, by rw [T.hz]; exact ⟨by decide, by decide⟩⟩
instance inh : Inhabited T.Bd := ⟨T.dflt⟩
def encV (x : T.Bd) : List Value := (T.I x.1).map (Value.int .i64)
def cf (x y : T.Bd) : Int := (T.I x.1).headD 0 - (T.I y.1).headD 0
def bd (x : t.den) : T.Bd := if h : -2305843009213693952 ≤ (T.I x).headD 0 ∧ (T.I x).headD 0 ≤ 2305843009213693952 then ⟨x, h⟩ else T.dflt
def ok (l : List t.den) : Bool := l.all fun x => decide (-2305843009213693952 ≤ (T.I x).headD 0 ∧ (T.I x).headD 0 ≤ 2305843009213693952)
def sorted (l : List t.den) : Array T.Bd := pdq (ltOf T.cf) (l.map T.bd).toArray 0 l.length (Lib.bitLen l.length) true true
def sortL (l : List t.den) : List t.den := (T.sorted l).toList.map (·.1)
def sortAt (l : List t.den) (off len : Nat) : List t.den := l.take off ++ T.sortL ((l.drop off).take len) ++ l.drop (off + len)
def cond (l : List t.den) (off len : Nat) : Bool := decide (off + len ≤ l.length ∧ l.length ≤ 4294967296) && T.ok ((l.drop off).take len)

theorem len_encV (x : T.Bd) : (T.encV x).length = T.k := by simp [encV, T.len]
theorem one_encV (x : T.Bd) : ∀ v ∈ T.encV x, v.oneCell' = true := by
  intro v hv
  obtain ⟨n, _, rfl⟩ := List.mem_map.1 hv
  rfl
theorem swo : SWO (ltOf T.cf) where
  irrefl := fun x => decide_eq_false (by unfold cf; omega)
  trans := fun x y z h1 h2 => by
    have h1 := of_decide_eq_true h1
    have h2 := of_decide_eq_true h2
    unfold cf at h1 h2
    exact decide_eq_true (by unfold cf; omega)
  ntrans := fun x y z h1 h2 => by
    have h1 := of_decide_eq_false h1
    have h2 := of_decide_eq_false h2
    unfold cf at h1 h2
    exact decide_eq_false (by unfold cf; omega)

theorem bd_ok {l : List t.den} (h : T.ok l = true) {x : t.den} (hx : x ∈ l) : (T.bd x).1 = x := by
  have := of_decide_eq_true (List.all_eq_true.1 h x hx)
  unfold bd
  rw [dif_pos this]
theorem sorted_perm (l : List t.den) : (T.sorted l).size = l.length ∧ (T.sorted l).toList.Perm (l.map T.bd) := by
  have h := (pdq_sorts (ltOf T.cf) T.swo (l.map T.bd).toArray 0 l.length (Lib.bitLen l.length) true true (Nat.zero_le _) (by simp) (Or.inl rfl)).1
  have hs : (T.sorted l).size = l.length := by have := h.1; simpa [sorted] using this
  refine ⟨hs, ?_⟩
  have h2 := h.2.2
  rw [show (pdq (ltOf T.cf) (l.map T.bd).toArray 0 l.length (Lib.bitLen l.length) true true) = T.sorted l from rfl] at h2
  rw [show (T.sorted l).extract 0 l.length = T.sorted l from by rw [← hs]; simp, show (l.map T.bd).toArray.extract 0 l.length = (l.map T.bd).toArray from by
    apply Array.ext'
    rw [Array.toList_extract]
    simp [List.take_of_length_le]] at h2
  simpa using h2
theorem sortL_perm {l : List t.den} (h : T.ok l = true) : (T.sortL l).Perm l := by
  have := (T.sorted_perm l).2.map (·.1)
  rw [List.map_map] at this
  have e : l.map ((·.1) ∘ T.bd) = l := by
    conv => rhs; rw [← List.map_id l]
    exact List.map_congr_left fun x hx => T.bd_ok h hx
  rw [e] at this
  exact this
theorem sortL_length (l : List t.den) : (T.sortL l).length = l.length := by
  simp only [sortL, List.length_map]
  rw [Array.length_toList, (T.sorted_perm l).1]
theorem sortAt_length {l : List t.den} {off len : Nat} (h : off + len ≤ l.length) : (T.sortAt l off len).length = l.length := by
  simp only [sortAt, List.length_append, sortL_length, List.length_take, List.length_drop]; omega
theorem sortAt_get {l : List t.den} {off len i : Nat} (h : off + len ≤ l.length) : (T.sortAt l off len)[i]? = if off ≤ i ∧ i < off + len then (T.sortL ((l.drop off).take len))[i - off]? else l[i]? := by
  have h1 : (l.take off).length = off := by rw [List.length_take]; omega
  have h2 : (T.sortL ((l.drop off).take len)).length = len := by rw [sortL_length, List.length_take, List.length_drop]; omega
  simp only [sortAt, List.append_assoc]
  rcases Nat.lt_or_ge i off with h3 | h3
  · rw [List.getElem?_append_left (by omega), if_neg (by omega), List.getElem?_take, if_pos h3]
  · rw [List.getElem?_append_right (by omega), h1]
    rcases Nat.lt_or_ge i (off + len) with h4 | h4
    · rw [List.getElem?_append_left (by omega), if_pos ⟨h3, h4⟩]
    · rw [List.getElem?_append_right (by omega), if_neg (by omega), h2, List.getElem?_drop]
      congr 1
      omega

theorem cond_whole {l : List t.den} (h : T.ok l = true) (hl : l.length ≤ 4294967296) : T.cond l 0 l.length = true := by
  unfold cond
  rw [decide_eq_true (show 0 + l.length ≤ l.length ∧ l.length ≤ 4294967296 from ⟨by omega, hl⟩), List.drop_zero, List.take_length, h]
  rfl
theorem sortAt_mem {l : List t.den} (h : T.ok l = true) : ∀ s ∈ T.sortAt l 0 l.length, s ∈ l := by
  intro s hs
  unfold sortAt at hs
  rw [List.drop_zero, List.take_length, List.take_zero, List.nil_append, Nat.zero_add, List.drop_length, List.append_nil] at hs
  exact (T.sortL_perm h).mem_iff.1 hs

theorem heap_grown (w : World) (os : Array Obj) {i : Nat} (h : i < w.heap.size) : (Sort.grow w os).heap[i]? = w.heap[i]? := Array.getElem?_append_left h
theorem put_flat (w : World) (n b off : Nat) (d : Array Value) (os : Array Obj) {cs : Array Value} {T : TypeId} (hb : w.heap[b]? = some (.cells cs T (0, 0))) :
    Placed w (Sort.grow (putRow id (Sort.ahead w n) b off d) os) b (putCells id off d cs) T := by
  have hlt : b < w.heap.size := (Array.getElem?_eq_some_iff.1 hb).1
  have hs : (putRow id (Sort.ahead w n) b off d).heap = w.heap.modify b (onCells (putCells id off d)) := rfl
  have hsz : (putRow id (Sort.ahead w n) b off d).heap.size = w.heap.size := by rw [hs]; simp
  refine ⟨rfl, rfl, rfl, ?_, ?_, fun i hi hne => ?_⟩
  · show w.heap.size ≤ ((putRow id (Sort.ahead w n) b off d).heap ++ os).size
    rw [Array.size_append, hsz]; omega
  · rw [heap_grown _ _ (by rw [hsz]; exact hlt), hs, Array.getElem?_modify, if_pos rfl, hb]; rfl
  · rw [heap_grown _ _ (by rw [hsz]; exact hi), hs, Array.getElem?_modify, if_neg (fun e => hne e.symm)]
theorem flat_size (off : Nat) (d cs : Array Value) : (putCells id off d cs).size = cs.size := by simp [putCells]
theorem flat_at (off : Nat) (d cs : Array Value) {i : Nat} (hc : i < cs.size) : (putCells id off d cs).getD i undef = if off ≤ i ∧ i < off + d.size then d[i - off]! else cs.getD i undef := by
  simp [putCells, Array.getD_eq_getD_getElem?, hc]

theorem tup_elems {w : World} {X : XT} {ρ : Rho} {cs : Array Value} {l : List t.den} (h : l.length * T.k ≤ cs.size) (hc : ∀ (i : Nat) (x : t.den) (j : Nat) (n : Int), l[i]? = some x → (T.I x)[j]? = some n → cs.getD (i * T.k + j) undef = .int .i64 n) : ElemsAt false w X ρ cs T.k (l.map (Abs.enc t)) := by
  refine ⟨by simpa using h, fun i x hx => ?_⟩
  rw [List.getElem?_map] at hx
  obtain ⟨y, hy, rfl⟩ := Option.map_eq_some_iff.1 hx
  rw [cells_enc, T.enc]
  refine ⟨by simp [T.len], fun j u hj => ?_⟩
  rw [List.getElem?_map] at hj
  obtain ⟨n, hn, rfl⟩ := Option.map_eq_some_iff.1 hj
  rw [hc i y j n hy hn]
  exact ⟨rfl, .int _ _⟩

set_option maxHeartbeats 2000000 in
theorem sort_c {P : Program} {f g : FuncId} (hk : t.size = T.k)
    (hcall : ∀ (d : Array T.Bd) (b off cap : Nat) (w : World), HoldsK T.encV T.k w b off d → b < w.heap.size → d.size < 4611686018427387904 →
      Calls P f #[.slice (some ⟨b, off, none⟩) d.size cap, .func (.func g) #[] #[]] w fun e w' => e = .returned (.tuple #[]) ∧ ∃ n os, w' = sortWorldK T.encV T.k w b off n (pdq (ltOf T.cf) d 0 d.size (Lib.bitLen d.size) true true) os)
    (hnone : ∀ (a : Option Addr) (cap : Nat) (v : Value) (w : World), Calls P f #[.slice a 0 cap, v] w fun e w' => e = .returned (.tuple #[]) ∧ w' = w)
    {l : List t.den} {off len : Nat} (hc : T.cond l off len = true) :
    Contract P f [.own (0, 0) t.size off len, .clo g []] [⟨t.size, l.map (Abs.enc t), 0, false⟩] (.tup [], [some ⟨t.size, (T.sortAt l off len).map (Abs.enc t), 0, false⟩], []) := by
  simp only [cond, Bool.and_eq_true, decide_eq_true_eq] at hc
  obtain ⟨⟨hle, hl⟩, hok⟩ := hc
  have hlen := T.sortAt_length hle
  have hpl : ((l.drop off).take len).length = len := by rw [List.length_take, List.length_drop]; omega
  have hf : ∀ (w : World) (X : XT) (ρ : Rho) (vals : Array Value), (∀ (i : Nat) (y : AV), [AV.clo g []][i]? = some y → VR w X ρ (vals.getD (i + 1) undef) y) → vals.getD 1 undef = .func (.func g) #[] #[] := by
    intro w X ρ vals h
    have h0 := h 0 _ rfl
    simp only [Nat.zero_add] at h0
    generalize vals.getD 1 undef = v at h0
    cases h0 with
    | pur v x h => cases h
    | clo _ cs _ hn _ =>
      have : cs = #[] := by simpa using hn
      rw [this]
  rw [hk]
  refine contract_place (P := P) (f := f) (sz := T.k) (xs := l.map (Abs.enc t)) (ys := (T.sortAt l off len).map (Abs.enc t)) (rest := [.clo g []]) T.kp
    (fun hz => ⟨?_, fun w X ρ vals a cap hsz hv hr => ?_⟩) (fun _ w X ρ vals b cap cs Ty0 hsz hv hh hcap hels hr => ?_)
  · subst hz
    have : T.sortL [] = [] := List.length_eq_zero_iff.1 (T.sortL_length [])
    simp [sortAt, this]
  · have h9 := vals2 (vals := vals) hsz
    rw [hv, hf _ _ _ _ hr] at h9
    rw [h9]
    refine (hnone a cap _ w).mono ?_
    rintro e w' ⟨rfl, rfl⟩
    exact ⟨rfl, Lies.refl _⟩
  · have h9 := vals2 (vals := vals) hsz
    rw [hv, hf _ _ _ _ hr] at h9
    rw [h9]
    have hcell : ∀ (i : Nat) (x : t.den) (j : Nat) (n : Int), l[i]? = some x → (T.I x)[j]? = some n → cs.getD (i * T.k + j) undef = .int .i64 n := by
      intro i x j n hi hj
      have := (hels.2 i (Abs.enc t x) (by rw [List.getElem?_map, hi]; rfl)).2 j (.int .i64 n) (by rw [cells_enc, T.enc, List.getElem?_map, hj]; rfl)
      exact this.2.vr.intInv
    have hsz2 : l.length * T.k ≤ cs.size := by simpa using hels.1
    obtain ⟨d, hd⟩ : ∃ d : Array T.Bd, d = (((l.drop off).take len).map T.bd).toArray := ⟨_, rfl⟩
    have hds : d.size = len := by rw [hd, List.size_toArray, List.length_map, hpl]
    have hdg : ∀ i, i < len → ∃ x, l[off + i]? = some x ∧ d[i]!.1 = x := by
      intro i hi
      have h1 : off + i < l.length := by omega
      refine ⟨l[off + i], by simp [h1], ?_⟩
      have h3 : ((l.drop off).take len)[i]? = some l[off + i] := by simp [hi, h1]
      have h2 : d[i]! = T.bd l[off + i] := by
        rw [hd]
        have : (((l.drop off).take len).map T.bd).toArray[i]? = some (T.bd l[off + i]) := by rw [List.getElem?_toArray, List.getElem?_map, h3]; rfl
        rw [Array.getElem!_eq_getD, Array.getD_eq_getD_getElem?, this]
        rfl
      rw [h2]
      exact T.bd_ok hok (List.mem_of_getElem? h3)
    have hH : HoldsK T.encV T.k w b (off * T.k) d := by
      intro j hj
      rw [size_flatK] at hj
      have hj0 : j < d.size * T.k := hj
      rw [hds] at hj
      have hq : j / T.k < len := Nat.div_lt_of_lt_mul (by rw [Nat.mul_comm]; exact hj)
      have hm : j % T.k < T.k := Nat.mod_lt _ T.kp
      obtain ⟨x, hx, hx2⟩ := hdg _ hq
      have hn : ∃ n, (T.I x)[j % T.k]? = some n := ⟨(T.I x)[j % T.k]'(by rw [T.len]; exact hm), by simp [T.len, hm]⟩
      obtain ⟨n, hn⟩ := hn
      have hcs := hcell _ x _ n hx hn
      have hpos : (off + j / T.k) * T.k + j % T.k = off * T.k + j := by
        rw [Nat.add_mul, Nat.add_assoc, Nat.div_add_mod' j T.k]
      rw [hpos] at hcs
      have hlt : off * T.k + j < cs.size := by
        refine Nat.lt_of_lt_of_le ?_ hsz2
        have : (off + len) * T.k ≤ l.length * T.k := Nat.mul_le_mul_right _ hle
        rw [Nat.add_mul] at this
        omega
      refine ⟨?_, by simp [World.frozen?, hh]⟩
      rw [cell_of_row w b (off * T.k + j) cs Ty0 (0, 0) hh]
      simp only [Array.getD_eq_getD_getElem?, Array.getElem?_eq_getElem hlt, Option.getD_some] at hcs
      rw [Array.getElem?_eq_getElem hlt, hcs, get_flatK _ _ _ _ hj0]
      have : (T.encV d[j / T.k]!)[j % T.k]? = some (.int .i64 n) := by
        simp only [encV, hx2, List.getElem?_map, hn, Option.map_some]
      rw [List.getElem!_eq_getElem?_getD, this]
      rfl
    have hs := hcall d b (off * T.k) cap w hH (Array.getElem?_eq_some_iff.1 hh).1 (by rw [hds]; omega)
    rw [hds] at hs
    refine hs.mono ?_
    rintro e w' ⟨rfl, n, os, rfl⟩
    have hsd : pdq (ltOf T.cf) d 0 len (Lib.bitLen len) true true = T.sorted ((l.drop off).take len) := by
      unfold sorted
      rw [hpl, hd]
    rw [hsd]
    obtain ⟨d', hd'⟩ : ∃ d', d' = T.sorted ((l.drop off).take len) := ⟨_, rfl⟩
    have hds' : d'.size = len := by rw [hd', (T.sorted_perm _).1, hpl]
    rw [← hd']
    refine ⟨rfl, _, flat_size _ _ _, put_flat w n b (off * T.k) _ os hh, fun X ρ => T.tup_elems (by rw [flat_size, hlen]; exact hsz2) (fun i x j m hi hj => ?_)⟩
    have hil : i < l.length := by rw [← hlen]; exact (List.getElem?_eq_some_iff.1 hi).1
    have hjk : j < T.k := by rw [← T.len x]; exact (List.getElem?_eq_some_iff.1 hj).1
    have hil2 : i * T.k + j < l.length * T.k := by
      have := Nat.mul_le_mul_right T.k (show i + 1 ≤ l.length from hil)
      rw [Nat.add_mul, Nat.one_mul] at this
      omega
    rw [flat_at _ _ _ (by omega), size_flatK, hds']
    rw [T.sortAt_get hle] at hi
    by_cases hin : off ≤ i ∧ i < off + len
    · rw [if_pos hin] at hi
      have h1 : off * T.k ≤ i * T.k := Nat.mul_le_mul_right _ hin.1
      have h2 : i * T.k + T.k ≤ off * T.k + len * T.k := by
        have := Nat.mul_le_mul_right T.k (show i + 1 ≤ off + len from hin.2)
        rw [Nat.add_mul, Nat.one_mul, Nat.add_mul] at this
        exact this
      rw [if_pos ⟨by omega, by omega⟩]
      have h3 : i * T.k + j - off * T.k = (i - off) * T.k + j := by rw [Nat.sub_mul]; omega
      have h4 : (i - off) * T.k + j < d'.size * T.k := by rw [hds', Nat.sub_mul]; omega
      have e1 : ((i - off) * T.k + j) / T.k = i - off := (blk_iff T.k (i - off) _ T.kp).1 ⟨by omega, by omega⟩
      have e2 : ((i - off) * T.k + j) % T.k = j := by rw [Nat.mod_eq_sub_div_mul, e1]; omega
      rw [h3, get_flatK _ _ _ _ h4, e1, e2]
      have h5 : ∃ y : T.Bd, d'[i - off]! = y ∧ y.1 = x := by
        simp only [sortL, ← hd', List.getElem?_map] at hi
        obtain ⟨y, hy, rfl⟩ := Option.map_eq_some_iff.1 hi
        refine ⟨y, ?_, rfl⟩
        rw [Array.getElem?_toList] at hy
        rw [Array.getElem!_eq_getD, Array.getD_eq_getD_getElem?, hy]
        rfl
      obtain ⟨y, h6, rfl⟩ := h5
      rw [h6]
      have : (T.encV y)[j]? = some (.int .i64 m) := by simp only [encV, List.getElem?_map, hj, Option.map_some]
      rw [List.getElem!_eq_getElem?_getD, this]
      rfl
    · rw [if_neg hin] at hi
      rw [if_neg (fun h => hin ?_)]
      · exact hcell i x j m hi hj
      · obtain ⟨h1, h2⟩ := h
        refine ⟨?_, ?_⟩
        · refine Nat.le_of_not_lt fun hlt => ?_
          have := Nat.mul_le_mul_right T.k (show i + 1 ≤ off from hlt)
          rw [Nat.add_mul, Nat.one_mul] at this
          omega
        · refine Nat.lt_of_not_le fun hge => ?_
          have := Nat.mul_le_mul_right T.k hge
          rw [Nat.add_mul] at this
          omega

/-- The call, told. -/
def place (g : FuncId) : SCall := placeS t [g] T.cond T.sortAt
theorem place_ok {P : Program} {f g : FuncId} (hent : Entered P f) (hk : t.size = T.k)
    (hcall : ∀ (d : Array T.Bd) (b off cap : Nat) (w : World), HoldsK T.encV T.k w b off d → b < w.heap.size → d.size < 4611686018427387904 →
      Calls P f #[.slice (some ⟨b, off, none⟩) d.size cap, .func (.func g) #[] #[]] w fun e w' => e = .returned (.tuple #[]) ∧ ∃ n os, w' = sortWorldK T.encV T.k w b off n (pdq (ltOf T.cf) d 0 d.size (Lib.bitLen d.size) true true) os)
    (hnone : ∀ (a : Option Addr) (cap : Nat) (v : Value) (w : World), Calls P f #[.slice a 0 cap, v] w fun e w' => e = .returned (.tuple #[]) ∧ w' = w) : CallOK P f (T.place g) :=
  Abs.place_ok hent fun _ _ _ hc => T.sort_c hk hcall hnone hc
end Tup
def tupSeg : Tup (.cons (.int .i64) (.cons (.int .i64) (.cons (.int .i64) .unit))) where
  k := 3
  I := fun x => [x.1, x.2.1, x.2.2.1]
  kp := by decide
  len := fun _ => rfl
  enc := fun _ => rfl
  z := ((0 : Int), (0 : Int), (0 : Int), ())
  hz := rfl
def tupSpan : Tup (.cons (.int .i64) (.cons (.int .i64) .unit)) where
  k := 2
  I := fun x => [x.1, x.2.1]
  kp := by decide
  len := fun _ => rfl
  enc := fun _ => rfl
  z := ((0 : Int), (0 : Int), ())
  hz := rfl
end Go.Abs
namespace Go.Proofs.YtoihpnpfnechdaaGreatDoor
open Go Go.Abs Go.Shelf Go.RowKit Go.Proofs Go.Lib Go.Sort
set_option maxHeartbeats 1000000 in
theorem closure135 (x1 x2 x3 y1 y2 y3 : Int) (hx : -2305843009213693952 ≤ x1 ∧ x1 ≤ 2305843009213693952) (hy : -2305843009213693952 ≤ y1 ∧ y1 ≤ 2305843009213693952) (W : World) :
    Calls Tryz.prog 135 #[.agg #[.int .i64 x1, .int .i64 x2, .int .i64 x3], .agg #[.int .i64 y1, .int .i64 y2, .int .i64 y3]] W fun e w' => e = .returned (.int .i64 (x1 - y1)) ∧ ∃ q os', w' = Sort.grow (W.drewN q) os' := by
  have hw : wrap64 (x1 - y1) = x1 - y1 := by unfold wrap64; omega
  go_enter Tryz.func135, Tryz.ntmps135
  go_wp2
  go_ret
  refine ⟨?_, 0, _, by rw [alloc_eq_grow, alloc_eq_grow, grow_grow]; rfl⟩
  rfl
set_option maxHeartbeats 1000000 in
theorem closure206 (x1 x2 y1 y2 : Int) (hx : -2305843009213693952 ≤ x1 ∧ x1 ≤ 2305843009213693952) (hy : -2305843009213693952 ≤ y1 ∧ y1 ≤ 2305843009213693952) (W : World) :
    Calls Tryz.prog 206 #[.agg #[.int .i64 x1, .int .i64 x2], .agg #[.int .i64 y1, .int .i64 y2]] W fun e w' => e = .returned (.int .i64 (x1 - y1)) ∧ ∃ q os', w' = Sort.grow (W.drewN q) os' := by
  have hw : wrap64 (x1 - y1) = x1 - y1 := by unfold wrap64; omega
  go_enter Tryz.func206, Tryz.ntmps206
  go_wp2
  go_ret
  refine ⟨?_, 0, _, by rw [alloc_eq_grow, alloc_eq_grow, grow_grow]; rfl⟩
  rfl

abbrev place134 : SCall := tupSeg.place 135
abbrev place205 : SCall := tupSpan.place 206
theorem hand134 : CallOK Tryz.prog 134 place134 :=
  tupSeg.place_ok (entered Tryz.func134 rfl (by decide)) rfl
    (fun d b off cap w hH hb hsz => AnyQ.slices_SortFunc_eq Tryz.sortSeg 3 Tryz.isAgg57 Tryz.sizeOf57 tupSeg.encV tupSeg.len_encV tupSeg.one_encV tupSeg.cf tupSeg.swo 135 #[] b off cap d w
      (enters_of Tryz.func135 (by kernel_rfl) rfl) (fun _ _ _ _ x y => closure135 _ _ _ _ _ _ x.2 y.2 _) hH hb hsz)
    (fun a cap v w => AnyF.slices_SortFunc_none Tryz.sortSeg a cap v w)
theorem hand205 : CallOK Tryz.prog 205 place205 :=
  tupSpan.place_ok (entered Tryz.func205 rfl (by decide)) rfl
    (fun d b off cap w hH hb hsz => AnyQ.slices_SortFunc_eq Tryz.sortSpan 2 Tryz.isAgg222 Tryz.sizeOf222 tupSpan.encV tupSpan.len_encV tupSpan.one_encV tupSpan.cf tupSpan.swo 206 #[] b off cap d w
      (enters_of Tryz.func206 (by kernel_rfl) rfl) (fun _ _ _ _ x y => closure206 _ _ _ _ x.2 y.2 _) hH hb hsz)
    (fun a cap v w => AnyF.slices_SortFunc_none Tryz.sortSpan a cap v w)
end Go.Proofs.YtoihpnpfnechdaaGreatDoor
