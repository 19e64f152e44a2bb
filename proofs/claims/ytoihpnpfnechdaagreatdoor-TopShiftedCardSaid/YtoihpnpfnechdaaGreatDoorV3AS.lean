/- Lemmas for the statement of the last text of this claim. -/
import Derived.Test.YtoihpnpfnechdaaGreatDoorV3AR
import Derived.Test.YtoihpnpfnechdaaGreatDoorV3ZG
import Derived.Test.YtoihpnpfnechdaaGreatDoorChecked
import Derived.Test.YtoihpnpfnechdaaGreatDoorRows
import Derived.Lib.LaidTab
set_option linter.unusedSimpArgs false
set_option linter.unusedVariables false
namespace Go.Proofs.YtoihpnpfnechdaaGreatDoor
open Go Go.Lib
theorem laid_at {P : Program} {w : World} : ∀ (l : List (String × DataW Unit)) (ps : List MemPlace), DataW.LaidVars P w l ps → ∀ n d, (n, d) ∈ l →
    ∃ g t cs fuel p, P.globalNamed n = some g ∧ (P.globals[g]?).map (·.type) = some t ∧ w.var? P n = some cs ∧ DataW.trod (fun _ => ()) P w 0 (fun _ => true) false fuel t cs.toList = some (d, p)
  | [], _, _, n, d, h => by cases h
  | (n', d') :: r, ps, hl, n, d, h => by
    obtain ⟨g, t, cs, fuel, p, q, h1, h2, h3, h4, h5, _⟩ := hl
    rcases List.mem_cons.1 h with e | h
    · cases e
      exact ⟨g, t, cs, fuel, p, h1, h2, h3, h4⟩
    · exact laid_at r q h5 n d h

theorem block_of_tab {P : Program} {W : World} {l : List (String × DataW Unit)} (hm : laidMet P l W) {name : String} {k : IntKind} {zs : List Int} {g : Nat} {t e : TypeId} {n : Nat} (hin : (name, tabData k zs) ∈ l)
    (hg : P.globalNamed name = some g) (hty : (P.globals[g]?).map (·.type) = some t) (ht : P.underlying t = some (.array n e)) (he : P.underlying e = some (.int k)) (hce : P.cellsOf e = 1) (hct : P.cellsOf t = n) :
    ∃ T z, W.heap[g]? = some (.cells (zs.map fun z => Value.int k z).toArray T z) := by
  obtain ⟨ps, hl, _⟩ := hm
  obtain ⟨g', t', cs, fuel, p, hg', ht', hvar, hd⟩ := laid_at l ps hl name _ hin
  obtain rfl := Option.some.inj (hg.symm.trans hg')
  obtain rfl := Option.some.inj (hty.symm.trans ht')
  have hcs := cells_of_tab ht he hce hct hd
  have hcs' : cs = (zs.map fun z => Value.int k z).toArray := by rw [← hcs]
  subst hcs'
  unfold World.var? at hvar
  rw [hg] at hvar
  simp only [Option.bind_some] at hvar
  split at hvar
  · rename_i c T z hh
    cases hvar
    exact ⟨T, z, hh⟩
  · cases hvar

def zsBlank : List Int := (List.range 256).map fun o => if o = 32 ∨ (9 ≤ o ∧ o ≤ 13) then 1 else 0
def zsTen : List Int := (List.range 20).map fun o => ((10 ^ o : Nat) : Int)
theorem blank_tab : (zsBlank.map fun z => Value.int .u8 z).toArray = Abs.tabBlank := by kernel_rfl
theorem ten_tab : (zsTen.map fun z => Value.int .u64 z).toArray = Abs.tabTen := by kernel_rfl

theorem met_of {W : World} (h : laidMetH Tryz.prog Rows.topShiftedRow.laid W) : laidMet Tryz.prog Rows.topShiftedRow.laid W := by
  unfold laidMetH at h
  have e : (Rows.topShiftedRow.laid.filter fun x => x.2.handleName?.isSome) = [] := by kernel_rfl
  rw [e] at h
  exact h

theorem cell_int {P : Program} {w : World} {r : Reach} {base : Nat} {t : TypeId} {v : Value} {k : IntKind} (ht : P.underlying t = some (.int k)) (h : Cell.ok P w r base t v) : ∃ n, v = .int k n := by
  unfold Cell.ok at h
  rw [ht] at h
  cases v with
  | int k' n =>
    obtain ⟨rfl, _⟩ : k' = k ∧ _ := h
    exact ⟨n, rfl⟩
  | _ => exact h.elim
set_option maxRecDepth 100000 in
theorem max_at {W : World} (h : W.ShapedOpen Tryz.prog) : ∃ m T z, W.heap[3]? = some (.cells #[.int .i64 m] T z) := by
  obtain ⟨cs, h1, h2, h3⟩ := h.1 3 #[.int .i64 0] 3 (of_decide_eq_true (by kernel_rfl)) (by kernel_rfl)
  obtain ⟨ts, h4, _, h5⟩ := h3 (by kernel_rfl)
  have hts : ts = [3] := Option.some.inj (h4.symm.trans (by kernel_rfl))
  subst hts
  have hsz : cs.size = 1 := h2
  obtain ⟨v, rfl⟩ : ∃ v, cs = #[v] := by
    refine ⟨cs[0]'(by omega), ?_⟩
    apply Array.ext
    · simpa using hsz
    · intro i h6 h7
      have : i = 0 := by simp at h7; omega
      subst this
      rfl
  obtain ⟨u, h6, h7⟩ := h5 0 v rfl
  obtain rfl : (3 : TypeId) = u := Option.some.inj h6
  have h8 : Cell.ok Tryz.prog W .any 0 3 v := h7
  have ht : Tryz.prog.underlying 3 = some (.int .i64) := by kernel_rfl
  obtain ⟨n, rfl⟩ := cell_int ht h8
  exact ⟨n, _, _, h1⟩

set_option maxRecDepth 100000 in
theorem glw {W : World} (hL : laidMetH Tryz.prog Rows.topShiftedRow.laid W) (hS : W.ShapedOpen Tryz.prog) : Abs.GlW W ∧ 11 ≤ W.heap.size := by
  have hm := met_of hL
  refine ⟨⟨?_, ?_, max_at hS⟩, ?_⟩
  · obtain ⟨T, z, h⟩ := block_of_tab (P := Tryz.prog) (name := "strings.asciiSpace") (k := .u8) (zs := zsBlank) (g := 0) (t := 320) (e := 5) (n := 256) hm (List.mem_of_getElem? (i := 2) (by kernel_rfl)) (by kernel_rfl) (by kernel_rfl) (by kernel_rfl) (by kernel_rfl) (by kernel_rfl) (by kernel_rfl)
    exact ⟨T, z, by rw [h, blank_tab]⟩
  · obtain ⟨T, z, h⟩ := block_of_tab (P := Tryz.prog) (name := "internal/strconv.uint64pow10") (k := .u64) (zs := zsTen) (g := 2) (t := 422) (e := 370) (n := 20) hm (List.mem_of_getElem? (i := 6) (by kernel_rfl)) (by kernel_rfl) (by kernel_rfl) (by kernel_rfl) (by kernel_rfl) (by kernel_rfl) (by kernel_rfl)
    exact ⟨T, z, by rw [h, ten_tab]⟩
  · obtain ⟨cs, h1, _⟩ := hS.1 10 #[.pointer none] 394 (of_decide_eq_true (by kernel_rfl)) (by kernel_rfl)
    have := (Array.getElem?_eq_some_iff.1 h1).1
    omega
end Go.Proofs.YtoihpnpfnechdaaGreatDoor
