/- What is asked of a program once; a law's statement. -/
import Derived.Test.YtcblbcpnfidndaaPxG
set_option linter.unusedSimpArgs false
set_option linter.unusedVariables false
namespace Go.Abs
open Go

def goodAt (P : Program) (N : FuncId → Note) (f : FuncId) : Bool :=
  !(N f).on || match P.funcs[f]? with
    | some fn => decide (fn.name ≠ "runtime.NumGoroutine") && match fn.body with
      | some body => okCode (N f).pairs body
      | none => true
    | none => true

theorem good_of {P : Program} {N : FuncId → Note} (h : (List.range P.funcs.size).all (goodAt P N) = true) : Good P N := by
  intro f fn hon hfn
  have hlt : f < P.funcs.size := (Array.getElem?_eq_some_iff.1 hfn).1
  have hg := (List.all_eq_true.1 h) f (List.mem_range.2 hlt)
  simp only [goodAt, hon, Bool.not_true, Bool.false_or, hfn, Bool.and_eq_true, decide_eq_true_eq] at hg
  refine ⟨hg.1, fun body hb => ?_⟩
  have := hg.2
  rw [hb] at this
  exact this

abbrev w64 (n : Int) : Int := IntKind.wrap .i64 n

/-- The bytes of a constant. -/
abbrev bs (l : List UInt8) : ByteArray := ⟨l.toArray⟩

end Go.Abs
