/- Calls told by hand: functions of package strings and of quoted values. -/
import Derived.Test.YtcblbcpnfidndaaPxN
import Derived.Test.YtcblbcpnfidndaaPlC
import Derived.Lib.IndexAny
import Derived.Lib.Join
set_option linter.unusedSimpArgs false
set_option linter.unusedVariables false
namespace Go.Abs
open Go

def mkB (l : List UInt8) : ByteArray := ⟨l.toArray⟩
def hIdx (s : ByteArray) (c : Int) : Int := Lib.indexByte s.data.toList c.toNat.toUInt8
def hAny (s c : ByteArray) : Int := Lib.indexAny s.data.toList c.data.toList
def hJoin (l : List ByteArray) (sep : ByteArray) : ByteArray := mkB (Lib.join (l.map (·.data.toList)) sep.data.toList)
def hQuote (s : ByteArray) : ByteArray := mkB (34 :: (Lab.esc s.data.toList ++ [34]))
def hUnqL : List UInt8 → ByteArray × ByteArray × Bool
  | 34 :: r => match Lab.unq r with
    | some (v, q) => (mkB v, mkB q, true)
    | none => (ByteArray.empty, ByteArray.empty, false)
  | _ => (ByteArray.empty, ByteArray.empty, false)
def hUnq (s : ByteArray) : ByteArray × ByteArray × Bool := hUnqL s.data.toList
def isAsc (s : ByteArray) : Bool := s.data.toList.all fun c => decide (c.toNat < 128)

def hfIdx : List SV → Tr SV
  | [.str s, .int .u8 c] => .ret (.int .i64 (hIdx s c))
  | _ => .fail
def hfAny : List SV → Tr SV
  | [.str s, .str c] => .need (decide (2 ≤ c.size) && isAsc c && decide (s.size < 4294967281 ∧ c.size < 4294967281)) (.ret (.int .i64 (hAny s c)))
  | _ => .fail
def hfJoin : List SV → Tr SV
  | [.row .str l _, .str sep] => .need (decide (List.length l ≤ 4294967296 ∧ (hJoin l sep).size ≤ 140737488355328)) (.ret (.str (hJoin l sep)))
  | _ => .fail
def hfQuote : List SV → Tr SV
  | [.str s] => .need (decide (s.size ≤ 4294967296)) (.ret (.str (hQuote s)))
  | _ => .fail
def hfUnq : List SV → Tr SV
  | [.str s] => .need (decide (s.size ≤ 4294967296)) (.ret (.tup [.str (hUnq s).1, .str (hUnq s).2.1, .bool (hUnq s).2.2]))
  | _ => .fail

/-- Of a function that is left out nothing is said. -/
def hfLeft : SCall := fun _ _ => .fail
theorem hfLeft_ok {P : Program} {f : FuncId} : CallOK P f hfLeft := fun _ _ _ h => (Tr.mean_fail h).elim

end Go.Abs
