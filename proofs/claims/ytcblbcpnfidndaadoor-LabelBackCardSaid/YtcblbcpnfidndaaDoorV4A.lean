/- Lemmas for the statement of the last text of this claim. -/
import Derived.Test.YtcblbcpnfidndaaDoorChecked
import Derived.Shelf.Strings.OnBuilder
import Derived.Shelf.Strings.IndexAnyAll
import Derived.Shelf.Strings.Search1
import Derived.ProofKit
import Derived.Test.YtcblbcpnfidndaaDoorPxO
import Derived.WalkKit
import Derived.BigCall
import Derived.Test.YtcblbcpnfidndaaDoorPlD
import Derived.Deep.RegionLaw
import Derived.Deep.LoopGhost
import Derived.Lib.Walk
import Derived.Maps.Own
import Derived.Shelf.RegionOpenPlain
import Derived.Lib.LazyBuf
set_option linter.unusedSimpArgs false
set_option linter.unusedVariables false
namespace Go.Proofs.YtcblbcpnfidndaaDoor
open Go Go.Shelf Go.RowKit
def shr : Shelf.Ren :=
{ f := fun x => match x with
    | 153 => 135
    | 152 => 154
    | 226 => 155
    | 227 => 125
    | 228 => 148
    | 137 => 164
    | 119 => 165
    | 224 => 166
    | 225 => 167
    | 217 => 168
    | 266 => 170
    | 156 => 98
    | 165 => 133
    | 166 => 134
    | 167 => 131
    | 169 => 132
    | 240 => 152
    | 241 => 153
    | 276 => 162
    | 277 => 163
    | n => n
  t := fun x => match x with
    | 31 => 51
    | 9 => 9
    | 3 => 3
    | 4 => 4
    | 0 => 0
    | 20 => 20
    | 72 => 153
    | 76 => 159
    | 70 => 150
    | 37 => 151
    | 75 => 155
    | 127 => 168
    | 164 => 171
    | 5 => 5
    | 80 => 157
    | 21 => 21
    | 117 => 145
    | 116 => 144
    | 46 => 176
    | 124 => 148
    | n => n
  g := fun x => x }

set_option maxRecDepth 100000 in
theorem lays_n167 : Lays.n167 Tryd.prog shr :=
{ mixed := Eq.refl true,
  f167 := Eq.trans Tryd.func131 (congrArg some (Eq.refl (Body.n167 shr))),
  f240 := Eq.trans Tryd.func152 (congrArg some (Eq.refl (Body.n240 shr))),
  f276 := Eq.trans Tryd.func162 (congrArg some (Eq.refl (Body.n276 shr))),
  t0 := Tryd.underlying0,
  a0 := Tryd.isAgg0,
  z0 := Tryd.sizeOf0,
  v0 := Tryd.zeroValue0,
  t4 := Tryd.underlying4,
  a4 := Tryd.isAgg4,
  z4 := Tryd.sizeOf4,
  v4 := Tryd.zeroValue4,
  t5 := Tryd.underlying5,
  a5 := Tryd.isAgg5,
  z5 := Tryd.sizeOf5,
  v5 := Tryd.zeroValue5,
  t9 := Tryd.underlying9,
  a9 := Tryd.isAgg9,
  z9 := Tryd.sizeOf9,
  v9 := Tryd.zeroValue9,
  t20 := Tryd.underlying20,
  a20 := Tryd.isAgg20,
  z20 := Tryd.sizeOf20,
  v20 := Tryd.zeroValue20,
  t37 := Tryd.underlying151,
  a37 := Tryd.isAgg151,
  z37 := Tryd.sizeOf151,
  v37 := Tryd.zeroValue151,
  t70 := Tryd.underlying150,
  a70 := Tryd.isAgg150,
  z70 := Tryd.sizeOf150,
  v70 := Tryd.zeroValue150,
  t72 := Tryd.underlying153,
  a72 := Tryd.isAgg153,
  z72 := Tryd.sizeOf153,
  v72 := Tryd.zeroValue153,
  t75 := Tryd.underlying155,
  a75 := Tryd.isAgg155,
  z75 := Tryd.sizeOf155,
  v75 := Tryd.zeroValue155,
  t164 := Tryd.underlying171,
  a164 := Tryd.isAgg171,
  z164 := Tryd.sizeOf171,
  v164 := Tryd.zeroValue171 }

set_option maxRecDepth 100000 in
theorem lays_n169 : Lays.n169 Tryd.prog shr :=
{ mixed := Eq.refl true,
  f169 := Eq.trans Tryd.func132 (congrArg some (Eq.refl (Body.n169 shr))),
  t0 := Tryd.underlying0,
  a0 := Tryd.isAgg0,
  z0 := Tryd.sizeOf0,
  v0 := Tryd.zeroValue0,
  t3 := Tryd.underlying3,
  a3 := Tryd.isAgg3,
  z3 := Tryd.sizeOf3,
  v3 := Tryd.zeroValue3,
  t9 := Tryd.underlying9,
  a9 := Tryd.isAgg9,
  z9 := Tryd.sizeOf9,
  v9 := Tryd.zeroValue9,
  t37 := Tryd.underlying151,
  a37 := Tryd.isAgg151,
  z37 := Tryd.sizeOf151,
  v37 := Tryd.zeroValue151,
  t70 := Tryd.underlying150,
  a70 := Tryd.isAgg150,
  z70 := Tryd.sizeOf150,
  v70 := Tryd.zeroValue150,
  t72 := Tryd.underlying153,
  a72 := Tryd.isAgg153,
  z72 := Tryd.sizeOf153,
  v72 := Tryd.zeroValue153,
  t127 := Tryd.underlying168,
  a127 := Tryd.isAgg168,
  z127 := Tryd.sizeOf168,
  v127 := Tryd.zeroValue168 }

set_option maxRecDepth 100000 in
theorem lays_n156 : Lays.n156 Tryd.prog shr :=
{ mixed := Eq.refl true,
  f156 := Eq.trans Tryd.func98 (congrArg some (Eq.refl (Body.n156 shr))),
  f165 := Eq.trans Tryd.func133 (congrArg some (Eq.refl (Body.n165 shr))),
  f166 := Eq.trans Tryd.func134 (congrArg some (Eq.refl (Body.n166 shr))),
  f169 := Eq.trans Tryd.func132 (congrArg some (Eq.refl (Body.n169 shr))),
  f240 := Eq.trans Tryd.func152 (congrArg some (Eq.refl (Body.n240 shr))),
  f241 := Eq.trans Tryd.func153 (congrArg some (Eq.refl (Body.n241 shr))),
  f276 := Eq.trans Tryd.func162 (congrArg some (Eq.refl (Body.n276 shr))),
  f277 := Eq.trans Tryd.func163 (congrArg some (Eq.refl (Body.n277 shr))),
  t0 := Tryd.underlying0,
  a0 := Tryd.isAgg0,
  z0 := Tryd.sizeOf0,
  v0 := Tryd.zeroValue0,
  t3 := Tryd.underlying3,
  a3 := Tryd.isAgg3,
  z3 := Tryd.sizeOf3,
  v3 := Tryd.zeroValue3,
  t4 := Tryd.underlying4,
  a4 := Tryd.isAgg4,
  z4 := Tryd.sizeOf4,
  v4 := Tryd.zeroValue4,
  t9 := Tryd.underlying9,
  a9 := Tryd.isAgg9,
  z9 := Tryd.sizeOf9,
  v9 := Tryd.zeroValue9,
  t20 := Tryd.underlying20,
  a20 := Tryd.isAgg20,
  z20 := Tryd.sizeOf20,
  v20 := Tryd.zeroValue20,
  t31 := Tryd.underlying51,
  a31 := Tryd.isAgg51,
  z31 := Tryd.sizeOf51,
  v31 := Tryd.zeroValue51,
  t37 := Tryd.underlying151,
  a37 := Tryd.isAgg151,
  z37 := Tryd.sizeOf151,
  v37 := Tryd.zeroValue151,
  t70 := Tryd.underlying150,
  a70 := Tryd.isAgg150,
  z70 := Tryd.sizeOf150,
  v70 := Tryd.zeroValue150,
  t72 := Tryd.underlying153,
  a72 := Tryd.isAgg153,
  z72 := Tryd.sizeOf153,
  v72 := Tryd.zeroValue153,
  t75 := Tryd.underlying155,
  a75 := Tryd.isAgg155,
  z75 := Tryd.sizeOf155,
  v75 := Tryd.zeroValue155,
  t76 := Tryd.underlying159,
  a76 := Tryd.isAgg159,
  z76 := Tryd.sizeOf159,
  v76 := Tryd.zeroValue159,
  t127 := Tryd.underlying168,
  a127 := Tryd.isAgg168,
  z127 := Tryd.sizeOf168,
  v127 := Tryd.zeroValue168,
  t164 := Tryd.underlying171,
  a164 := Tryd.isAgg171,
  z164 := Tryd.sizeOf171,
  v164 := Tryd.zeroValue171 }

set_option maxRecDepth 100000 in
theorem lays_n217 : Lays.n217 Tryd.prog shr :=
{ mixed := Eq.refl true,
  f217 := Eq.trans Tryd.func168 (congrArg some (Eq.refl (Body.n217 shr))),
  f266 := Eq.trans Tryd.func170 (congrArg some (Eq.refl (Body.n266 shr))),
  t3 := Tryd.underlying3,
  a3 := Tryd.isAgg3,
  z3 := Tryd.sizeOf3,
  v3 := Tryd.zeroValue3,
  t5 := Tryd.underlying5,
  a5 := Tryd.isAgg5,
  z5 := Tryd.sizeOf5,
  v5 := Tryd.zeroValue5,
  t9 := Tryd.underlying9,
  a9 := Tryd.isAgg9,
  z9 := Tryd.sizeOf9,
  v9 := Tryd.zeroValue9 }

set_option maxRecDepth 100000 in
theorem lays_n153 : Lays.n153 Tryd.prog shr :=
{ mixed := Eq.refl true,
  f119 := Eq.trans Tryd.func165 (congrArg some (Eq.refl (Body.n119 shr))),
  f137 := Eq.trans Tryd.func164 (congrArg some (Eq.refl (Body.n137 shr))),
  f152 := Eq.trans Tryd.func154 (congrArg some (Eq.refl (Body.n152 shr))),
  f153 := Eq.trans Tryd.func135 (congrArg some (Eq.refl (Body.n153 shr))),
  f217 := Eq.trans Tryd.func168 (congrArg some (Eq.refl (Body.n217 shr))),
  f224 := Eq.trans Tryd.func166 (congrArg some (Eq.refl (Body.n224 shr))),
  f225 := Eq.trans Tryd.func167 (congrArg some (Eq.refl (Body.n225 shr))),
  f226 := Eq.trans Tryd.func155 (congrArg some (Eq.refl (Body.n226 shr))),
  f227 := Eq.trans Tryd.func125 (congrArg some (Eq.refl (Body.n227 shr))),
  f228 := Eq.trans Tryd.func148 (congrArg some (Eq.refl (Body.n228 shr))),
  f266 := Eq.trans Tryd.func170 (congrArg some (Eq.refl (Body.n266 shr))),
  t0 := Tryd.underlying0,
  a0 := Tryd.isAgg0,
  z0 := Tryd.sizeOf0,
  v0 := Tryd.zeroValue0,
  t3 := Tryd.underlying3,
  a3 := Tryd.isAgg3,
  z3 := Tryd.sizeOf3,
  v3 := Tryd.zeroValue3,
  t4 := Tryd.underlying4,
  a4 := Tryd.isAgg4,
  z4 := Tryd.sizeOf4,
  v4 := Tryd.zeroValue4,
  t5 := Tryd.underlying5,
  a5 := Tryd.isAgg5,
  z5 := Tryd.sizeOf5,
  v5 := Tryd.zeroValue5,
  t9 := Tryd.underlying9,
  a9 := Tryd.isAgg9,
  z9 := Tryd.sizeOf9,
  v9 := Tryd.zeroValue9,
  t21 := Tryd.underlying21,
  a21 := Tryd.isAgg21,
  z21 := Tryd.sizeOf21,
  v21 := Tryd.zeroValue21,
  t46 := Tryd.underlying176,
  a46 := Tryd.isAgg176,
  z46 := Tryd.sizeOf176,
  v46 := Tryd.zeroValue176,
  t116 := Tryd.underlying144,
  a116 := Tryd.isAgg144,
  z116 := Tryd.sizeOf144,
  t117 := Tryd.underlying145,
  a117 := Tryd.isAgg145,
  z117 := Tryd.sizeOf145,
  v117 := Tryd.zeroValue145,
  t124 := Tryd.underlying148,
  a124 := Tryd.isAgg148,
  z124 := Tryd.sizeOf148,
  v124 := Tryd.zeroValue148 }

set_option maxRecDepth 100000 in
theorem bextra : Builder.Extra Tryd.prog shr :=
{ sizeBuilder := Eq.refl (some 2), liesBuilder := Eq.refl true, t5 := Tryd.underlying5, a5 := Tryd.isAgg5, z5 := Tryd.sizeOf5, v5 := Tryd.zeroValue5,
  infoByte := Eq.refl (some (some (Value.int IntKind.u8 0), 1, 1)), cellsByte := Eq.refl 1, sizeByte := Eq.refl (some 1), neB5 := by decide }

end Go.Proofs.YtcblbcpnfidndaaDoor

namespace Go.Proofs.YtcblbcpnfidndaaDoor
open Go Go.Abs Go.RowKit
theorem kept_below {w w' : World} (h : Below w.heap.size w w') : Kept w w' := ⟨h.os, h.tape, h.output, h.size, h.block⟩

theorem hand168 : CallOK Tryd.prog 168 (pureC hfIdx) := pure_ok (entered Tryd.func168 rfl (by decide)) (by
  intro args v h
  unfold hfIdx at h
  split at h
  · rename_i s c
    have := Tr.mean_ret h
    subst this
    refine ⟨_, rfl, fun w X vals hsz hv => ?_⟩
    have h0 := PR.strInv (hv 0 _ rfl)
    have h1 := PR.int_inv (hv 1 _ rfl)
    have hvv := two_vals (vals := vals) (by simpa using hsz)
    rw [h0, h1] at hvv
    rw [hvv]
    refine (Any.stringslite_IndexByte (ρ := shr) lays_n217 s c w).mono ?_
    rintro e w' ⟨rfl, rfl⟩
    exact ⟨rfl, Kept.refl _⟩
  · exact (Tr.mean_fail h).elim)

set_option maxRecDepth 100000 in
theorem hand135 : CallOK Tryd.prog 135 (pureC hfAny) := pure_ok (entered Tryd.func135 rfl (by decide)) (by
  intro args v h
  unfold hfAny at h
  split at h
  · rename_i s c
    obtain ⟨hc, h⟩ := Tr.mean_need h
    have := Tr.mean_ret h
    subst this
    refine ⟨_, rfl, fun w X vals hsz hv => ?_⟩
    have h0 := PR.strInv (hv 0 _ rfl)
    have h1 := PR.strInv (hv 1 _ rfl)
    have hvv := two_vals (vals := vals) (by simpa using hsz)
    rw [h0, h1] at hvv
    rw [hvv]
    simp only [Bool.and_eq_true, decide_eq_true_eq, isAsc, List.all_eq_true] at hc
    refine (Any.strings_IndexAny (ρ := shr) lays_n153 Tryd.zeroValue144 (by kernel_rfl) s c w hc.2.1 hc.2.2 (fun j b hb => hc.1.1 b (List.mem_of_getElem? hb)) (fun j b hb => hc.1.2 b (List.mem_of_getElem? hb))).mono ?_
    rintro e w' ⟨rfl, hb⟩
    exact ⟨rfl, kept_below hb⟩
  · exact (Tr.mean_fail h).elim)

theorem row_str {w : World} {X : XT} {v : Value} {l : List ByteArray} {tg : Bool} {ℓ : Lens} (h : PR w X v (d1 ℓ (.row .str l tg))) :
    (l = [] ∧ ∃ a cap, v = .slice a 0 cap) ∨ ∃ b o cap, v = .slice (some ⟨b, o, none⟩) l.length cap ∧ l.length ≤ cap ∧ ∀ (j : Nat) (x : ByteArray), l[j]? = some x → w.cell? ⟨b, o + j, none⟩ = some (.string x) := by
  have e : d1 ℓ (.row .str l tg) = .lst (lsz 1 (l.map fun x => AV.str x)) (l.map fun x => AV.str x) tg := rfl
  rw [e] at h
  cases hl : l with
  | nil =>
    left
    rw [hl] at h
    refine ⟨rfl, ?_⟩
    simp only [List.map_nil] at h
    cases h with
    | lst0 a cap sz t ht => exact ⟨a, cap, rfl⟩
    | lst b o n cap sz t xs f hn hc ht hsz hx hr => simp at hn; subst hn; exact ⟨_, cap, rfl⟩
  | cons y r =>
    right
    rw [← hl]
    have hz : lsz 1 (l.map fun x => AV.str x) = 1 := by rw [hl]; rfl
    rw [hz] at h
    generalize hxs : (l.map fun x => AV.str x) = xs at h
    have hlen : xs.length = l.length := by rw [← hxs]; simp
    cases h with
    | lst0 a cap sz t ht => rw [hl] at hlen; simp at hlen
    | lst b o n cap sz t xs f hn hc ht hsz hx hr =>
      refine ⟨b, o, cap, by rw [← hlen, hn], by omega, fun j x hj => ?_⟩
      have hxj : xs[j]? = some (.str x) := by rw [← hxs, List.getElem?_map, hj]; rfl
      obtain ⟨_, h2, _⟩ := hx j _ hxj 0 (.str x) rfl
      have h3 := hr j _ hxj 0 (.str x) rfl
      have h4 : f j 0 = .string x := PR.strInv h3
      rw [h4] at h2
      simpa using h2

set_option maxRecDepth 100000 in
theorem hand98 : CallOK Tryd.prog 98 (pureC hfJoin) := pure_ok (entered Tryd.func98 rfl (by decide)) (by
  intro args v h
  unfold hfJoin at h
  split at h
  · rename_i l tg sep
    obtain ⟨hc, h⟩ := Tr.mean_need h
    have hc := of_decide_eq_true hc
    have := Tr.mean_ret h
    subst this
    refine ⟨_, rfl, fun w X vals hsz hv => ?_⟩
    have h0 := row_str (hv 0 _ rfl)
    have h1 := PR.strInv (hv 1 _ rfl)
    have hvv := two_vals (vals := vals) (by simpa using hsz)
    rw [h1] at hvv
    have hsz2 : (Lib.join (List.map (fun x => x.data.toList) (show List ByteArray from l)) sep.data.toList).length ≤ 140737488355328 := by
      have := hc.2
      rwa [show (hJoin (show List ByteArray from l) sep).size = (Lib.join (List.map (fun x => x.data.toList) (show List ByteArray from l)) sep.data.toList).length from by simp [hJoin, mkB, ByteArray.size]] at this
    rcases h0 with ⟨hl, a, cap, e⟩ | ⟨b, o, cap, e, hle, hcell⟩
    · rw [hvv, e]
      refine (Any.strings_Join_none (ρ := shr) lays_n156 bextra a cap sep w).mono ?_
      rintro e w' ⟨rfl, rfl⟩
      refine ⟨?_, Kept.refl _⟩
      have hl : (show List ByteArray from l) = [] := hl
      show Ending.returned _ = Ending.returned (.string (hJoin (show List ByteArray from l) sep))
      rw [hl]; rfl
    · rw [hvv, e]
      have hb : l ≠ [] → b < w.heap.size := fun hne => by
        cases hl : (show List ByteArray from l) with
        | nil => exact absurd hl hne
        | cons y r =>
          have := hcell 0 y (by show (show List ByteArray from l)[0]? = _; rw [hl]; rfl)
          rcases Nat.lt_or_ge b w.heap.size with h' | h'
          · exact h'
          · simp [World.cell?, Array.getElem?_eq_none h'] at this
      by_cases hne : l = []
      · have hl : (show List ByteArray from l) = [] := hne
        have e0 : List.length (show List ByteArray from l) = 0 := by rw [hl]; rfl
        show Calls Tryd.prog 98 #[.slice (some ⟨b, o, none⟩) (List.length (show List ByteArray from l)) cap, .string sep] w _
        rw [e0]
        refine (Any.strings_Join_none (ρ := shr) lays_n156 bextra (some ⟨b, o, none⟩) cap sep w).mono ?_
        rintro e w' ⟨rfl, rfl⟩
        refine ⟨?_, Kept.refl _⟩
        show Ending.returned _ = Ending.returned (.string (hJoin (show List ByteArray from l) sep))
        rw [hl]; rfl
      · refine (Any.strings_Join (ρ := shr) lays_n156 bextra b o cap (show List ByteArray from l) sep w hcell (hb hne) (Nat.le_trans hc.1 (by decide)) hle hsz2).mono ?_
        rintro e w' ⟨rfl, hbw⟩
        exact ⟨rfl, kept_below hbw⟩
  · exact (Tr.mean_fail h).elim)

end Go.Proofs.YtcblbcpnfidndaaDoor

namespace Go.Proofs.YtcblbcpnfidndaaDoor
open Go Go.Abs Go.RowKit
theorem wByte (B b : Nat) (bs : List Value) (c : Int) (w : World) (h : Lib.IsBuilder 153 5 B b bs w) (hlen : bs.length + 1 ≤ 140737488355328) (hBw : B ≤ w.heap.size) :
    Calls Tryd.prog 131 #[.pointer (some ⟨b, 0, none⟩), .int .u8 c] w fun e w' => e = .returned .nilIface ∧ (Lib.BuilderAt 153 5 B b (.pointer (some ⟨b, 0, none⟩)) (bs ++ [.int .u8 c]) w' ∧ Below B w w') :=
  Any.Builder_WriteByte (ρ := shr) lays_n167 bextra B b bs c w h hlen hBw

theorem bString (B b : Nat) (l : List UInt8) (w : World) (h : Lib.IsBuilder 153 5 B b (Lib.byteCells l) w) (hBw : B ≤ w.heap.size) :
    Calls Tryd.prog 132 #[.pointer (some ⟨b, 0, none⟩)] w fun e w' => e = .returned (.string ⟨l.toArray⟩) ∧ Below B w w' :=
  Any.Builder_String_any (ρ := shr) lays_n169 bextra B b l w h hBw

theorem esc_snoc : ∀ (l : List UInt8) (c : UInt8), Lab.esc (l ++ [c]) = Lab.esc l ++ (if c = 34 ∨ c = 92 then [92, c] else [c])
  | [], c => by simp only [List.nil_append, Lab.esc]
  | d :: l, c => by
    simp only [List.cons_append, Lab.esc, esc_snoc l c]
    split <;> simp

theorem take_snoc (s : ByteArray) (k : Nat) (h : k < s.size) : s.data.toList.take (k + 1) = s.data.toList.take k ++ [s[k]] := by
  have h' : k < s.data.toList.length := by rw [Array.length_toList]; exact h
  rw [List.take_add_one, List.getElem?_eq_getElem h']
  rfl

set_option maxHeartbeats 4000000 in
set_option maxRecDepth 1000000 in
theorem quoted_calls (s : ByteArray) (w : World) (hs : s.size ≤ 4294967296) :
    Calls Tryd.prog 97 #[.string s] w fun e w' => e = .returned (.string (hQuote s)) ∧ Below w.heap.size w w' := by
  go_enter Tryd.func97, Tryd.ntmps97
  go_wp2_with (go_at_call 131; refine (wByte w.heap.size w.heap.size [] 34 _ (Lib.fresh_isBuilder 153 5 w) (by simp) (by simp)).mono ?_)
  rintro e w1 ⟨rfl, h1, b1⟩
  have b1 : Below w.heap.size w w1 := ((Below.refl _ w).alloc (Nat.le_refl _) _).trans b1
  go_wp2
  go_loopw [8] (fun v wr => ∃ k : Nat, k ≤ s.size ∧ v = .int .i64 k ∧ Lib.BuilderAt 153 5 w.heap.size w.heap.size (.pointer (some ⟨w.heap.size, 0, none⟩)) (Lib.byteCells (34 :: Lab.esc (s.data.toList.take k))) wr ∧ Below w.heap.size w wr) (fun v wr => s.size - (intOf v).toNat)
  case atStart => exact ⟨0, Nat.zero_le _, rfl, by simpa [Lab.esc, Lib.byteCells] using h1, b1⟩
  case round =>
    obtain ⟨k, hk, rfl, hI, hbw⟩ := hrel
    by_cases hp : k < s.size
    · have hsn := take_snoc s k hp
      have hlen : (Lib.byteCells (34 :: Lab.esc (s.data.toList.take k))).length ≤ 2 * k + 1 := by
        have := Lab.esc_len (s.data.toList.take k)
        rw [Lib.byteCells_length]
        simp only [List.length_cons, List.length_take] at this ⊢
        omega
      have hle : w.heap.size ≤ wr.heap.size := hbw.size
      have two : ∀ (w2 w3 : World), s[k] = 34 ∨ s[k] = 92 → Lib.BuilderAt 153 5 w.heap.size w.heap.size (.pointer (some ⟨w.heap.size, 0, none⟩)) (Lib.byteCells (34 :: Lab.esc (s.data.toList.take k)) ++ [Value.int .u8 92] ++ [Value.int .u8 s[k].toNat]) w3 →
          Lib.BuilderAt 153 5 w.heap.size w.heap.size (.pointer (some ⟨w.heap.size, 0, none⟩)) (Lib.byteCells (34 :: Lab.esc (s.data.toList.take (k + 1)))) w3 := by
        intro w2 w3 hq h
        rw [hsn, esc_snoc, if_pos hq]
        simpa [Lib.byteCells] using h
      have one : ∀ (w3 : World), ¬ (s[k] = 34 ∨ s[k] = 92) → Lib.BuilderAt 153 5 w.heap.size w.heap.size (.pointer (some ⟨w.heap.size, 0, none⟩)) (Lib.byteCells (34 :: Lab.esc (s.data.toList.take k)) ++ [Value.int .u8 s[k].toNat]) w3 →
          Lib.BuilderAt 153 5 w.heap.size w.heap.size (.pointer (some ⟨w.heap.size, 0, none⟩)) (Lib.byteCells (34 :: Lab.esc (s.data.toList.take (k + 1)))) w3 := by
        intro w3 hq h
        rw [hsn, esc_snoc, if_neg hq]
        simpa [Lib.byteCells] using h
      have byte34 : ((s[k].toNat : Int) = 34) → s[k] = 34 := fun h => UInt8.toNat_inj.1 (by show s[k].toNat = 34; omega)
      have byte92 : ((s[k].toNat : Int) = 92) → s[k] = 92 := fun h => UInt8.toNat_inj.1 (by show s[k].toNat = 92; omega)
      have both : ((s[k].toNat : Int) == 34) = true ∨ ((s[k].toNat : Int) == 92) = true → s[k] = 34 ∨ s[k] = 92 := by
        rintro (h | h)
        · exact .inl (byte34 (by simpa using h))
        · exact .inr (byte92 (by simpa using h))
      have neither : ((s[k].toNat : Int) == 34) = false ∧ ((s[k].toNat : Int) == 92) = false → ¬ (s[k] = 34 ∨ s[k] = 92) := by
        intro h h2
        rcases h2 with h2 | h2 <;> rw [h2] at h
        · cases h.1
        · cases h.2
      go_wp2_with (go_at_call 131; fail)
      · have hq : s[k] = 34 ∨ s[k] = 92 := .inl (byte34 (by assumption))
        refine (wByte w.heap.size w.heap.size _ 92 wr (Or.inr hI) (by omega) hle).mono ?_
        rintro e w2 ⟨rfl, h2, b2⟩
        go_wp2_with (go_at_call 131; fail)
        refine (wByte w.heap.size w.heap.size _ _ w2 (Or.inr h2) (by simp only [List.length_append, List.length_singleton]; omega) (by have := b2.size; omega)).mono ?_
        rintro e w3 ⟨rfl, h3, b3⟩
        go_wp2
        go_roundw
        case rel => exact ⟨k + 1, by omega, by simp, two w2 w3 hq (by rw [show (s[k].toNat : Int) = 34 from by assumption]; exact h3), (hbw.trans b2).trans b3⟩
        case measure => simp [intOf]; omega
      · have hq : s[k] = 34 ∨ s[k] = 92 := both (by assumption)
        refine (wByte w.heap.size w.heap.size _ 92 wr (Or.inr hI) (by omega) hle).mono ?_
        rintro e w2 ⟨rfl, h2, b2⟩
        go_wp2_with (go_at_call 131; fail)
        refine (wByte w.heap.size w.heap.size _ _ w2 (Or.inr h2) (by simp only [List.length_append, List.length_singleton]; omega) (by have := b2.size; omega)).mono ?_
        rintro e w3 ⟨rfl, h3, b3⟩
        go_wp2
        go_roundw
        case rel => exact ⟨k + 1, by omega, by simp, two w2 w3 hq h3, (hbw.trans b2).trans b3⟩
        case measure => simp [intOf]; omega
      · have hq : ¬ (s[k] = 34 ∨ s[k] = 92) := neither (by assumption)
        refine (wByte w.heap.size w.heap.size _ _ wr (Or.inr hI) (by omega) hle).mono ?_
        rintro e w3 ⟨rfl, h3, b3⟩
        go_wp2
        go_roundw
        case rel => exact ⟨k + 1, by omega, by simp, one w3 hq h3, hbw.trans b3⟩
        case measure => simp [intOf]; omega
    · have hk2 : k = s.size := by omega
      subst hk2
      have hI2 : Lib.BuilderAt 153 5 w.heap.size w.heap.size (.pointer (some ⟨w.heap.size, 0, none⟩)) (Lib.byteCells (34 :: Lab.esc s.data.toList)) wr := by
        have e : s.data.toList.take s.size = s.data.toList := List.take_of_length_le (by rw [Array.length_toList]; exact Nat.le_refl _)
        rw [e] at hI; exact hI
      have hlen : (Lib.byteCells (34 :: Lab.esc s.data.toList)).length ≤ 2 * s.size + 1 := by
        have := Lab.esc_len s.data.toList
        have e : s.data.toList.length = s.size := Array.length_toList
        rw [e] at this
        rw [Lib.byteCells_length, List.length_cons]
        omega
      have hle : w.heap.size ≤ wr.heap.size := hbw.size
      go_wp2_with (go_at_call 131; fail)
      refine (wByte w.heap.size w.heap.size _ 34 wr (Or.inr hI2) (by omega) hle).mono ?_
      rintro e w2 ⟨rfl, h2, b2⟩
      go_wp2_with (go_at_call 132; fail)
      have h2' : Lib.BuilderAt 153 5 w.heap.size w.heap.size (.pointer (some ⟨w.heap.size, 0, none⟩)) (Lib.byteCells (34 :: (Lab.esc s.data.toList ++ [34]))) w2 := by
        simpa [Lib.byteCells] using h2
      refine (bString w.heap.size w.heap.size _ w2 (Or.inr h2') (by have := b2.size; omega)).mono ?_
      rintro e w3 ⟨rfl, b3⟩
      go_wp2
      go_ret
      exact ⟨rfl, (hbw.trans b2).trans b3⟩

theorem hand97 : CallOK Tryd.prog 97 (pureC hfQuote) := pure_ok (entered Tryd.func97 rfl (by decide)) (by
  intro args v h
  unfold hfQuote at h
  split at h
  · rename_i s
    obtain ⟨hc, h⟩ := Tr.mean_need h
    have hc := of_decide_eq_true hc
    have := Tr.mean_ret h
    subst this
    refine ⟨_, rfl, fun w X vals hsz hv => ?_⟩
    have h0 := PR.strInv (hv 0 _ rfl)
    have hvv := one_val (vals := vals) (by simpa using hsz)
    rw [h0] at hvv
    rw [hvv]
    refine (quoted_calls s w hc).mono ?_
    rintro e w' ⟨rfl, hb⟩
    exact ⟨rfl, kept_below hb⟩
  · exact (Tr.mean_fail h).elim)

theorem drop_atB (s : ByteArray) (k : Nat) (h : k < s.size) : s.data.toList.drop k = s[k] :: s.data.toList.drop (k + 1) := by
  have h' : k < s.data.toList.length := by rw [Array.length_toList]; exact h
  rw [List.drop_eq_getElem_cons h']
  rfl

theorem drop_end (s : ByteArray) : s.data.toList.drop s.size = [] := List.drop_eq_nil_of_le (by rw [Array.length_toList]; exact Nat.le_refl _)

theorem extract_drop (s : ByteArray) (k : Nat) : s.extract k s.size = mkB (s.data.toList.drop k) := Lib.extract_from s k

set_option maxHeartbeats 4000000 in
set_option maxRecDepth 1000000 in
theorem unquoted_calls (s : ByteArray) (w : World) (hs : s.size ≤ 4294967296) :
    Calls Tryd.prog 105 #[.string s] w fun e w' => e = .returned (.tuple #[.string (hUnq s).1, .string (hUnq s).2.1, .bool (hUnq s).2.2]) ∧ Below w.heap.size w w' := by
  by_cases he : s.size = 0
  · have hs0 : s = ⟨#[]⟩ := ByteArray.ext (Array.eq_empty_of_size_eq_zero he)
    subst hs0
    go_enter Tryd.func105, Tryd.ntmps105
    go_wp2
    go_ret3
    exact ⟨rfl, Below.refl _ _⟩
  · have hdat := drop_atB s 0 (by omega)
    rw [List.drop_zero] at hdat
    have hne : s.toList.isEmpty = false := by rw [ByteArray.toList_eq, hdat]; rfl
    by_cases h34 : s[0]'(by omega) = 34
    · have hU : hUnq s = match Lab.unq (s.data.toList.drop 1) with | some (v, q) => (mkB v, mkB q, true) | none => (ByteArray.empty, ByteArray.empty, false) := by
        unfold hUnq
        rw [hdat, h34]
        rfl
      go_enter Tryd.func105, Tryd.ntmps105
      go_wp2
      go_loopw [6] (fun v wr => ∃ (k : Nat) (acc : List UInt8), 1 ≤ k ∧ k ≤ s.size ∧ v = .int .i64 k ∧ Lib.IsBuilder 153 5 w.heap.size w.heap.size (Lib.byteCells acc) wr ∧ Below w.heap.size w wr ∧ acc.length ≤ k ∧ Lib.Kept (Lab.unq (s.data.toList.drop 1) = (Lab.unq (s.data.toList.drop k)).map fun p => (acc ++ p.1, p.2))) (fun v wr => s.size - (intOf v).toNat)
      case atStart =>
        refine ⟨1, [], Nat.le_refl _, by omega, rfl, Lib.fresh_isBuilder 153 5 w, (Below.refl _ w).alloc (Nat.le_refl _) _, Nat.zero_le _, ?_⟩
        show _ = _
        cases Lab.unq (s.data.toList.drop 1) <;> rfl
      case round =>
        obtain ⟨k, acc, hk1, hk, rfl, hI, hbw, hacc, hun⟩ := hrel
        have hle : w.heap.size ≤ wr.heap.size := hbw.size
        by_cases hp : k < s.size
        · have hdk := drop_atB s k hp
          by_cases c34 : s[k] = 34
          · have e34 : ((s[k].toNat : Int) == 34) = true := by rw [c34]; rfl
            have hun' : Lab.unq (s.data.toList.drop 1) = (Lab.unq (s.data.toList.drop k)).map fun p => (acc ++ p.1, p.2) := hun
            rw [hdk, c34, Lab.unq_end, Option.map_some, List.append_nil] at hun'
            have hwr : IntKind.i64.wrap ((k : Int) + 1) = (k : Int) + 1 := w64_id (x := (k : Int) + 1) (by omega) (by omega)
            have ha : (0 : Int) ≤ (k : Int) + 1 := by omega
            have hb : (k : Int) + 1 ≤ (s.size : Int) := by omega
            go_wp2_with fail
            go_region_with (go_at_call 132; refine (bString w.heap.size w.heap.size acc wr.drew hI hle).mono ?_; rintro e w3 ⟨rfl, b3⟩)
            all_goals go_wp2
            all_goals go_ret3
            all_goals exact ⟨by rw [hU, hun', extract_drop]; rfl, hbw.trans ⟨b3.os, b3.tape, b3.output, b3.size, b3.block⟩⟩
          · have e34 : ((s[k].toNat : Int) == 34) = false := by
              have hn : (s[k].toNat : Int) ≠ 34 := fun h => c34 (UInt8.toNat_inj.1 (by show s[k].toNat = 34; omega))
              simpa using hn
            go_wp2_with (go_at_call 131; fail)
            · have hun' : Lab.unq (s.data.toList.drop 1) = (Lab.unq (s.data.toList.drop k)).map fun p => (acc ++ p.1, p.2) := hun
              rw [hdk] at hun'
              have h92 : s[k] = 92 := UInt8.toNat_inj.1 (by have : (s[k].toNat : Int) = 92 := by assumption
                                                            show s[k].toNat = 92; omega)
              have hlt : k + 1 < s.size := by have : (k : Int) + 1 < (s.size : Int) := by assumption
                                              omega
              rw [h92, drop_atB s (k + 1) hlt, Lab.unq_esc2] at hun'
              refine (wByte w.heap.size w.heap.size _ _ wr hI (by rw [Lib.byteCells_length]; omega) hle).mono ?_
              rintro e w3 ⟨rfl, h3, b3⟩
              go_wp2
              go_roundw
              case rel =>
                refine ⟨k + 2, acc ++ [s[k + 1]], by omega, by omega, by simp; omega, Or.inr (by simpa [Lib.byteCells] using h3), hbw.trans b3, by simp; omega, ?_⟩
                show _ = _
                rw [hun', Option.map_map]
                congr 1
                funext p
                simp
              case measure => simp [intOf]; omega
            · have hle2 : s.size ≤ k + 1 := by have : (s.size : Int) ≤ (k : Int) + 1 := by assumption
                                               omega
              have h92 : s[k] = 92 := UInt8.toNat_inj.1 (by have : (s[k].toNat : Int) = 92 := by assumption
                                                            show s[k].toNat = 92; omega)
              have hk3 : s.size = k + 1 := by omega
              have hdr : s.data.toList.drop (k + 1) = [] := by rw [← hk3]; exact drop_end s
              have hun' : Lab.unq (s.data.toList.drop 1) = (Lab.unq (s.data.toList.drop k)).map fun p => (acc ++ p.1, p.2) := hun
              rw [hdk, h92, hdr, Lab.unq_last] at hun'
              refine (wByte w.heap.size w.heap.size _ _ wr hI (by rw [Lib.byteCells_length]; omega) hle).mono ?_
              rintro e w3 ⟨rfl, h3, b3⟩
              go_wp2
              go_roundw
              case rel =>
                refine ⟨k + 1, acc ++ [92], by omega, by omega, by simp, Or.inr (by simpa [Lib.byteCells] using h3), hbw.trans b3, by simp; omega, ?_⟩
                show _ = _
                rw [hun', hdr]
                rfl
              case measure => simp [intOf]; omega
            · have h92 : s[k] ≠ 92 := fun h => by
                have : ¬ (s[k].toNat : Int) = 92 := by assumption
                exact this (by rw [h]; rfl)
              have hun' : Lab.unq (s.data.toList.drop 1) = (Lab.unq (s.data.toList.drop k)).map fun p => (acc ++ p.1, p.2) := hun
              rw [hdk, Lab.unq_byte c34 h92] at hun'
              refine (wByte w.heap.size w.heap.size _ _ wr hI (by rw [Lib.byteCells_length]; omega) hle).mono ?_
              rintro e w3 ⟨rfl, h3, b3⟩
              go_wp2
              go_roundw
              case rel =>
                refine ⟨k + 1, acc ++ [s[k]], by omega, by omega, by simp, Or.inr (by simpa [Lib.byteCells] using h3), hbw.trans b3, by simp; omega, ?_⟩
                show _ = _
                rw [hun', Option.map_map]
                congr 1
                funext p
                simp
              case measure => simp [intOf]; omega
        · have hk2 : k = s.size := by omega
          subst hk2
          go_wp2
          go_ret3
          refine ⟨?_, hbw⟩
          have hun' : Lab.unq (s.data.toList.drop 1) = (Lab.unq (s.data.toList.drop s.size)).map fun p => (acc ++ p.1, p.2) := hun
          rw [drop_end, show Lab.unq [] = none from rfl, Option.map_none] at hun'
          rw [hU, hun']
          rfl
    · have hU : hUnq s = (ByteArray.empty, ByteArray.empty, false) := by
        unfold hUnq
        rw [hdat]
        unfold hUnqL
        split
        · rename_i e; exact absurd (List.cons.inj e).1 h34
        · rfl
      have hn : ((s[0]'(by omega)).toNat : Int) ≠ 34 := fun h => h34 (UInt8.toNat_inj.1 (by show (s[0]'(by omega)).toNat = 34; omega))
      go_enter Tryd.func105, Tryd.ntmps105
      go_wp2
      go_ret3
      exact ⟨by rw [hU]; rfl, Below.refl _ _⟩

theorem hand105 : CallOK Tryd.prog 105 (pureC hfUnq) := pure_ok (entered Tryd.func105 rfl (by decide)) (by
  intro args v h
  unfold hfUnq at h
  split at h
  · rename_i s
    obtain ⟨hc, h⟩ := Tr.mean_need h
    have hc := of_decide_eq_true hc
    have := Tr.mean_ret h
    subst this
    refine ⟨_, rfl, fun w X vals hsz hv => ?_⟩
    have h0 := PR.strInv (hv 0 _ rfl)
    have hvv := one_val (vals := vals) (by simpa using hsz)
    rw [h0] at hvv
    rw [hvv]
    refine (unquoted_calls s w hc).mono ?_
    rintro e w' ⟨rfl, hb⟩
    exact ⟨rfl, kept_below hb⟩
  · exact (Tr.mean_fail h).elim)

end Go.Proofs.YtcblbcpnfidndaaDoor

namespace Go.Proofs.YtcblbcpnfidndaaDoor
open Go Go.Abs Go.RowKit
/-! ### slices.Delete -/

theorem run_clear_cells {P : Program} (w : World) (t e ty : TypeId) (z : Value) (ht : P.underlying t = some (.slice e)) (hv : ∀ w, (zeroValue e).run P w = .ok z w) (b o n c : Nat) (hn : 0 < n) (vs : List Value) (hvs : (Builtin.zeroCells z.cells n).toList = vs)
    (h1 : ∀ v ∈ vs, v.oneCell' = true) (hc : ∀ j, j < vs.length → (w.cell? ⟨b, o + j, none⟩).isSome = true) (hf : ∀ j, j < vs.length → w.frozen? ⟨b, o + j, none⟩ = false) :
    (Builtin.clear_ #[t] ty #[.slice (some ⟨b, o, none⟩) n c]).run P w = .ok (.tuple #[]) (w.setCells b o vs) := by
  have hst := run_storeCells_cells (P := P) b o vs 0 w (by simpa using hc) (by simpa using hf) h1
  simp only [Nat.add_zero] at hst
  obtain ⟨m, rfl⟩ : ∃ m, n = m + 1 := ⟨n - 1, by omega⟩
  simp [Builtin.clear_, run_underlying ht, hv, hvs, hst]

theorem setCells_frame (b : Nat) : ∀ (vs : List Value) (o : Nat) (w : World), (w.setCells b o vs).os = w.os ∧ (w.setCells b o vs).tape = w.tape ∧ (w.setCells b o vs).output = w.output ∧ (w.setCells b o vs).heap.size = w.heap.size ∧ ∀ k, k ≠ b → (w.setCells b o vs).heap[k]? = w.heap[k]?
  | [], _, _ => ⟨rfl, rfl, rfl, rfl, fun _ _ => rfl⟩
  | v :: r, o, w => by
    obtain ⟨h1, h2, h3, h4, h5⟩ := setCells_frame b r (o + 1) (w.setCell ⟨b, o, none⟩ v)
    rw [World.setCells]
    refine ⟨h1, h2, h3, h4.trans (by simp [World.setCell]), fun k hk => (h5 k hk).trans ?_⟩
    simp only [World.setCell]
    rw [Array.getElem?_modify, if_neg (fun e => hk e.symm)]

theorem cell_row {w : World} {b : Nat} {cs : Array Value} {T : TypeId} (h : w.heap[b]? = some (.cells cs T (0, 0))) {o : Nat} (ho : o < cs.size) : w.cell? ⟨b, o, none⟩ = some (cs.getD o undef) ∧ w.frozen? ⟨b, o, none⟩ = false := by
  constructor
  · simp [World.cell?, h, Array.getD, ho]
  · simp [World.frozen?, h]

theorem row_of {w : World} {b : Nat} {cs : Array Value} {T : TypeId} (h : w.heap[b]? = some (.cells cs T (0, 0))) : w.rowIs b T cs.size (fun k => cs.getD k undef) :=
  ⟨cs, h, rfl, fun i hi => by simp [Array.getD, hi]⟩

set_option maxHeartbeats 4000000 in
set_option maxRecDepth 1000000 in
theorem del_calls (w : World) (b n cap i j : Nat) (cs : Array Value) (T : TypeId) (hh : w.heap[b]? = some (.cells cs T (0, 0))) (hk : cap * 5 ≤ cs.size) (hone : ∀ k, k < n * 5 → (cs.getD k undef).oneCell' = true) (hij : i < j) (hj : j ≤ n) (hn : n ≤ cap) (hm : n ≤ 4294967296) :
    Calls Tryd.prog 117 #[.slice (some ⟨b, 0, none⟩) n cap, .int .i64 i, .int .i64 j] w (MakesDel 5 b n cap i j w cs T) := by
  have hic : i ≤ cap := by omega
  have hjc : j ≤ cap := by omega
  obtain ⟨i0, hi0, hz0, hz1, _⟩ := info_parts (P := Tryd.prog) (e := 81) (z := .agg #[.int .i64 0, .int .i64 0, .int .i64 0, .int .i64 0, .slice none 0 0]) (size := 5) (bytes := 56) (by kernel_rfl)
  have hv81 : ∀ w, (zeroValue 81).run Tryd.prog w = .ok (.agg #[.int .i64 0, .int .i64 0, .int .i64 0, .int .i64 0, .slice none 0 0]) w := fun w => by simp [zeroValue, typeInfo, hi0, hz0]
  -- the cells that are moved
  obtain ⟨news, hnews⟩ : ∃ news : List Value, news = (List.range ((n - j) * 5)).map (fun k => cs.getD (j * 5 + k) undef) := ⟨_, rfl⟩
  have hlen : news.length = (n - j) * 5 := by rw [hnews]; simp
  have hget : ∀ k, k < (n - j) * 5 → news[k]? = some (cs.getD (j * 5 + k) undef) := by intro k hk'; rw [hnews]; simp [hk']
  have hin : ∀ k, k < cap * 5 → k < cs.size := fun k hk' => by omega
  have hdrew : w.drew.heap[b]? = some (.cells cs T (0, 0)) := hh
  obtain ⟨A, hA, hsrc⟩ : ∃ A : Addr, (if cap = j then (some (⟨b, 0, none⟩ : Addr)) else some ⟨b, j * 5, none⟩) = some A ∧ Hid (∀ k u, news[k]? = some u → w.drew.cell? (A.add k) = some u) := by
    by_cases h : cap = j
    · refine ⟨⟨b, 0, none⟩, by simp [h], fun k u hu => ?_⟩
      have h0 : news.length = 0 := by rw [hlen]; omega
      rw [List.length_eq_zero_iff.1 h0] at hu
      simp at hu
    · refine ⟨⟨b, j * 5, none⟩, by simp [h], fun k u hu => ?_⟩
      have hk' := (List.getElem?_eq_some_iff.1 hu).1
      rw [hlen] at hk'
      rw [hget k hk'] at hu
      rw [addr_add]
      rw [← hu]
      exact (cell_row hdrew (hin _ (by omega))).1
  have s2 : Hid (∀ u ∈ news, u.oneCell' = true) := by
    intro u hu
    rw [hnews] at hu
    simp only [List.mem_map, List.mem_range] at hu
    obtain ⟨k, hk', rfl⟩ := hu
    exact hone _ (by omega)
  have s3 : Hid (∀ k, k < news.length → (w.drew.cell? ⟨b, 0 + i * 5 + k, none⟩).isSome = true ∧ w.drew.frozen? ⟨b, 0 + i * 5 + k, none⟩ = false) := by
    intro k hk'
    rw [hlen] at hk'
    rw [Nat.zero_add]
    obtain ⟨c1, c2⟩ := cell_row hdrew (o := i * 5 + k) (hin _ (by omega))
    exact ⟨by rw [c1]; rfl, c2⟩
  have s1 : Hid (news.length = (n - j) * 5) := hlen
  obtain ⟨W1, hW1⟩ : ∃ W1, W1 = w.drew.setCells b (0 + i * 5) news := ⟨_, rfl⟩
  have hW : Hid (W1 = w.drew.setCells b (0 + i * 5) news) := hW1
  have hrow1 : W1.rowIs b T cs.size (fun k => if 0 + i * 5 ≤ k ∧ k < 0 + i * 5 + news.length then news[k - (0 + i * 5)]?.getD default else cs.getD k undef) := by
    rw [hW1]; exact rowIs_setCells news (0 + i * 5) w.drew _ (row_of hdrew)
  have hfrm1 := setCells_frame b news (0 + i * 5) w.drew
  rw [← hW1] at hfrm1
  -- what is cleared
  obtain ⟨zs, hzs⟩ : ∃ zs, zs = (Builtin.zeroCells (Value.agg #[.int .i64 0, .int .i64 0, .int .i64 0, .int .i64 0, .slice none 0 0]).cells (n - (i + (n - j)))).toList := ⟨_, rfl⟩
  have hzl : zs.length = (n - (i + (n - j))) * 5 := by rw [hzs]; simp [Builtin.zeroCells, Value.cells]
  have hz1' : ∀ v ∈ zs, v.oneCell' = true := by
    intro v hv
    rw [hzs] at hv
    simp only [Builtin.zeroCells, Value.cells, Array.toList_map, List.mem_map] at hv
    obtain ⟨k, _, rfl⟩ := hv
    have hk5 : k % 5 < 5 := Nat.mod_lt _ (by omega)
    simp only [List.size_toArray, List.length_cons, List.length_nil]
    generalize k % 5 = q at hk5
    match q, hk5 with
    | 0, _ => rfl
    | 1, _ => rfl
    | 2, _ => rfl
    | 3, _ => rfl
    | 4, _ => rfl
  obtain ⟨c1, hc1, hc1s, hc1g⟩ := hrow1
  have hcl : ∀ ty, (Builtin.clear_ #[77] ty #[.slice (some ⟨b, (i + (n - j)) * 5, none⟩) (n - (i + (n - j))) (cap - (i + (n - j)))]).run Tryd.prog W1 = .ok (.tuple #[]) (W1.setCells b ((i + (n - j)) * 5) zs) :=
    fun ty => run_clear_cells W1 77 81 ty _ Tryd.underlying77 hv81 b _ _ _ (by omega) zs hzs.symm hz1' (fun q hq => by rw [(cell_row hc1 (by omega)).1]; rfl) (fun q hq => (cell_row hc1 (by omega)).2)
  have hrow2 := rowIs_setCells zs ((i + (n - j)) * 5) W1 _ ⟨c1, hc1, hc1s, hc1g⟩
  have hfrm2 := setCells_frame b zs ((i + (n - j)) * 5) W1
  obtain ⟨c2, hc2, hc2s, hc2g⟩ := hrow2
  have fin : Aside (MakesDel 5 b n cap i j w cs T (.returned (.slice (some ⟨b, 0, none⟩) (i + (n - j)) cap)) (W1.setCells b ((i + (n - j)) * 5) zs)) := by
    refine ⟨c2, by rw [show n - (j - i) = i + (n - j) by omega], hc2, hc2s, fun k hk' => ?_, fun k hk' hk2 => ?_, hfrm2.1.trans hfrm1.1, hfrm2.2.1.trans hfrm1.2.1, hfrm2.2.2.1.trans hfrm1.2.2.1, hfrm2.2.2.2.1.trans hfrm1.2.2.2.1, fun k hk' => (hfrm2.2.2.2.2 k hk').trans (hfrm1.2.2.2.2 k hk')⟩
    · have := hc2g k (by omega)
      simp only at this
      rw [if_neg (by omega), if_neg (by omega)] at this
      rw [Array.getD_eq_getD_getElem?, this]
      rfl
    · have := hc2g k (by omega)
      simp only at this
      rw [if_neg (by omega), if_pos (by omega), hget _ (by omega)] at this
      rw [Array.getD_eq_getD_getElem?, this]
      simp only [Option.getD_some]
      congr 1
      omega
  have mixed : Tryd.prog.follows .mixedOrders = true := by kernel_rfl
  clear hh hk hone hnews hget hlen hin hdrew hfrm1 hfrm2 hc1 hc1s hc1g hc2 hc2s hc2g hzs hzl hz1' hW1
  go_enter Tryd.func117, Tryd.ntmps117
  go_wp2_with fail
  go_region_law_o (refine step_append_room rfl (.tmp 22) (.tmp 25) 77 rfl 81 i0 5 Tryd.underlying77 hi0 hz1 b 0 i cap (by simp [Act.eval, Act.put]) A (n - j) (cap - j) news (by simp [Act.eval, Act.put, hA]) s1.out hsrc.out s2.out (by omega) s3.out ?_; rw [← hW.out])
  go_wp2
  go_ret
  exact fin.out

theorem hand117 (t : Ty) (ht : t.size = 5) : CallOK Tryd.prog 117 (delS t) :=
  del_ok (entered Tryd.func117 rfl (by decide)) (fun w b n cap i j cs T h1 h2 h3 h4 h5 h6 h7 => by
    rw [ht] at h2 h3 ⊢
    exact del_calls w b n cap i j cs T h1 h2 h3 h4 h5 h6 h7)

end Go.Proofs.YtcblbcpnfidndaaDoor

namespace Go.Proofs.YtcblbcpnfidndaaDoor
open Go Go.Abs
noncomputable section
abbrev Z5 : Abs.Ty := (.cons .str (.cons (.int .i64) (.cons .str .unit)))

abbrev Z1 : Abs.Ty := (.cons (.int .i64) (.cons (.int .i64) (.cons (.int .i64) (.cons (.int .i64) (.cons (.row Z5) .unit)))))

abbrev Z7 : Abs.Ty := (.cons .str (.cons .str .unit))

abbrev Z9 : Abs.Ty := (.cons (.row (.int .i64)) (.cons (.int .i64) .unit))

abbrev Y11 : Type := (((List Int) × Int × Unit) × Unit)

abbrev Y12 : Type := (ByteArray × Int × ByteArray × Unit)

abbrev Y3 : Type := (List Y12)

abbrev Y13 : Type := ((Bool × Unit) × (Unit))

abbrev Y15 : Type := (ByteArray × ByteArray × Unit)

abbrev Y4 : Type := (List Y15)

abbrev Y18 : Type := ((ByteArray × Unit) × (Unit))

def note : FuncId → Abs.Note
  | 2 => ⟨true, [], false, fun _ => []⟩
  | 3 => ⟨true, [0, 1, 2, 3, 4, 6, 10, 11, 12, 13, 15, 17, 18, 20, 21, 22, 23, 24, 48, 60, 61, 62, 63, 99, 109, 110, 111, 127, 135, 136, 137, 157], false, fun | 6 => [(1, 2), (1, 3)] | 9 => [(1, 2), (8, 9), (17, 18), (27, 29)] | 12 => [(1, 4), (2, 4), (2, 5), (4, 5), (1, 6), (2, 6), (4, 6), (1, 7), (2, 7)] | _ => []⟩
  | 4 => ⟨true, [0, 2, 3, 4, 5, 6, 7, 8, 9, 10, 13], false, fun _ => []⟩
  | 5 => ⟨true, [0, 1, 2, 6, 7, 8, 9, 10, 23, 28, 67, 71, 118], false, fun _ => []⟩
  | 6 => ⟨true, [0, 2, 3, 4, 5, 6, 8, 9, 10, 13, 21, 22, 23, 24, 38], false, fun | 12 => [(2, 3)] | _ => []⟩
  | 7 => ⟨true, [0, 1, 2, 3, 8, 9, 10, 11, 13, 14, 15, 17, 18, 19, 20, 21, 34, 58, 59, 60, 105, 116, 117, 118, 138], false, fun | 5 => [(1, 2), (2, 4), (1, 7), (2, 7), (4, 7), (6, 7), (2, 9), (6, 9), (7, 9), (2, 11)] | _ => []⟩
  | 8 => ⟨true, [0, 2, 3, 4, 5, 6, 7, 8, 9, 10, 11, 13], true, fun | 11 => [(1, 4), (1, 5)] | _ => []⟩
  | 9 => ⟨true, [0, 1, 2, 3, 8, 9, 10, 12, 14, 16, 29, 40, 41, 42, 48, 54, 55, 56, 89, 95, 96, 97, 116], true, fun | 13 => [(20, 26)] | _ => []⟩
  | 10 => ⟨true, [0, 2, 3, 4, 5, 6, 7, 9, 10, 11, 13, 15, 18, 31, 33, 34, 35, 36, 51, 75, 77, 78, 79, 91, 93, 100, 101, 102, 103, 128, 133, 134, 135, 136, 145], true, fun _ => []⟩
  | 11 => ⟨true, [0, 2, 3, 4, 5, 6, 7, 8, 9, 10, 11, 13, 14, 16, 19, 32, 33, 34, 54, 55, 56, 57, 60, 61, 62, 63, 74], true, fun _ => []⟩
  | 12 => ⟨true, [0, 2, 3, 4, 5, 6, 7, 9, 10, 11, 14, 25, 26, 27, 28], true, fun | 12 => [(13, 14)] | _ => []⟩
  | 13 => ⟨true, [0, 2, 3, 4, 5, 6, 8, 10, 11, 12, 13, 14, 15, 16, 18, 20, 46], false, fun _ => []⟩
  | 14 => ⟨true, [0, 2, 3, 4, 5, 6, 7, 8, 9, 11, 14, 34, 35, 36, 38, 39, 40, 41, 50, 63], false, fun _ => []⟩
  | 15 => ⟨true, [0, 1, 4, 5, 6, 7, 8, 9, 11, 13, 14, 15, 16, 17, 18, 19, 21, 23, 24, 25, 27, 30, 40, 41, 42, 43, 75, 78, 106, 110, 111, 112, 121, 151, 152, 153, 154, 170, 174], false, fun | 19 => [(1, 8)] | _ => []⟩
  | 16 => ⟨true, [0, 1, 2, 3, 4, 5, 6, 14, 15, 16, 17, 18, 19, 20, 22, 24, 26, 28, 29, 30, 31, 32, 33, 34, 35, 36, 37, 39, 40, 41, 42, 43, 44, 45, 46, 47, 48, 71, 108, 109, 110, 116, 123, 124, 125, 161, 167, 168, 169, 175, 181, 182, 183, 230, 234, 235, 236, 260, 280, 313], false, fun | 13 => [(1, 4)] | _ => []⟩
  | 17 => ⟨true, [0, 2], false, fun _ => []⟩
  | 18 => ⟨true, [0, 1, 2, 3, 4, 5, 6], false, fun _ => []⟩
  | 19 => ⟨true, [0, 2], false, fun _ => []⟩
  | 20 => ⟨true, [0, 2, 3, 5, 6, 7, 8, 9, 17], false, fun _ => []⟩
  | 21 => ⟨true, [0, 1, 4, 5, 6, 12], false, fun _ => []⟩
  | 22 => ⟨true, [0, 1, 2], false, fun _ => []⟩
  | 23 => ⟨true, [0, 1, 2], false, fun _ => []⟩
  | 24 => ⟨true, [0, 1, 2, 4, 5, 11, 12, 18, 24, 30], false, fun _ => []⟩
  | 25 => ⟨true, [0, 1, 2, 4, 5, 11, 12, 18, 24, 30], false, fun _ => []⟩
  | 26 => ⟨true, [0, 1, 4, 5, 6, 7, 8, 12, 13, 28, 52], false, fun _ => []⟩
  | 27 => ⟨true, [0, 1, 4, 5, 6, 7, 8, 18, 28, 34, 54], false, fun _ => []⟩
  | 28 => ⟨true, [0, 2, 3, 4, 7, 11, 19, 21], false, fun | 11 => [(5, 6), (6, 11), (6, 19), (5, 20), (11, 20), (13, 20)] | _ => []⟩
  | 29 => ⟨true, [0, 2, 3, 5, 12, 13, 14, 15, 16], false, fun | 7 => [(2, 3), (3, 5), (3, 9), (2, 10), (5, 10)] | _ => []⟩
  | 30 => ⟨true, [0, 1, 3, 4], false, fun _ => []⟩
  | 31 => ⟨true, [0, 1, 4, 5, 9, 18], false, fun _ => []⟩
  | 32 => ⟨true, [0, 2, 3, 4, 5, 6, 7, 13, 32], false, fun _ => []⟩
  | 33 => ⟨true, [0, 2, 3, 4, 5, 7, 20], false, fun _ => []⟩
  | 34 => ⟨true, [0, 1, 4, 5, 10, 12, 13, 14, 24], false, fun _ => []⟩
  | 35 => ⟨true, [0, 2, 3, 4, 5, 6, 7, 21, 30, 53], false, fun _ => []⟩
  | 36 => ⟨true, [0, 2, 3, 5, 8, 9, 10, 11, 12], false, fun | 7 => [(2, 6)] | _ => []⟩
  | 37 => ⟨true, [0, 1, 4, 5, 10, 12, 13, 14, 24], false, fun _ => []⟩
  | 38 => ⟨true, [0, 1, 4, 6, 7, 8, 9, 10, 16], false, fun _ => []⟩
  | 39 => ⟨true, [0, 1, 4, 5, 19, 40], false, fun _ => []⟩
  | 40 => ⟨true, [0, 2, 3, 5, 6, 7, 8, 11], false, fun _ => []⟩
  | 41 => ⟨true, [0, 2, 3, 4, 7, 11, 15], false, fun | 9 => [(5, 12)] | _ => []⟩
  | 42 => ⟨true, [0, 2, 3, 4, 7, 8, 9, 10, 11, 44], false, fun _ => []⟩
  | 43 => ⟨true, [0, 2, 3, 6, 10, 54], false, fun _ => []⟩
  | 44 => ⟨true, [0, 1, 4, 5, 9, 18], false, fun _ => []⟩
  | 45 => ⟨true, [0, 1, 4, 5, 7, 8, 9, 10, 11, 17], false, fun _ => []⟩
  | 46 => ⟨true, [0, 1, 4, 5, 6, 7, 11, 17, 29], false, fun _ => []⟩
  | 47 => ⟨true, [0, 2, 3, 4, 5, 6, 7, 9, 25, 36, 40, 60], false, fun _ => []⟩
  | 48 => ⟨true, [0, 1, 4, 12], false, fun _ => []⟩
  | 49 => ⟨true, [0, 2, 3, 4, 5, 6, 10, 14, 15, 16, 17, 25, 33], false, fun _ => []⟩
  | 50 => ⟨true, [0, 1, 4, 5, 10, 12, 13, 14, 24], true, fun _ => []⟩
  | 51 => ⟨true, [0, 1, 4, 5, 18, 20], false, fun _ => []⟩
  | 52 => ⟨true, [0, 1, 2, 3, 4], true, fun _ => []⟩
  | 53 => ⟨true, [0, 1, 4, 5, 6, 7, 16], false, fun _ => []⟩
  | 54 => ⟨true, [0, 1, 4, 5, 6, 16, 19, 29, 39, 53, 70, 87], true, fun _ => []⟩
  | 55 => ⟨true, [0, 2, 3, 4, 7, 10, 14, 47, 54, 61], true, fun _ => []⟩
  | 56 => ⟨true, [0, 1, 4, 12], true, fun _ => []⟩
  | 57 => ⟨true, [0, 1, 2, 4, 7], false, fun _ => []⟩
  | 58 => ⟨true, [0, 1, 2, 4, 7], true, fun _ => []⟩
  | 59 => ⟨true, [0, 1, 4, 17, 19], true, fun _ => []⟩
  | 60 => ⟨true, [0, 1, 4, 5, 6, 7, 8, 9, 10, 11, 18], false, fun _ => []⟩
  | 61 => ⟨true, [0, 1, 4, 5, 6, 10, 19], true, fun _ => []⟩
  | 62 => ⟨true, [0, 2, 3, 4], false, fun _ => []⟩
  | 63 => ⟨true, [0, 1, 3, 4, 5, 6, 7, 17], false, fun | 1 => [(1, 2), (1, 3)] | _ => []⟩
  | 64 => ⟨true, [0, 1, 2, 6, 7, 9, 10, 11, 12, 13, 41], false, fun _ => []⟩
  | 65 => ⟨true, [0, 1, 4, 5, 6, 7, 9, 10, 11, 12, 13, 29], false, fun _ => []⟩
  | 66 => ⟨true, [0, 1, 2, 3, 4, 5, 6, 7, 9, 10, 11, 12, 13], false, fun _ => []⟩
  | 67 => ⟨true, [0, 2, 3, 4, 5, 9], false, fun _ => []⟩
  | 68 => ⟨true, [0, 1, 2, 6, 8, 10, 11, 12, 13, 14, 21, 22, 23, 24, 25, 45], false, fun _ => []⟩
  | 69 => ⟨true, [0, 2, 3, 4, 8], false, fun _ => []⟩
  | 70 => ⟨true, [0, 1, 4], false, fun _ => []⟩
  | 71 => ⟨true, [0, 1, 2, 4, 6, 7, 8, 9, 10, 14, 19, 22, 38], false, fun _ => []⟩
  | 72 => ⟨true, [0, 1, 4, 5], false, fun _ => []⟩
  | 73 => ⟨true, [0, 1, 4], false, fun _ => []⟩
  | 74 => ⟨true, [0, 2, 4, 5, 8, 9, 10, 11, 12, 18], false, fun _ => []⟩
  | 75 => ⟨true, [0, 2, 3, 4, 7, 11, 18, 29, 46], false, fun _ => []⟩
  | 76 => ⟨true, [0, 1, 2, 6, 7, 8, 12, 22, 26, 64], false, fun _ => []⟩
  | 77 => ⟨true, [0, 1, 2, 3, 4, 10, 12], false, fun _ => []⟩
  | 78 => ⟨true, [0, 1, 2, 3, 4, 10, 12], false, fun _ => []⟩
  | 79 => ⟨true, [0, 2, 3, 5, 6, 9, 10, 11, 12, 13, 20], false, fun _ => []⟩
  | 80 => ⟨true, [0, 2, 3, 4, 7, 11, 18, 37, 58, 63, 68], false, fun _ => []⟩
  | 81 => ⟨true, [0, 1, 2, 6, 7, 8, 9, 10, 11, 15, 47], false, fun _ => []⟩
  | 82 => ⟨true, [0, 1, 4, 5, 6, 7, 8, 9, 13, 32], false, fun _ => []⟩
  | 83 => ⟨true, [0, 1, 2, 6, 7, 8, 9, 10, 11, 12, 16, 21, 31, 35, 39, 47], false, fun _ => []⟩
  | 84 => ⟨true, [0, 1, 4, 5, 6, 7, 8, 13, 17, 62, 67, 80], false, fun | 6 => [(3, 8), (7, 8), (3, 9), (7, 9), (8, 9), (7, 10)] | _ => []⟩
  | 85 => ⟨true, [0, 1, 3, 4, 5, 6, 7, 16], false, fun | 1 => [(1, 2), (1, 3)] | _ => []⟩
  | 86 => ⟨true, [0, 2], false, fun | 1 => [(0, 2), (0, 6), (4, 6), (0, 7), (2, 7), (4, 7), (6, 7), (0, 9), (4, 9), (7, 9), (0, 11)] | _ => []⟩
  | 87 => ⟨true, [0, 2, 3, 4, 21, 23, 24, 25, 47], false, fun _ => []⟩
  | 88 => ⟨true, [0, 2, 3, 5, 6, 7, 18], false, fun _ => []⟩
  | 89 => ⟨true, [0, 2, 3, 21, 25, 55], false, fun _ => []⟩
  | 90 => ⟨true, [0, 2, 3, 6, 10, 22], false, fun _ => []⟩
  | 91 => ⟨true, [0, 1, 4, 5, 6, 12, 21, 34], false, fun _ => []⟩
  | 92 => ⟨true, [0], false, fun _ => []⟩
  | 93 => ⟨true, [0, 2, 3, 4, 8, 20], false, fun _ => []⟩
  | 94 => ⟨true, [0, 1, 4], false, fun _ => []⟩
  | 95 => ⟨true, [0, 1, 2], true, fun _ => []⟩
  | 96 => ⟨true, [0], false, fun _ => []⟩
  | 97 => ⟨true, [0, 2, 3, 4, 7, 8, 9, 20], false, fun _ => []⟩
  | 98 => ⟨true, [0, 1, 4, 5, 7, 8, 10, 12, 13, 15, 22, 29, 39, 40, 41, 42, 49, 63, 64, 65, 66], false, fun _ => []⟩
  | 99 => ⟨true, [0, 1, 2, 3], true, fun _ => []⟩
  | 100 => ⟨true, [0, 2, 3, 4, 5, 6, 7, 8, 9, 10, 11, 12, 13, 17, 26, 27, 28, 37], false, fun _ => []⟩
  | 101 => ⟨true, [0, 1, 4], false, fun _ => []⟩
  | 102 => ⟨true, [0, 2, 3, 4, 5, 6, 7, 20, 26, 30], false, fun _ => []⟩
  | 103 => ⟨true, [0, 1, 4, 5], false, fun _ => []⟩
  | 104 => ⟨true, [0, 1, 4, 5, 6], false, fun _ => []⟩
  | 105 => ⟨true, [0, 2, 3, 4, 5, 6, 13, 17, 20, 30], false, fun _ => []⟩
  | 106 => ⟨true, [0, 1, 4], false, fun _ => []⟩
  | 107 => ⟨true, [0, 1, 4], false, fun _ => []⟩
  | 108 => ⟨true, [0, 1, 2, 6, 7, 9, 12, 13, 14, 15, 25, 37, 41], false, fun _ => []⟩
  | 109 => ⟨true, [0, 1, 2, 4, 5, 28, 39, 49], false, fun _ => []⟩
  | 110 => ⟨true, [0, 2, 3, 9], true, fun _ => []⟩
  | 111 => ⟨true, [0, 1, 2, 3, 13, 18, 27, 28, 33], true, fun _ => []⟩
  | 112 => ⟨true, [0, 1, 2, 6, 7, 8, 9, 16, 29, 47, 50], true, fun _ => []⟩
  | 113 => ⟨true, [0, 2, 3, 4, 8, 9, 10], false, fun _ => []⟩
  | 114 => ⟨true, [0, 1, 2, 3, 4, 6], false, fun _ => []⟩
  | 115 => ⟨true, [0, 1, 4, 5, 7, 8, 9, 16], false, fun _ => []⟩
  | 116 => ⟨true, [0, 1, 2, 3], true, fun _ => []⟩
  | 117 => ⟨true, [0, 1, 2, 6, 7, 16], true, fun _ => []⟩
  | 118 => ⟨true, [0, 1, 2, 3, 14, 31], false, fun _ => []⟩
  | 119 => ⟨true, [0, 2, 3, 7, 15], false, fun _ => []⟩
  | 120 => ⟨true, [0, 2, 3, 7, 31], false, fun _ => []⟩
  | 121 => ⟨true, [0, 1, 2, 6, 7, 11, 26], false, fun | 4 => [(5, 10)] | _ => []⟩
  | 122 => ⟨true, [0, 1, 2, 4, 5, 15, 36, 41, 46], false, fun _ => []⟩
  | 123 => ⟨true, [0, 1, 4, 13], false, fun _ => []⟩
  | 124 => ⟨true, [0, 1, 4, 16], false, fun _ => []⟩
  | 125 => ⟨true, [0, 2, 3, 4, 5, 9, 16], false, fun _ => []⟩
  | 126 => ⟨true, [0, 1, 4, 7, 12], false, fun _ => []⟩
  | 127 => ⟨true, [0, 1, 4, 7, 15], false, fun _ => []⟩
  | 128 => ⟨true, [0, 1, 4, 5, 6, 9, 18], false, fun _ => []⟩
  | 129 => ⟨true, [0, 1, 4, 5, 6, 9, 17, 26], false, fun _ => []⟩
  | 130 => ⟨true, [0, 1, 4, 5, 7, 8, 9, 16], false, fun _ => []⟩
  | 131 => ⟨true, [0, 1, 4], false, fun _ => []⟩
  | 132 => ⟨true, [0, 2], false, fun _ => []⟩
  | 133 => ⟨true, [0, 1, 7, 21], false, fun _ => []⟩
  | 134 => ⟨true, [0, 1, 4, 5], false, fun _ => []⟩
  | 135 => ⟨true, [0, 1, 4, 5, 6, 7, 8, 9, 10, 12, 15, 20, 26, 32, 36, 42, 45, 46, 47, 53], false, fun _ => []⟩
  | 136 => ⟨true, [0, 1, 4, 7], false, fun _ => []⟩
  | 137 => ⟨true, [0, 2, 3, 4, 5, 6, 7, 8, 9, 10, 11, 33, 47, 74, 83, 88, 94, 112], false, fun _ => []⟩
  | 138 => ⟨true, [0, 1, 4, 5, 9], false, fun _ => []⟩
  | 139 => ⟨true, [0, 1, 4, 5, 6, 7, 12], false, fun _ => []⟩
  | 140 => ⟨true, [0, 1, 4, 5, 7, 8, 9, 16], false, fun _ => []⟩
  | 141 => ⟨true, [0, 1, 2], false, fun _ => []⟩
  | 142 => ⟨true, [0, 2, 3, 4, 5, 6, 7, 8, 27], false, fun _ => []⟩
  | 143 => ⟨true, [0, 2, 4], false, fun _ => []⟩
  | 144 => ⟨true, [0, 2, 4], false, fun _ => []⟩
  | 145 => ⟨true, [0, 1, 4], false, fun _ => []⟩
  | 146 => ⟨true, [0, 1, 2, 4], true, fun | 1 => [(2, 3)] | _ => []⟩
  | 147 => ⟨true, [0, 1, 2], false, fun _ => []⟩
  | 148 => ⟨true, [0, 1, 4], false, fun _ => []⟩
  | 149 => ⟨true, [0, 2, 3, 10], false, fun _ => []⟩
  | 150 => ⟨true, [0, 1, 4], false, fun _ => []⟩
  | 151 => ⟨true, [0, 2, 3, 4, 5, 6, 10, 18, 27, 33, 35, 48], false, fun _ => []⟩
  | 152 => ⟨true, [0, 6, 19], false, fun _ => []⟩
  | 153 => ⟨true, [0, 1, 4], false, fun | 0 => [(8, 12)] | _ => []⟩
  | 154 => ⟨true, [0, 1, 4, 5, 6, 7, 8, 9, 10, 11, 12, 13, 14, 15, 16, 26, 33, 43, 51, 64, 98, 108, 124, 139, 143, 156, 160, 171, 175, 176, 177, 181, 183], false, fun _ => []⟩
  | 155 => ⟨true, [0, 2], false, fun _ => []⟩
  | 156 => ⟨true, [0, 1, 4], false, fun _ => []⟩
  | 157 => ⟨true, [0, 1, 4, 5, 6, 7, 8, 9, 10, 11, 12, 13, 16, 24, 31, 36, 59, 64, 73, 93, 107, 114, 132, 139], false, fun _ => []⟩
  | 158 => ⟨true, [0, 2], false, fun _ => []⟩
  | 159 => ⟨true, [0, 1, 4, 5, 7, 8, 9, 16], false, fun _ => []⟩
  | 160 => ⟨true, [0, 2, 3, 4, 5, 6, 7, 8, 9, 10, 11, 12, 16, 23, 45, 57, 59, 75, 77, 98], false, fun _ => []⟩
  | 161 => ⟨true, [0, 2], false, fun _ => []⟩
  | 164 => ⟨true, [0, 1, 4], false, fun _ => []⟩
  | 165 => ⟨true, [0, 2, 3, 10], false, fun _ => []⟩
  | 166 => ⟨true, [0, 2], false, fun _ => []⟩
  | 168 => ⟨true, [0, 1, 4], false, fun _ => []⟩
  | 169 => ⟨true, [0, 1, 4, 5, 6, 7, 8, 9, 10, 20, 39, 44, 77], false, fun _ => []⟩
  | 171 => ⟨true, [0, 2, 3, 4, 5, 6, 7, 8, 12, 25, 30], false, fun _ => []⟩
  | 194 => ⟨true, [], false, fun _ => []⟩
  | _ => ⟨false, [], false, fun _ => []⟩

theorem good : Abs.Good Tryd.prog note := Abs.good_of (by kernel_rfl)

theorem foll : (Tryd.prog).follows .mixedOrders = true := by kernel_rfl

def mvtab (f : FuncId) : Bool := [].contains f

def ctab : FuncId → Option Abs.SCall := Abs.ctabOf [(97, Abs.pureC Abs.hfQuote), (98, Abs.pureC Abs.hfJoin), (168, Abs.pureC Abs.hfIdx), (166, Abs.hfLeft), (169, Abs.hfLeft), (105, Abs.pureC Abs.hfUnq), (135, Abs.pureC Abs.hfAny), (125, Abs.hfLeft), (127, Abs.hfLeft), (126, Abs.hfLeft), (129, Abs.hfLeft), (128, Abs.hfLeft), (117, Abs.delS Z1)]

theorem ctab_ok : ∀ f q, ctab f = some q → Abs.CallOK Tryd.prog f q := Abs.ctabOf_ok _ (by
  intro p hp
  simp only [List.mem_cons, List.not_mem_nil, or_false] at hp
  rcases hp with rfl | rfl | rfl | rfl | rfl | rfl | rfl | rfl | rfl | rfl | rfl | rfl | rfl
  · exact hand97
  · exact hand98
  · exact hand168
  · exact Abs.hfLeft_ok
  · exact Abs.hfLeft_ok
  · exact hand105
  · exact hand135
  · exact Abs.hfLeft_ok
  · exact Abs.hfLeft_ok
  · exact Abs.hfLeft_ok
  · exact Abs.hfLeft_ok
  · exact Abs.hfLeft_ok
  · exact hand117 Z1 rfl
)

/- pagewatch/pagewatchmade.Light -/
def i17 : Abs.Sg := ⟨[0], (.dat (.row (.int .i64)) .nil), .nil⟩

def o17 : Abs.Sg := ⟨[2], (.dat .bool .nil), .nil⟩

def m17 (v : (((List Int) × Unit) × (Unit))) : Option Y13 :=
some (((decide (((v.1.1.length : Int) : Int) ≤ 500)), ()), ())

def sp17 : Abs.Spec := ⟨0, i17, o17, m17⟩

def an17 : Nat → Abs.FAn
  | _ => {}

theorem ok17 : Abs.SpecOK Tryd.prog 17 sp17 :=
  Abs.specOC_of (C := ctab) (mv := mvtab) ctab_ok (n := 12) (an := an17) (T := Abs.tabOf []) good foll (Abs.tabOf_ok _ (fun _ h => by cases h)) rfl (by intro v; kernel_rfl)

def l87_0_4 (v : ((Int × ByteArray × Int × Unit) × (Unit))) : Option (((Int × ByteArray × Int × Unit) × (Unit)) ⊕ (Y13 ⊕ ((Unit) × (Unit)))) :=
bif (decide ((v.1.1 : Int) < v.1.2.2.1)) then (bif (decide ((0 : Int) ≤ v.1.1 ∧ (v.1.1 : Int) < v.1.2.1.size)) then
((let x86 := (decide (((((v.1.2.1[v.1.1.toNat]?.getD 0).toNat : Nat) : Int) : Int) < 97))
bif x86 then (let x87 := (decide (((((v.1.2.1[v.1.1.toNat]?.getD 0).toNat : Nat) : Int) : Int) < 48))
bif x87 then (let x88 := (((((v.1.2.1[v.1.1.toNat]?.getD 0).toNat : Nat) : Int) : Int) != 95)
some ((x88, (v.1.2.1, (v.1.2.2.1, (v.1.1, ())))), ()))
else (let x89 := (decide (((((v.1.2.1[v.1.1.toNat]?.getD 0).toNat : Nat) : Int) : Int) > 57))
bif x89 then (let x90 := (((((v.1.2.1[v.1.1.toNat]?.getD 0).toNat : Nat) : Int) : Int) != 95)
some ((x90, (v.1.2.1, (v.1.2.2.1, (v.1.1, ())))), ()))
else (some ((false, (v.1.2.1, (v.1.2.2.1, (v.1.1, ())))), ()))))
else (let x91 := (decide (((((v.1.2.1[v.1.1.toNat]?.getD 0).toNat : Nat) : Int) : Int) > 122))
bif x91 then (let x92 := (decide (((((v.1.2.1[v.1.1.toNat]?.getD 0).toNat : Nat) : Int) : Int) < 48))
bif x92 then (let x93 := (((((v.1.2.1[v.1.1.toNat]?.getD 0).toNat : Nat) : Int) : Int) != 95)
some ((x93, (v.1.2.1, (v.1.2.2.1, (v.1.1, ())))), ()))
else (let x94 := (decide (((((v.1.2.1[v.1.1.toNat]?.getD 0).toNat : Nat) : Int) : Int) > 57))
bif x94 then (let x95 := (((((v.1.2.1[v.1.1.toNat]?.getD 0).toNat : Nat) : Int) : Int) != 95)
some ((x95, (v.1.2.1, (v.1.2.2.1, (v.1.1, ())))), ()))
else (some ((false, (v.1.2.1, (v.1.2.2.1, (v.1.1, ())))), ()))))
else (some ((false, (v.1.2.1, (v.1.2.2.1, (v.1.1, ())))), ())))) : Option ((Bool × ByteArray × Int × Int × Unit) × (Unit))).bind fun v96 =>
bif v96.1.1 then (some (.inr (.inl ((false, ()), ()))))
else (some (.inl (((w64 (v96.1.2.2.2.1 + 1)), (v96.1.2.1, (v96.1.2.2.1, ()))), ())))
else none)
else (some (.inr (.inr ((), ()))))

/- pagewatch/label.key -/
def i87 : Abs.Sg := ⟨[0], (.dat .str .nil), .nil⟩

def o87 : Abs.Sg := ⟨[2], (.dat .bool .nil), .nil⟩

def m87 (v : Y18) : Option Y13 :=
((bif (v.1.1.toList == ByteArray.empty.toList) then (some ((true, (v.1.1, ())), ()))
else (bif (decide (((v.1.1.size : Int) : Int) > 24)) then (some ((true, (v.1.1, ())), ()))
else (bif (decide ((0 : Int) ≤ 0 ∧ (0 : Int) < v.1.1.size)) then
let x83 := (decide (((((v.1.1[0]?.getD 0).toNat : Nat) : Int) : Int) < 97))
bif x83 then (some ((true, (v.1.1, ())), ()))
else (bif (decide ((0 : Int) ≤ 0 ∧ (0 : Int) < v.1.1.size)) then
let x84 := (decide (((((v.1.1[0]?.getD 0).toNat : Nat) : Int) : Int) > 122))
some ((x84, (v.1.1, ())), ())
else none)
else none))) : Option ((Bool × ByteArray × Unit) × (Unit))).bind fun v85 =>
bif v85.1.1 then (some ((false, ()), ()))
else ((loopT l87_0_4 ((0, (v85.1.2.1, ((v85.1.2.1.size : Int), ()))), ())).bind fun d97 =>
sumE d97 (fun d98 => (some ((d98.1.1, ()), ()))) (fun d99 => (some ((true, ()), ()))))

def sp87 : Abs.Spec := ⟨0, i87, o87, m87⟩

def an87 : Nat → Abs.FAn
  | 0 => Abs.FAn.mk (fun
    | 7 => some ⟨[47, 0, 23, 24], (.dat .bool (.dat .str (.dat (.int .i64) (.dat (.int .i64) .nil)))), .nil⟩
    | 1 => some ⟨[21, 0], (.dat .bool (.dat .str .nil)), .nil⟩
    | _ => none) (fun _ => none) (fun
    | 4 => some ⟨⟨[24, 0, 23], (.dat (.int .i64) (.dat .str (.dat (.int .i64) .nil))), .nil⟩, (.more .ret ⟨[2], (.dat .bool .nil), .nil⟩ (.one (.exit 0) ⟨[], .nil, .nil⟩))⟩
    | _ => none) (fun _ _ => 0)
  | _ => {}

theorem ok87 : Abs.SpecOK Tryd.prog 87 sp87 :=
  Abs.specOC_of (C := ctab) (mv := mvtab) ctab_ok (n := 12) (an := an87) (T := Abs.tabOf []) good foll (Abs.tabOf_ok _ (fun _ h => by cases h)) rfl (by intro v; kernel_rfl)

def l88_0_2 (v : ((Int × ByteArray × Int × Unit) × (Unit))) : Option (((Int × ByteArray × Int × Unit) × (Unit)) ⊕ (Y13 ⊕ Y18)) :=
bif (decide ((v.1.1 : Int) < v.1.2.2.1)) then (((bif (decide ((0 : Int) ≤ v.1.1 ∧ (v.1.1 : Int) < v.1.2.1.size)) then
let x24 := (decide (((((v.1.2.1[v.1.1.toNat]?.getD 0).toNat : Nat) : Int) : Int) < 32))
bif x24 then (some ((true, (v.1.2.1, (v.1.2.2.1, (v.1.1, ())))), ()))
else (bif (decide ((0 : Int) ≤ v.1.1 ∧ (v.1.1 : Int) < v.1.2.1.size)) then
let x25 := (decide (((((v.1.2.1[v.1.1.toNat]?.getD 0).toNat : Nat) : Int) : Int) > 126))
some ((x25, (v.1.2.1, (v.1.2.2.1, (v.1.1, ())))), ())
else none)
else none) : Option ((Bool × ByteArray × Int × Int × Unit) × (Unit))).bind fun v26 =>
bif v26.1.1 then (some (.inr (.inl ((false, ()), ()))))
else (some (.inl (((w64 (v26.1.2.2.2.1 + 1)), (v26.1.2.1, (v26.1.2.2.1, ()))), ()))))
else (some (.inr (.inr ((v.1.2.1, ()), ()))))

/- pagewatch/label.value -/
def i88 : Abs.Sg := ⟨[0], (.dat .str .nil), .nil⟩

def o88 : Abs.Sg := ⟨[2], (.dat .bool .nil), .nil⟩

def m88 (v : Y18) : Option Y13 :=
(loopT l88_0_2 ((0, (v.1.1, ((v.1.1.size : Int), ()))), ())).bind fun d27 =>
sumE d27 (fun d28 => (some ((d28.1.1, ()), ()))) (fun d29 => (some (((decide (((d29.1.1.size : Int) : Int) ≤ 64)), ()), ())))

def sp88 : Abs.Spec := ⟨0, i88, o88, m88⟩

def an88 : Nat → Abs.FAn
  | 0 => Abs.FAn.mk (fun
    | 4 => some ⟨[18, 0, 5, 6], (.dat .bool (.dat .str (.dat (.int .i64) (.dat (.int .i64) .nil)))), .nil⟩
    | _ => none) (fun _ => none) (fun
    | 2 => some ⟨⟨[6, 0, 5], (.dat (.int .i64) (.dat .str (.dat (.int .i64) .nil))), .nil⟩, (.more .ret ⟨[2], (.dat .bool .nil), .nil⟩ (.one (.exit 0) ⟨[0], (.dat .str .nil), .nil⟩))⟩
    | _ => none) (fun _ _ => 0)
  | _ => {}

theorem ok88 : Abs.SpecOK Tryd.prog 88 sp88 :=
  Abs.specOC_of (C := ctab) (mv := mvtab) ctab_ok (n := 12) (an := an88) (T := Abs.tabOf []) good foll (Abs.tabOf_ok _ (fun _ h => by cases h)) rfl (by intro v; kernel_rfl)

def l42_0_4 (v : ((Int × Y4 × Y4 × Int × Unit) × (Unit))) : Option (((Int × Y4 × Y4 × Int × Unit) × (Unit)) ⊕ (Y13 ⊕ ((Unit) × (Unit)))) :=
bif (decide ((v.1.1 : Int) < v.1.2.2.2.1)) then (Abs.rowAt v.1.2.2.1 v.1.1 fun e36 _ =>
(((m87 ((e36.1, ()), ())).bind fun u37 =>
bif (!u37.1.1) then (some ((true, (v.1.2.1, (v.1.2.2.1, (v.1.2.2.2.1, (v.1.1, ()))))), ()))
else ((m88 ((e36.2.1, ()), ())).bind fun u38 =>
bif (!u38.1.1) then (some ((true, (v.1.2.1, (v.1.2.2.1, (v.1.2.2.2.1, (v.1.1, ()))))), ()))
else (bif (e36.2.1.toList == ByteArray.empty.toList) then (some ((true, (v.1.2.1, (v.1.2.2.1, (v.1.2.2.2.1, (v.1.1, ()))))), ()))
else (bif (decide ((v.1.1 : Int) > 0)) then (Abs.rowAt v.1.2.1 (w64 (v.1.1 - 1)) fun e39 _ =>
some (((Op.bytesLess e36.1.toList e39.1.toList || e36.1.toList == e39.1.toList), (v.1.2.1, (v.1.2.2.1, (v.1.2.2.2.1, (v.1.1, ()))))), ()))
else (some ((false, (v.1.2.1, (v.1.2.2.1, (v.1.2.2.2.1, (v.1.1, ()))))), ())))))) : Option ((Bool × Y4 × Y4 × Int × Int × Unit) × (Unit))).bind fun v40 =>
bif v40.1.1 then (some (.inr (.inl ((false, ()), ()))))
else (some (.inl (((w64 (v40.1.2.2.2.2.1 + 1)), (v40.1.2.1, (v40.1.2.2.1, (v40.1.2.2.2.1, ())))), ()))))
else (some (.inr (.inr ((), ()))))

/- pagewatch/label.Valid -/
def i42 : Abs.Sg := ⟨[0], (.dat (.row Z7) .nil), .nil⟩

def o42 : Abs.Sg := ⟨[2], (.dat .bool .nil), .nil⟩

def m42 (v : ((Y4 × Unit) × (Unit))) : Option Y13 :=
bif (decide (((v.1.1.length : Int) : Int) > 12)) then (some ((false, ()), ()))
else ((loopT l42_0_4 ((0, (v.1.1, (v.1.1, ((v.1.1.length : Int), ())))), ())).bind fun d41 =>
sumE d41 (fun d42 => (some ((d42.1.1, ()), ()))) (fun d43 => (some ((true, ()), ()))))

def sp42 : Abs.Spec := ⟨0, i42, o42, m42⟩

def an42 : Nat → Abs.FAn
  | 0 => Abs.FAn.mk (fun
    | 6 => some ⟨[44, 0, 8, 9, 10], (.dat .bool (.dat (.row Z7) (.dat (.row Z7) (.dat (.int .i64) (.dat (.int .i64) .nil))))), .nil⟩
    | _ => none) (fun _ => none) (fun
    | 4 => some ⟨⟨[10, 0, 8, 9], (.dat (.int .i64) (.dat (.row Z7) (.dat (.row Z7) (.dat (.int .i64) .nil)))), .nil⟩, (.more .ret ⟨[2], (.dat .bool .nil), .nil⟩ (.one (.exit 0) ⟨[], .nil, .nil⟩))⟩
    | _ => none) (fun _ _ => 0)
  | _ => {}

theorem ok42 : Abs.SpecOK Tryd.prog 42 sp42 :=
  Abs.specOC_of (C := ctab) (mv := mvtab) ctab_ok (n := 12) (an := an42) (T := Abs.tabOf [(87, sp87), (88, sp88)]) good foll (Abs.tabOf_ok _ (by simp only [List.forall_mem_cons]; exact ⟨ok87, ok88, fun _ h => by cases h⟩)) rfl (by intro v; kernel_rfl)

/- 97 pagewatch/label.quoted: not told by a law: run where it is called -/

/- 98 strings.Join: not told by a law: run where it is called -/

def l36_0_5 (v : ((Int × Y4 × Int × Unit) × ((List ByteArray) × Unit))) : Option (((Int × Y4 × Int × Unit) × ((List ByteArray) × Unit)) ⊕ ((Unit) × ((List ByteArray) × Unit))) :=
bif (decide ((v.1.1 : Int) < v.1.2.2.1)) then (Abs.rowAt v.1.2.1 v.1.1 fun e21 _ =>
bif (decide (e21.1.size + 1 ≤ 4294967296)) then
bif (decide (e21.2.1.size ≤ 4294967296)) then
bif (decide ((e21.1 ++ (bs [61])).size + (hQuote e21.2.1).size ≤ 4294967296)) then
bif (decide (v.2.1.length + [((e21.1 ++ (bs [61])) ++ (hQuote e21.2.1))].length ≤ 4294967296)) then
let x22 := (v.2.1 ++ [((e21.1 ++ (bs [61])) ++ (hQuote e21.2.1))])
some (.inl (((w64 (v.1.1 + 1)), (v.1.2.1, (v.1.2.2.1, ()))), (x22, ())))
else none
else none
else none
else none)
else (some (.inr ((), (v.2.1, ()))))

/- pagewatch/label.Text -/
def i36 : Abs.Sg := ⟨[0], (.dat (.row Z7) .nil), .nil⟩

def o36 : Abs.Sg := ⟨[2], (.dat .str .nil), .nil⟩

def m36 (v : ((Y4 × Unit) × (Unit))) : Option Y18 :=
(m42 ((v.1.1, ()), ())).bind fun u20 =>
bif (!u20.1.1) then (some ((ByteArray.empty, ()), ()))
else ((loopT l36_0_5 ((0, (v.1.1, ((v.1.1.length : Int), ()))), ([], ()))).bind fun d23 =>
bif (decide (List.length d23.2.1 ≤ 4294967296 ∧ (hJoin d23.2.1 (bs [44])).size ≤ 140737488355328)) then
bif (decide (1 + (hJoin d23.2.1 (bs [44])).size ≤ 4294967296)) then
bif (decide (((bs [123]) ++ (hJoin d23.2.1 (bs [44]))).size + 1 ≤ 4294967296)) then
let x24 := (((bs [123]) ++ (hJoin d23.2.1 (bs [44]))) ++ (bs [125]))
some ((x24, ()), ())
else none
else none
else none)

def sp36 : Abs.Spec := ⟨0, i36, o36, m36⟩

def an36 : Nat → Abs.FAn
  | 0 => Abs.FAn.mk (fun _ => none) (fun _ => none) (fun
    | 5 => some ⟨⟨[11, 3, 9, 10], (.dat (.int .i64) (.st (.own .str (0, 0)) (.dat (.row Z7) (.dat (.int .i64) .nil)))), (.arr .str false .nil)⟩, (.one (.exit 0) ⟨[3], (.st (.own .str (0, 0)) .nil), (.arr .str false .nil)⟩)⟩
    | _ => none) (fun _ _ => 0)
  | _ => {}

theorem ok36 : Abs.SpecOK Tryd.prog 36 sp36 :=
  Abs.specOC_of (C := ctab) (mv := mvtab) ctab_ok (n := 12) (an := an36) (T := Abs.tabOf [(42, sp42)]) good foll (Abs.tabOf_ok _ (by simp only [List.forall_mem_cons]; exact ⟨ok42, fun _ h => by cases h⟩)) rfl (by intro v; kernel_rfl)

/- internal/stringslite.HasPrefix -/
def i156 : Abs.Sg := ⟨[0, 1], (.dat .str (.dat .str .nil)), .nil⟩

def o156 : Abs.Sg := ⟨[4], (.dat .bool .nil), .nil⟩

def m156 (v : (Y15 × (Unit))) : Option Y13 :=
((let x3 := (decide (((v.1.1.size : Int) : Int) ≥ (v.1.2.1.size : Int)))
bif x3 then (bif (decide ((0 : Int) ≤ (v.1.2.1.size : Int))) then
bif (decide (0 ≤ (v.1.2.1.size : Int).toNat ∧ (v.1.2.1.size : Int).toNat ≤ v.1.1.size)) then
some ((((v.1.1.extract 0 (v.1.2.1.size : Int).toNat).toList == v.1.2.1.toList), ()), ())
else none
else none)
else (some ((false, ()), ()))) : Option Y13).bind fun v4 =>
some ((v4.1.1, ()), ())

def sp156 : Abs.Spec := ⟨0, i156, o156, m156⟩

def an156 : Nat → Abs.FAn
  | 0 => Abs.FAn.mk (fun
    | 1 => some ⟨[4], (.dat .bool .nil), .nil⟩
    | _ => none) (fun _ => none) (fun _ => none) (fun _ _ => 0)
  | _ => {}

theorem ok156 : Abs.SpecOK Tryd.prog 156 sp156 :=
  Abs.specOC_of (C := ctab) (mv := mvtab) ctab_ok (n := 12) (an := an156) (T := Abs.tabOf []) good foll (Abs.tabOf_ok _ (fun _ h => by cases h)) rfl (by intro v; kernel_rfl)

/- internal/stringslite.CutPrefix -/
def i138 : Abs.Sg := ⟨[0, 1], (.dat .str (.dat .str .nil)), .nil⟩

def o138 : Abs.Sg := ⟨[4, 5], (.dat .str (.dat .bool .nil)), .nil⟩

def m138 (v : (Y15 × (Unit))) : Option ((ByteArray × Bool × Unit) × (Unit)) :=
(m156 ((v.1.1, (v.1.2.1, ())), ())).bind fun u6 =>
bif (!u6.1.1) then (some ((v.1.1, (false, ())), ()))
else (bif (decide ((0 : Int) ≤ (v.1.2.1.size : Int))) then
bif (decide ((v.1.2.1.size : Int).toNat ≤ v.1.1.size ∧ v.1.1.size ≤ v.1.1.size)) then
let x7 := (v.1.1.extract (v.1.2.1.size : Int).toNat v.1.1.size)
some ((x7, (true, ())), ())
else none
else none)

def sp138 : Abs.Spec := ⟨0, i138, o138, m138⟩

def an138 : Nat → Abs.FAn
  | _ => {}

theorem ok138 : Abs.SpecOK Tryd.prog 138 sp138 :=
  Abs.specOC_of (C := ctab) (mv := mvtab) ctab_ok (n := 12) (an := an138) (T := Abs.tabOf [(156, sp156)]) good foll (Abs.tabOf_ok _ (by simp only [List.forall_mem_cons]; exact ⟨ok156, fun _ h => by cases h⟩)) rfl (by intro v; kernel_rfl)

/- strings.CutPrefix -/
def i103 : Abs.Sg := ⟨[0, 1], (.dat .str (.dat .str .nil)), .nil⟩

def o103 : Abs.Sg := ⟨[4, 5], (.dat .str (.dat .bool .nil)), .nil⟩

def m103 (v : (Y15 × (Unit))) : Option ((ByteArray × Bool × Unit) × (Unit)) :=
(m138 ((v.1.1, (v.1.2.1, ())), ())).bind fun u2 =>
some ((u2.1.1, (u2.1.2.1, ())), ())

def sp103 : Abs.Spec := ⟨0, i103, o103, m103⟩

def an103 : Nat → Abs.FAn
  | _ => {}

theorem ok103 : Abs.SpecOK Tryd.prog 103 sp103 :=
  Abs.specOC_of (C := ctab) (mv := mvtab) ctab_ok (n := 12) (an := an103) (T := Abs.tabOf [(138, sp138)]) good foll (Abs.tabOf_ok _ (by simp only [List.forall_mem_cons]; exact ⟨ok138, fun _ h => by cases h⟩)) rfl (by intro v; kernel_rfl)

/- internal/stringslite.TrimPrefix -/
def i136 : Abs.Sg := ⟨[0, 1], (.dat .str (.dat .str .nil)), .nil⟩

def o136 : Abs.Sg := ⟨[4], (.dat .str .nil), .nil⟩

def m136 (v : (Y15 × (Unit))) : Option Y18 :=
(m156 ((v.1.1, (v.1.2.1, ())), ())).bind fun u7 =>
bif u7.1.1 then (bif (decide ((0 : Int) ≤ (v.1.2.1.size : Int))) then
bif (decide ((v.1.2.1.size : Int).toNat ≤ v.1.1.size ∧ v.1.1.size ≤ v.1.1.size)) then
let x8 := (v.1.1.extract (v.1.2.1.size : Int).toNat v.1.1.size)
some ((x8, ()), ())
else none
else none)
else (some ((v.1.1, ()), ()))

def sp136 : Abs.Spec := ⟨0, i136, o136, m136⟩

def an136 : Nat → Abs.FAn
  | _ => {}

theorem ok136 : Abs.SpecOK Tryd.prog 136 sp136 :=
  Abs.specOC_of (C := ctab) (mv := mvtab) ctab_ok (n := 12) (an := an136) (T := Abs.tabOf [(156, sp156)]) good foll (Abs.tabOf_ok _ (by simp only [List.forall_mem_cons]; exact ⟨ok156, fun _ h => by cases h⟩)) rfl (by intro v; kernel_rfl)

/- strings.TrimPrefix -/
def i101 : Abs.Sg := ⟨[0, 1], (.dat .str (.dat .str .nil)), .nil⟩

def o101 : Abs.Sg := ⟨[4], (.dat .str .nil), .nil⟩

def m101 (v : (Y15 × (Unit))) : Option Y18 :=
(m136 ((v.1.1, (v.1.2.1, ())), ())).bind fun u2 =>
some ((u2.1.1, ()), ())

def sp101 : Abs.Spec := ⟨0, i101, o101, m101⟩

def an101 : Nat → Abs.FAn
  | _ => {}

theorem ok101 : Abs.SpecOK Tryd.prog 101 sp101 :=
  Abs.specOC_of (C := ctab) (mv := mvtab) ctab_ok (n := 12) (an := an101) (T := Abs.tabOf [(136, sp136)]) good foll (Abs.tabOf_ok _ (by simp only [List.forall_mem_cons]; exact ⟨ok136, fun _ h => by cases h⟩)) rfl (by intro v; kernel_rfl)

/- 168 internal/stringslite.IndexByte: not told by a law: run where it is called -/

/- 166 internal/bytealg.Cutover: not told by a law: run where it is called -/

/- 169 internal/bytealg.IndexRabinKarp[string]: not told by a law: run where it is called -/

/- internal/stringslite.Index -/
def i157 : Abs.Sg := ⟨[0, 1], (.dat .str (.dat .str .nil)), .nil⟩

def o157 : Abs.Sg := ⟨[4], (.dat (.int .i64) .nil), .nil⟩

def m157 (v : (Y15 × (Unit))) : Option ((Int × Unit) × (Unit)) :=
((bif (((v.1.2.1.size : Int) : Int) == 0) then (some ((true, (v.1.2.1, (v.1.1, ((v.1.2.1.size : Int), ())))), ()))
else (some (((v.1.2.1.toList == v.1.1.toList), (v.1.2.1, (v.1.1, ((v.1.2.1.size : Int), ())))), ()))) : Option ((Bool × ByteArray × ByteArray × Int × Unit) × (Unit))).bind fun v7 =>
bif v7.1.1 then (some ((0, ()), ()))
else (bif ((v7.1.2.2.2.1 : Int) == 1) then (bif (decide ((0 : Int) ≤ 0 ∧ (0 : Int) < v7.1.2.1.size)) then
some (((hIdx v7.1.2.2.1 (((v7.1.2.1[0]?.getD 0).toNat : Nat) : Int)), ()), ())
else none)
else (let x8 := (decide ((v7.1.2.2.2.1 : Int) ≥ (v7.1.2.2.1.size : Int)))
bif x8 then (some (((-1), ()), ()))
else (none)))

def sp157 : Abs.Spec := ⟨0, i157, o157, m157⟩

def an157 : Nat → Abs.FAn
  | 0 => Abs.FAn.mk (fun
    | 2 => some ⟨[16, 1, 0, 5], (.dat .bool (.dat .str (.dat .str (.dat (.int .i64) .nil)))), .nil⟩
    | _ => none) (fun _ => none) (fun _ => none) (fun _ _ => 0)
  | _ => {}

theorem ok157 : Abs.SpecOK Tryd.prog 157 sp157 :=
  Abs.specOC_of (C := ctab) (mv := mvtab) ctab_ok (n := 12) (an := an157) (T := Abs.tabOf []) good foll (Abs.tabOf_ok _ (fun _ h => by cases h)) rfl (by intro v; kernel_rfl)

/- warnings: load: pointer ? -/

/- internal/stringslite.Cut -/
def i139 : Abs.Sg := ⟨[0, 1], (.dat .str (.dat .str .nil)), .nil⟩

def o139 : Abs.Sg := ⟨[4, 5, 6], (.dat .str (.dat .str (.dat .bool .nil))), .nil⟩

def m139 (v : (Y15 × (Unit))) : Option ((ByteArray × ByteArray × Bool × Unit) × (Unit)) :=
(m157 ((v.1.1, (v.1.2.1, ())), ())).bind fun u7 =>
bif (decide ((u7.1.1 : Int) ≥ 0)) then (bif (decide ((0 : Int) ≤ u7.1.1)) then
bif (decide (0 ≤ u7.1.1.toNat ∧ u7.1.1.toNat ≤ v.1.1.size)) then
bif (decide ((0 : Int) ≤ (w64 (u7.1.1 + (v.1.2.1.size : Int))))) then
bif (decide ((w64 (u7.1.1 + (v.1.2.1.size : Int))).toNat ≤ v.1.1.size ∧ v.1.1.size ≤ v.1.1.size)) then
let x8 := (v.1.1.extract (w64 (u7.1.1 + (v.1.2.1.size : Int))).toNat v.1.1.size)
some (((v.1.1.extract 0 u7.1.1.toNat), (x8, (true, ()))), ())
else none
else none
else none
else none)
else (some ((v.1.1, (ByteArray.empty, (false, ()))), ()))

def sp139 : Abs.Spec := ⟨0, i139, o139, m139⟩

def an139 : Nat → Abs.FAn
  | _ => {}

theorem ok139 : Abs.SpecOK Tryd.prog 139 sp139 :=
  Abs.specOC_of (C := ctab) (mv := mvtab) ctab_ok (n := 12) (an := an139) (T := Abs.tabOf [(157, sp157)]) good foll (Abs.tabOf_ok _ (by simp only [List.forall_mem_cons]; exact ⟨ok157, fun _ h => by cases h⟩)) rfl (by intro v; kernel_rfl)

/- strings.Cut -/
def i104 : Abs.Sg := ⟨[0, 1], (.dat .str (.dat .str .nil)), .nil⟩

def o104 : Abs.Sg := ⟨[4, 5, 6], (.dat .str (.dat .str (.dat .bool .nil))), .nil⟩

def m104 (v : (Y15 × (Unit))) : Option ((ByteArray × ByteArray × Bool × Unit) × (Unit)) :=
(m139 ((v.1.1, (v.1.2.1, ())), ())).bind fun u2 =>
some ((u2.1.1, (u2.1.2.1, (u2.1.2.2.1, ()))), ())

def sp104 : Abs.Spec := ⟨0, i104, o104, m104⟩

def an104 : Nat → Abs.FAn
  | _ => {}

theorem ok104 : Abs.SpecOK Tryd.prog 104 sp104 :=
  Abs.specOC_of (C := ctab) (mv := mvtab) ctab_ok (n := 12) (an := an104) (T := Abs.tabOf [(139, sp139)]) good foll (Abs.tabOf_ok _ (by simp only [List.forall_mem_cons]; exact ⟨ok139, fun _ h => by cases h⟩)) rfl (by intro v; kernel_rfl)

/- 105 pagewatch/label.unquoted: not told by a law: run where it is called -/

def l35_0_3 (v : ((ByteArray × ByteArray × Bool × Unit) × (Y4 × Unit))) : Option (((ByteArray × ByteArray × Bool × Unit) × (Y4 × Unit)) ⊕ ((ByteArray × Bool × Unit) × (Y4 × Unit))) :=
((bif v.1.2.2.1 then (bif (!(v.1.1.toList == (bs [125]).toList)) then (some (((!(v.1.1.toList == ByteArray.empty.toList)), (v.1.2.1, (v.1.1, (v.1.2.2.1, ())))), (v.2.1, ())))
else (some ((false, (v.1.2.1, (v.1.1, (v.1.2.2.1, ())))), (v.2.1, ()))))
else (some ((false, (v.1.2.1, (v.1.1, (v.1.2.2.1, ())))), (v.2.1, ())))) : Option ((Bool × ByteArray × ByteArray × Bool × Unit) × (Y4 × Unit))).bind fun v37 =>
bif v37.1.1 then ((((m101 ((v37.1.2.2.1, ((bs [44]), ())), ())).bind fun u38 =>
(m104 ((u38.1.1, ((bs [61]), ())), ())).bind fun u39 =>
bif u39.1.2.2.1 then (bif (decide (u39.1.2.1.size ≤ 4294967296)) then
some (((hUnq u39.1.2.1).2.1, (v37.1.2.1, ((hUnq u39.1.2.1).2.2, ()))), (((u39.1.1, ((hUnq u39.1.2.1).1, ())), ()), (v37.2.1, ())))
else none)
else (some ((u39.1.2.1, (v37.1.2.1, (u39.1.2.2.1, ()))), (((u39.1.1, (ByteArray.empty, ())), ()), (v37.2.1, ()))))) : Option ((ByteArray × ByteArray × Bool × Unit) × ((Y15 × Unit) × Y4 × Unit))).bind fun v40 =>
bif (decide (v40.2.2.1.length + ([v40.2.1.1] : List Y15).length ≤ 4294967296)) then
let x41 := (v40.2.2.1 ++ ([v40.2.1.1] : List Y15))
some (.inl ((v40.1.1, (v40.1.2.1, (v40.1.2.2.1, ()))), (x41, ())))
else none)
else (some (.inr ((v37.1.2.1, (v37.1.2.2.2.1, ())), (v37.2.1, ()))))

/- pagewatch/label.Parse -/
def i35 : Abs.Sg := ⟨[0], (.dat .str .nil), .nil⟩

def o35 : Abs.Sg := ⟨[2, 3], (.st (.own Z7 (0, 0)) (.dat (.int .i64) .nil)), (.arr Z7 false .nil)⟩

def m35 (v : Y18) : Option ((Int × Unit) × (Y4 × Unit)) :=
(m103 ((v.1.1, ((bs [123]), ())), ())).bind fun u36 =>
(loopT l35_0_3 ((u36.1.1, (v.1.1, (u36.1.2.1, ()))), ([], ()))).bind fun d42 =>
((bif (!d42.1.2.1) then (some ((true, ()), (d42.2.1, ())))
else ((m36 ((d42.2.1, ()), ())).bind fun u43 =>
bif (!(u43.1.1.toList == d42.1.1.toList)) then (some ((true, ()), (d42.2.1, ())))
else (some (((d42.1.1.toList == ByteArray.empty.toList), ()), (d42.2.1, ()))))) : Option ((Bool × Unit) × (Y4 × Unit))).bind fun v44 =>
bif v44.1.1 then (some ((2, ()), ([], ())))
else (some ((0, ()), (v44.2.1, ())))

def sp35 : Abs.Spec := ⟨0, i35, o35, m35⟩

def an35 : Nat → Abs.FAn
  | 0 => Abs.FAn.mk (fun
    | 9 => some ⟨[53, 6], (.dat .bool (.st (.own Z7 (0, 0)) .nil)), (.arr Z7 false .nil)⟩
    | 3 => some ⟨[21, 0, 6, 4, 5], (.dat .bool (.dat .str (.st (.own Z7 (0, 0)) (.dat .str (.dat .bool .nil))))), (.arr Z7 false .nil)⟩
    | _ => none) (fun
    | 8 => some (⟨[4, 0, 5, 7, 6], (.dat .str (.dat .str (.dat .bool (.st (.ptr (0, 0) 2 0 0) (.st (.own Z7 (1, 0)) .nil))))), (.box 2 (.dat Z7 .nil) (.arr Z7 false .nil))⟩, none)
    | _ => none) (fun
    | 3 => some ⟨⟨[6, 4, 0, 5], (.st (.own Z7 (0, 0)) (.dat .str (.dat .str (.dat .bool .nil)))), (.arr Z7 false .nil)⟩, (.one (.exit 0) ⟨[6, 0, 5], (.st (.own Z7 (0, 0)) (.dat .str (.dat .bool .nil))), (.arr Z7 false .nil)⟩)⟩
    | _ => none) (fun _ _ => 0)
  | _ => {}

theorem ok35 : Abs.SpecOK Tryd.prog 35 sp35 :=
  Abs.specOC_of (C := ctab) (mv := mvtab) ctab_ok (n := 12) (an := an35) (T := Abs.tabOf [(103, sp103), (101, sp101), (104, sp104), (36, sp36)]) good foll (Abs.tabOf_ok _ (by simp only [List.forall_mem_cons]; exact ⟨ok103, ok101, ok104, ok36, fun _ h => by cases h⟩)) rfl (by intro v; kernel_rfl)

/- 135 strings.IndexAny: not told by a law: run where it is called -/

/- pagewatch/label.operators -/
def i96 : Abs.Sg := ⟨[], .nil, .nil⟩

def o96 : Abs.Sg := ⟨[0], (.st (.ptr (0, 0) 4 0 0) .nil), (.box 4 (.dat (.cons .str (.cons .str Z7)) .nil) .nil)⟩

def m96 (v : ((Unit) × (Unit))) : Option ((Unit) × (((ByteArray × ByteArray × ByteArray × ByteArray × Unit) × Unit) × Unit)) :=
some ((), ((((bs [61]), ((bs [33, 61]), ((bs [126]), ((bs [33, 126]), ())))), ()), ()))

def sp96 : Abs.Spec := ⟨0, i96, o96, m96⟩

def an96 : Nat → Abs.FAn
  | _ => {}

theorem ok96 : Abs.SpecOK Tryd.prog 96 sp96 :=
  Abs.specOC_of (C := ctab) (mv := mvtab) ctab_ok (n := 12) (an := an96) (T := Abs.tabOf []) good foll (Abs.tabOf_ok _ (fun _ h => by cases h)) rfl (by intro v; kernel_rfl)

def l100_0_7 (v : ((Int × ByteArray × (ByteArray × ByteArray × ByteArray × ByteArray × Unit) × Unit) × ((Y12 × Unit) × (Y12 × Unit) × Unit))) : Option (((Int × ByteArray × (ByteArray × ByteArray × ByteArray × ByteArray × Unit) × Unit) × ((Y12 × Unit) × (Y12 × Unit) × Unit)) ⊕ ((ByteArray × Unit) × ((Y12 × Unit) × (Y12 × Unit) × Unit))) :=
bif (decide ((v.1.1 : Int) < 4)) then (Abs.rowAt ([v.1.2.2.1.1, v.1.2.2.1.2.1, v.1.2.2.1.2.2.1, v.1.2.2.1.2.2.2.1] : List ByteArray) v.1.1 fun e34 _ =>
(m103 ((v.1.2.1, (e34, ())), ())).bind fun u35 =>
bif u35.1.2.1 then (some (.inr ((u35.1.1, ()), ((v.2.1.1, ()), (((v.2.2.1.1.1, (v.1.1, v.2.2.1.1.2.2)), ()), ())))))
else (some (.inl (((w64 (v.1.1 + 1)), (v.1.2.1, (v.1.2.2.1, ()))), ((v.2.1.1, ()), ((v.2.2.1.1, ()), ()))))))
else (some (.inr ((v.1.2.1, ()), ((v.2.1.1, ()), ((v.2.2.1.1, ()), ())))))

/- pagewatch/label.matcher -/
def i100 : Abs.Sg := ⟨[0], (.dat .str .nil), .nil⟩

def o100 : Abs.Sg := ⟨[2, 3, 4], (.st (.ptr (0, 0) 3 0 0) (.dat .str (.dat .bool .nil))), (.box 3 (.dat Z5 .nil) .nil)⟩

def m100 (v : Y18) : Option ((ByteArray × Bool × Unit) × ((Y12 × Unit) × Unit)) :=
bif (isAsc v.1.1 && isAsc (bs [61, 33, 126]) && decide (v.1.1.size < 4294967281 ∧ (bs [61, 33, 126]).size < 4294967281)) then
let x30 := (decide (((hAny v.1.1 (bs [61, 33, 126])) : Int) < 0))
bif x30 then (some ((ByteArray.empty, (false, ())), (((ByteArray.empty, (0, (ByteArray.empty, ()))), ()), ())))
else (bif (decide ((0 : Int) ≤ (hAny v.1.1 (bs [61, 33, 126])))) then
bif (decide (0 ≤ (hAny v.1.1 (bs [61, 33, 126])).toNat ∧ (hAny v.1.1 (bs [61, 33, 126])).toNat ≤ v.1.1.size)) then
let x31 := (v.1.1.extract 0 (hAny v.1.1 (bs [61, 33, 126])).toNat)
bif (decide ((0 : Int) ≤ (hAny v.1.1 (bs [61, 33, 126])))) then
bif (decide ((hAny v.1.1 (bs [61, 33, 126])).toNat ≤ v.1.1.size ∧ v.1.1.size ≤ v.1.1.size)) then
let x32 := (v.1.1.extract (hAny v.1.1 (bs [61, 33, 126])).toNat v.1.1.size)
(m96 ((), ())).bind fun u33 =>
(loopT l100_0_7 ((0, (x32, (u33.2.1.1, ()))), (((ByteArray.empty, (0, (ByteArray.empty, ()))), ()), (((x31, ((-1), (ByteArray.empty, ()))), ()), ())))).bind fun d36 =>
bif (decide (d36.1.1.size ≤ 4294967296)) then
some (((hUnq d36.1.1).2.1, ((hUnq d36.1.1).2.2, ())), (((d36.2.2.1.1.1, (d36.2.2.1.1.2.1, ((hUnq d36.1.1).1, ()))), ()), ()))
else none
else none
else none
else none
else none)
else none

def sp100 : Abs.Spec := ⟨0, i100, o100, m100⟩

def an100 : Nat → Abs.FAn
  | 0 => Abs.FAn.mk (fun _ => none) (fun _ => none) (fun
    | 7 => some ⟨⟨[2, 6, 27, 0, 26], (.st (.ptr (0, 0) 3 0 0) (.st (.ptr (1, 0) 3 0 0) (.dat (.int .i64) (.dat .str (.dat (.cons .str (.cons .str Z7)) .nil))))), (.box 3 (.dat Z5 .nil) (.box 3 (.dat Z5 .nil) .nil))⟩, (.one (.exit 0) ⟨[2, 6, 0], (.st (.ptr (0, 0) 3 0 0) (.st (.ptr (1, 0) 3 0 0) (.dat .str .nil))), (.box 3 (.dat Z5 .nil) (.box 3 (.dat Z5 .nil) .nil))⟩)⟩
    | _ => none) (fun _ _ => 0)
  | _ => {}

theorem ok100 : Abs.SpecOK Tryd.prog 100 sp100 :=
  Abs.specOC_of (C := ctab) (mv := mvtab) ctab_ok (n := 12) (an := an100) (T := Abs.tabOf [(96, sp96), (103, sp103)]) good foll (Abs.tabOf_ok _ (by simp only [List.forall_mem_cons]; exact ⟨ok96, ok103, fun _ h => by cases h⟩)) rfl (by intro v; kernel_rfl)

/- 130 slices.IndexFunc[[]pagewatch/api.Matcher,pagewatch/api.Matcher]: not told by a law: a parameter -/

/- 94 slices.ContainsFunc[[]pagewatch/api.Matcher,pagewatch/api.Matcher]: not told by a law: a parameter -/

/- pagewatch/label.Right -/
def i22 : Abs.Sg := ⟨[0], (.dat Z5 .nil), .nil⟩

def o22 : Abs.Sg := ⟨[2], (.dat .bool .nil), .nil⟩

def m22 (v : ((Y12 × Unit) × (Unit))) : Option Y13 :=
(((m87 ((v.1.1.1, ()), ())).bind fun u5 =>
bif u5.1.1 then (bif (decide ((v.1.1.2.1 : Int) ≥ 0)) then (bif (decide ((v.1.1.2.1 : Int) ≤ 3)) then ((m88 ((v.1.1.2.2.1, ()), ())).bind fun u6 =>
some ((u6.1.1, ()), ()))
else (some ((false, ()), ())))
else (some ((false, ()), ())))
else (some ((false, ()), ()))) : Option Y13).bind fun v7 =>
some ((v7.1.1, ()), ())

def sp22 : Abs.Spec := ⟨0, i22, o22, m22⟩

def an22 : Nat → Abs.FAn
  | 0 => Abs.FAn.mk (fun
    | 1 => some ⟨[2], (.dat .bool .nil), .nil⟩
    | _ => none) (fun _ => none) (fun _ => none) (fun _ _ => 0)
  | _ => {}

theorem ok22 : Abs.SpecOK Tryd.prog 22 sp22 :=
  Abs.specOC_of (C := ctab) (mv := mvtab) ctab_ok (n := 12) (an := an22) (T := Abs.tabOf [(87, sp87), (88, sp88)]) good foll (Abs.tabOf_ok _ (by simp only [List.forall_mem_cons]; exact ⟨ok87, ok88, fun _ h => by cases h⟩)) rfl (by intro v; kernel_rfl)

/- pagewatch/label.Format$1 -/
def i95 : Abs.Sg := ⟨[0], (.dat Z5 .nil), .nil⟩

def o95 : Abs.Sg := ⟨[2], (.dat .bool .nil), .nil⟩

def m95 (v : ((Y12 × Unit) × (Unit))) : Option Y13 :=
(m22 ((v.1.1, ()), ())).bind fun u2 =>
some (((!u2.1.1), ()), ())

def sp95 : Abs.Spec := ⟨0, i95, o95, m95⟩

def an95 : Nat → Abs.FAn
  | _ => {}

theorem ok95 : Abs.SpecOK Tryd.prog 95 sp95 :=
  Abs.specOC_of (C := ctab) (mv := mvtab) ctab_ok (n := 12) (an := an95) (T := Abs.tabOf [(22, sp22)]) good foll (Abs.tabOf_ok _ (by simp only [List.forall_mem_cons]; exact ⟨ok22, fun _ h => by cases h⟩)) rfl (by intro v; kernel_rfl)

def l29_2_2 (v : ((Int × Y3 × Int × Unit) × (Unit))) : Option (((Int × Y3 × Int × Unit) × (Unit)) ⊕ (((Int × Unit) × (Unit)) ⊕ ((Unit) × (Unit)))) :=
bif (decide ((v.1.1 : Int) < v.1.2.2.1)) then (Abs.rowAt v.1.2.1 v.1.1 fun e70 _ =>
(m95 ((e70, ()), ())).bind fun u71 =>
bif u71.1.1 then (some (.inr (.inl ((v.1.1, ()), ()))))
else (some (.inl (((w64 (v.1.1 + 1)), (v.1.2.1, (v.1.2.2.1, ()))), ()))))
else (some (.inr (.inr ((), ()))))

def l29_0_5 (v : ((Int × Y3 × Int × Unit) × ((List ByteArray) × Unit))) : Option (((Int × Y3 × Int × Unit) × ((List ByteArray) × Unit)) ⊕ ((Unit) × ((List ByteArray) × Unit))) :=
bif (decide ((v.1.1 : Int) < v.1.2.2.1)) then (Abs.rowAt v.1.2.1 v.1.1 fun e77 _ =>
(m96 ((), ())).bind fun u78 =>
Abs.rowAt ([u78.2.1.1.1, u78.2.1.1.2.1, u78.2.1.1.2.2.1, u78.2.1.1.2.2.2.1] : List ByteArray) e77.2.1 fun e79 _ =>
bif (decide (e77.1.size + e79.size ≤ 4294967296)) then
bif (decide (e77.2.2.1.size ≤ 4294967296)) then
bif (decide ((e77.1 ++ e79).size + (hQuote e77.2.2.1).size ≤ 4294967296)) then
bif (decide (v.2.1.length + [((e77.1 ++ e79) ++ (hQuote e77.2.2.1))].length ≤ 4294967296)) then
let x80 := (v.2.1 ++ [((e77.1 ++ e79) ++ (hQuote e77.2.2.1))])
some (.inl (((w64 (v.1.1 + 1)), (v.1.2.1, (v.1.2.2.1, ()))), (x80, ())))
else none
else none
else none
else none)
else (some (.inr ((), (v.2.1, ()))))

/- pagewatch/label.Format -/
def i29 : Abs.Sg := ⟨[0], (.dat (.row Z5) .nil), .nil⟩

def o29 : Abs.Sg := ⟨[2], (.dat .str .nil), .nil⟩

def m29 (v : ((Y3 × Unit) × (Unit))) : Option Y18 :=
((bif (decide (((v.1.1.length : Int) : Int) > 8)) then (some ((true, (v.1.1, ())), ()))
else ((((loopT l29_2_2 ((0, (v.1.1, ((v.1.1.length : Int), ()))), ())).bind fun d72 =>
sumE d72 (fun d73 => (some (((decide ((d73.1.1 : Int) ≥ 0)), ()), ()))) (fun d74 => (some ((false, ()), ())))) : Option Y13).bind fun v75 =>
some ((v75.1.1, (v.1.1, ())), ()))) : Option ((Bool × Y3 × Unit) × (Unit))).bind fun v76 =>
bif v76.1.1 then (some ((ByteArray.empty, ()), ()))
else ((loopT l29_0_5 ((0, (v76.1.2.1, ((v76.1.2.1.length : Int), ()))), ([], ()))).bind fun d81 =>
bif (decide (List.length d81.2.1 ≤ 4294967296 ∧ (hJoin d81.2.1 (bs [44])).size ≤ 140737488355328)) then
some (((hJoin d81.2.1 (bs [44])), ()), ())
else none)

def sp29 : Abs.Spec := ⟨0, i29, o29, m29⟩

def an29 : Nat → Abs.FAn
  | 0 => Abs.FAn.mk (fun
    | 1 => some ⟨[12, 0], (.dat .bool (.dat (.row Z5) .nil)), .nil⟩
    | _ => none) (fun _ => none) (fun
    | 5 => some ⟨⟨[15, 3, 13, 14], (.dat (.int .i64) (.st (.own .str (0, 0)) (.dat (.row Z5) (.dat (.int .i64) .nil)))), (.arr .str false .nil)⟩, (.one (.exit 0) ⟨[3], (.st (.own .str (0, 0)) .nil), (.arr .str false .nil)⟩)⟩
    | _ => none) (fun
    | 1, 5 => 1
    | _, _ => 0)
  | 1 => Abs.FAn.mk (fun
    | 1 => some ⟨[4], (.dat .bool .nil), .nil⟩
    | _ => none) (fun _ => none) (fun _ => none) (fun
    | 1, 2 => 2
    | _, _ => 0)
  | 2 => Abs.FAn.mk (fun _ => none) (fun _ => none) (fun
    | 2 => some ⟨⟨[8, 0, 1, 7], (.dat (.int .i64) (.dat (.row Z5) (.st (.clo 95 []) (.dat (.int .i64) .nil)))), .nil⟩, (.more .ret ⟨[4], (.dat (.int .i64) .nil), .nil⟩ (.one (.exit 0) ⟨[], .nil, .nil⟩))⟩
    | _ => none) (fun _ _ => 0)
  | _ => {}

theorem ok29 : Abs.SpecOK Tryd.prog 29 sp29 :=
  Abs.specOC_of (C := ctab) (mv := mvtab) ctab_ok (n := 12) (an := an29) (T := Abs.tabOf [(95, sp95), (96, sp96)]) good foll (Abs.tabOf_ok _ (by simp only [List.forall_mem_cons]; exact ⟨ok95, ok96, fun _ h => by cases h⟩)) rfl (by intro v; kernel_rfl)

def l32_0_3 (v : ((ByteArray × ByteArray × Bool × Unit) × (Y3 × Unit))) : Option (((ByteArray × ByteArray × Bool × Unit) × (Y3 × Unit)) ⊕ ((ByteArray × Bool × Unit) × (Y3 × Unit))) :=
((bif v.1.2.2.1 then (some (((!(v.1.1.toList == ByteArray.empty.toList)), (v.1.2.1, (v.1.1, (v.1.2.2.1, ())))), (v.2.1, ())))
else (some ((false, (v.1.2.1, (v.1.1, (v.1.2.2.1, ())))), (v.2.1, ())))) : Option ((Bool × ByteArray × ByteArray × Bool × Unit) × (Y3 × Unit))).bind fun v28 =>
bif v28.1.1 then ((m101 ((v28.1.2.2.1, ((bs [44]), ())), ())).bind fun u29 =>
(m100 ((u29.1.1, ()), ())).bind fun u30 =>
bif (decide (v28.2.1.length + ([u30.2.1.1] : List Y12).length ≤ 4294967296)) then
let x31 := (v28.2.1 ++ ([u30.2.1.1] : List Y12))
some (.inl ((u30.1.1, (v28.1.2.1, (u30.1.2.1, ()))), (x31, ())))
else none)
else (some (.inr ((v28.1.2.1, (v28.1.2.2.2.1, ())), (v28.2.1, ()))))

/- pagewatch/label.Matchers -/
def i32 : Abs.Sg := ⟨[0], (.dat .str .nil), .nil⟩

def o32 : Abs.Sg := ⟨[2, 3], (.st (.own Z5 (0, 0)) (.dat (.int .i64) .nil)), (.arr Z5 false .nil)⟩

def m32 (v : Y18) : Option ((Int × Unit) × (Y3 × Unit)) :=
(loopT l32_0_3 ((v.1.1, (v.1.1, (true, ()))), ([], ()))).bind fun d32 =>
((bif (!d32.1.2.1) then (some ((true, ()), (d32.2.1, ())))
else ((m29 ((d32.2.1, ()), ())).bind fun u33 =>
some (((!(u33.1.1.toList == d32.1.1.toList)), ()), (d32.2.1, ())))) : Option ((Bool × Unit) × (Y3 × Unit))).bind fun v34 =>
bif v34.1.1 then (some ((2, ()), ([], ())))
else (some ((0, ()), (v34.2.1, ())))

def sp32 : Abs.Spec := ⟨0, i32, o32, m32⟩

def an32 : Nat → Abs.FAn
  | 0 => Abs.FAn.mk (fun
    | 7 => some ⟨[32, 4], (.dat .bool (.st (.own Z5 (0, 0)) .nil)), (.arr Z5 false .nil)⟩
    | 3 => some ⟨[13, 0, 4, 5, 6], (.dat .bool (.dat .str (.st (.own Z5 (0, 0)) (.dat .str (.dat .bool .nil))))), (.arr Z5 false .nil)⟩
    | _ => none) (fun _ => none) (fun
    | 3 => some ⟨⟨[4, 5, 0, 6], (.st (.own Z5 (0, 0)) (.dat .str (.dat .str (.dat .bool .nil)))), (.arr Z5 false .nil)⟩, (.one (.exit 0) ⟨[4, 0, 6], (.st (.own Z5 (0, 0)) (.dat .str (.dat .bool .nil))), (.arr Z5 false .nil)⟩)⟩
    | _ => none) (fun _ _ => 0)
  | _ => {}

theorem ok32 : Abs.SpecOK Tryd.prog 32 sp32 :=
  Abs.specOC_of (C := ctab) (mv := mvtab) ctab_ok (n := 12) (an := an32) (T := Abs.tabOf [(101, sp101), (100, sp100), (29, sp29)]) good foll (Abs.tabOf_ok _ (by simp only [List.forall_mem_cons]; exact ⟨ok101, ok100, ok29, fun _ h => by cases h⟩)) rfl (by intro v; kernel_rfl)

def l37_0_4 (v : ((Int × Y4 × Y4 × Int × Unit) × (Unit))) : Option (((Int × Y4 × Y4 × Int × Unit) × (Unit)) ⊕ (Y13 ⊕ ((Unit) × (Unit)))) :=
bif (decide ((v.1.1 : Int) < v.1.2.2.2.1)) then (Abs.rowAt v.1.2.2.1 v.1.1 fun e30 _ =>
Abs.rowAt v.1.2.1 v.1.1 fun e31 _ =>
let x32 := (!((e30.1 == e31.1) && ((e30.2.1 == e31.2.1) && true)))
bif x32 then (some (.inr (.inl ((false, ()), ()))))
else (some (.inl (((w64 (v.1.1 + 1)), (v.1.2.1, (v.1.2.2.1, (v.1.2.2.2.1, ())))), ()))))
else (some (.inr (.inr ((), ()))))

/- pagewatch/pagewatchlaw20.same -/
def i37 : Abs.Sg := ⟨[0, 1], (.dat (.row Z7) (.dat (.row Z7) .nil)), .nil⟩

def o37 : Abs.Sg := ⟨[4], (.dat .bool .nil), .nil⟩

def m37 (v : ((Y4 × Y4 × Unit) × (Unit))) : Option Y13 :=
let x29 := (((v.1.1.length : Int) : Int) != (v.1.2.1.length : Int))
bif x29 then (some ((false, ()), ()))
else ((loopT l37_0_4 ((0, (v.1.2.1, (v.1.1, ((v.1.1.length : Int), ())))), ())).bind fun d33 =>
sumE d33 (fun d34 => (some ((d34.1.1, ()), ()))) (fun d35 => (some ((true, ()), ()))))

def sp37 : Abs.Spec := ⟨0, i37, o37, m37⟩

def an37 : Nat → Abs.FAn
  | 0 => Abs.FAn.mk (fun _ => none) (fun _ => none) (fun
    | 4 => some ⟨⟨[13, 1, 0, 12], (.dat (.int .i64) (.dat (.row Z7) (.dat (.row Z7) (.dat (.int .i64) .nil)))), .nil⟩, (.more .ret ⟨[4], (.dat .bool .nil), .nil⟩ (.one (.exit 0) ⟨[], .nil, .nil⟩))⟩
    | _ => none) (fun _ _ => 0)
  | _ => {}

theorem ok37 : Abs.SpecOK Tryd.prog 37 sp37 :=
  Abs.specOC_of (C := ctab) (mv := mvtab) ctab_ok (n := 12) (an := an37) (T := Abs.tabOf []) good foll (Abs.tabOf_ok _ (fun _ h => by cases h)) rfl (by intro v; kernel_rfl)

def l124_0_1 (v : ((ByteArray × Int × Unit) × (Unit))) : Option (((ByteArray × Int × Unit) × (Unit)) ⊕ Y18) :=
((bif (decide (((v.1.1.size : Int) : Int) > 0)) then (bif (decide ((0 : Int) ≤ (w64 ((v.1.1.size : Int) - 1)) ∧ ((w64 ((v.1.1.size : Int) - 1)) : Int) < v.1.1.size)) then
let x16 := (((((v.1.1[(w64 ((v.1.1.size : Int) - 1)).toNat]?.getD 0).toNat : Nat) : Int) : Int) == v.1.2.1)
some ((x16, (v.1.2.1, (v.1.1, ()))), ())
else none)
else (some ((false, (v.1.2.1, (v.1.1, ()))), ()))) : Option ((Bool × Int × ByteArray × Unit) × (Unit))).bind fun v17 =>
bif v17.1.1 then (bif (decide ((0 : Int) ≤ (w64 ((v17.1.2.2.1.size : Int) - 1)))) then
bif (decide (0 ≤ (w64 ((v17.1.2.2.1.size : Int) - 1)).toNat ∧ (w64 ((v17.1.2.2.1.size : Int) - 1)).toNat ≤ v17.1.2.2.1.size)) then
let x18 := (v17.1.2.2.1.extract 0 (w64 ((v17.1.2.2.1.size : Int) - 1)).toNat)
some (.inl ((x18, (v17.1.2.1, ())), ()))
else none
else none)
else (some (.inr ((v17.1.2.2.1, ()), ())))

/- strings.trimRightByte -/
def i124 : Abs.Sg := ⟨[0, 1], (.dat .str (.dat (.int .u8) .nil)), .nil⟩

def o124 : Abs.Sg := ⟨[4], (.dat .str .nil), .nil⟩

def m124 (v : ((ByteArray × Int × Unit) × (Unit))) : Option Y18 :=
(loopT l124_0_1 ((v.1.1, (v.1.2.1, ())), ())).bind fun d19 =>
some ((d19.1.1, ()), ())

def sp124 : Abs.Spec := ⟨0, i124, o124, m124⟩

def an124 : Nat → Abs.FAn
  | 0 => Abs.FAn.mk (fun
    | 1 => some ⟨[16, 1, 0], (.dat .bool (.dat (.int .u8) (.dat .str .nil))), .nil⟩
    | _ => none) (fun _ => none) (fun
    | 1 => some ⟨⟨[0, 1], (.dat .str (.dat (.int .u8) .nil)), .nil⟩, (.one (.exit 0) ⟨[0], (.dat .str .nil), .nil⟩)⟩
    | _ => none) (fun _ _ => 0)
  | _ => {}

theorem ok124 : Abs.SpecOK Tryd.prog 124 sp124 :=
  Abs.specOC_of (C := ctab) (mv := mvtab) ctab_ok (n := 12) (an := an124) (T := Abs.tabOf []) good foll (Abs.tabOf_ok _ (fun _ h => by cases h)) rfl (by intro v; kernel_rfl)

def l123_0_1 (v : ((ByteArray × Int × Unit) × (Unit))) : Option (((ByteArray × Int × Unit) × (Unit)) ⊕ Y18) :=
((bif (decide (((v.1.1.size : Int) : Int) > 0)) then (bif (decide ((0 : Int) ≤ 0 ∧ (0 : Int) < v.1.1.size)) then
let x12 := (((((v.1.1[0]?.getD 0).toNat : Nat) : Int) : Int) == v.1.2.1)
some ((x12, (v.1.2.1, (v.1.1, ()))), ())
else none)
else (some ((false, (v.1.2.1, (v.1.1, ()))), ()))) : Option ((Bool × Int × ByteArray × Unit) × (Unit))).bind fun v13 =>
bif v13.1.1 then (bif (decide (1 ≤ v13.1.2.2.1.size ∧ v13.1.2.2.1.size ≤ v13.1.2.2.1.size)) then
some (.inl (((v13.1.2.2.1.extract 1 v13.1.2.2.1.size), (v13.1.2.1, ())), ()))
else none)
else (some (.inr ((v13.1.2.2.1, ()), ())))

/- strings.trimLeftByte -/
def i123 : Abs.Sg := ⟨[0, 1], (.dat .str (.dat (.int .u8) .nil)), .nil⟩

def o123 : Abs.Sg := ⟨[4], (.dat .str .nil), .nil⟩

def m123 (v : ((ByteArray × Int × Unit) × (Unit))) : Option Y18 :=
(loopT l123_0_1 ((v.1.1, (v.1.2.1, ())), ())).bind fun d14 =>
some ((d14.1.1, ()), ())

def sp123 : Abs.Spec := ⟨0, i123, o123, m123⟩

def an123 : Nat → Abs.FAn
  | 0 => Abs.FAn.mk (fun
    | 1 => some ⟨[13, 1, 0], (.dat .bool (.dat (.int .u8) (.dat .str .nil))), .nil⟩
    | _ => none) (fun _ => none) (fun
    | 1 => some ⟨⟨[0, 1], (.dat .str (.dat (.int .u8) .nil)), .nil⟩, (.one (.exit 0) ⟨[0], (.dat .str .nil), .nil⟩)⟩
    | _ => none) (fun _ _ => 0)
  | _ => {}

theorem ok123 : Abs.SpecOK Tryd.prog 123 sp123 :=
  Abs.specOC_of (C := ctab) (mv := mvtab) ctab_ok (n := 12) (an := an123) (T := Abs.tabOf []) good foll (Abs.tabOf_ok _ (fun _ h => by cases h)) rfl (by intro v; kernel_rfl)

/- 125 strings.makeASCIISet: not told by a law: run where it is called -/

/- 127 strings.trimRightASCII: not told by a law: run where it is called -/

/- 126 strings.trimLeftASCII: not told by a law: run where it is called -/

/- 129 strings.trimRightUnicode: not told by a law: run where it is called -/

/- 128 strings.trimLeftUnicode: not told by a law: run where it is called -/

/- strings.Trim -/
def i91 : Abs.Sg := ⟨[0, 1], (.dat .str (.dat .str .nil)), .nil⟩

def o91 : Abs.Sg := ⟨[4], (.dat .str .nil), .nil⟩

def m91 (v : (Y15 × (Unit))) : Option Y18 :=
((bif (v.1.1.toList == ByteArray.empty.toList) then (some ((true, (v.1.1, (v.1.2.1, ()))), ()))
else (some (((v.1.2.1.toList == ByteArray.empty.toList), (v.1.1, (v.1.2.1, ()))), ()))) : Option ((Bool × ByteArray × ByteArray × Unit) × (Unit))).bind fun v16 =>
bif v16.1.1 then (some ((v16.1.2.1, ()), ()))
else (((bif (((v16.1.2.2.1.size : Int) : Int) == 1) then (bif (decide ((0 : Int) ≤ 0 ∧ (0 : Int) < v16.1.2.2.1.size)) then
let x17 := (decide (((((v16.1.2.2.1[0]?.getD 0).toNat : Nat) : Int) : Int) < 128))
some ((x17, (v16.1.2.2.1, (v16.1.2.1, ()))), ())
else none)
else (some ((false, (v16.1.2.2.1, (v16.1.2.1, ()))), ()))) : Option ((Bool × ByteArray × ByteArray × Unit) × (Unit))).bind fun v18 =>
bif v18.1.1 then (bif (decide ((0 : Int) ≤ 0 ∧ (0 : Int) < v18.1.2.1.size)) then
(m124 ((v18.1.2.2.1, ((((v18.1.2.1[0]?.getD 0).toNat : Nat) : Int), ())), ())).bind fun u19 =>
bif (decide ((0 : Int) ≤ 0 ∧ (0 : Int) < v18.1.2.1.size)) then
(m123 ((u19.1.1, ((((v18.1.2.1[0]?.getD 0).toNat : Nat) : Int), ())), ())).bind fun u20 =>
some ((u20.1.1, ()), ())
else none
else none)
else (none))

def sp91 : Abs.Spec := ⟨0, i91, o91, m91⟩

def an91 : Nat → Abs.FAn
  | 0 => Abs.FAn.mk (fun
    | 3 => some ⟨[21, 1, 0], (.dat .bool (.dat .str (.dat .str .nil))), .nil⟩
    | 1 => some ⟨[12, 0, 1], (.dat .bool (.dat .str (.dat .str .nil))), .nil⟩
    | _ => none) (fun _ => none) (fun _ => none) (fun _ _ => 0)
  | _ => {}

theorem ok91 : Abs.SpecOK Tryd.prog 91 sp91 :=
  Abs.specOC_of (C := ctab) (mv := mvtab) ctab_ok (n := 12) (an := an91) (T := Abs.tabOf [(124, sp124), (123, sp123)]) good foll (Abs.tabOf_ok _ (by simp only [List.forall_mem_cons]; exact ⟨ok124, ok123, fun _ h => by cases h⟩)) rfl (by intro v; kernel_rfl)

/- warnings: left out -/

def l26_0_2 (v : ((Int × Int × Int × Int × ByteArray × ByteArray × Unit) × (Unit))) : Option (((Int × Int × Int × Int × ByteArray × ByteArray × Unit) × (Unit)) ⊕ (Y13 ⊕ ((Int × ByteArray × Unit) × (Unit)))) :=
let x47 := (decide ((v.1.2.1 : Int) < (v.1.2.2.2.2.1.size : Int)))
bif x47 then (((let x48 := (decide ((v.1.1 : Int) < (v.1.2.2.2.2.2.1.size : Int)))
bif x48 then (bif (decide ((0 : Int) ≤ v.1.1 ∧ (v.1.1 : Int) < v.1.2.2.2.2.2.1.size)) then
let x49 := (((((v.1.2.2.2.2.2.1[v.1.1.toNat]?.getD 0).toNat : Nat) : Int) : Int) == 42)
some ((x49, (v.1.2.1, (v.1.2.2.2.2.1, (v.1.2.2.2.2.2.1, (v.1.1, (v.1.2.2.1, (v.1.2.2.2.1, ()))))))), ())
else none)
else (some ((false, (v.1.2.1, (v.1.2.2.2.2.1, (v.1.2.2.2.2.2.1, (v.1.1, (v.1.2.2.1, (v.1.2.2.2.1, ()))))))), ()))) : Option ((Bool × Int × ByteArray × ByteArray × Int × Int × Int × Unit) × (Unit))).bind fun v50 =>
bif v50.1.1 then (some (.inl (((w64 (v50.1.2.2.2.2.1 + 1)), (v50.1.2.1, (v50.1.2.2.2.2.1, (v50.1.2.1, (v50.1.2.2.1, (v50.1.2.2.2.1, ())))))), ())))
else (((let x51 := (decide ((v50.1.2.2.2.2.1 : Int) < (v50.1.2.2.2.1.size : Int)))
bif x51 then (bif (decide ((0 : Int) ≤ v50.1.2.2.2.2.1 ∧ (v50.1.2.2.2.2.1 : Int) < v50.1.2.2.2.1.size)) then
let x52 := (((((v50.1.2.2.2.1[v50.1.2.2.2.2.1.toNat]?.getD 0).toNat : Nat) : Int) : Int) == 63)
bif x52 then (some ((true, (v50.1.2.2.2.2.2.1, (v50.1.2.2.2.2.2.2.1, (v50.1.2.2.1, (v50.1.2.2.2.1, (v50.1.2.1, (v50.1.2.2.2.2.1, ()))))))), ()))
else (bif (decide ((0 : Int) ≤ v50.1.2.2.2.2.1 ∧ (v50.1.2.2.2.2.1 : Int) < v50.1.2.2.2.1.size)) then
bif (decide ((0 : Int) ≤ v50.1.2.1 ∧ (v50.1.2.1 : Int) < v50.1.2.2.1.size)) then
let x53 := (((((v50.1.2.2.2.1[v50.1.2.2.2.2.1.toNat]?.getD 0).toNat : Nat) : Int) : Int) == (((v50.1.2.2.1[v50.1.2.1.toNat]?.getD 0).toNat : Nat) : Int))
some ((x53, (v50.1.2.2.2.2.2.1, (v50.1.2.2.2.2.2.2.1, (v50.1.2.2.1, (v50.1.2.2.2.1, (v50.1.2.1, (v50.1.2.2.2.2.1, ()))))))), ())
else none
else none)
else none)
else (some ((false, (v50.1.2.2.2.2.2.1, (v50.1.2.2.2.2.2.2.1, (v50.1.2.2.1, (v50.1.2.2.2.1, (v50.1.2.1, (v50.1.2.2.2.2.1, ()))))))), ()))) : Option ((Bool × Int × Int × ByteArray × ByteArray × Int × Int × Unit) × (Unit))).bind fun v54 =>
bif v54.1.1 then (some (.inl (((w64 (v54.1.2.2.2.2.2.2.1 + 1)), ((w64 (v54.1.2.2.2.2.2.1 + 1)), (v54.1.2.1, (v54.1.2.2.1, (v54.1.2.2.2.1, (v54.1.2.2.2.2.1, ())))))), ())))
else (bif (decide ((v54.1.2.1 : Int) ≥ 0)) then (some (.inl (((w64 (v54.1.2.1 + 1)), ((w64 (v54.1.2.2.1 + 1)), (v54.1.2.1, ((w64 (v54.1.2.2.1 + 1)), (v54.1.2.2.2.1, (v54.1.2.2.2.2.1, ())))))), ())))
else (some (.inr (.inl ((false, ()), ())))))))
else (some (.inr (.inr ((v.1.1, (v.1.2.2.2.2.2.1, ())), ()))))

/- pagewatch/label.Like -/
def i26 : Abs.Sg := ⟨[0, 1], (.dat .str (.dat .str .nil)), .nil⟩

def o26 : Abs.Sg := ⟨[4], (.dat .bool .nil), .nil⟩

def m26 (v : (Y15 × (Unit))) : Option Y13 :=
(loopT l26_0_2 ((0, (0, ((-1), (0, (v.1.2.1, (v.1.1, ())))))), ())).bind fun d55 =>
sumE d55 (fun d56 => (some ((d56.1.1, ()), ()))) (fun d57 => (bif (decide ((0 : Int) ≤ d57.1.1)) then
bif (decide (d57.1.1.toNat ≤ d57.1.2.1.size ∧ d57.1.2.1.size ≤ d57.1.2.1.size)) then
(m91 (((d57.1.2.1.extract d57.1.1.toNat d57.1.2.1.size), ((bs [42]), ())), ())).bind fun u58 =>
some (((u58.1.1.toList == ByteArray.empty.toList), ()), ())
else none
else none))

def sp26 : Abs.Spec := ⟨0, i26, o26, m26⟩

def an26 : Nat → Abs.FAn
  | 0 => Abs.FAn.mk (fun
    | 7 => some ⟨[28, 7, 8, 1, 0, 6, 5], (.dat .bool (.dat (.int .i64) (.dat (.int .i64) (.dat .str (.dat .str (.dat (.int .i64) (.dat (.int .i64) .nil))))))), .nil⟩
    | 4 => some ⟨[13, 6, 1, 0, 5, 7, 8], (.dat .bool (.dat (.int .i64) (.dat .str (.dat .str (.dat (.int .i64) (.dat (.int .i64) (.dat (.int .i64) .nil))))))), .nil⟩
    | _ => none) (fun _ => none) (fun
    | 2 => some ⟨⟨[5, 6, 7, 8, 1, 0], (.dat (.int .i64) (.dat (.int .i64) (.dat (.int .i64) (.dat (.int .i64) (.dat .str (.dat .str .nil)))))), .nil⟩, (.more .ret ⟨[4], (.dat .bool .nil), .nil⟩ (.one (.exit 0) ⟨[5, 0], (.dat (.int .i64) (.dat .str .nil)), .nil⟩))⟩
    | _ => none) (fun _ _ => 0)
  | _ => {}

theorem ok26 : Abs.SpecOK Tryd.prog 26 sp26 :=
  Abs.specOC_of (C := ctab) (mv := mvtab) ctab_ok (n := 12) (an := an26) (T := Abs.tabOf [(91, sp91)]) good foll (Abs.tabOf_ok _ (by simp only [List.forall_mem_cons]; exact ⟨ok91, fun _ h => by cases h⟩)) rfl (by intro v; kernel_rfl)

def l38_0_2 (v : ((Int × ByteArray × Y4 × Int × Unit) × (Unit))) : Option (((Int × ByteArray × Y4 × Int × Unit) × (Unit)) ⊕ (Y18 ⊕ ((Unit) × (Unit)))) :=
bif (decide ((v.1.1 : Int) < v.1.2.2.2.1)) then (Abs.rowAt v.1.2.2.1 v.1.1 fun e13 _ =>
bif (e13.1.toList == v.1.2.1.toList) then (some (.inr (.inl ((e13.2.1, ()), ()))))
else (some (.inl (((w64 (v.1.1 + 1)), (v.1.2.1, (v.1.2.2.1, (v.1.2.2.2.1, ())))), ()))))
else (some (.inr (.inr ((), ()))))

/- pagewatch/label.Get -/
def i38 : Abs.Sg := ⟨[0, 1], (.dat (.row Z7) (.dat .str .nil)), .nil⟩

def o38 : Abs.Sg := ⟨[4], (.dat .str .nil), .nil⟩

def m38 (v : ((Y4 × ByteArray × Unit) × (Unit))) : Option Y18 :=
(loopT l38_0_2 ((0, (v.1.2.1, (v.1.1, ((v.1.1.length : Int), ())))), ())).bind fun d14 =>
sumE d14 (fun d15 => (some ((d15.1.1, ()), ()))) (fun d16 => (some ((ByteArray.empty, ()), ())))

def sp38 : Abs.Spec := ⟨0, i38, o38, m38⟩

def an38 : Nat → Abs.FAn
  | 0 => Abs.FAn.mk (fun _ => none) (fun _ => none) (fun
    | 2 => some ⟨⟨[9, 1, 7, 8], (.dat (.int .i64) (.dat .str (.dat (.row Z7) (.dat (.int .i64) .nil)))), .nil⟩, (.more .ret ⟨[4], (.dat .str .nil), .nil⟩ (.one (.exit 0) ⟨[], .nil, .nil⟩))⟩
    | _ => none) (fun _ _ => 0)
  | _ => {}

theorem ok38 : Abs.SpecOK Tryd.prog 38 sp38 :=
  Abs.specOC_of (C := ctab) (mv := mvtab) ctab_ok (n := 12) (an := an38) (T := Abs.tabOf []) good foll (Abs.tabOf_ok _ (fun _ h => by cases h)) rfl (by intro v; kernel_rfl)

/- pagewatch/label.Match -/
def i24 : Abs.Sg := ⟨[0, 1], (.dat Z5 (.dat (.row Z7) .nil)), .nil⟩

def o24 : Abs.Sg := ⟨[4], (.dat .bool .nil), .nil⟩

def m24 (v : ((Y12 × Y4 × Unit) × (Unit))) : Option Y13 :=
(m38 ((v.1.2.1, (v.1.1.1, ())), ())).bind fun u9 =>
bif ((v.1.1.2.1 : Int) == 0) then (some (((u9.1.1.toList == v.1.1.2.2.1.toList), ()), ()))
else (bif ((v.1.1.2.1 : Int) == 1) then (some (((!(u9.1.1.toList == v.1.1.2.2.1.toList)), ()), ()))
else (bif ((v.1.1.2.1 : Int) == 2) then ((m26 ((v.1.1.2.2.1, (u9.1.1, ())), ())).bind fun u10 =>
some ((u10.1.1, ()), ()))
else (bif ((v.1.1.2.1 : Int) == 3) then ((m26 ((v.1.1.2.2.1, (u9.1.1, ())), ())).bind fun u11 =>
some (((!u11.1.1), ()), ()))
else (some ((false, ()), ())))))

def sp24 : Abs.Spec := ⟨0, i24, o24, m24⟩

def an24 : Nat → Abs.FAn
  | _ => {}

theorem ok24 : Abs.SpecOK Tryd.prog 24 sp24 :=
  Abs.specOC_of (C := ctab) (mv := mvtab) ctab_ok (n := 12) (an := an24) (T := Abs.tabOf [(38, sp38), (26, sp26)]) good foll (Abs.tabOf_ok _ (by simp only [List.forall_mem_cons]; exact ⟨ok38, ok26, fun _ h => by cases h⟩)) rfl (by intro v; kernel_rfl)

/- 99 pagewatch/label.All$1: not told by a law: a closure -/

def l30_2_2 (v : ((Int × Y3 × Int × Unit) × ((Y4 × Unit) × Unit))) : Option (((Int × Y3 × Int × Unit) × ((Y4 × Unit) × Unit)) ⊕ (((Int × Unit) × ((Y4 × Unit) × Unit)) ⊕ ((Unit) × ((Y4 × Unit) × Unit)))) :=
bif (decide ((v.1.1 : Int) < v.1.2.2.1)) then (Abs.rowAt v.1.2.1 v.1.1 fun e32 _ =>
(m24 ((e32, (v.2.1.1, ())), ())).bind fun u33 =>
bif (!u33.1.1) then (some (.inr (.inl ((v.1.1, ()), ((v.2.1.1, ()), ())))))
else (some (.inl (((w64 (v.1.1 + 1)), (v.1.2.1, (v.1.2.2.1, ()))), ((v.2.1.1, ()), ())))))
else (some (.inr (.inr ((), ((v.2.1.1, ()), ())))))

/- pagewatch/label.All -/
def i30 : Abs.Sg := ⟨[0, 1], (.dat (.row Z5) (.dat (.row Z7) .nil)), .nil⟩

def o30 : Abs.Sg := ⟨[4], (.dat .bool .nil), .nil⟩

def m30 (v : ((Y3 × Y4 × Unit) × (Unit))) : Option Y13 :=
(((loopT l30_2_2 ((0, (v.1.1, ((v.1.1.length : Int), ()))), ((v.1.2.1, ()), ()))).bind fun d34 =>
sumE d34 (fun d35 => (some (((decide ((d35.1.1 : Int) ≥ 0)), ()), ((d35.2.1.1, ()), ())))) (fun d36 => (some ((false, ()), ((d36.2.1.1, ()), ()))))) : Option ((Bool × Unit) × ((Y4 × Unit) × Unit))).bind fun v37 =>
some (((!v37.1.1), ()), ())

def sp30 : Abs.Spec := ⟨0, i30, o30, m30⟩

def an30 : Nat → Abs.FAn
  | 0 => Abs.FAn.mk (fun _ => none) (fun _ => none) (fun _ => none) (fun
    | 1, 2 => 1
    | _, _ => 0)
  | 1 => Abs.FAn.mk (fun
    | 1 => some ⟨[4], (.dat .bool .nil), (.box 1 (.dat (.row Z7) .nil) .nil)⟩
    | _ => none) (fun _ => none) (fun _ => none) (fun
    | 1, 2 => 2
    | _, _ => 0)
  | 2 => Abs.FAn.mk (fun _ => none) (fun _ => none) (fun
    | 2 => some ⟨⟨[8, 0, 1, 7], (.dat (.int .i64) (.dat (.row Z5) (.st (.clo 99 [((0, 0), 1, 0, 0)]) (.dat (.int .i64) .nil)))), (.box 1 (.dat (.row Z7) .nil) .nil)⟩, (.more .ret ⟨[4], (.dat (.int .i64) .nil), (.box 1 (.dat (.row Z7) .nil) .nil)⟩ (.one (.exit 0) ⟨[], .nil, (.box 1 (.dat (.row Z7) .nil) .nil)⟩))⟩
    | _ => none) (fun
    | 4, 5 => 3
    | _, _ => 0)
  | _ => {}

theorem ok30 : Abs.SpecOK Tryd.prog 30 sp30 :=
  Abs.specOC_of (C := ctab) (mv := mvtab) ctab_ok (n := 12) (an := an30) (T := Abs.tabOf [(24, sp24)]) good foll (Abs.tabOf_ok _ (by simp only [List.forall_mem_cons]; exact ⟨ok24, fun _ h => by cases h⟩)) rfl (by intro v; kernel_rfl)

/- pagewatch/pagewatchlaw20.sane -/
def i18 : Abs.Sg := ⟨[], .nil, .nil⟩

def o18 : Abs.Sg := ⟨[0], (.dat .bool .nil), .nil⟩

def m18 (v : ((Unit) × (Unit))) : Option Y13 :=
(m36 ((([((bs [97]), ((bs [120, 34]), ())), ((bs [98]), ((bs [121]), ()))] : List Y15), ()), ())).bind fun u22 =>
(m35 ((u22.1.1, ()), ())).bind fun u23 =>
(m32 (((bs [104, 111, 115, 116, 61, 34, 34, 44, 97, 33, 126, 34, 63, 34]), ()), ())).bind fun u24 =>
((bif ((u23.1.1 : Int) == 0) then (bif ((u24.1.1 : Int) == 0) then (bif (u22.1.1.toList == (bs [123, 97, 61, 34, 120, 92, 34, 34, 44, 98, 61, 34, 121, 34, 125]).toList) then ((m37 ((([((bs [97]), ((bs [120, 34]), ())), ((bs [98]), ((bs [121]), ()))] : List Y15), (u23.2.1, ())), ())).bind fun u25 =>
bif u25.1.1 then ((m26 (((bs [97, 42, 98, 63]), ((bs [97, 88, 88, 98, 99]), ())), ())).bind fun u26 =>
bif u26.1.1 then ((m26 (((bs [63]), (ByteArray.empty, ())), ())).bind fun u27 =>
bif (!u27.1.1) then (bif ((((u24.2.1.length : Nat) : Int) : Int) == 2) then (bif (decide (1 ≤ ([((bs [97]), ((bs [120, 34]), ())), ((bs [98]), ((bs [121]), ()))] : List Y15).length ∧ ([((bs [97]), ((bs [120, 34]), ())), ((bs [98]), ((bs [121]), ()))] : List Y15).length ≤ ([((bs [97]), ((bs [120, 34]), ())), ((bs [98]), ((bs [121]), ()))] : List Y15).length)) then
bif (decide (1 + (([((bs [97]), ((bs [120, 34]), ())), ((bs [98]), ((bs [121]), ()))] : List Y15).length - 1) ≤ ([((bs [97]), ((bs [120, 34]), ())), ((bs [98]), ((bs [121]), ()))] : List Y15).length)) then
(m30 ((u24.2.1, (((([((bs [97]), ((bs [120, 34]), ())), ((bs [98]), ((bs [121]), ()))] : List Y15).drop 1).take (([((bs [97]), ((bs [120, 34]), ())), ((bs [98]), ((bs [121]), ()))] : List Y15).length - 1)), ())), ())).bind fun u28 =>
bif u28.1.1 then (bif (decide ((0 : Int) ≤ 0 ∧ (0 : Int) < u24.2.1.length)) then
(u24.2.1[0]?).bind fun e29 =>
(m24 ((e29, (([((bs [97]), ((bs [120, 34]), ())), ((bs [98]), ((bs [121]), ()))] : List Y15), ())), ())).bind fun u30 =>
some ((u30.1.1, ()), ())
else none)
else (some ((false, ()), ()))
else none
else none)
else (some ((false, ()), ())))
else (some ((false, ()), ())))
else (some ((false, ()), ())))
else (some ((false, ()), ())))
else (some ((false, ()), ())))
else (some ((false, ()), ())))
else (some ((false, ()), ()))) : Option Y13).bind fun v31 =>
some ((v31.1.1, ()), ())

def sp18 : Abs.Spec := ⟨0, i18, o18, m18⟩

def an18 : Nat → Abs.FAn
  | 0 => Abs.FAn.mk (fun
    | 5 => some ⟨[0], (.dat .bool .nil), .nil⟩
    | _ => none) (fun _ => none) (fun _ => none) (fun _ _ => 0)
  | _ => {}

theorem ok18 : Abs.SpecOK Tryd.prog 18 sp18 :=
  Abs.specOC_of (C := ctab) (mv := mvtab) ctab_ok (n := 12) (an := an18) (T := Abs.tabOf [(36, sp36), (35, sp35), (32, sp32), (37, sp37), (26, sp26), (30, sp30), (24, sp24)]) good foll (Abs.tabOf_ok _ (by simp only [List.forall_mem_cons]; exact ⟨ok36, ok35, ok32, ok37, ok26, ok30, ok24, fun _ h => by cases h⟩)) rfl (by intro v; kernel_rfl)

/- pagewatch/pagewatchmade.Roll -/
def i19 : Abs.Sg := ⟨[0], (.dat (.row (.int .i64)) .nil), .nil⟩

def o19 : Abs.Sg := ⟨[2], (.st (.ptr (0, 0) 2 0 0) .nil), (.box 2 (.dat Z9 .nil) .nil)⟩

def m19 (v : (((List Int) × Unit) × (Unit))) : Option ((Unit) × (Y11 × Unit)) :=
some ((), (((v.1.1, (0, ())), ()), ()))

def sp19 : Abs.Spec := ⟨0, i19, o19, m19⟩

def an19 : Nat → Abs.FAn
  | _ => {}

theorem ok19 : Abs.SpecOK Tryd.prog 19 sp19 :=
  Abs.specOC_of (C := ctab) (mv := mvtab) ctab_ok (n := 12) (an := an19) (T := Abs.tabOf []) good foll (Abs.tabOf_ok _ (fun _ h => by cases h)) rfl (by intro v; kernel_rfl)

/- (*pagewatch/pagewatchmade.Dice).Next -/
def i39 : Abs.Sg := ⟨[0, 1], (.st (.ptr (0, 0) 2 0 0) (.dat (.int .i64) .nil)), (.box 2 (.dat Z9 .nil) .nil)⟩

def o39 : Abs.Sg := ⟨[4], (.dat (.int .i64) .nil), (.box 2 (.dat Z9 .nil) .nil)⟩

def m39 (v : ((Int × Unit) × (Y11 × Unit))) : Option ((Int × Unit) × (Y11 × Unit)) :=
((let x15 := (decide ((v.2.1.1.2.1 : Int) ≥ (v.2.1.1.1.length : Int)))
bif x15 then (some ((true, (v.1.1, ())), ((v.2.1.1, ()), ())))
else (some (((decide ((v.1.1 : Int) < 1)), (v.1.1, ())), ((v.2.1.1, ()), ())))) : Option ((Bool × Int × Unit) × (Y11 × Unit))).bind fun v16 =>
bif v16.1.1 then (some ((0, ()), ((v16.2.1.1, ()), ())))
else (Abs.rowAt v16.2.1.1.1 v16.2.1.1.2.1 fun e17 _ =>
bif (decide (v16.1.2.1 ≠ (0 : Int))) then
((let x18 := (decide ((((e17 : Int).tmod v16.1.2.1) : Int) < 0))
bif x18 then (some (((w64 (((e17 : Int).tmod v16.1.2.1) + v16.1.2.1)), ()), (((v16.2.1.1.1, ((w64 (v16.2.1.1.2.1 + 1)), ())), ()), ())))
else (some ((((e17 : Int).tmod v16.1.2.1), ()), (((v16.2.1.1.1, ((w64 (v16.2.1.1.2.1 + 1)), ())), ()), ())))) : Option ((Int × Unit) × (Y11 × Unit))).bind fun v19 =>
some ((v19.1.1, ()), ((v19.2.1.1, ()), ()))
else none)

def sp39 : Abs.Spec := ⟨1, i39, o39, m39⟩

def an39 : Nat → Abs.FAn
  | 0 => Abs.FAn.mk (fun
    | 1 => some ⟨[19, 1, 0], (.dat .bool (.dat (.int .i64) (.st (.ptr (0, 0) 2 0 0) .nil))), (.box 2 (.dat Z9 .nil) .nil)⟩
    | _ => none) (fun
    | 7 => some (⟨[5], (.dat (.int .i64) .nil), (.box 2 (.dat Z9 .nil) .nil)⟩, none)
    | _ => none) (fun _ => none) (fun _ _ => 0)
  | _ => {}

theorem ok39 : Abs.SpecOK Tryd.prog 39 sp39 :=
  Abs.specOC_of (C := ctab) (mv := mvtab) ctab_ok (n := 12) (an := an39) (T := Abs.tabOf []) good foll (Abs.tabOf_ok _ (fun _ h => by cases h)) rfl (by intro v; kernel_rfl)

def l20_0_3 (v : ((Int × (ByteArray × ByteArray × ByteArray × ByteArray × Unit) × Unit) × (Y11 × Y4 × Unit))) : Option (((Int × (ByteArray × ByteArray × ByteArray × ByteArray × Unit) × Unit) × (Y11 × Y4 × Unit)) ⊕ ((Unit) × (Y11 × Y4 × Unit))) :=
bif (decide ((v.1.1 : Int) < 4)) then (((Abs.rowAt ([v.1.2.1.1, v.1.2.1.2.1, v.1.2.1.2.2.1, v.1.2.1.2.2.2.1] : List ByteArray) v.1.1 fun e29 _ =>
(m39 ((6, ()), ((v.2.1.1, ()), ()))).bind fun u30 =>
bif (decide ((0 : Int) ≤ u30.1.1 ∧ (u30.1.1 : Int) < [ByteArray.empty, (bs [97]), (bs [98]), (bs [99, 114, 105, 116]), (bs [97, 34, 98, 92]), (bs [119, 101, 98, 45, 49])].length)) then
([ByteArray.empty, (bs [97]), (bs [98]), (bs [99, 114, 105, 116]), (bs [97, 34, 98, 92]), (bs [119, 101, 98, 45, 49])][u30.1.1.toNat]?).bind fun e31 =>
bif (!(e31.toList == ByteArray.empty.toList)) then (bif (decide (v.2.2.1.length + ([(e29, (e31, ()))] : List Y15).length ≤ 4294967296)) then
let x32 := (v.2.2.1 ++ ([(e29, (e31, ()))] : List Y15))
some ((v.1.2.1, (v.1.1, ())), ((u30.2.1.1, ()), (x32, ())))
else none)
else (some ((v.1.2.1, (v.1.1, ())), ((u30.2.1.1, ()), (v.2.2.1, ()))))
else none) : Option (((ByteArray × ByteArray × ByteArray × ByteArray × Unit) × Int × Unit) × (Y11 × Y4 × Unit))).bind fun v33 =>
some (.inl (((w64 (v33.1.2.1 + 1)), (v33.1.1, ())), ((v33.2.1.1, ()), (v33.2.2.1, ())))))
else (some (.inr ((), ((v.2.1.1, ()), (v.2.2.1, ())))))

/- (*pagewatch/pagewatchmade.Dice).Labels -/
def i20 : Abs.Sg := ⟨[0], (.st (.ptr (0, 0) 2 0 0) .nil), (.box 2 (.dat Z9 .nil) .nil)⟩

def o20 : Abs.Sg := ⟨[2], (.st (.own Z7 (1, 0)) .nil), (.box 2 (.dat Z9 .nil) (.arr Z7 false .nil))⟩

def m20 (v : ((Unit) × (Y11 × Unit))) : Option ((Unit) × (Y11 × Y4 × Unit)) :=
(loopT l20_0_3 ((0, (((bs [97, 112, 112]), ((bs [104, 111, 115, 116]), ((bs [115, 101, 118]), ((bs [116, 101, 97, 109]), ())))), ())), ((v.2.1.1, ()), ([], ())))).bind fun d34 =>
some ((), ((d34.2.1.1, ()), (d34.2.2.1, ())))

def sp20 : Abs.Spec := ⟨1, i20, o20, m20⟩

def an20 : Nat → Abs.FAn
  | 0 => Abs.FAn.mk (fun _ => none) (fun
    | 8 => some (⟨[3, 0, 7, 8], (.st (.own Z7 (1, 0)) (.st (.ptr (0, 0) 2 0 0) (.dat (.cons .str (.cons .str Z7)) (.dat (.int .i64) .nil)))), (.box 2 (.dat Z9 .nil) (.arr Z7 false .nil))⟩, none)
    | _ => none) (fun
    | 3 => some ⟨⟨[8, 3, 0, 7], (.dat (.int .i64) (.st (.own Z7 (1, 0)) (.st (.ptr (0, 0) 2 0 0) (.dat (.cons .str (.cons .str Z7)) .nil)))), (.box 2 (.dat Z9 .nil) (.arr Z7 false .nil))⟩, (.one (.exit 0) ⟨[3], (.st (.own Z7 (1, 0)) .nil), (.box 2 (.dat Z9 .nil) (.arr Z7 false .nil))⟩)⟩
    | _ => none) (fun _ _ => 0)
  | _ => {}

theorem ok20 : Abs.SpecOK Tryd.prog 20 sp20 :=
  Abs.specOC_of (C := ctab) (mv := mvtab) ctab_ok (n := 12) (an := an20) (T := Abs.tabOf [(39, sp39)]) good foll (Abs.tabOf_ok _ (by simp only [List.forall_mem_cons]; exact ⟨ok39, fun _ h => by cases h⟩)) rfl (by intro v; kernel_rfl)

/- (*pagewatch/pagewatchmade.Dice).Matcher -/
def i86 : Abs.Sg := ⟨[0], (.st (.ptr (0, 0) 2 0 0) .nil), (.box 2 (.dat Z9 .nil) .nil)⟩

def o86 : Abs.Sg := ⟨[2], (.st (.ptr (1, 0) 3 0 0) .nil), (.box 2 (.dat Z9 .nil) (.box 3 (.dat Z5 .nil) .nil))⟩

def m86 (v : ((Unit) × (Y11 × Unit))) : Option ((Unit) × (Y11 × (Y12 × Unit) × Unit)) :=
(m39 ((5, ()), ((v.2.1.1, ()), ()))).bind fun u10 =>
bif (decide ((0 : Int) ≤ u10.1.1 ∧ (u10.1.1 : Int) < [(bs [97, 112, 112]), (bs [104, 111, 115, 116]), (bs [115, 101, 118]), (bs [116, 101, 97, 109]), (bs [122, 111, 110, 101])].length)) then
([(bs [97, 112, 112]), (bs [104, 111, 115, 116]), (bs [115, 101, 118]), (bs [116, 101, 97, 109]), (bs [122, 111, 110, 101])][u10.1.1.toNat]?).bind fun e11 =>
(m39 ((4, ()), ((u10.2.1.1, ()), ()))).bind fun u12 =>
(m39 ((8, ()), ((u12.2.1.1, ()), ()))).bind fun u13 =>
bif (decide ((0 : Int) ≤ u13.1.1 ∧ (u13.1.1 : Int) < [(bs [97]), (bs [98]), ByteArray.empty, (bs [42]), (bs [99, 114, 105, 116]), (bs [63]), (bs [119, 101, 98, 45, 42]), (bs [97, 34, 98, 92])].length)) then
([(bs [97]), (bs [98]), ByteArray.empty, (bs [42]), (bs [99, 114, 105, 116]), (bs [63]), (bs [119, 101, 98, 45, 42]), (bs [97, 34, 98, 92])][u13.1.1.toNat]?).bind fun e14 =>
some ((), ((u13.2.1.1, ()), (((e11, (u12.1.1, (e14, ()))), ()), ())))
else none
else none

def sp86 : Abs.Spec := ⟨1, i86, o86, m86⟩

def an86 : Nat → Abs.FAn
  | _ => {}

theorem ok86 : Abs.SpecOK Tryd.prog 86 sp86 :=
  Abs.specOC_of (C := ctab) (mv := mvtab) ctab_ok (n := 12) (an := an86) (T := Abs.tabOf [(39, sp39)]) good foll (Abs.tabOf_ok _ (by simp only [List.forall_mem_cons]; exact ⟨ok39, fun _ h => by cases h⟩)) rfl (by intro v; kernel_rfl)

def l21_0_3 (v : ((Int × Unit) × (Y11 × Y3 × Unit))) : Option (((Int × Unit) × (Y11 × Y3 × Unit)) ⊕ ((Unit) × (Y11 × Y3 × Unit))) :=
bif (decide ((v.1.1 : Int) > 0)) then ((m86 ((), ((v.2.1.1, ()), ()))).bind fun u19 =>
bif (decide (v.2.2.1.length + ([u19.2.2.1.1] : List Y12).length ≤ 4294967296)) then
let x20 := (v.2.2.1 ++ ([u19.2.2.1.1] : List Y12))
some (.inl (((w64 (v.1.1 - 1)), ()), ((u19.2.1.1, ()), (x20, ()))))
else none)
else (some (.inr ((), ((v.2.1.1, ()), (v.2.2.1, ())))))

/- (*pagewatch/pagewatchmade.Dice).Matchers -/
def i21 : Abs.Sg := ⟨[0, 1], (.st (.ptr (0, 0) 2 0 0) (.dat (.int .i64) .nil)), (.box 2 (.dat Z9 .nil) .nil)⟩

def o21 : Abs.Sg := ⟨[4], (.st (.own Z5 (1, 0)) .nil), (.box 2 (.dat Z9 .nil) (.arr Z5 false .nil))⟩

def m21 (v : ((Int × Unit) × (Y11 × Unit))) : Option ((Unit) × (Y11 × Y3 × Unit)) :=
(m39 (((w64 (v.1.1 + 1)), ()), ((v.2.1.1, ()), ()))).bind fun u18 =>
(loopT l21_0_3 ((u18.1.1, ()), ((u18.2.1.1, ()), ([], ())))).bind fun d21 =>
some ((), ((d21.2.1.1, ()), (d21.2.2.1, ())))

def sp21 : Abs.Spec := ⟨1, i21, o21, m21⟩

def an21 : Nat → Abs.FAn
  | 0 => Abs.FAn.mk (fun _ => none) (fun _ => none) (fun
    | 3 => some ⟨⟨[6, 0, 5], (.dat (.int .i64) (.st (.ptr (0, 0) 2 0 0) (.st (.own Z5 (1, 0)) .nil))), (.box 2 (.dat Z9 .nil) (.arr Z5 false .nil))⟩, (.one (.exit 0) ⟨[5], (.st (.own Z5 (1, 0)) .nil), (.box 2 (.dat Z9 .nil) (.arr Z5 false .nil))⟩)⟩
    | _ => none) (fun _ _ => 0)
  | _ => {}

theorem ok21 : Abs.SpecOK Tryd.prog 21 sp21 :=
  Abs.specOC_of (C := ctab) (mv := mvtab) ctab_ok (n := 12) (an := an21) (T := Abs.tabOf [(39, sp39), (86, sp86)]) good foll (Abs.tabOf_ok _ (by simp only [List.forall_mem_cons]; exact ⟨ok39, ok86, fun _ h => by cases h⟩)) rfl (by intro v; kernel_rfl)

def l34_0_4 (v : ((Int × Y3 × Y3 × Int × Unit) × (Unit))) : Option (((Int × Y3 × Y3 × Int × Unit) × (Unit)) ⊕ (Y13 ⊕ ((Unit) × (Unit)))) :=
bif (decide ((v.1.1 : Int) < v.1.2.2.2.1)) then (Abs.rowAt v.1.2.2.1 v.1.1 fun e30 _ =>
Abs.rowAt v.1.2.1 v.1.1 fun e31 _ =>
let x32 := (!((e30.1 == e31.1) && (((e30.2.1 : Int) == e31.2.1) && ((e30.2.2.1 == e31.2.2.1) && true))))
bif x32 then (some (.inr (.inl ((false, ()), ()))))
else (some (.inl (((w64 (v.1.1 + 1)), (v.1.2.1, (v.1.2.2.1, (v.1.2.2.2.1, ())))), ()))))
else (some (.inr (.inr ((), ()))))

/- pagewatch/pagewatchlaw20.sameMatchers -/
def i34 : Abs.Sg := ⟨[0, 1], (.dat (.row Z5) (.dat (.row Z5) .nil)), .nil⟩

def o34 : Abs.Sg := ⟨[4], (.dat .bool .nil), .nil⟩

def m34 (v : ((Y3 × Y3 × Unit) × (Unit))) : Option Y13 :=
let x29 := (((v.1.1.length : Int) : Int) != (v.1.2.1.length : Int))
bif x29 then (some ((false, ()), ()))
else ((loopT l34_0_4 ((0, (v.1.2.1, (v.1.1, ((v.1.1.length : Int), ())))), ())).bind fun d33 =>
sumE d33 (fun d34 => (some ((d34.1.1, ()), ()))) (fun d35 => (some ((true, ()), ()))))

def sp34 : Abs.Spec := ⟨0, i34, o34, m34⟩

def an34 : Nat → Abs.FAn
  | 0 => Abs.FAn.mk (fun _ => none) (fun _ => none) (fun
    | 4 => some ⟨⟨[13, 1, 0, 12], (.dat (.int .i64) (.dat (.row Z5) (.dat (.row Z5) (.dat (.int .i64) .nil)))), .nil⟩, (.more .ret ⟨[4], (.dat .bool .nil), .nil⟩ (.one (.exit 0) ⟨[], .nil, .nil⟩))⟩
    | _ => none) (fun _ _ => 0)
  | _ => {}

theorem ok34 : Abs.SpecOK Tryd.prog 34 sp34 :=
  Abs.specOC_of (C := ctab) (mv := mvtab) ctab_ok (n := 12) (an := an34) (T := Abs.tabOf []) good foll (Abs.tabOf_ok _ (fun _ h => by cases h)) rfl (by intro v; kernel_rfl)

/- pagewatch/pagewatchlaw20.LabelBack -/
def i4 : Abs.Sg := ⟨[0], (.dat (.row (.int .i64)) .nil), .nil⟩

def o4 : Abs.Sg := ⟨[2], (.dat .bool .nil), .nil⟩

def m4 (v : (((List Int) × Unit) × (Unit))) : Option Y13 :=
(m17 ((v.1.1, ()), ())).bind fun u44 =>
bif (!u44.1.1) then ((m18 ((), ())).bind fun u45 =>
some ((u45.1.1, ()), ()))
else ((m19 ((v.1.1, ()), ())).bind fun u46 =>
(m20 ((), ((u46.2.1.1, ()), ()))).bind fun u47 =>
(m20 ((), ((u47.2.1.1, ()), ()))).bind fun u48 =>
(m21 ((8, ()), ((u48.2.1.1, ()), ()))).bind fun u49 =>
(m36 ((u47.2.2.1, ()), ())).bind fun u50 =>
(m35 ((u50.1.1, ()), ())).bind fun u51 =>
(m29 ((u49.2.2.1, ()), ())).bind fun u52 =>
(m32 ((u52.1.1, ()), ())).bind fun u53 =>
((bif ((u51.1.1 : Int) == 0) then (bif ((u53.1.1 : Int) == 0) then ((m37 ((u51.2.1, (u47.2.2.1, ())), ())).bind fun u54 =>
bif u54.1.1 then ((m34 ((u53.2.1, (u49.2.2.1, ())), ())).bind fun u55 =>
bif u55.1.1 then ((m36 ((u47.2.2.1, ()), ())).bind fun u56 =>
(m36 ((u48.2.2.1, ()), ())).bind fun u57 =>
(m37 ((u47.2.2.1, (u48.2.2.1, ())), ())).bind fun u58 =>
bif ((u56.1.1.toList == u57.1.1.toList) == u58.1.1) then ((m18 ((), ())).bind fun u59 =>
some ((u59.1.1, ()), ()))
else (some ((false, ()), ())))
else (some ((false, ()), ())))
else (some ((false, ()), ())))
else (some ((false, ()), ())))
else (some ((false, ()), ()))) : Option Y13).bind fun v60 =>
some ((v60.1.1, ()), ()))

def sp4 : Abs.Spec := ⟨0, i4, o4, m4⟩

def an4 : Nat → Abs.FAn
  | 0 => Abs.FAn.mk (fun
    | 7 => some ⟨[2], (.dat .bool .nil), .nil⟩
    | _ => none) (fun _ => none) (fun _ => none) (fun _ _ => 0)
  | _ => {}

theorem ok4 : Abs.SpecOK Tryd.prog 4 sp4 :=
  Abs.specOC_of (C := ctab) (mv := mvtab) ctab_ok (n := 12) (an := an4) (T := Abs.tabOf [(17, sp17), (18, sp18), (19, sp19), (20, sp20), (21, sp21), (36, sp36), (35, sp35), (29, sp29), (32, sp32), (37, sp37), (34, sp34)]) good foll (Abs.tabOf_ok _ (by simp only [List.forall_mem_cons]; exact ⟨ok17, ok18, ok19, ok20, ok21, ok36, ok35, ok29, ok32, ok37, ok34, fun _ h => by cases h⟩)) rfl (by intro v; kernel_rfl)

/- warnings: store: pointer &e16.0 -/

/- pagewatch/pagewatchlaw21.RouteExact -/

end
end Go.Proofs.YtcblbcpnfidndaaDoor

namespace Go.Proofs.YtcblbcpnfidndaaDoor
open Go Go.Abs
noncomputable section
/- pagewatch/mute.Silenced -/
def i64 : Abs.Sg := ⟨[0, 1, 2], (.dat (.row Z1) (.dat (.row Z7) (.dat (.int .i64) .nil))), .nil⟩

/- 116 pagewatch/mute.End$1: not told by a law: a closure -/

/- 115 slices.IndexFunc[[]pagewatch/api.Silence,pagewatch/api.Silence]: not told by a law: a parameter -/

/- 117 slices.Delete[[]pagewatch/api.Silence,pagewatch/api.Silence]: not told by a law: run where it is called -/

/- 146 pagewatch/mute.equal$1: not told by a law: a closure -/

/- 159 slices.IndexFunc[[]string,string]: not told by a law: a parameter -/

/- 145 slices.ContainsFunc[[]string,string]: not told by a law: a parameter -/

end
end Go.Proofs.YtcblbcpnfidndaaDoor

namespace Go.Proofs.YtcblbcpnfidndaaDoor
open Go Go.Abs Go.Lab
/-- What joins and conditions need. -/
theorem sS : (∀ h : Decidable True, @decide True h = true) ∧ (∀ h : Decidable False, @decide False h = false) ∧ (∀ {α : Type} (a b : α), cond true a b = a) ∧ (∀ {α : Type} (a b : α), cond false a b = b) ∧ (∀ {α β : Type} (a : α) (f : α → Option β), (some a).bind f = f a) ∧ (!true) = false ∧ (!false) = true ∧ (∀ b : Bool, (true && b) = b) ∧ (∀ b : Bool, (b && true) = b) ∧ (∀ b : Bool, (false && b) = false) ∧ (∀ b : Bool, (b && false) = false) ∧ (∀ {α : Type} [BEq α] [LawfulBEq α] (a : α), (a == a) = true) ∧ (∀ {α : Type} [BEq α] [LawfulBEq α] (a : α), (a != a) = false) :=
  ⟨fun _ => decide_true _, fun _ => decide_false _, fun _ _ => rfl, fun _ _ => rfl, fun _ _ => rfl, rfl, rfl, Bool.true_and, Bool.and_true, Bool.false_and, Bool.and_false, fun _ => beq_self_eq_true _, fun _ => bne_self_eq_false _⟩

/-- An element of a row, without the proof that it is one. -/
def rowG {A B : Type} (l : List A) (n : Int) (F : A → Option B) : Option B := bif decide (0 ≤ n) then (l[n.toNat]?).bind F else none

theorem rowAt_G {A B : Type} {l : List A} {n : Int} (F : A → Option B) : Abs.rowAt l n (fun e _ => F e) = rowG l n F := by
  unfold Abs.rowAt rowG
  cases l[n.toNat]? <;> rfl

theorem rowG_nat {A B : Type} {l : List A} {i : Nat} {e : A} (h : l[i]? = some e) (F : A → Option B) : rowG l (i : Int) F = F e := by
  unfold rowG
  rw [show decide (0 ≤ (i : Int)) = true from decide_eq_true (by omega), Int.toNat_natCast, h]; rfl

theorem rowG_int {A B : Type} {l : List A} {n : Int} {e : A} (h0 : 0 ≤ n) (h : l[n.toNat]? = some e) (F : A → Option B) : rowG l n F = F e := by
  unfold rowG
  rw [show decide (0 ≤ n) = true from decide_eq_true h0, h]; rfl

theorem w64_nat {i : Nat} (h : i < 9223372036854775807) : w64 ((i : Int) + 1) = ((i + 1 : Nat) : Int) := by rw [w64_id (by omega) (by omega)]; omega

theorem drop_at {A : Type} {l : List A} {i : Nat} (h : i < l.length) : ∃ e, l[i]? = some e ∧ l.drop i = e :: l.drop (i + 1) :=
  ⟨l[i], List.getElem?_eq_getElem h, List.drop_eq_getElem_cons h⟩

theorem getD_some {A : Type} {l : List A} {i : Nat} (h : i < l.length) : ∃ e, l[i]? = some e := ⟨_, List.getElem?_eq_getElem h⟩

theorem bind_of {A B : Type} {o : Option A} {f : A → Option B} {y : Option B} (x : A) (h : o = some x) (h2 : f x = y) : o.bind f = y := by rw [h]; exact h2

/-! ### Bytes -/
abbrev bl (s : ByteArray) : List UInt8 := s.data.toList

theorem len_bl (s : ByteArray) : (bl s).length = s.size := Array.length_toList

theorem at_bl (s : ByteArray) (i : Nat) : (s[i]? : Option UInt8) = (bl s)[i]? := by
  rw [Array.getElem?_toList]
  by_cases h : i < s.size
  · rw [getElem?_pos s i h, getElem?_pos s.data i h]; rfl
  · rw [getElem?_neg s i h, getElem?_neg s.data i h]

theorem toList_bl (s : ByteArray) : s.toList = bl s := ByteArray.toList_eq s

theorem bl_inj {s t : ByteArray} (h : bl s = bl t) : s = t := ByteArray.ext (Array.toList_inj.1 h)

theorem bl_mk (l : List UInt8) : bl (mkB l) = l := rfl

theorem mk_bl (s : ByteArray) : mkB (bl s) = s := bl_inj rfl

theorem bl_empty : bl ByteArray.empty = [] := rfl

theorem beq_bl (s t : ByteArray) : (bl s == bl t) = decide (s = t) := by
  by_cases h : s = t
  · subst h; simp
  · have : bl s ≠ bl t := fun e => h (bl_inj e)
    rw [decide_eq_false h]; exact beq_eq_false_iff_ne.2 this

theorem size_mk (l : List UInt8) : (mkB l).size = l.length := rfl

theorem extract_bl (s : ByteArray) (a b : Nat) : bl (s.extract a b) = ((bl s).drop a).take (b - a) := by
  exact Lib.extract_data s a b

abbrev LT : Type := ByteArray × ByteArray × Unit

abbrev MT : Type := ByteArray × Int × ByteArray × Unit

def u8 (c : UInt8) : Int := ((c.toNat : Nat) : Int)

theorem keyChar_u8 (c : UInt8) : keyChar c = ((decide (97 ≤ u8 c) && decide (u8 c ≤ 122)) || (decide (48 ≤ u8 c) && decide (u8 c ≤ 57)) || u8 c == 95) := by
  have e : (c == 95) = (u8 c == 95) := by
    by_cases h : c = 95
    · subst h; rfl
    · have : u8 c ≠ 95 := fun e => h (UInt8.toNat_inj.1 (by unfold u8 at e; show c.toNat = 95; omega))
      rw [beq_eq_false_iff_ne.2 h, beq_eq_false_iff_ne.2 this]
  unfold keyChar
  rw [e]
  have le : ∀ (n : UInt8), decide (n ≤ c) = decide ((n.toNat : Int) ≤ u8 c) := fun n => decide_eq_decide.2 (by rw [UInt8.le_iff_toNat_le]; unfold u8; omega)
  have ge : ∀ (n : UInt8), decide (c ≤ n) = decide (u8 c ≤ (n.toNat : Int)) := fun n => decide_eq_decide.2 (by rw [UInt8.le_iff_toNat_le]; unfold u8; omega)
  rw [le, ge, le, ge]
  rfl

theorem valChar_u8 (c : UInt8) : (decide (32 ≤ c) && decide (c ≤ 126)) = (decide (32 ≤ u8 c) && decide (u8 c ≤ 126)) := by
  have le : ∀ (n : UInt8), decide (n ≤ c) = decide ((n.toNat : Int) ≤ u8 c) := fun n => decide_eq_decide.2 (by rw [UInt8.le_iff_toNat_le]; unfold u8; omega)
  have ge : ∀ (n : UInt8), decide (c ≤ n) = decide (u8 c ≤ (n.toNat : Int)) := fun n => decide_eq_decide.2 (by rw [UInt8.le_iff_toNat_le]; unfold u8; omega)
  rw [le, ge]
  rfl

theorem byte_at {s : ByteArray} {i : Nat} {c : UInt8} (h : (bl s)[i]? = some c) : (((s[(i : Int).toNat]?.getD 0).toNat : Nat) : Int) = u8 c := by
  rw [Int.toNat_natCast, at_bl, h]; rfl

theorem lt_ge (a b : Int) : decide (a < b) = !decide (b ≤ a) := by
  by_cases h : a < b
  · rw [decide_eq_true h, decide_eq_false (by omega)]; rfl
  · rw [decide_eq_false h, decide_eq_true (by omega)]; rfl

theorem gt_le (a b : Int) : decide (a > b) = !decide (a ≤ b) := by
  by_cases h : a > b
  · rw [decide_eq_true h, decide_eq_false (by omega)]; rfl
  · rw [decide_eq_false h, decide_eq_true (by omega)]; rfl

theorem loop87 (s : ByteArray) (hs : s.size ≤ 9223372036854775807) : ∀ (k i : Nat), i + k = s.size →
    loopT l87_0_4 (((i : Int), s, (s.size : Int), ()), ()) = some (if ((bl s).drop i).all keyChar then .inr ((), ()) else .inl ((false, ()), ())) := by
  intro k
  induction k with
  | zero =>
    intro i h
    rw [List.drop_eq_nil_of_le (by rw [len_bl]; omega)]
    refine loopT_inr ?_
    have : ¬ (i : Int) < (s.size : Int) := by omega
    simp only [l87_0_4, decide_eq_false this, sumE, sS, List.all_nil, if_true]
  | succ k ih =>
    intro i h
    obtain ⟨c, hc, hd⟩ := drop_at (l := bl s) (i := i) (by rw [len_bl]; omega)
    have hlt : decide ((i : Int) < (s.size : Int)) = true := decide_eq_true (by omega)
    have hbd : decide ((0 : Int) ≤ (i : Int) ∧ (i : Int) < (s.size : Int)) = true := decide_eq_true (by omega)
    rw [hd, List.all_cons]
    have hstep : l87_0_4 (((i : Int), s, (s.size : Int), ()), ()) = if keyChar c then some (.inl ((w64 ((i : Int) + 1), s, (s.size : Int), ()), ())) else some (.inr (.inl ((false, ()), ()))) := by
      rw [keyChar_u8]
      simp only [l87_0_4, hlt, hbd, byte_at hc, sumE, sS, lt_ge, gt_le, bne]
      cases decide (97 ≤ u8 c) <;> cases decide (u8 c ≤ 122) <;> cases decide (48 ≤ u8 c) <;> cases decide (u8 c ≤ 57) <;> cases (u8 c == 95) <;> rfl
    cases hk : keyChar c
    · rw [hk] at hstep
      exact loopT_inr hstep
    · rw [hk, w64_nat (by omega)] at hstep
      rw [loopT_inl hstep, ih (i + 1) (by omega)]
      rfl

def valChar (c : UInt8) : Bool := decide (32 ≤ c) && decide (c ≤ 126)

theorem valChar_eq (c : UInt8) : valChar c = (decide (32 ≤ u8 c) && decide (u8 c ≤ 126)) := valChar_u8 c

theorem loop88 (s : ByteArray) (hs : s.size ≤ 9223372036854775807) : ∀ (k i : Nat), i + k = s.size →
    loopT l88_0_2 (((i : Int), s, (s.size : Int), ()), ()) = some (if ((bl s).drop i).all valChar then .inr ((s, ()), ()) else .inl ((false, ()), ())) := by
  intro k
  induction k with
  | zero =>
    intro i h
    rw [List.drop_eq_nil_of_le (by rw [len_bl]; omega)]
    refine loopT_inr ?_
    have : ¬ (i : Int) < (s.size : Int) := by omega
    simp only [l88_0_2, decide_eq_false this, sumE, sS, List.all_nil, if_true]
  | succ k ih =>
    intro i h
    obtain ⟨c, hc, hd⟩ := drop_at (l := bl s) (i := i) (by rw [len_bl]; omega)
    have hlt : decide ((i : Int) < (s.size : Int)) = true := decide_eq_true (by omega)
    have hbd : decide ((0 : Int) ≤ (i : Int) ∧ (i : Int) < (s.size : Int)) = true := decide_eq_true (by omega)
    rw [hd, List.all_cons]
    have hstep : l88_0_2 (((i : Int), s, (s.size : Int), ()), ()) = if valChar c then some (.inl ((w64 ((i : Int) + 1), s, (s.size : Int), ()), ())) else some (.inr (.inl ((false, ()), ()))) := by
      rw [valChar_eq]
      simp only [l88_0_2, hlt, hbd, byte_at hc, sumE, sS, lt_ge, gt_le, bne]
      cases decide (32 ≤ u8 c) <;> cases decide (u8 c ≤ 126) <;> rfl
    cases hk : valChar c
    · rw [hk] at hstep
      exact loopT_inr hstep
    · rw [hk, w64_nat (by omega)] at hstep
      rw [loopT_inl hstep, ih (i + 1) (by omega)]
      rfl

abbrev keyS (s : ByteArray) : Bool := keyL (bl s)

abbrev valS (s : ByteArray) : Bool := valL (bl s)

theorem key_head (s : ByteArray) : keyS s = match bl s with
    | [] => false
    | c :: _ => (!decide ((s.size : Int) > 24)) && (decide (97 ≤ u8 c) && decide (u8 c ≤ 122)) && (bl s).all keyChar := by
  have hl := len_bl s
  unfold keyS keyL
  cases h : bl s with
  | nil => rfl
  | cons c r =>
    rw [h] at hl
    have le : ∀ (n : UInt8), decide (n ≤ c) = decide ((n.toNat : Int) ≤ u8 c) := fun n => decide_eq_decide.2 (by rw [UInt8.le_iff_toNat_le]; unfold u8; omega)
    have ge : ∀ (n : UInt8), decide (c ≤ n) = decide (u8 c ≤ (n.toNat : Int)) := fun n => decide_eq_decide.2 (by rw [UInt8.le_iff_toNat_le]; unfold u8; omega)
    simp only [gt_le, Bool.not_not]
    rw [show decide ((c :: r).length ≤ 24) = decide ((s.size : Int) ≤ 24) from decide_eq_decide.2 (by rw [hl]; omega), le, ge]
    rfl

theorem m87_eq (s : ByteArray) (hs : s.size ≤ 9223372036854775807) : m87 ((s, ()), ()) = some ((keyS s, ()), ()) := by
  rw [key_head]
  have hl := len_bl s
  have hlp := loop87 s hs s.size 0 (by omega)
  unfold m87
  cases h : bl s with
  | nil =>
    simp only [toList_bl, h, bl_empty, sumE, sS]
  | cons c r =>
    have hne : (bl s == bl ByteArray.empty) = false := by rw [h]; rfl
    have h0 : (((s[0]?.getD 0).toNat : Nat) : Int) = u8 c := by rw [at_bl, h]; rfl
    have hpos : decide ((0 : Int) ≤ 0 ∧ (0 : Int) < s.size) = true := decide_eq_true (by rw [h] at hl; simp at hl; omega)
    simp only [toList_bl, hne, hpos, h0, sumE, sS]
    cases decide ((s.size : Int) > 24)
    · simp only [lt_ge, gt_le, sumE, sS]
      cases decide (97 ≤ u8 c)
      · rfl
      · cases decide (u8 c ≤ 122)
        · rfl
        · simp only [sumE, sS]
          rw [List.drop_zero] at hlp
          refine bind_of _ hlp ?_
          cases ha : (bl s).all keyChar <;> rw [← h] <;> simp only [ha, sumE, sS] <;> rfl
    · rfl

theorem val_def (s : ByteArray) : valS s = ((bl s).all valChar && decide ((s.size : Int) ≤ 64)) := by
  unfold valS valL
  rw [len_bl, show decide (s.size ≤ 64) = decide ((s.size : Int) ≤ 64) from decide_eq_decide.2 (by omega)]
  rfl

theorem m88_eq (s : ByteArray) (hs : s.size ≤ 9223372036854775807) : m88 ((s, ()), ()) = some ((valS s, ()), ()) := by
  rw [val_def]
  have hlp := loop88 s hs s.size 0 (by omega)
  rw [List.drop_zero] at hlp
  unfold m88
  refine bind_of _ hlp ?_
  cases ha : (bl s).all valChar <;> simp only [sumE, sS] <;> rfl

/-- Whether a matcher is right. -/
def rightM (m : MT) : Bool := keyS m.1 && (decide (m.2.1 ≥ 0) && (decide (m.2.1 ≤ 3) && valS m.2.2.1))

def MSz (m : MT) : Prop := m.1.size ≤ 9223372036854775807 ∧ m.2.2.1.size ≤ 9223372036854775807

theorem m22_eq (m : MT) (hm : MSz m) : m22 ((m, ()), ()) = some ((rightM m, ()), ()) := by
  unfold m22 rightM
  simp only [m87_eq _ hm.1, m88_eq _ hm.2, sumE, sS]
  cases keyS m.1 <;> cases decide (m.2.1 ≥ 0) <;> cases decide (m.2.1 ≤ 3) <;> simp only [sumE, sS]

end Go.Proofs.YtcblbcpnfidndaaDoor

namespace Go.Proofs.YtcblbcpnfidndaaDoor
open Go Go.Abs Go.Lab
end Go.Proofs.YtcblbcpnfidndaaDoor

namespace Go.Proofs.YtcblbcpnfidndaaDoor
open Go Go.Abs Go.Lab
def starOK : Option (Nat × Nat) → Int → Int → Prop
  | none, s, _ => s = -1
  | some q, s, f => s = ((q.1 : Nat) : Int) ∧ f = ((q.2 : Nat) : Int)

/-- The state of the program's loop. -/
structure LS (P V : ByteArray) (p v : Nat) (star : Option (Nat × Nat)) (a : (Int × Int × Int × Int × ByteArray × ByteArray × Unit) × Unit) : Prop where
  inv : LInv (bl P) (bl V) p v star
  st : ∃ (s f : Int), a = (((p : Int), (v : Int), s, f, V, P, ()), ()) ∧ starOK star s f

/-- No value is long. -/
def LSz (l : List LT) : Prop := l.length ≤ 9223372036854775807 ∧ ∀ x ∈ l, x.2.1.size ≤ 4294967294

def PSz (m : MT) : Prop := m.2.2.1.size ≤ 4294967295

def PSs (ms : List MT) : Prop := ms.length ≤ 9223372036854775807 ∧ ∀ m ∈ ms, PSz m

end Go.Proofs.YtcblbcpnfidndaaDoor

namespace Go.Proofs.YtcblbcpnfidndaaDoor
open Go Go.Abs Go.Lab
theorem sane20 : m18 ((), ()) = some ((true, ()), ()) := by kernel_rfl

end Go.Proofs.YtcblbcpnfidndaaDoor

namespace Go.Proofs.YtcblbcpnfidndaaDoor
open Go Go.Abs Go.Lab
abbrev Dice := List Int × Int × Unit

def DOK (d : Dice) : Prop := 0 ≤ d.2.1 ∧ d.2.1 ≤ d.1.length ∧ d.1.length ≤ 500

theorem dok0 {l : List Int} (h : l.length ≤ 500) : DOK (l, 0, ()) := ⟨Int.le_refl _, Int.natCast_nonneg _, h⟩

theorem next_spec (n : Int) (d : Dice) (hd : DOK d) (hn : n ≤ 9223372036854775807) :
    ∃ (r : Int) (d' : Dice), m39 ((n, ()), ((d, ()), ())) = some ((r, ()), ((d', ()), ())) ∧ DOK d' ∧ (1 ≤ n → 0 ≤ r ∧ r < n) ∧ (n < 1 → r = 0) := by
  obtain ⟨l, at_, u⟩ := d
  obtain ⟨h1, h2, h3⟩ := hd
  simp only at h1 h2 h3
  unfold m39
  simp only [rowAt_G]
  by_cases c1 : at_ ≥ (l.length : Int)
  · refine ⟨0, (l, at_, ()), ?_, ⟨h1, h2, h3⟩, fun h => ⟨by omega, by omega⟩, fun _ => rfl⟩
    simp only [decide_eq_true c1, sumE, sS]
  · by_cases c2 : n < 1
    · refine ⟨0, (l, at_, ()), ?_, ⟨h1, h2, h3⟩, fun h => ⟨by omega, by omega⟩, fun _ => rfl⟩
      simp only [decide_eq_false c1, decide_eq_true c2, sumE, sS]
    · have hat : w64 (at_ + 1) = at_ + 1 := w64_id (by omega) (by omega)
      have hne : n ≠ 0 := by omega
      obtain ⟨e, he⟩ := getD_some (l := l) (i := at_.toNat) (by omega)
      have hb := Int.tmod_lt_of_pos e (show (0 : Int) < n by omega)
      have hb2 : -n < e.tmod n := by
        have := Int.lt_tmod_of_pos e (show (0 : Int) < n by omega)
        omega
      by_cases c3 : e.tmod n < 0
      · refine ⟨e.tmod n + n, (l, at_ + 1, ()), ?_, ⟨by simp only; omega, by simp only; omega, h3⟩, fun h => ⟨by omega, by omega⟩, fun h => by omega⟩
        simp only [decide_eq_false c1, decide_eq_false c2, sumE, sS, rowG_int h1 he, decide_eq_true hne, decide_eq_true c3, hat, w64_id (x := e.tmod n + n) (by omega) (by omega)]
      · refine ⟨e.tmod n, (l, at_ + 1, ()), ?_, ⟨by simp only; omega, by simp only; omega, h3⟩, fun h => ⟨by omega, by omega⟩, fun h => by omega⟩
        simp only [decide_eq_false c1, decide_eq_false c2, sumE, sS, rowG_int h1 he, decide_eq_true hne, decide_eq_false c3, hat]

/-- The element of a row that is typed out. -/
theorem at_list {A B : Type} (l : List A) {n : Int} (h0 : 0 ≤ n) (h1 : n < l.length) (F : A → Option B) : ∃ e, e ∈ l ∧ (bif decide ((0 : Int) ≤ n ∧ (n : Int) < l.length) then (l[n.toNat]?).bind F else none) = F e := by
  obtain ⟨e, he⟩ := getD_some (l := l) (i := n.toNat) (by omega)
  exact ⟨e, List.mem_of_getElem? he, by rw [decide_eq_true (And.intro h0 h1), he]; rfl⟩

/-- A matcher that is right, and short. -/
def GoodM (m : MT) : Prop := rightM m = true ∧ m.1.size ≤ 64 ∧ m.2.2.1.size ≤ 64 ∧ 0 ≤ m.2.1 ∧ m.2.1 ≤ 3

theorem GoodM.p {m : MT} (h : GoodM m) : PSz m := by have := h.2.2.1; unfold PSz; omega

theorem GoodM.z {m : MT} (h : GoodM m) : MSz m := by have := h.2.1; have := h.2.2.1; unfold MSz; omega

theorem keys5 : ∀ k ∈ [(bs [97, 112, 112]), (bs [104, 111, 115, 116]), (bs [115, 101, 118]), (bs [116, 101, 97, 109]), (bs [122, 111, 110, 101])], keyS k = true ∧ k.size ≤ 64 := by decide +kernel

theorem vals8 : ∀ v ∈ [(bs [97]), (bs [98]), ByteArray.empty, (bs [42]), (bs [99, 114, 105, 116]), (bs [63]), (bs [119, 101, 98, 45, 42]), (bs [97, 34, 98, 92])], valS v = true ∧ v.size ≤ 64 := by decide +kernel

theorem matcher_spec (d : Dice) (hd : DOK d) : ∃ (m : MT) (d' : Dice), m86 ((), ((d, ()), ())) = some ((), ((d', ()), ((m, ()), ()))) ∧ DOK d' ∧ GoodM m := by
  obtain ⟨a, d1, e1, hd1, b1, _⟩ := next_spec 5 d hd (by omega)
  have b1 := b1 (by omega)
  obtain ⟨o, d2, e2, hd2, b2, _⟩ := next_spec 4 d1 hd1 (by omega)
  have b2 := b2 (by omega)
  obtain ⟨c, d3, e3, hd3, b3, _⟩ := next_spec 8 d2 hd2 (by omega)
  have b3 := b3 (by omega)
  unfold m86
  simp only [e1, Option.bind_some]
  obtain ⟨k, hk, ek⟩ := at_list [(bs [97, 112, 112]), (bs [104, 111, 115, 116]), (bs [115, 101, 118]), (bs [116, 101, 97, 109]), (bs [122, 111, 110, 101])] b1.1 b1.2 (fun e11 => (m39 ((4, ()), ((d1, ()), ()))).bind fun u12 =>
    (m39 ((8, ()), ((u12.2.1.1, ()), ()))).bind fun u13 =>
    bif (decide ((0 : Int) ≤ u13.1.1 ∧ (u13.1.1 : Int) < [(bs [97]), (bs [98]), ByteArray.empty, (bs [42]), (bs [99, 114, 105, 116]), (bs [63]), (bs [119, 101, 98, 45, 42]), (bs [97, 34, 98, 92])].length)) then
    ([(bs [97]), (bs [98]), ByteArray.empty, (bs [42]), (bs [99, 114, 105, 116]), (bs [63]), (bs [119, 101, 98, 45, 42]), (bs [97, 34, 98, 92])][u13.1.1.toNat]?).bind fun e14 =>
    some (((), ((u13.2.1.1, ()), (((e11, (u12.1.1, (e14, ()))), ()), ()))) : (Unit) × (Y11 × (Y12 × Unit) × Unit))
    else none)
  rw [ek]
  simp only [e2, e3, Option.bind_some]
  obtain ⟨v, hv, ev⟩ := at_list [(bs [97]), (bs [98]), ByteArray.empty, (bs [42]), (bs [99, 114, 105, 116]), (bs [63]), (bs [119, 101, 98, 45, 42]), (bs [97, 34, 98, 92])] b3.1 b3.2 (fun e14 => some (((), ((d3, ()), (((k, (o, (e14, ()))), ()), ()))) : (Unit) × (Y11 × (Y12 × Unit) × Unit)))
  rw [ev]
  have h1 := keys5 k hk
  have h2 := vals8 v hv
  refine ⟨(k, o, v, ()), d3, rfl, hd3, ?_, h1.2, h2.2, b2.1, by simp only; omega⟩
  unfold rightM
  simp only [h1.1, h2.1, decide_eq_true b2.1, decide_eq_true (show o ≤ 3 by omega), Bool.and_self]

theorem matchers_loop : ∀ (n : Nat) (i : Int) (d : Dice) (l : List MT), DOK d → i = n → l.length + n ≤ 1000 → (∀ m ∈ l, GoodM m) →
    ∃ (l' : List MT) (d' : Dice), loopT l21_0_3 ((i, ()), ((d, ()), (l, ()))) = some ((), ((d', ()), (l', ()))) ∧ DOK d' ∧ l'.length = l.length + n ∧ ∀ m ∈ l', GoodM m := by
  intro n
  induction n with
  | zero =>
    intro i d l hd hi hl hg
    refine ⟨l, d, loopT_inr ?_, hd, rfl, hg⟩
    have : decide (i > 0) = false := decide_eq_false (by omega)
    simp only [l21_0_3, this, sumE, sS]
  | succ n ih =>
    intro i d l hd hi hl hg
    obtain ⟨m, d1, e1, hd1, hm⟩ := matcher_spec d hd
    obtain ⟨l', d', e2, hd', hl', hg'⟩ := ih (i - 1) d1 (l ++ [m]) hd1 (by omega) (by simp; omega) (fun x hx => by
      rcases List.mem_append.1 hx with h | h
      · exact hg x h
      · simp at h; subst h; exact hm)
    refine ⟨l', d', ?_, hd', by rw [hl']; simp; omega, hg'⟩
    rw [← e2]
    refine loopT_inl ?_
    have h0 : decide (i > 0) = true := decide_eq_true (by omega)
    have h1 : decide (l.length + ([m] : List MT).length ≤ 4294967296) = true := decide_eq_true (by simp; omega)
    simp only [l21_0_3, h0, e1, sumE, sS, h1, w64_id (x := i - 1) (by omega) (by omega)]

theorem matchers_spec (n : Int) (d : Dice) (hd : DOK d) (h0 : 0 ≤ n) (hn : n ≤ 900) : ∃ (l : List MT) (d' : Dice), m21 ((n, ()), ((d, ()), ())) = some ((), ((d', ()), (l, ()))) ∧ DOK d' ∧ (l.length : Int) ≤ n ∧ ∀ m ∈ l, GoodM m := by
  obtain ⟨a, d1, e1, hd1, b1, _⟩ := next_spec (w64 (n + 1)) d hd (by rw [w64_id (by omega) (by omega)]; omega)
  rw [w64_id (x := n + 1) (by omega) (by omega)] at e1 b1
  have b1 := b1 (by omega)
  obtain ⟨l', d', e2, hd', hl', hg'⟩ := matchers_loop a.toNat a d1 [] hd1 (by omega) (by simp; omega) (fun m hm => by cases hm)
  refine ⟨l', d', ?_, hd', by rw [hl']; simp; omega, hg'⟩
  unfold m21
  simp only [w64_id (x := n + 1) (by omega) (by omega), e1, Option.bind_some, e2]

/-- Labels that are short. -/
def GoodL (l : List LT) : Prop := l.length ≤ 4 ∧ ∀ x ∈ l, x.1.size ≤ 64 ∧ x.2.1.size ≤ 64

theorem GoodL.z {l : List LT} (h : GoodL l) : LSz l := ⟨by have := h.1; omega, fun x hx => by have := (h.2 x hx).2; omega⟩

abbrev keys4 : List ByteArray := [(bs [97, 112, 112]), (bs [104, 111, 115, 116]), (bs [115, 101, 118]), (bs [116, 101, 97, 109])]

abbrev vals6 : List ByteArray := [ByteArray.empty, (bs [97]), (bs [98]), (bs [99, 114, 105, 116]), (bs [97, 34, 98, 92]), (bs [119, 101, 98, 45, 49])]

abbrev arr4 : ByteArray × ByteArray × ByteArray × ByteArray × Unit := ((bs [97, 112, 112]), ((bs [104, 111, 115, 116]), ((bs [115, 101, 118]), ((bs [116, 101, 97, 109]), ()))))

theorem vals6_ok : ∀ v ∈ vals6, valS v = true ∧ v.size ≤ 64 := by decide +kernel

theorem keys4_ok : ∀ k ∈ keys4, keyS k = true ∧ k.size ≤ 64 := by decide +kernel

/-- What the dice's labels are made of: keys in order, values of a few. -/
def FromKeys (ks : List ByteArray) (l : List LT) : Prop := (l.map (·.1)).Sublist ks ∧ ∀ x ∈ l, x.2.1 ∈ vals6 ∧ x.2.1 ≠ ByteArray.empty

theorem labels_loop : ∀ (n i : Nat) (d : Dice) (l : List LT), i + n = 4 → DOK d → FromKeys (keys4.take i) l →
    ∃ (l' : List LT) (d' : Dice), loopT l20_0_3 (((i : Int), arr4, ()), ((d, ()), (l, ()))) = some ((), ((d', ()), (l', ()))) ∧ DOK d' ∧ FromKeys keys4 l' := by
  intro n
  induction n with
  | zero =>
    intro i d l hi hd hl
    refine ⟨l, d, loopT_inr ?_, hd, by rw [show i = 4 by omega] at hl; exact hl⟩
    have : decide ((i : Int) < 4) = false := decide_eq_false (by omega)
    simp only [l20_0_3, this, sumE, sS]
  | succ n ih =>
    intro i d l hi hd hl
    obtain ⟨k, hk⟩ := getD_some (l := keys4) (i := i) (by show i < 4; omega)
    obtain ⟨a, d1, e1, hd1, b1, _⟩ := next_spec 6 d hd (by omega)
    have b1 := b1 (by omega)
    obtain ⟨v, hv⟩ := getD_some (l := vals6) (i := a.toNat) (by show a.toNat < 6; omega)
    have h0 : decide ((i : Int) < 4) = true := decide_eq_true (by omega)
    have hb : decide ((0 : Int) ≤ a ∧ (a : Int) < vals6.length) = true := decide_eq_true ⟨b1.1, b1.2⟩
    have htk : keys4.take (i + 1) = keys4.take i ++ [k] := by rw [List.take_add_one, hk]; rfl
    have hw : w64 ((i : Int) + 1) = ((i + 1 : Nat) : Int) := w64_nat (by omega)
    have hlen : l.length ≤ 4 := by
      have := hl.1.length_le
      rw [List.length_map, List.length_take] at this
      omega
    by_cases he : v = ByteArray.empty
    · obtain ⟨l', d', e2, hd', hl'⟩ := ih (i + 1) d1 l (by omega) hd1 ⟨by rw [htk]; exact hl.1.trans (List.sublist_append_left _ _), hl.2⟩
      refine ⟨l', d', ?_, hd', hl'⟩
      rw [← e2]
      refine loopT_inl ?_
      simp only [l20_0_3, h0, rowAt_G, rowG_nat hk, e1, hb, hv, toList_bl, beq_bl, decide_eq_true he, sumE, sS, hw]
    · obtain ⟨l', d', e2, hd', hl'⟩ := ih (i + 1) d1 (l ++ [(k, v, ())]) (by omega) hd1 ⟨by rw [htk, List.map_append]; exact hl.1.append (List.Sublist.refl _), fun x hx => by
        rcases List.mem_append.1 hx with h | h
        · exact hl.2 x h
        · simp only [List.mem_singleton] at h; subst h; exact ⟨List.mem_of_getElem? hv, he⟩⟩
      refine ⟨l', d', ?_, hd', hl'⟩
      rw [← e2]
      refine loopT_inl ?_
      have h1 : decide (l.length + ([(k, (v, ()))] : List Y15).length ≤ 4294967296) = true := decide_eq_true (by simp; omega)
      simp only [l20_0_3, h0, rowAt_G, rowG_nat hk, e1, hb, hv, toList_bl, beq_bl, decide_eq_false he, sumE, sS, h1, hw]

theorem labels_spec (d : Dice) (hd : DOK d) : ∃ (l : List LT) (d' : Dice), m20 ((), ((d, ()), ())) = some ((), ((d', ()), (l, ()))) ∧ DOK d' ∧ FromKeys keys4 l := by
  obtain ⟨l, d', h1, h2, h3⟩ := labels_loop 4 0 d [] (by omega) hd ⟨List.nil_sublist _, fun x hx => by cases hx⟩
  refine ⟨l, d', ?_, h2, h3⟩
  unfold m20
  refine bind_of _ h1 rfl

theorem from_good {l : List LT} (h : FromKeys keys4 l) : GoodL l := by
  refine ⟨by have := h.1.length_le; rw [List.length_map] at this; exact this, fun x hx => ⟨?_, (vals6_ok _ (h.2 x hx).1).2⟩⟩
  exact (keys4_ok _ (h.1.subset (List.mem_map_of_mem hx))).2

theorem light (l : List Int) : m17 ((l, ()), ()) = some ((decide (l.length ≤ 500), ()), ()) := by
  unfold m17
  rw [show decide ((l.length : Int) ≤ 500) = decide (l.length ≤ 500) from decide_eq_decide.2 (by omega)]

theorem roll (l : List Int) : m19 ((l, ()), ()) = some ((), (((l, 0, ()), ()), ())) := rfl

end Go.Proofs.YtcblbcpnfidndaaDoor

namespace Go.Proofs.YtcblbcpnfidndaaDoor
open Go Go.Abs Go.Lab
abbrev RuT : Type := List MT × List MT × List ByteArray × Unit

abbrev big : Nat := 9223372036854775807

/-- The sizes of a rule, of alerts. -/
def RSz (r : RuT) : Prop := PSs r.1 ∧ PSs r.2.1 ∧ r.2.2.1.length ≤ big

/-! ### The dice's rules -/
def GoodR (r : RuT) : Prop := r.1.length ≤ 8 ∧ r.2.1.length ≤ 8 ∧ (∀ m ∈ r.1, GoodM m) ∧ (∀ m ∈ r.2.1, GoodM m) ∧ r.2.2.1.Sublist keys4 ∧ r.1 ≠ [] ∧ r.2.1 ≠ []

theorem GoodR.z {r : RuT} (h : GoodR r) : RSz r := by
  obtain ⟨h1, h2, h3, h4, h5, _⟩ := h
  refine ⟨⟨by omega, fun m hm => (h3 m hm).p⟩, ⟨by omega, fun m hm => (h4 m hm).p⟩, ?_⟩
  have := h5.length_le
  rw [show keys4.length = 4 from rfl] at this
  unfold big; omega

end Go.Proofs.YtcblbcpnfidndaaDoor

namespace Go.Proofs.YtcblbcpnfidndaaDoor
open Go Go.Abs Go.Lab
/-! ### Loops over a row -/
def runL {S E B : Type} (step : Nat → S → E → S ⊕ B) (fin : S → B) : Nat → List E → S → B
  | _, [], s => fin s
  | i, e :: r, s => match step i s e with
    | .inl s' => runL step fin (i + 1) r s'
    | .inr b => b

theorem loop_list {A B S E : Type} {f : A → Option (A ⊕ B)} (l : List E) (st : Nat → S → A) (step : Nat → S → E → S ⊕ B) (fin : S → B) (I : Nat → S → Prop)
    (h1 : ∀ i e s, l[i]? = some e → i < l.length → I i s → f (st i s) = some (match step i s e with | .inl s' => .inl (st (i + 1) s') | .inr b => .inr b))
    (hI : ∀ i e s s', l[i]? = some e → I i s → step i s e = .inl s' → I (i + 1) s')
    (h2 : ∀ s, I l.length s → f (st l.length s) = some (.inr (fin s))) :
    ∀ (k i : Nat) (s : S), i + k = l.length → I i s → loopT f (st i s) = some (runL step fin i (l.drop i) s) := by
  intro k
  induction k with
  | zero =>
    intro i s h hi
    obtain rfl : i = l.length := by omega
    rw [List.drop_length]
    exact loopT_inr (h2 s hi)
  | succ k ih =>
    intro i s h hi
    obtain ⟨e, he, hd⟩ := drop_at (l := l) (i := i) (by omega)
    have q := h1 i e s he (by omega) hi
    rw [hd]
    unfold runL
    cases hs : step i s e with
    | inl s' =>
      rw [hs] at q
      simp only
      rw [← ih (i + 1) s' (by omega) (hI i e s s' he hi hs)]
      exact loopT_inl q
    | inr b =>
      rw [hs] at q
      exact loopT_inr q

theorem loop_list0 {A B S E : Type} {f : A → Option (A ⊕ B)} (l : List E) (st : Nat → S → A) (step : Nat → S → E → S ⊕ B) (fin : S → B)
    (h1 : ∀ i e s, l[i]? = some e → i < l.length → f (st i s) = some (match step i s e with | .inl s' => .inl (st (i + 1) s') | .inr b => .inr b))
    (h2 : ∀ s, f (st l.length s) = some (.inr (fin s))) (s : S) : loopT f (st 0 s) = some (runL step fin 0 l s) := by
  have := loop_list l st step fin (fun _ _ => True) (fun i e s he hl _ => h1 i e s he hl) (fun _ _ _ _ _ _ _ => trivial) (fun s _ => h2 s) l.length 0 s (by omega) trivial
  rwa [List.drop_zero] at this

theorem runL_fold {S E B : Type} (g : S → E → S) (fin : S → B) : ∀ (l : List E) (i : Nat) (s : S), runL (fun _ s e => .inl (g s e)) fin i l s = fin (l.foldl g s) := by
  intro l
  induction l with
  | nil => intro i s; rfl
  | cons e r ih => intro i s; exact ih (i + 1) (g s e)

/-- A loop that goes through the whole row. -/
theorem loop_thru {A B E : Type} {f : A → Option (A ⊕ B)} (l : List E) (st : Nat → A) (fin : B)
    (h1 : ∀ i e, l[i]? = some e → i < l.length → f (st i) = some (.inl (st (i + 1)))) (h2 : f (st l.length) = some (.inr fin)) : loopT f (st 0) = some fin := by
  have := loop_list0 (S := Unit) l (fun i _ => st i) (fun _ _ _ => .inl ()) (fun _ => fin) (fun i e _ he hi => h1 i e he hi) (fun _ => h2) ()
  exact this.trans (congrArg some (runL_fold (fun _ _ => ()) (fun _ => fin) l 0 ()))

/-- A loop of a known number of rounds. -/
theorem loop_ind {A B : Type} {f : A → Option (A ⊕ B)} {Q : B → Prop} (I : Nat → A → Prop) (n : Nat)
    (h1 : ∀ i a, i < n → I i a → ∃ a', f a = some (.inl a') ∧ I (i + 1) a') (h2 : ∀ a, I n a → ∃ b, f a = some (.inr b) ∧ Q b) : ∀ a, I 0 a → ∃ b, loopT f a = some b ∧ Q b := by
  have : ∀ (k i : Nat) a, i + k = n → I i a → ∃ b, loopT f a = some b ∧ Q b := by
    intro k
    induction k with
    | zero =>
      intro i a h hi
      obtain rfl : i = n := by omega
      obtain ⟨b, h, hq⟩ := h2 a hi
      exact ⟨b, loopT_inr h, hq⟩
    | succ k ih =>
      intro i a h hi
      obtain ⟨a', h, hi'⟩ := h1 i a (by omega) hi
      obtain ⟨b, hb, hq⟩ := ih (i + 1) a' (by omega) hi'
      exact ⟨b, by rw [← hb]; exact loopT_inl h, hq⟩
  exact fun a h => this n 0 a (by omega) h

theorem lt_t {i n : Nat} (h : i < n) : decide ((i : Int) < (n : Int)) = true := decide_eq_true (by omega)

theorem lt_f (n : Nat) : decide ((n : Int) < (n : Int)) = false := decide_eq_false (by omega)

/-! ### Silences -/
abbrev SiT : Type := Int × Int × Int × Int × List MT × Unit

def SSz (s : SiT) : Prop := s.2.2.2.2.1.length ≤ 4294967296 ∧ ∀ m ∈ s.2.2.2.2.1, PSz m ∧ MSz m

def SSs (l : List SiT) : Prop := l.length ≤ 1000 ∧ ∀ s ∈ l, SSz s

theorem SSz.p {s : SiT} (h : SSz s) : PSs s.2.2.2.2.1 := ⟨by have := h.1; omega, fun m hm => (h.2 m hm).1⟩

theorem SSs.at {l : List SiT} (h : SSs l) {i : Nat} {e : SiT} (he : l[i]? = some e) : SSz e := h.2 e (List.mem_of_getElem? he)

def chkS (last : Int) (s : SiT) : Int :=
  bif decide (s.1 < 1) || decide (s.1 ≤ last) then 6
  else bif decide (s.2.1 < 0) || (decide (s.2.1 ≥ s.2.2.1) || (decide (s.2.2.1 > 8589934592) || decide (s.2.2.2.1 < 0))) then 1
  else bif (s.2.2.2.2.1.length : Int) == 0 then 7
  else bif decide ((s.2.2.2.2.1.length : Int) > 8) then 5
  else bif s.2.2.2.2.1.all rightM then 0 else 8

def goS : Int → List SiT → Int
  | _, [] => 0
  | last, s :: r => bif chkS last s != 0 then chkS last s else goS s.1 r

/-- What is wrong with silences. -/
def chkE (l : List SiT) : Int := bif decide ((l.length : Int) > 24) then 5 else goS 0 l

end Go.Proofs.YtcblbcpnfidndaaDoor

namespace Go.Proofs.YtcblbcpnfidndaaDoor
open Go Go.Abs Go.Lab
def addE (l : List SiT) (s : SiT) : Int × List SiT := bif chkE (l ++ [s]) != 0 then (chkE (l ++ [s]), []) else (0, l ++ [s])

end Go.Proofs.YtcblbcpnfidndaaDoor

namespace Go.Proofs.YtcblbcpnfidndaaDoor
open Go Go.Abs Go.Lab
/-- A silence of the dice. -/
def GoodS (s : SiT) : Prop := 0 ≤ s.2.1 ∧ s.2.1 < s.2.2.1 ∧ s.2.2.1 ≤ 2000 ∧ 0 ≤ s.2.2.2.1 ∧ s.2.2.2.2.1 ≠ [] ∧ s.2.2.2.2.1.length ≤ 8 ∧ ∀ m ∈ s.2.2.2.2.1, GoodM m

theorem GoodS.z {s : SiT} (h : GoodS s) : SSz s := ⟨by have := h.2.2.2.2.2.1; omega, fun m hm => ⟨(h.2.2.2.2.2.2 m hm).p, (h.2.2.2.2.2.2 m hm).z⟩⟩

/-- Silences of the dice. -/
def GoodSs (l : List SiT) : Prop := l.length ≤ 3 ∧ goS 0 l = 0 ∧ ∀ s ∈ l, s.1 ≤ 2 * (l.length : Int) ∧ GoodS s

theorem GoodSs.z {l : List SiT} (h : GoodSs l) : SSs l := ⟨by have := h.1; omega, fun s hs => (h.2.2 s hs).2.z⟩

end Go.Proofs.YtcblbcpnfidndaaDoor

namespace Go.Proofs.YtcblbcpnfidndaaDoor
open Go Go.Abs Go.Lab
/-! ### A row whose elements are looked at with the one before -/
def okP {E : Type} (bad : Option E → E → Bool) : Option E → List E → Bool
  | _, [] => true
  | p, e :: r => !bad p e && okP bad (some e) r

theorem loop_prev {A B E : Type} {f : A → Option (A ⊕ B)} (l : List E) (st : Nat → A) (bad : Option E → E → Bool) (no yes : B)
    (h1 : ∀ i e, l[i]? = some e → i < l.length → f (st i) = some (bif bad (if i = 0 then none else l[i - 1]?) e then .inr no else .inl (st (i + 1)))) (h2 : f (st l.length) = some (.inr yes)) :
    loopT f (st 0) = some (bif okP bad none l then yes else no) := by
  have key : ∀ (k i : Nat), i + k = l.length → loopT f (st i) = some (bif okP bad (if i = 0 then none else l[i - 1]?) (l.drop i) then yes else no) := by
    intro k
    induction k with
    | zero =>
      intro i h
      obtain rfl : i = l.length := by omega
      rw [List.drop_length]
      exact loopT_inr h2
    | succ k ih =>
      intro i h
      obtain ⟨e, he, hd⟩ := drop_at (l := l) (i := i) (by omega)
      have q := h1 i e he (by omega)
      rw [hd]
      unfold okP
      cases hb : bad (if i = 0 then none else l[i - 1]?) e
      · rw [hb] at q
        have := ih (i + 1) (by omega)
        rw [if_neg (by omega), Nat.add_sub_cancel, he] at this
        rw [Bool.not_false, Bool.true_and, ← this]
        exact loopT_inl q
      · rw [hb] at q
        exact loopT_inr q
  have := key l.length 0 (by omega)
  rw [List.drop_zero] at this
  exact this

theorem prev_case {E : Type} {l : List E} {i : Nat} (hi : i < l.length) : i = 0 ∨ ∃ p, 0 < i ∧ l[i - 1]? = some p ∧ (i ≤ 9223372036854775807 → w64 ((i : Int) - 1) = ((i - 1 : Nat) : Int)) := by
  by_cases h : i = 0
  · exact .inl h
  · obtain ⟨p, hp⟩ := getD_some (l := l) (i := i - 1) (by omega)
    exact .inr ⟨p, by omega, hp, fun hb => by rw [w64_id (by omega) (by omega)]; omega⟩

/-- At most, in the order of bytes. -/
def leB (a b : ByteArray) : Bool := Op.bytesLess a.toList b.toList || a.toList == b.toList

theorem add_zero {l : List SiT} {s : SiT} (h : (addE l s).1 = 0) : (addE l s).2 = l ++ [s] ∧ chkE (l ++ [s]) = 0 := by
  unfold addE at h ⊢
  cases hc : (chkE (l ++ [s]) != 0)
  · exact ⟨rfl, by simpa using hc⟩
  · rw [hc] at h
    rw [show chkE (l ++ [s]) = 0 from h] at hc
    cases hc

end Go.Proofs.YtcblbcpnfidndaaDoor

namespace Go.Proofs.YtcblbcpnfidndaaDoor
open Go Go.Abs Go.Lab
theorem bl_app (a b : ByteArray) : bl (a ++ b) = bl a ++ bl b := by
  show (a ++ b).data.toList = _
  rw [ByteArray.data_append, Array.toList_append]

theorem sz_app (a b : ByteArray) : (a ++ b).size = a.size + b.size := ByteArray.size_append

theorem mk_app (a b : List UInt8) : mkB a ++ mkB b = mkB (a ++ b) := bl_inj (by rw [bl_app, bl_mk, bl_mk, bl_mk])

theorem app_mk (s : ByteArray) (b : List UInt8) : s ++ mkB b = mkB (bl s ++ b) := bl_inj (by rw [bl_app, bl_mk, bl_mk])

theorem mk_inj {a b : List UInt8} (h : mkB a = mkB b) : a = b := by
  have := congrArg bl h
  rwa [bl_mk, bl_mk] at this

theorem drop_e {A : Type} {o : Option A} {x : A} (h : ∃ r, o = some r ∧ r = x) : o = some x := by
  obtain ⟨r, h1, rfl⟩ := h
  exact h1

/-! ### Valid labels -/
def badL (p : Option LT) (x : LT) : Bool := !keyS x.1 || (!valS x.2.1 || (x.2.1.toList == ByteArray.empty.toList || (match p with | none => false | some q => leB x.1 q.1)))

def validL (l : List LT) : Bool := !decide ((l.length : Int) > 12) && okP badL none l

/-- Texts that are no longer than memory. -/
def KSz (l : List LT) : Prop := l.length ≤ big ∧ ∀ x ∈ l, x.1.size ≤ big ∧ x.2.1.size ≤ big

theorem m42_eq (l : List LT) (hl : KSz l) : m42 ((l, ()), ()) = some ((validL l, ()), ()) := by
  unfold m42 validL
  cases hc : decide ((l.length : Int) > 12)
  · simp only [sumE, sS]
    have h := loop_prev (f := l42_0_4) l (fun i => (((i : Int), l, l, (l.length : Int), ()), ())) badL (.inl ((false, ()), ())) (.inr ((), ())) ?_ ?_
    · refine bind_of _ h ?_
      cases okP badL none l <;> rfl
    · intro i e he hi
      have hl1 := hl.1
      unfold big at hl1
      have hw : w64 ((i : Int) + 1) = ((i + 1 : Nat) : Int) := w64_nat (by omega)
      obtain ⟨z1, z2⟩ := hl.2 e (List.mem_of_getElem? he)
      have q1 := m87_eq e.1 z1
      have q2 := m88_eq e.2.1 z2
      rcases prev_case hi with h0 | ⟨p, h0, hp, hp1⟩
      · rw [if_pos h0]
        have : decide ((i : Int) > 0) = false := decide_eq_false (by omega)
        unfold badL
        simp only [l42_0_4, rowAt_G, rowG_nat he, lt_t hi, q1, q2, this, sumE, sS]
        cases keyS e.1 <;> cases valS e.2.1 <;> cases (e.2.1.toList == ByteArray.empty.toList) <;> simp only [sumE, sS, hw, Bool.or_false, Bool.or_true, Bool.false_or, Bool.true_or]
      · rw [if_neg (by omega), hp]
        have : decide ((i : Int) > 0) = true := decide_eq_true (by omega)
        unfold badL leB
        simp only [l42_0_4, rowAt_G, rowG_nat he, lt_t hi, q1, q2, this, hp1 (by omega), rowG_nat hp, sumE, sS]
        cases keyS e.1 <;> cases valS e.2.1 <;> cases (e.2.1.toList == ByteArray.empty.toList) <;> cases Op.bytesLess e.1.toList p.1.toList || e.1.toList == p.1.toList <;> simp only [sumE, sS, hw, Bool.or_false, Bool.or_true, Bool.false_or, Bool.true_or]
    · simp only [l42_0_4, lt_f, sumE, sS]
  · simp only [sumE, sS]

theorem okP_mem {E : Type} {bad : Option E → E → Bool} : ∀ {l : List E} {p : Option E}, okP bad p l = true → ∀ x ∈ l, ∃ q, bad q x = false
  | [], _, _, x, hx => by cases hx
  | e :: r, p, h, x, hx => by
    unfold okP at h
    rw [Bool.and_eq_true] at h
    rcases List.mem_cons.1 hx with rfl | hx
    · exact ⟨p, by simpa using h.1⟩
    · exact okP_mem h.2 x hx

theorem badL_no {q : Option LT} {x : LT} (h : badL q x = false) : keyS x.1 = true ∧ valS x.2.1 = true ∧ x.2.1 ≠ ByteArray.empty := by
  unfold badL at h
  simp only [Bool.or_eq_false_iff] at h
  refine ⟨by simpa using h.1, by simpa using h.2.1, fun e => ?_⟩
  rw [e] at h
  simp at h

theorem valid_mem {l : List LT} (h : validL l = true) : l.length ≤ 12 ∧ ∀ x ∈ l, keyS x.1 = true ∧ valS x.2.1 = true ∧ x.2.1 ≠ ByteArray.empty := by
  unfold validL at h
  rw [Bool.and_eq_true] at h
  refine ⟨?_, fun x hx => ?_⟩
  · have : decide ((l.length : Int) > 12) = false := by simpa using h.1
    have := of_decide_eq_false this
    omega
  · obtain ⟨q, hq⟩ := okP_mem h.2 x hx
    exact badL_no hq

theorem keyS_sz {s : ByteArray} (h : keyS s = true) : s.size ≤ 24 := by
  have := (key_all (s := bl s) h).2.1
  rwa [len_bl] at this

theorem valS_sz {s : ByteArray} (h : valS s = true) : s.size ≤ 64 := by
  have h : valL (bl s) = true := h
  unfold valL at h
  rw [Bool.and_eq_true] at h
  have := of_decide_eq_true h.2
  rwa [len_bl] at this

theorem quote_size (s : ByteArray) : (hQuote s).size ≤ 2 * s.size + 2 := by
  unfold hQuote
  rw [size_mk]
  have := esc_len s.data.toList
  have e : s.data.toList.length = s.size := len_bl s
  simp
  omega

theorem join_commas : ∀ l : List (List UInt8), Lib.join l [44] = commas l
  | [] => rfl
  | [x] => Lib.join_one x [44]
  | x :: y :: l => by
    rw [Lib.join_cons, commas_cons x (by simp), ← join_commas (y :: l), Lib.join_cons]
    simp [Lib.joinTail]

/-- The text of a label. -/
def partL (x : LT) : List UInt8 := item (bl x.1) [61] (bl x.2.1)

def textL (l : List LT) : List UInt8 := 123 :: (commas (l.map partL) ++ [125])

/-- The text of labels. -/
def textE (l : List LT) : ByteArray := if validL l then mkB (textL l) else ByteArray.empty

theorem part_eq (x : LT) : (x.1 ++ bs [61]) ++ hQuote x.2.1 = mkB (partL x) := by
  rw [show bs [61] = mkB [61] from rfl, app_mk]
  unfold hQuote partL item
  rw [mk_app]
  simp [bl]

theorem part_len {x : LT} (h1 : keyS x.1 = true) (h2 : valS x.2.1 = true) : (partL x).length ≤ 160 := by
  have a := keyS_sz h1
  have b := valS_sz h2
  have := esc_len (bl x.2.1)
  rw [len_bl] at this
  unfold partL item
  simp [len_bl]
  omega

theorem parts_len {l : List LT} (h : validL l = true) (i : Nat) : (commas ((l.map partL).take i)).length ≤ 2000 := by
  obtain ⟨h1, h2⟩ := valid_mem h
  have := commas_len ((l.map partL).take i) 160 (fun x hx => by
    obtain ⟨y, hy, rfl⟩ := List.mem_map.1 (List.mem_of_mem_take hx)
    exact part_len (h2 y hy).1 (h2 y hy).2.1)
  have hl : ((l.map partL).take i).length ≤ 12 := by rw [List.length_take, List.length_map]; omega
  have := Nat.mul_le_mul_right 161 hl
  omega

theorem m36_eq (l : List LT) (hl : KSz l) : m36 ((l, ()), ()) = some ((textE l, ()), ()) := by
  unfold m36 textE
  simp only [m42_eq l hl, sumE, sS]
  cases hv : validL l
  · simp only [sumE, sS, Bool.false_eq_true, if_false]
  · obtain ⟨h1, h2⟩ := valid_mem hv
    simp only [sumE, sS, if_true]
    have h := loop_ind (f := l36_0_5) (Q := fun b => b = ((), (l.map fun x => mkB (partL x), ()))) (fun i st => st = (((i : Int), l, (l.length : Int), ()), ((l.take i).map fun x => mkB (partL x), ()))) l.length ?_ ?_ _ rfl
    · obtain ⟨b, h3, rfl⟩ := h
      refine bind_of _ (show loopT l36_0_5 ((0, l, (l.length : Int), ()), ([], ())) = _ from h3) ?_
      have hj : hJoin (l.map fun x => mkB (partL x)) (bs [44]) = mkB (commas (l.map partL)) := by
        unfold hJoin
        rw [List.map_map]
        exact congrArg mkB (join_commas _)
      have hp := parts_len hv l.length
      rw [List.take_of_length_le (by rw [List.length_map]; exact Nat.le_refl _)] at hp
      have b1 : decide (List.length (l.map fun x => mkB (partL x)) ≤ 4294967296 ∧ (mkB (commas (l.map partL))).size ≤ 140737488355328) = true := decide_eq_true (by rw [List.length_map, size_mk]; omega)
      have b2 : decide (1 + (mkB (commas (l.map partL))).size ≤ 4294967296) = true := decide_eq_true (by rw [size_mk]; omega)
      have b3 : decide ((mkB (123 :: commas (l.map partL))).size + 1 ≤ 4294967296) = true := decide_eq_true (by rw [size_mk, List.length_cons]; omega)
      simp only [hj, b1, b2, sumE, sS]
      rw [show bs [123] = mkB [123] from rfl, mk_app, show [123] ++ commas (l.map partL) = 123 :: commas (l.map partL) from rfl, b3, show bs [125] = mkB [125] from rfl, mk_app]
      rfl
    · rintro i _ hi rfl
      obtain ⟨e, he⟩ := getD_some (l := l) (i := i) hi
      obtain ⟨k1, k2, _⟩ := h2 e (List.mem_of_getElem? he)
      have z1 := keyS_sz k1
      have z2 := valS_sz k2
      have z3 := quote_size e.2.1
      have hw : w64 ((i : Int) + 1) = ((i + 1 : Nat) : Int) := w64_nat (by omega)
      have b1 : decide (e.1.size + 1 ≤ 4294967296) = true := decide_eq_true (by omega)
      have b2 : decide (e.2.1.size ≤ 4294967296) = true := decide_eq_true (by omega)
      have b3 : decide ((e.1 ++ (bs [61])).size + (hQuote e.2.1).size ≤ 4294967296) = true := decide_eq_true (by rw [sz_app]; show e.1.size + 1 + _ ≤ _; omega)
      have b4 : decide (((l.take i).map fun x => mkB (partL x)).length + [mkB (partL e)].length ≤ 4294967296) = true := decide_eq_true (by simp; omega)
      refine ⟨_, ?_, rfl⟩
      rw [show l.take (i + 1) = l.take i ++ [e] by rw [List.take_add_one, he]; rfl, List.map_append]
      simp only [l36_0_5, rowAt_G, rowG_nat he, lt_t hi, b1, b2, b3, part_eq, b4, hw, sumE, sS]
      rfl
    · rintro _ rfl
      refine ⟨_, ?_, rfl⟩
      simp only [l36_0_5, lt_f, sumE, sS]
      rw [List.take_of_length_le (Nat.le_refl _)]

end Go.Proofs.YtcblbcpnfidndaaDoor

namespace Go.Proofs.YtcblbcpnfidndaaDoor
open Go Go.Abs Go.Lab
/-! ### A beginning -/
def preL (p s : List UInt8) : Bool := s.take p.length == p

theorem ext_all (s : ByteArray) (k : Nat) : bl (s.extract k s.size) = (bl s).drop k := by
  rw [extract_bl, List.take_of_length_le (by rw [List.length_drop, len_bl]; omega)]

theorem ext_mk (s : ByteArray) (k : Nat) : s.extract k s.size = mkB ((bl s).drop k) := bl_inj (by rw [ext_all, bl_mk])

theorem ext_take (s : ByteArray) (k : Nat) : s.extract 0 k = mkB ((bl s).take k) := bl_inj (by rw [extract_bl, bl_mk, List.drop_zero, Nat.sub_zero])

theorem m156_eq (s p : ByteArray) : m156 ((s, p, ()), ()) = some ((preL (bl p) (bl s), ()), ()) := by
  unfold m156
  by_cases h : (s.size : Int) ≥ (p.size : Int)
  · have h0 : decide ((0 : Int) ≤ (p.size : Int)) = true := decide_eq_true (by omega)
    have h1 : decide (0 ≤ p.size ∧ p.size ≤ s.size) = true := decide_eq_true (by omega)
    simp only [decide_eq_true h, h0, Int.toNat_natCast, h1, ext_take, toList_bl, bl_mk, sumE, sS]
    unfold preL
    rw [len_bl]
  · have : preL (bl p) (bl s) = false := by
      unfold preL
      refine beq_eq_false_iff_ne.2 fun e => ?_
      have := congrArg List.length e
      rw [List.length_take, len_bl, len_bl] at this
      omega
    simp only [decide_eq_false h, this, sumE, sS]

theorem pre_len {p s : List UInt8} (h : preL p s = true) : p.length ≤ s.length := by
  have := congrArg List.length (eq_of_beq h)
  rw [List.length_take] at this
  omega

theorem m138_eq (s p : ByteArray) : m138 ((s, p, ()), ()) = some ((if preL (bl p) (bl s) then (mkB ((bl s).drop p.size), true, ()) else (s, false, ())), ()) := by
  unfold m138
  simp only [m156_eq, sumE, sS]
  cases h : preL (bl p) (bl s)
  · simp only [sumE, sS, Bool.false_eq_true, if_false]
  · have hl := pre_len h
    rw [len_bl, len_bl] at hl
    have h0 : decide ((0 : Int) ≤ (p.size : Int)) = true := decide_eq_true (by omega)
    have h1 : decide (p.size ≤ s.size ∧ s.size ≤ s.size) = true := decide_eq_true (by omega)
    simp only [h0, Int.toNat_natCast, h1, ext_mk, sumE, sS, if_true]

theorem m103_eq (s p : ByteArray) : m103 ((s, p, ()), ()) = some ((if preL (bl p) (bl s) then (mkB ((bl s).drop p.size), true, ()) else (s, false, ())), ()) := by
  unfold m103
  simp only [m138_eq, sumE, sS]

theorem m136_eq (s p : ByteArray) : m136 ((s, p, ()), ()) = some ((if preL (bl p) (bl s) then mkB ((bl s).drop p.size) else s, ()), ()) := by
  unfold m136
  simp only [m156_eq, sumE, sS]
  cases h : preL (bl p) (bl s)
  · simp only [sumE, sS, Bool.false_eq_true, if_false]
  · have hl := pre_len h
    rw [len_bl, len_bl] at hl
    have h0 : decide ((0 : Int) ≤ (p.size : Int)) = true := decide_eq_true (by omega)
    have h1 : decide (p.size ≤ s.size ∧ s.size ≤ s.size) = true := decide_eq_true (by omega)
    simp only [h0, Int.toNat_natCast, h1, ext_mk, sumE, sS, if_true]

theorem m101_eq (s p : ByteArray) : m101 ((s, p, ()), ()) = some ((if preL (bl p) (bl s) then mkB ((bl s).drop p.size) else s, ()), ()) := by
  unfold m101
  simp only [m136_eq, sumE, sS]

/-! ### Up to the first 61 -/
theorem index_cut : ∀ (s : List UInt8), match cutEq s with
    | some (k, r) => Lib.indexByte s 61 = (k.length : Int) ∧ s = k ++ 61 :: r
    | none => Lib.indexByte s 61 = -1
  | [] => rfl
  | c :: s => by
    have ih := index_cut s
    unfold cutEq Lib.indexByte
    by_cases h : c = 61
    · subst h
      rw [if_pos rfl]
      exact ⟨by simp, rfl⟩
    · rw [if_neg h]
      have hb : (c == 61) = false := beq_eq_false_iff_ne.2 h
      cases hc : cutEq s with
      | none =>
        rw [hc] at ih
        simp only at ih
        simp only [Option.map_none]
        simp [hb, ih]
      | some p =>
        rw [hc] at ih
        simp only at ih
        simp only [Option.map_some, List.length_cons, List.cons_append]
        refine ⟨?_, by rw [← ih.2]⟩
        have : (Lib.indexByte s 61 == -1) = false := beq_eq_false_iff_ne.2 (by omega)
        simp [hb, this, ih.1]

def cutV (s : ByteArray) : ByteArray × ByteArray × Bool × Unit := match cutEq (bl s) with
  | some (k, r) => (mkB k, mkB r, true, ())
  | none => (s, ByteArray.empty, false, ())

theorem m157_eq (s : ByteArray) : m157 ((s, bs [61], ()), ()) = some ((Lib.indexByte (bl s) 61, ()), ()) := by
  unfold m157
  have h0 : (((bs [61]).size : Int) == 0) = false := rfl
  simp only [h0, sumE, sS]
  cases h : ((bs [61]).toList == s.toList)
  · simp only [sumE, sS]
    have h1 : (((bs [61]).size : Int) == 1) = true := rfl
    have h2 : decide ((0 : Int) ≤ 0 ∧ (0 : Int) < ((bs [61]).size : Int)) = true := rfl
    simp only [h1, h2, sumE, sS]
    rfl
  · rw [toList_bl, toList_bl] at h
    have : bl s = [61] := (eq_of_beq h).symm
    simp only [sumE, sS]
    rw [this]
    rfl

theorem m104_eq (s : ByteArray) (hs : s.size ≤ 4194304) : m104 ((s, bs [61], ()), ()) = some (cutV s, ()) := by
  unfold m104 m139 cutV
  have hi := index_cut (bl s)
  simp only [m157_eq, sumE, sS]
  cases hc : cutEq (bl s) with
  | none =>
    rw [hc] at hi
    simp only at hi
    simp only [hi, show decide ((-1 : Int) ≥ 0) = false from rfl, sumE, sS]
  | some p =>
    rw [hc] at hi
    simp only at hi
    obtain ⟨h1, h2⟩ := hi
    have hl := congrArg List.length h2
    rw [len_bl, List.length_append, List.length_cons] at hl
    have e1 : ((bs [61]).size : Int) = 1 := rfl
    have hw : w64 ((p.1.length : Int) + 1) = ((p.1.length + 1 : Nat) : Int) := w64_nat (by omega)
    have a0 : decide ((p.1.length : Int) ≥ 0) = true := decide_eq_true (by omega)
    have a1 : decide ((0 : Int) ≤ (p.1.length : Int)) = true := decide_eq_true (by omega)
    have a2 : decide (0 ≤ p.1.length ∧ p.1.length ≤ s.size) = true := decide_eq_true (by omega)
    have a3 : decide ((0 : Int) ≤ ((p.1.length + 1 : Nat) : Int)) = true := decide_eq_true (by omega)
    have a4 : decide (p.1.length + 1 ≤ s.size ∧ s.size ≤ s.size) = true := decide_eq_true (by omega)
    simp only [h1, a0, a1, Int.toNat_natCast, a2, e1, hw, a3, a4, ext_take, ext_mk, sumE, sS]
    rw [h2]
    have t1 : (p.1 ++ 61 :: p.2).take p.1.length = p.1 := List.take_left' rfl
    have t2 : (p.1 ++ 61 :: p.2).drop (p.1.length + 1) = p.2 := by rw [show p.1 ++ 61 :: p.2 = (p.1 ++ [61]) ++ p.2 by simp]; exact List.drop_left' (by simp)
    rw [t1, t2]

theorem unq_at (v r : List UInt8) : hUnq (mkB (34 :: (esc v ++ 34 :: r))) = (mkB v, mkB r, true) := by
  show hUnqL (34 :: (esc v ++ 34 :: r)) = _
  unfold hUnqL
  simp only [unq_esc]

/-! ### The same labels -/
theorem m37_eq (a b : List LT) (ha : a.length ≤ big) : m37 ((a, b, ()), ()) = some ((decide (a = b), ()), ()) := by
  unfold m37
  by_cases hl : a.length = b.length
  · have h0 : ((a.length : Int) != (b.length : Int)) = false := by rw [hl]; simp
    simp only [h0, sumE, sS]
    have h := loop_list0 (f := l37_0_4) a (fun i (_ : Unit) => (((i : Int), b, a, (a.length : Int), ()), ())) (fun i _ e => bif (match b[i]? with | some y => decide (e ≠ y) | none => true) then .inr (.inl ((false, ()), ())) else .inl ()) (fun _ => .inr ((), ())) ?_ ?_ ()
    · have key : ∀ (a b : List LT) (pre : List LT), a.length = b.length → runL (fun i (_ : Unit) (e : LT) => bif (match (pre ++ b)[i]? with | some y => decide (e ≠ y) | none => true) then .inr (.inl ((false, ()), ())) else .inl ()) (fun _ => (.inr ((), ()) : ((Bool × Unit) × Unit) ⊕ (Unit × Unit))) pre.length a () = if a = b then .inr ((), ()) else .inl ((false, ()), ()) := by
        intro a
        induction a with
        | nil =>
          intro b pre h
          have : b = [] := List.length_eq_zero_iff.1 h.symm
          subst this
          rfl
        | cons x a ih =>
          intro b pre h
          cases b with
          | nil => cases h
          | cons y b =>
            have hg : (pre ++ y :: b)[pre.length]? = some y := by rw [List.getElem?_append_right (Nat.le_refl _), Nat.sub_self]; rfl
            unfold runL
            rw [hg]
            by_cases hxy : x = y
            · subst hxy
              simp only [ne_eq, not_true, decide_false, cond_false]
              have := ih b (pre ++ [x]) (by simpa using h)
              rw [List.append_assoc, List.length_append, List.length_singleton] at this
              rw [show pre ++ x :: b = pre ++ ([x] ++ b) from rfl, this]
              simp
            · simp only [ne_eq, hxy, not_false_iff, decide_true, cond_true]
              rw [if_neg (fun e => hxy (List.cons.inj e).1)]
      have hk := key a b [] hl
      rw [List.length_nil] at hk
      simp only [List.nil_append] at hk
      refine bind_of _ (h.trans (congrArg some hk)) ?_
      by_cases e : a = b
      · rw [if_pos e, decide_eq_true e]
      · rw [if_neg e, decide_eq_false e]
    · intro i e _ he hi
      unfold big at ha
      obtain ⟨y, hy⟩ := getD_some (l := b) (i := i) (by omega)
      have hw : w64 ((i : Int) + 1) = ((i + 1 : Nat) : Int) := w64_nat (by omega)
      have hb : ∀ u v : ByteArray, (u == v) = decide (u = v) := fun u v => by
        by_cases h : u = v
        · subst h
          rw [decide_eq_true rfl]
          show (u.data == u.data) = true
          exact beq_self_eq_true _
        · rw [decide_eq_false h]
          show (u.data == v.data) = false
          exact beq_eq_false_iff_ne.2 fun e => h (ByteArray.ext e)
      have hd : (!(decide (e.1 = y.1) && decide (e.2.1 = y.2.1))) = decide (e ≠ y) := by
        obtain ⟨e1, e2, ⟨⟩⟩ := e
        obtain ⟨y1, y2, ⟨⟩⟩ := y
        by_cases h1 : e1 = y1 <;> by_cases h2 : e2 = y2 <;> simp [h1, h2]
      simp only [l37_0_4, rowAt_G, rowG_nat he, rowG_nat hy, lt_t hi, hb, hy, sumE, sS]
      rw [hd]
      cases decide (e ≠ y) <;> simp only [sumE, sS, hw]
    · intro _
      simp only [l37_0_4, lt_f, sumE, sS]
  · have h0 : ((a.length : Int) != (b.length : Int)) = true := bne_iff_ne.2 (by omega)
    simp only [h0, sumE, sS]
    rw [decide_eq_false (fun e => hl (by rw [e]))]

/-! ### Reading labels -/
theorem step35 (s text : ByteArray) (ok : Bool) (out : List LT) : (ok = false ∨ s = mkB [125] ∨ s = ByteArray.empty) → l35_0_3 ((s, text, ok, ()), (out, ())) = some (.inr ((text, ok, ()), (out, ()))) := by
  intro h
  have e1 : (s.toList == (bs [125]).toList) = decide (s = mkB [125]) := by rw [toList_bl, toList_bl, beq_bl]; rfl
  have e2 : (s.toList == ByteArray.empty.toList) = decide (s = ByteArray.empty) := by rw [toList_bl, toList_bl, beq_bl]
  simp only [l35_0_3, e1, e2]
  cases ok
  · simp only [sumE, sS]
  · rcases h with h | h | h
    · cases h
    · simp only [decide_eq_true h, sumE, sS]
    · by_cases h2 : s = mkB [125]
      · simp only [decide_eq_true h2, sumE, sS]
      · simp only [decide_eq_true h, decide_eq_false h2, sumE, sS]

def trimC (s : ByteArray) : ByteArray := if preL [44] (bl s) then mkB ((bl s).drop 1) else s

theorem go35 (s text : ByteArray) (out : List LT) (hs : s.size ≤ 4194304) (ho : out.length ≤ 4194304) (h1 : s ≠ mkB [125]) (h2 : s ≠ ByteArray.empty) :
    l35_0_3 ((s, text, true, ()), (out, ())) = some (.inl (match cutEq (bl (trimC s)) with
      | some (k, r) => (((hUnq (mkB r)).2.1, text, (hUnq (mkB r)).2.2, ()), (out ++ [(mkB k, (hUnq (mkB r)).1, ())], ()))
      | none => ((ByteArray.empty, text, false, ()), (out ++ [(trimC s, ByteArray.empty, ())], ())))) := by
  have e1 : (s.toList == (bs [125]).toList) = false := by rw [toList_bl, toList_bl, beq_bl]; exact decide_eq_false h1
  have e2 : (s.toList == ByteArray.empty.toList) = false := by rw [toList_bl, toList_bl, beq_bl]; exact decide_eq_false h2
  have e3 : m101 ((s, bs [44], ()), ()) = some ((trimC s, ()), ()) := m101_eq s (bs [44])
  have hz : (trimC s).size ≤ s.size := by
    unfold trimC
    split
    · rw [size_mk, List.length_drop, len_bl]; omega
    · exact Nat.le_refl _
  have e4 := m104_eq (trimC s) (by omega)
  have hb : ∀ z : LT, decide (out.length + ([z] : List LT).length ≤ 4294967296) = true := fun z => decide_eq_true (by simp; omega)
  simp only [l35_0_3, e1, e2, e3, e4, sumE, sS]
  unfold cutV
  cases hc : cutEq (bl (trimC s)) with
  | none => simp only [hb, sumE, sS]
  | some p =>
    have := cutEq_le (k := p.1) (r := p.2) hc
    have hl := congrArg List.length this
    rw [len_bl, List.length_append, List.length_cons] at hl
    have hb2 : decide ((mkB p.2).size ≤ 4294967296) = true := decide_eq_true (by rw [size_mk]; omega)
    simp only [hb, hb2, sumE, sS]

theorem part_cut {x : LT} (h : keyS x.1 = true) (r : List UInt8) : cutEq (partL x ++ r) = some (bl x.1, 34 :: (esc (bl x.2.1) ++ 34 :: r)) := by
  have := cutEq_at (bl x.1) (34 :: (esc (bl x.2.1) ++ 34 :: r)) (key_no h (by decide))
  rw [← this]
  unfold partL item
  simp

theorem key_first {x : LT} (h : keyS x.1 = true) (r : List UInt8) : ∃ c q, partL x ++ r = c :: q ∧ keyChar c = true := by
  obtain ⟨h1, _, h2⟩ := key_all (s := bl x.1) h
  unfold partL item
  cases hb : bl x.1 with
  | nil => exact absurd hb h1
  | cons c q =>
    refine ⟨c, _, rfl, h2 c ?_⟩
    rw [hb]; exact List.mem_cons_self ..

/-- Reading a text of labels. -/
theorem read35 (text : ByteArray) : ∀ (l : List LT) (x : LT) (out : List LT) (pre : List UInt8), pre = [] ∨ pre = [44] → (∀ y ∈ x :: l, keyS y.1 = true ∧ valS y.2.1 = true) → (pre ++ (commas ((x :: l).map partL) ++ [125])).length ≤ 4194304 → out.length + l.length ≤ 1000 →
    loopT l35_0_3 ((mkB (pre ++ (commas ((x :: l).map partL) ++ [125])), text, true, ()), (out, ())) = some ((text, true, ()), (out ++ x :: l, ())) := by
  intro l
  induction l with
  | nil =>
    intro x out pre hp hk hlen ho
    obtain ⟨k1, k2⟩ := hk x (List.mem_cons_self ..)
    obtain ⟨c, q, hc, hkc⟩ := key_first k1 [125]
    have hcm : commas ([x].map partL) = partL x := rfl
    rw [hcm] at hlen ⊢
    have hg := go35 (mkB (pre ++ (partL x ++ [125]))) text out (by rw [size_mk]; exact hlen) (by omega) (fun e => by
      have e := mk_inj e
      rw [hc] at e
      rcases hp with rfl | rfl
      · simp at e; rw [e.1] at hkc; exact absurd hkc (by decide)
      · simp at e) (fun e => by
      have e := mk_inj (b := []) e
      rw [hc] at e
      simp at e)
    have ht : trimC (mkB (pre ++ (partL x ++ [125]))) = mkB (partL x ++ [125]) := by
      unfold trimC
      rw [bl_mk]
      rcases hp with rfl | rfl
      · have : preL [44] ([] ++ (partL x ++ [125])) = false := by
          rw [List.nil_append, hc]
          unfold preL
          refine beq_eq_false_iff_ne.2 fun e => ?_
          simp at e
          rw [e] at hkc
          exact absurd hkc (by decide)
        rw [this]
        simp
      · have : preL [44] ([44] ++ (partL x ++ [125])) = true := by unfold preL; simp
        rw [this]
        simp
    rw [ht, bl_mk, part_cut k1] at hg
    simp only [unq_at, mk_bl] at hg
    rw [loopT_inl hg]
    exact loopT_inr (step35 _ text true _ (.inr (.inl rfl)))
  | cons y l ih =>
    intro x out pre hp hk hlen ho
    obtain ⟨k1, k2⟩ := hk x (List.mem_cons_self ..)
    have hcm : commas ((x :: y :: l).map partL) = partL x ++ 44 :: commas ((y :: l).map partL) := rfl
    rw [hcm, show pre ++ (partL x ++ 44 :: commas ((y :: l).map partL) ++ [125]) = pre ++ (partL x ++ (44 :: (commas ((y :: l).map partL) ++ [125]))) by simp] at hlen ⊢
    obtain ⟨c, q, hc, hkc⟩ := key_first k1 (44 :: (commas ((y :: l).map partL) ++ [125]))
    have hg := go35 (mkB (pre ++ (partL x ++ (44 :: (commas ((y :: l).map partL) ++ [125]))))) text out (by rw [size_mk]; exact hlen) (by omega) (fun e => by
      have e := mk_inj e
      rw [hc] at e
      rcases hp with rfl | rfl
      · simp at e; rw [e.1] at hkc; exact absurd hkc (by decide)
      · simp at e) (fun e => by
      have e := mk_inj (b := []) e
      rw [hc] at e
      simp at e)
    have ht : trimC (mkB (pre ++ (partL x ++ (44 :: (commas ((y :: l).map partL) ++ [125]))))) = mkB (partL x ++ (44 :: (commas ((y :: l).map partL) ++ [125]))) := by
      unfold trimC
      rw [bl_mk]
      rcases hp with rfl | rfl
      · have : preL [44] ([] ++ (partL x ++ (44 :: (commas ((y :: l).map partL) ++ [125])))) = false := by
          rw [List.nil_append, hc]
          unfold preL
          refine beq_eq_false_iff_ne.2 fun e => ?_
          simp at e
          rw [e] at hkc
          exact absurd hkc (by decide)
        rw [this]
        simp
      · have : preL [44] ([44] ++ (partL x ++ (44 :: (commas ((y :: l).map partL) ++ [125])))) = true := by unfold preL; simp
        rw [this]
        simp
    rw [ht, bl_mk, part_cut k1] at hg
    simp only [unq_at, mk_bl] at hg
    rw [loopT_inl hg]
    have := ih y (out ++ [(x.1, x.2.1, ())]) [44] (.inr rfl) (fun z hz => hk z (List.mem_cons_of_mem _ hz)) (by simp only [List.length_append, List.length_cons, List.length_nil] at hlen ⊢; omega) (by simp at ho ⊢; omega)
    rw [show (44 :: (commas ((y :: l).map partL) ++ [125]) : List UInt8) = [44] ++ (commas ((y :: l).map partL) ++ [125]) from rfl, this]
    simp

theorem read_back (l : List LT) (h : validL l = true) : m35 ((mkB (textL l), ()), ()) = some ((0, ()), (l, ())) := by
  obtain ⟨h1, h2⟩ := valid_mem h
  have hp := parts_len h l.length
  rw [List.take_of_length_le (by rw [List.length_map]; exact Nat.le_refl _)] at hp
  have hk : KSz l := ⟨by unfold big; omega, fun x hx => by
    obtain ⟨a, b, _⟩ := h2 x hx
    have := keyS_sz a
    have := valS_sz b
    unfold big; omega⟩
  unfold m35
  have e1 : m103 ((mkB (textL l), bs [123], ()), ()) = some ((mkB (commas (l.map partL) ++ [125]), true, ()), ()) := by
    rw [m103_eq]
    have : preL (bl (bs [123])) (bl (mkB (textL l))) = true := by unfold preL textL; rfl
    rw [this]
    rfl
  simp only [e1, sumE, sS]
  have e2 : loopT l35_0_3 ((mkB (commas (l.map partL) ++ [125]), mkB (textL l), true, ()), ([], ())) = some ((mkB (textL l), true, ()), (l, ())) := by
    cases l with
    | nil => exact loopT_inr (step35 _ _ true _ (.inr (.inl rfl)))
    | cons x l =>
      have := read35 (mkB (textL (x :: l))) l x [] [] (.inl rfl) (fun y hy => ⟨(h2 y hy).1, (h2 y hy).2.1⟩) (by rw [List.nil_append, List.length_append, List.length_singleton]; omega) (by simp at h1 ⊢; omega)
      simp only [List.nil_append] at this
      exact this
  refine bind_of _ e2 ?_
  have e3 := m36_eq l hk
  have e4 : textE l = mkB (textL l) := by unfold textE; rw [if_pos h]
  rw [e4] at e3
  have e5 : (bl (mkB (textL l)) == bl ByteArray.empty) = false := by rw [bl_mk, bl_empty]; rfl
  simp only [e3, toList_bl, e5, beq_self_eq_true, sumE, sS]

theorem texts_eq {a b : List LT} (ha : validL a = true) (hb : validL b = true) : (textE a = textE b) ↔ a = b := by
  refine ⟨fun h => ?_, fun h => by rw [h]⟩
  have h1 := read_back a ha
  have h2 := read_back b hb
  unfold textE at h
  rw [if_pos ha, if_pos hb] at h
  rw [h, h2] at h1
  have := Option.some.inj h1
  exact (Prod.mk.inj (Prod.mk.inj this).2).1.symm

end Go.Proofs.YtcblbcpnfidndaaDoor

namespace Go.Proofs.YtcblbcpnfidndaaDoor
open Go Go.Abs Go.Lab
def isOp (c : UInt8) : Bool := c == 61 || (c == 33 || c == 126)

abbrev M0 : MT := (ByteArray.empty, 0, ByteArray.empty, ())

def opsB : List ByteArray := [(bs [61]), (bs [33, 61]), (bs [126]), (bs [33, 126])]

end Go.Proofs.YtcblbcpnfidndaaDoor

namespace Go.Proofs.YtcblbcpnfidndaaDoor
open Go Go.Abs Go.Lab
/-- The operators' texts. -/
def opL (n : Int) : List UInt8 := if n = 0 then [61] else if n = 1 then [33, 61] else if n = 2 then [126] else [33, 126]

def partM (m : MT) : List UInt8 := item (bl m.1) (opL m.2.1) (bl m.2.2.1)

theorem op_at {n : Int} (h0 : 0 ≤ n) (h3 : n ≤ 3) : opsB[n.toNat]? = some (mkB (opL n)) := by
  have : n = 0 ∨ n = 1 ∨ n = 2 ∨ n = 3 := by omega
  rcases this with rfl | rfl | rfl | rfl <;> rfl

theorem op_len (n : Int) : (opL n).length ≤ 2 := by
  unfold opL
  split
  · simp
  · split
    · simp
    · split <;> simp

theorem partM_eq (m : MT) (o : List UInt8) (ho : o = opL m.2.1) : (m.1 ++ mkB o) ++ hQuote m.2.2.1 = mkB (partM m) := by
  subst ho
  rw [app_mk]
  unfold hQuote partM item
  rw [mk_app]
  simp [bl]

theorem m95_eq (m : MT) (hm : MSz m) : m95 ((m, ()), ()) = some ((!rightM m, ()), ()) := by
  unfold m95
  exact bind_of _ (m22_eq m hm) rfl

theorem right_sz {m : MT} (h : rightM m = true) : m.1.size ≤ 24 ∧ m.2.2.1.size ≤ 64 ∧ keyS m.1 = true ∧ valS m.2.2.1 = true ∧ 0 ≤ m.2.1 ∧ m.2.1 ≤ 3 := by
  unfold rightM at h
  simp only [Bool.and_eq_true, decide_eq_true_eq] at h
  exact ⟨keyS_sz h.1, valS_sz h.2.2.2, h.1, h.2.2.2, by omega, by omega⟩

theorem partM_len {m : MT} (h : rightM m = true) : (partM m).length ≤ 160 := by
  obtain ⟨a, b, _⟩ := right_sz h
  have := esc_len (bl m.2.2.1)
  have := op_len m.2.1
  rw [len_bl] at *
  unfold partM item
  simp [len_bl]
  omega

theorem format_ok (ms : List MT) (hn : ms.length ≤ 8) (hm : ∀ m ∈ ms, rightM m = true) : m29 ((ms, ()), ()) = some ((mkB (commas (ms.map partM)), ()), ()) := by
  have hz : ∀ m ∈ ms, MSz m := fun m h => by
    obtain ⟨a, b, _⟩ := right_sz (hm m h)
    exact ⟨by omega, by omega⟩
  have h1 : loopT l29_2_2 ((0, ms, (ms.length : Int), ()), ()) = some (.inr ((), ())) := by
    refine loop_thru (f := l29_2_2) ms (fun i => (((i : Int), ms, (ms.length : Int), ()), ())) _ ?_ ?_
    · intro i e he hi
      have hw : w64 ((i : Int) + 1) = ((i + 1 : Nat) : Int) := w64_nat (by omega)
      have hme := List.mem_of_getElem? he
      simp only [l29_2_2, rowAt_G, rowG_nat he, lt_t hi, m95_eq e (hz e hme), hm e hme, hw, sumE, sS]
    · simp only [l29_2_2, lt_f, sumE, sS]
  have h2 : loopT l29_0_5 ((0, ms, (ms.length : Int), ()), ([], ())) = some ((), (ms.map fun m => mkB (partM m), ())) := by
    refine drop_e (loop_ind (f := l29_0_5) (Q := fun b => b = ((), (ms.map fun m => mkB (partM m), ()))) (fun i st => st = (((i : Int), ms, (ms.length : Int), ()), ((ms.take i).map fun m => mkB (partM m), ()))) ms.length ?_ ?_ _ rfl)
    · rintro i _ hi rfl
      obtain ⟨e, he⟩ := getD_some (l := ms) (i := i) hi
      obtain ⟨a, b, _, _, c, d⟩ := right_sz (hm e (List.mem_of_getElem? he))
      have ho := op_at c d
      have hol := op_len e.2.1
      have hq := quote_size e.2.2.1
      have hw : w64 ((i : Int) + 1) = ((i + 1 : Nat) : Int) := w64_nat (by omega)
      have b1 : decide (e.1.size + (mkB (opL e.2.1)).size ≤ 4294967296) = true := decide_eq_true (by rw [size_mk]; omega)
      have b2 : decide (e.2.2.1.size ≤ 4294967296) = true := decide_eq_true (by omega)
      have b3 : decide ((e.1 ++ mkB (opL e.2.1)).size + (hQuote e.2.2.1).size ≤ 4294967296) = true := decide_eq_true (by rw [sz_app, size_mk]; omega)
      have b4 : decide (((ms.take i).map fun m => mkB (partM m)).length + [mkB (partM e)].length ≤ 4294967296) = true := decide_eq_true (by simp; omega)
      have hr : ∀ {B : Type} (F : ByteArray → Option B), rowG ([(bs [61]), (bs [33, 61]), (bs [126]), (bs [33, 126])] : List ByteArray) e.2.1 F = F (mkB (opL e.2.1)) := fun F => rowG_int c ho F
      refine ⟨_, ?_, rfl⟩
      rw [show ms.take (i + 1) = ms.take i ++ [e] by rw [List.take_add_one, he]; rfl, List.map_append]
      simp only [l29_0_5, m96, rowAt_G, rowG_nat he, lt_t hi, hr, b1, b2, b3, partM_eq e _ rfl, b4, hw, sumE, sS]
      rfl
    · rintro _ rfl
      refine ⟨_, ?_, rfl⟩
      simp only [l29_0_5, lt_f, sumE, sS]
      rw [List.take_of_length_le (Nat.le_refl _)]
  have hj : hJoin (ms.map fun m => mkB (partM m)) (bs [44]) = mkB (commas (ms.map partM)) := by
    unfold hJoin
    rw [List.map_map]
    exact congrArg mkB (join_commas _)
  have hcl := commas_len (ms.map partM) 160 (fun x hx => by
    obtain ⟨y, hy, rfl⟩ := List.mem_map.1 hx
    exact partM_len (hm y hy))
  rw [List.length_map] at hcl
  have := Nat.mul_le_mul_right 161 hn
  have b5 : decide (List.length (ms.map fun m => mkB (partM m)) ≤ 4294967296 ∧ (mkB (commas (ms.map partM))).size ≤ 140737488355328) = true := decide_eq_true (by rw [List.length_map, size_mk]; omega)
  unfold m29
  simp only [decide_eq_false (show ¬ (((ms.length : Int) : Int) > 8) by omega), h1, sumE, h2, hj, b5, sumE, sS]

/-! ### Bytes below 128 -/
def asc (l : List UInt8) : Bool := l.all fun c => decide (c.toNat < 128)

theorem asc_mk (l : List UInt8) : isAsc (mkB l) = asc l := rfl

theorem asc_app (a b : List UInt8) : asc (a ++ b) = (asc a && asc b) := List.all_append

theorem asc_key {k : List UInt8} (h : keyL k = true) : asc k = true := List.all_eq_true.2 fun c hc => by
  have h := (key_all h).2.2 c hc
  unfold keyChar at h
  simp only [Bool.or_eq_true, Bool.and_eq_true, decide_eq_true_eq, beq_iff_eq, UInt8.le_iff_toNat_le] at h
  refine decide_eq_true ?_
  rcases h with (⟨_, h⟩ | ⟨_, h⟩) | h
  · have : c.toNat ≤ 122 := h; omega
  · have : c.toNat ≤ 57 := h; omega
  · subst h; decide

theorem asc_esc : ∀ {v : List UInt8}, asc v = true → asc (esc v) = true
  | [], _ => rfl
  | c :: v, h => by
    unfold asc at h
    rw [List.all_cons, Bool.and_eq_true] at h
    have ih := asc_esc (v := v) h.2
    unfold asc at ih
    simp only [esc]
    unfold asc
    split
    · rw [List.all_cons, List.all_cons, h.1, ih]; rfl
    · rw [List.all_cons, h.1, ih]; rfl

theorem asc_val {v : List UInt8} (h : valL v = true) : asc v = true := List.all_eq_true.2 fun c hc => by
  unfold valL at h
  rw [Bool.and_eq_true] at h
  have h := (List.all_eq_true.1 h.1) c hc
  simp only [Bool.and_eq_true, decide_eq_true_eq, UInt8.le_iff_toNat_le] at h
  have : c.toNat ≤ 126 := h.2
  exact decide_eq_true (by omega)

theorem asc_part {m : MT} (h : rightM m = true) : asc (partM m) = true := by
  obtain ⟨_, _, a, b, c, d⟩ := right_sz h
  unfold partM item
  rw [asc_app, asc_app, asc_key a, show (34 :: (esc (bl m.2.2.1) ++ [34]) : List UInt8) = [34] ++ (esc (bl m.2.2.1) ++ [34]) from rfl, asc_app, asc_app, asc_esc (asc_val b)]
  have : m.2.1 = 0 ∨ m.2.1 = 1 ∨ m.2.1 = 2 ∨ m.2.1 = 3 := by omega
  rcases this with e | e | e | e <;> rw [e] <;> rfl

theorem asc_commas : ∀ {l : List (List UInt8)}, (∀ x ∈ l, asc x = true) → asc (commas l) = true
  | [], _ => rfl
  | [x], h => h x (List.mem_cons_self ..)
  | x :: y :: l, h => by
    rw [commas_cons x (by simp), asc_app, h x (List.mem_cons_self ..), show (44 :: commas (y :: l)) = [44] ++ commas (y :: l) from rfl, asc_app, asc_commas (l := y :: l) fun z hz => h z (List.mem_cons_of_mem _ hz)]
    rfl

/-! ### Reading a matcher -/
theorem any_key {k : List UInt8} (hk : keyL k = true) {c : UInt8} (hc : isOp c = true) (r : List UInt8) : Lib.indexAny (k ++ c :: r) [61, 33, 126] = (k.length : Int) := by
  have hop : ∀ x : UInt8, ([61, 33, 126] : List UInt8).contains x = isOp x := fun x => by
    unfold isOp
    simp only [List.contains_cons, List.contains_nil, Bool.or_false]
  refine Lib.indexAny_hit (fun j b hj hb => ?_) (by rw [List.getElem?_append_right (Nat.le_refl _), Nat.sub_self]; rfl) (by rw [hop]; exact hc)
  rw [List.getElem?_append_left hj] at hb
  have h := (key_all hk).2.2 b (List.mem_of_getElem? hb)
  rw [hop]
  unfold isOp
  rw [beq_eq_false_iff_ne.2 (keyChar_ne h (by decide)), beq_eq_false_iff_ne.2 (keyChar_ne h (by decide)), beq_eq_false_iff_ne.2 (keyChar_ne h (by decide))]
  rfl

theorem loop100 (n : Int) (h0 : 0 ≤ n) (h3 : n ≤ 3) (r : List UInt8) (m0 m : MT) :
    loopT l100_0_7 ((0, mkB (opL n ++ 34 :: r), ((bs [61]), (bs [33, 61]), (bs [126]), (bs [33, 126]), ()), ()), ((m0, ()), ((m, ()), ()))) = some ((mkB (34 :: r), ()), ((m0, ()), (((m.1, n, m.2.2), ()), ()))) := by
  have step : ∀ (i : Nat) (o : ByteArray), ([(bs [61]), (bs [33, 61]), (bs [126]), (bs [33, 126])] : List ByteArray)[i]? = some o → i < 4 →
      l100_0_7 (((i : Int), mkB (opL n ++ 34 :: r), ((bs [61]), (bs [33, 61]), (bs [126]), (bs [33, 126]), ()), ()), ((m0, ()), ((m, ()), ()))) = some (if preL (bl o) (opL n ++ 34 :: r) then .inr ((mkB ((opL n ++ 34 :: r).drop o.size), ()), ((m0, ()), (((m.1, (i : Int), m.2.2), ()), ())))
        else .inl ((((i + 1 : Nat) : Int), mkB (opL n ++ 34 :: r), ((bs [61]), (bs [33, 61]), (bs [126]), (bs [33, 126]), ()), ()), ((m0, ()), ((m, ()), ())))) := by
    intro i o ho hi
    have hw : w64 ((i : Int) + 1) = ((i + 1 : Nat) : Int) := w64_nat (by omega)
    have e := m103_eq (mkB (opL n ++ 34 :: r)) o
    by_cases hp : preL (bl o) (bl (mkB (opL n ++ 34 :: r))) = true
    · rw [if_pos hp] at e
      rw [if_pos (show preL (bl o) (opL n ++ 34 :: r) = true from hp)]
      simp only [l100_0_7, decide_eq_true (show (i : Int) < 4 by omega), rowAt_G, rowG_nat ho, e, bl_mk, sumE, sS]
    · rw [if_neg hp] at e
      rw [if_neg (show ¬ preL (bl o) (opL n ++ 34 :: r) = true from hp)]
      simp only [l100_0_7, decide_eq_true (show (i : Int) < 4 by omega), rowAt_G, rowG_nat ho, e, hw, sumE, sS]
  have s0 := step 0 (bs [61]) rfl (by omega)
  have s1 := step 1 (bs [33, 61]) rfl (by omega)
  have s2 := step 2 (bs [126]) rfl (by omega)
  have s3 := step 3 (bs [33, 126]) rfl (by omega)
  have : n = 0 ∨ n = 1 ∨ n = 2 ∨ n = 3 := by omega
  rcases this with rfl | rfl | rfl | rfl
  · rw [show preL (bl (bs [61])) (opL 0 ++ 34 :: r) = true from rfl, if_pos rfl] at s0
    exact loopT_inr s0
  · rw [show preL (bl (bs [61])) (opL 1 ++ 34 :: r) = false from rfl, if_neg (by simp)] at s0
    rw [show preL (bl (bs [33, 61])) (opL 1 ++ 34 :: r) = true from rfl, if_pos rfl] at s1
    exact (loopT_inl s0).trans (loopT_inr s1)
  · rw [show preL (bl (bs [61])) (opL 2 ++ 34 :: r) = false from rfl, if_neg (by simp)] at s0
    rw [show preL (bl (bs [33, 61])) (opL 2 ++ 34 :: r) = false from rfl, if_neg (by simp)] at s1
    rw [show preL (bl (bs [126])) (opL 2 ++ 34 :: r) = true from rfl, if_pos rfl] at s2
    exact (loopT_inl s0).trans ((loopT_inl s1).trans (loopT_inr s2))
  · rw [show preL (bl (bs [61])) (opL 3 ++ 34 :: r) = false from rfl, if_neg (by simp)] at s0
    rw [show preL (bl (bs [33, 61])) (opL 3 ++ 34 :: r) = false from rfl, if_neg (by simp)] at s1
    rw [show preL (bl (bs [126])) (opL 3 ++ 34 :: r) = false from rfl, if_neg (by simp)] at s2
    rw [show preL (bl (bs [33, 126])) (opL 3 ++ 34 :: r) = true from rfl, if_pos rfl] at s3
    exact (loopT_inl s0).trans ((loopT_inl s1).trans ((loopT_inl s2).trans (loopT_inr s3)))

theorem op_head {n : Int} (h0 : 0 ≤ n) (h3 : n ≤ 3) (r : List UInt8) : ∃ c q, opL n ++ r = c :: q ∧ isOp c = true := by
  have : n = 0 ∨ n = 1 ∨ n = 2 ∨ n = 3 := by omega
  rcases this with rfl | rfl | rfl | rfl <;> exact ⟨_, _, rfl, rfl⟩

theorem m100_back (m : MT) (h : rightM m = true) (r : List UInt8) (hr : asc r = true) (hl : r.length ≤ 4194304) : m100 ((mkB (partM m ++ r), ()), ()) = some ((mkB r, true, ()), ((m, ()), ())) := by
  obtain ⟨z1, z2, a, b, c, d⟩ := right_sz h
  have hpl := partM_len h
  have hop := op_len m.2.1
  have hsplit : partM m ++ r = bl m.1 ++ (opL m.2.1 ++ 34 :: (esc (bl m.2.2.1) ++ 34 :: r)) := by unfold partM item; simp
  obtain ⟨o, q, ho, hoc⟩ := op_head c d (34 :: (esc (bl m.2.2.1) ++ 34 :: r))
  have hany : hAny (mkB (partM m ++ r)) (bs [61, 33, 126]) = ((bl m.1).length : Int) := by
    unfold hAny
    show Lib.indexAny (bl (mkB (partM m ++ r))) [61, 33, 126] = _
    rw [bl_mk, hsplit, ho]
    exact any_key a hoc q
  have hsz : (mkB (partM m ++ r)).size ≤ 4194304 + 160 := by rw [size_mk, List.length_append]; omega
  have b0 : (isAsc (mkB (partM m ++ r)) && isAsc (bs [61, 33, 126]) && decide ((mkB (partM m ++ r)).size < 4294967281 ∧ (bs [61, 33, 126]).size < 4294967281)) = true := by
    rw [asc_mk, asc_app, asc_part h, hr, show isAsc (bs [61, 33, 126]) = true from rfl, decide_eq_true (show (mkB (partM m ++ r)).size < 4294967281 ∧ (bs [61, 33, 126]).size < 4294967281 from ⟨by omega, by decide⟩)]
    rfl
  have hle : (bl m.1).length ≤ (mkB (partM m ++ r)).size := by rw [size_mk, hsplit, List.length_append]; omega
  have b1 : decide (((bl m.1).length : Int) < 0) = false := decide_eq_false (by omega)
  have b2 : decide ((0 : Int) ≤ ((bl m.1).length : Int)) = true := decide_eq_true (by omega)
  have b3 : decide (0 ≤ (bl m.1).length ∧ (bl m.1).length ≤ (mkB (partM m ++ r)).size) = true := decide_eq_true (by omega)
  have b4 : decide ((bl m.1).length ≤ (mkB (partM m ++ r)).size ∧ (mkB (partM m ++ r)).size ≤ (mkB (partM m ++ r)).size) = true := decide_eq_true (by omega)
  have t1 : (partM m ++ r).take (bl m.1).length = bl m.1 := by rw [hsplit]; exact List.take_left' rfl
  have t2 : (partM m ++ r).drop (bl m.1).length = opL m.2.1 ++ 34 :: (esc (bl m.2.2.1) ++ 34 :: r) := by rw [hsplit]; exact List.drop_left' rfl
  have q1 := loop100 m.2.1 c d (esc (bl m.2.2.1) ++ 34 :: r) M0 (m.1, -1, ByteArray.empty, ())
  have hel := esc_len (bl m.2.2.1)
  rw [len_bl] at hel
  have b5 : decide ((mkB (34 :: (esc (bl m.2.2.1) ++ 34 :: r))).size ≤ 4294967296) = true := decide_eq_true (by rw [size_mk]; simp; omega)
  unfold m100
  simp only [b0, hany, b1, b2, Int.toNat_natCast, b3, b4, ext_take, ext_mk, bl_mk, t1, t2, m96, mk_bl, sumE, sS]
  refine bind_of _ (show loopT l100_0_7 ((0, mkB (opL m.2.1 ++ 34 :: (esc (bl m.2.2.1) ++ 34 :: r)), ((bs [61]), (bs [33, 61]), (bs [126]), (bs [33, 126]), ()), ()), ((M0, ()), (((m.1, -1, ByteArray.empty, ()), ()), ()))) = _ from q1) ?_
  simp only [b5, unq_at, mk_bl, sumE, sS]

theorem read32 (text : ByteArray) : ∀ (l : List MT) (m : MT) (out : List MT) (pre : List UInt8), pre = [] ∨ pre = [44] → (∀ y ∈ m :: l, rightM y = true) → (commas ((m :: l).map partM)).length ≤ 4194303 → out.length + l.length ≤ 1000 →
    loopT l32_0_3 ((mkB (pre ++ commas ((m :: l).map partM)), text, true, ()), (out, ())) = some ((text, true, ()), (out ++ m :: l, ())) := by
  have step : ∀ (m : MT) (out : List MT) (pre r : List UInt8), pre = [] ∨ pre = [44] → rightM m = true → asc r = true → r.length ≤ 4194304 → out.length ≤ 1000 →
      l32_0_3 ((mkB (pre ++ (partM m ++ r)), text, true, ()), (out, ())) = some (.inl ((mkB r, text, true, ()), (out ++ [m], ()))) := by
    intro m out pre r hp hm hr hl ho
    obtain ⟨_, _, k1, _, c, d⟩ := right_sz hm
    obtain ⟨h1, _, h2⟩ := key_all (s := bl m.1) k1
    obtain ⟨x, q, hx, hkx⟩ : ∃ x q, partM m ++ r = x :: q ∧ keyChar x = true := by
      unfold partM item
      cases hb : bl m.1 with
      | nil => exact absurd hb h1
      | cons x q => exact ⟨x, _, rfl, h2 x (by rw [hb]; exact List.mem_cons_self ..)⟩
    have e1 : ((mkB (pre ++ (partM m ++ r))).toList == ByteArray.empty.toList) = false := by
      rw [toList_bl, toList_bl, bl_mk, bl_empty, hx]
      rcases hp with rfl | rfl <;> rfl
    have e2 : m101 ((mkB (pre ++ (partM m ++ r)), bs [44], ()), ()) = some ((mkB (partM m ++ r), ()), ()) := by
      rw [m101_eq, bl_mk]
      rcases hp with rfl | rfl
      · have : preL (bl (bs [44])) ([] ++ (partM m ++ r)) = false := by
          rw [List.nil_append, hx]
          unfold preL
          refine beq_eq_false_iff_ne.2 fun e => ?_
          have e : [x] = [44] := e
          simp at e
          rw [e] at hkx
          exact absurd hkx (by decide)
        rw [this]
        rfl
      · rfl
    have hb : decide (out.length + [m].length ≤ 4294967296) = true := decide_eq_true (by simp; omega)
    simp only [l32_0_3, e1, e2, m100_back m hm r hr hl, hb, sumE, sS]
  have stop : ∀ out : List MT, l32_0_3 ((mkB [], text, true, ()), (out, ())) = some (.inr ((text, true, ()), (out, ()))) := fun out => by
    have : ((mkB ([] : List UInt8)).toList == ByteArray.empty.toList) = true := by rw [toList_bl, toList_bl]; rfl
    simp only [l32_0_3, this, sumE, sS]
  intro l
  induction l with
  | nil =>
    intro m out pre hp hm hl ho
    have h := step m out pre [] hp (hm m (List.mem_cons_self ..)) rfl (by simp) (by simp at ho; omega)
    rw [List.append_nil] at h
    rw [show commas ([m].map partM) = partM m from rfl]
    exact (loopT_inl h).trans (loopT_inr (stop _))
  | cons y l ih =>
    intro m out pre hp hm hl ho
    have hcm : commas ((m :: y :: l).map partM) = partM m ++ 44 :: commas ((y :: l).map partM) := rfl
    rw [hcm] at hl ⊢
    rw [List.length_append, List.length_cons] at hl
    have hasc : asc (44 :: commas ((y :: l).map partM)) = true := by
      rw [show (44 :: commas ((y :: l).map partM)) = [44] ++ commas ((y :: l).map partM) from rfl, asc_app, asc_commas fun z hz => by
        obtain ⟨w, hw, rfl⟩ := List.mem_map.1 hz
        exact asc_part (hm w (List.mem_cons_of_mem _ hw))]
      rfl
    have h := step m out pre (44 :: commas ((y :: l).map partM)) hp (hm m (List.mem_cons_self ..)) hasc (by rw [List.length_cons]; omega) (by simp at ho; omega)
    rw [loopT_inl h]
    have := ih y (out ++ [m]) [44] (.inr rfl) (fun z hz => hm z (List.mem_cons_of_mem _ hz)) (by omega) (by simp at ho ⊢; omega)
    rw [show (44 :: commas ((y :: l).map partM)) = [44] ++ commas ((y :: l).map partM) from rfl, this]
    simp

theorem matchers_back (ms : List MT) (hn : ms.length ≤ 8) (hm : ∀ m ∈ ms, rightM m = true) : m32 ((mkB (commas (ms.map partM)), ()), ()) = some ((0, ()), (ms, ())) := by
  have hcl := commas_len (ms.map partM) 160 (fun x hx => by
    obtain ⟨y, hy, rfl⟩ := List.mem_map.1 hx
    exact partM_len (hm y hy))
  rw [List.length_map] at hcl
  have := Nat.mul_le_mul_right 161 hn
  have h1 : loopT l32_0_3 ((mkB (commas (ms.map partM)), mkB (commas (ms.map partM)), true, ()), ([], ())) = some ((mkB (commas (ms.map partM)), true, ()), (ms, ())) := by
    cases ms with
    | nil =>
      refine loopT_inr ?_
      have : ((mkB (commas (([] : List MT).map partM))).toList == ByteArray.empty.toList) = true := by rw [toList_bl, toList_bl]; rfl
      simp only [l32_0_3, this, sumE, sS]
    | cons m l =>
      have := read32 (mkB (commas ((m :: l).map partM))) l m [] [] (.inl rfl) hm (by omega) (by simp at hn ⊢; omega)
      simpa using this
  unfold m32
  refine bind_of _ h1 ?_
  simp only [format_ok ms hn hm, beq_self_eq_true, sumE, sS]

theorem m34_refl (l : List MT) (hl : l.length ≤ big) : m34 ((l, l, ()), ()) = some ((true, ()), ()) := by
  have h := loop_thru (f := l34_0_4) l (fun i => (((i : Int), l, l, (l.length : Int), ()), ())) (.inr ((), ())) ?_ ?_
  · unfold m34
    simp only [sumE, sS]
    exact bind_of _ h rfl
  · intro i e he hi
    unfold big at hl
    have hw : w64 ((i : Int) + 1) = ((i + 1 : Nat) : Int) := w64_nat (by omega)
    have h1 : ∀ b : ByteArray, (b == b) = true := fun b => by
      show (b.data == b.data) = true
      exact beq_self_eq_true _
    simp only [l34_0_4, lt_t hi, rowAt_G, rowG_nat he, hw, h1, beq_self_eq_true, Bool.and_self, Bool.not_true, sumE, sS]
  · simp only [l34_0_4, lt_f, sumE, sS]

theorem asc_keysL : ∀ {l : List LT} {p : Option LT}, (∀ x ∈ l, keyS x.1 = true ∧ valS x.2.1 = true ∧ x.2.1 ≠ ByteArray.empty) → (l.map (·.1)).Pairwise (fun a b => leB b a = false) → (∀ q, p = some q → ∀ x ∈ l, leB x.1 q.1 = false) → okP badL p l = true
  | [], _, _, _, _ => rfl
  | x :: l, p, h1, h2, h3 => by
    unfold okP
    rw [List.map_cons] at h2
    have h2 := List.pairwise_cons.1 h2
    rw [asc_keysL (p := some x) (fun y hy => h1 y (List.mem_cons_of_mem _ hy)) h2.2 (fun q hq y hy => by cases hq; exact h2.1 y.1 (List.mem_map_of_mem hy)), Bool.and_true]
    obtain ⟨a, b, c⟩ := h1 x (List.mem_cons_self ..)
    unfold badL
    rw [a, b]
    have c : (x.2.1.toList == ByteArray.empty.toList) = false := by rw [toList_bl, toList_bl, beq_bl]; exact decide_eq_false c
    rw [c]
    cases p with
    | none => rfl
    | some q => simp only; rw [h3 q rfl x (List.mem_cons_self ..)]; rfl

theorem keys4_up : keys4.Pairwise (fun a b => leB b a = false) := by decide +kernel

theorem dice_valid {l : List LT} (h : FromKeys keys4 l) : validL l = true := by
  unfold validL
  have h4 := h.1.length_le
  rw [List.length_map, show keys4.length = 4 from rfl] at h4
  rw [decide_eq_false (by omega), asc_keysL (fun x hx => ⟨(keys4_ok x.1 (h.1.subset (List.mem_map_of_mem hx))).1, (vals6_ok _ (h.2 x hx).1).1, (h.2 x hx).2⟩) (keys4_up.sublist h.1) (fun q hq => by cases hq)]
  rfl

theorem dice_k {l : List LT} (h : FromKeys keys4 l) : KSz l := by
  have g := from_good h
  exact ⟨by have := g.1; unfold big; omega, fun x hx => by have := g.2 x hx; unfold big; omega⟩

theorem law4c (t : List Int) : m4 ((t, ()), ()) = some ((true, ()), ()) := by
  unfold m4
  simp only [light, sumE, sS]
  by_cases ht : t.length ≤ 500
  · simp only [decide_eq_true ht, sumE, sS, roll]
    obtain ⟨a, d1, e1, hd1, ha⟩ := labels_spec _ (dok0 ht)
    obtain ⟨b, d2, e2, hd2, hb⟩ := labels_spec d1 hd1
    obtain ⟨ms, d3, e3, hd3, hn, hm⟩ := matchers_spec 8 d2 hd2 (by omega) (by omega)
    have va := dice_valid ha
    have vb := dice_valid hb
    have ka := dice_k ha
    have kb := dice_k hb
    have q1 := m36_eq a ka
    have q2 := m36_eq b kb
    have q3 := read_back a va
    have ta : textE a = mkB (textL a) := by unfold textE; rw [if_pos va]
    rw [← ta] at q3
    have hr : ∀ m ∈ ms, rightM m = true := fun m h => (hm m h).1
    have q4 := format_ok ms (by omega) hr
    have q5 := matchers_back ms (by omega) hr
    have q6 := m37_eq a a ka.1
    rw [decide_eq_true rfl] at q6
    have q7 := m34_refl ms (by unfold big; omega)
    have q8 := m37_eq a b ka.1
    have fin : (decide (textE a = textE b) == decide (a = b)) = true := by
      rw [decide_eq_decide.2 (texts_eq va vb)]
      exact beq_self_eq_true _
    simp only [e1, e2, e3, q1, q2, q3, q4, q5, q6, q7, q8, toList_bl, beq_bl, fin, sane20, sumE, sS]
  · simp only [decide_eq_false ht, sumE, sS, sane20]

theorem law4 : ∀ x, Abs.InRs [.row (.int .i64)] x → m4 (x, ()) = some ((true, ()), ()) := fun x _ => law4c x.1

end Go.Proofs.YtcblbcpnfidndaaDoor
