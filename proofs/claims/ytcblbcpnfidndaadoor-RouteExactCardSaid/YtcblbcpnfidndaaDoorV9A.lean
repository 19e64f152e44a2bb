/- Lemmas for the statement of the last text of this claim. -/
import Derived.Test.YtcblbcpnfidndaaDoorChecked
import Derived.Shelf.Strings.OnBuilder
import Derived.Shelf.Strings.IndexAnyAll
import Derived.Shelf.Strings.Search1
import Derived.ProofKit
import Derived.Test.YtcblbcpnfidndaaDoorPxO
import Derived.WalkKit
import Derived.BigCall
import Derived.Test.YtcblbcpnfidndaaDoorPlD
import Derived.Deep.RegionLaw
import Derived.Deep.LoopGhost
import Derived.Lib.Walk
import Derived.Maps.Own
import Derived.Shelf.RegionOpenPlain
import Derived.Lib.LazyBuf
set_option linter.unusedSimpArgs false
set_option linter.unusedVariables false
namespace Go.Proofs.YtcblbcpnfidndaaDoor
open Go Go.Shelf Go.RowKit
def shr : Shelf.Ren :=
{ f := fun x => match x with
    | 153 => 135
    | 152 => 154
    | 226 => 155
    | 227 => 125
    | 228 => 148
    | 137 => 164
    | 119 => 165
    | 224 => 166
    | 225 => 167
    | 217 => 168
    | 266 => 170
    | 156 => 98
    | 165 => 133
    | 166 => 134
    | 167 => 131
    | 169 => 132
    | 240 => 152
    | 241 => 153
    | 276 => 162
    | 277 => 163
    | n => n
  t := fun x => match x with
    | 31 => 51
    | 9 => 9
    | 3 => 3
    | 4 => 4
    | 0 => 0
    | 20 => 20
    | 72 => 153
    | 76 => 159
    | 70 => 150
    | 37 => 151
    | 75 => 155
    | 127 => 168
    | 164 => 171
    | 5 => 5
    | 80 => 157
    | 21 => 21
    | 117 => 145
    | 116 => 144
    | 46 => 176
    | 124 => 148
    | n => n
  g := fun x => x }

set_option maxRecDepth 100000 in
theorem lays_n167 : Lays.n167 Tryd.prog shr :=
{ mixed := Eq.refl true,
  f167 := Eq.trans Tryd.func131 (congrArg some (Eq.refl (Body.n167 shr))),
  f240 := Eq.trans Tryd.func152 (congrArg some (Eq.refl (Body.n240 shr))),
  f276 := Eq.trans Tryd.func162 (congrArg some (Eq.refl (Body.n276 shr))),
  t0 := Tryd.underlying0,
  a0 := Tryd.isAgg0,
  z0 := Tryd.sizeOf0,
  v0 := Tryd.zeroValue0,
  t4 := Tryd.underlying4,
  a4 := Tryd.isAgg4,
  z4 := Tryd.sizeOf4,
  v4 := Tryd.zeroValue4,
  t5 := Tryd.underlying5,
  a5 := Tryd.isAgg5,
  z5 := Tryd.sizeOf5,
  v5 := Tryd.zeroValue5,
  t9 := Tryd.underlying9,
  a9 := Tryd.isAgg9,
  z9 := Tryd.sizeOf9,
  v9 := Tryd.zeroValue9,
  t20 := Tryd.underlying20,
  a20 := Tryd.isAgg20,
  z20 := Tryd.sizeOf20,
  v20 := Tryd.zeroValue20,
  t37 := Tryd.underlying151,
  a37 := Tryd.isAgg151,
  z37 := Tryd.sizeOf151,
  v37 := Tryd.zeroValue151,
  t70 := Tryd.underlying150,
  a70 := Tryd.isAgg150,
  z70 := Tryd.sizeOf150,
  v70 := Tryd.zeroValue150,
  t72 := Tryd.underlying153,
  a72 := Tryd.isAgg153,
  z72 := Tryd.sizeOf153,
  v72 := Tryd.zeroValue153,
  t75 := Tryd.underlying155,
  a75 := Tryd.isAgg155,
  z75 := Tryd.sizeOf155,
  v75 := Tryd.zeroValue155,
  t164 := Tryd.underlying171,
  a164 := Tryd.isAgg171,
  z164 := Tryd.sizeOf171,
  v164 := Tryd.zeroValue171 }

set_option maxRecDepth 100000 in
theorem lays_n169 : Lays.n169 Tryd.prog shr :=
{ mixed := Eq.refl true,
  f169 := Eq.trans Tryd.func132 (congrArg some (Eq.refl (Body.n169 shr))),
  t0 := Tryd.underlying0,
  a0 := Tryd.isAgg0,
  z0 := Tryd.sizeOf0,
  v0 := Tryd.zeroValue0,
  t3 := Tryd.underlying3,
  a3 := Tryd.isAgg3,
  z3 := Tryd.sizeOf3,
  v3 := Tryd.zeroValue3,
  t9 := Tryd.underlying9,
  a9 := Tryd.isAgg9,
  z9 := Tryd.sizeOf9,
  v9 := Tryd.zeroValue9,
  t37 := Tryd.underlying151,
  a37 := Tryd.isAgg151,
  z37 := Tryd.sizeOf151,
  v37 := Tryd.zeroValue151,
  t70 := Tryd.underlying150,
  a70 := Tryd.isAgg150,
  z70 := Tryd.sizeOf150,
  v70 := Tryd.zeroValue150,
  t72 := Tryd.underlying153,
  a72 := Tryd.isAgg153,
  z72 := Tryd.sizeOf153,
  v72 := Tryd.zeroValue153,
  t127 := Tryd.underlying168,
  a127 := Tryd.isAgg168,
  z127 := Tryd.sizeOf168,
  v127 := Tryd.zeroValue168 }

set_option maxRecDepth 100000 in
theorem lays_n156 : Lays.n156 Tryd.prog shr :=
{ mixed := Eq.refl true,
  f156 := Eq.trans Tryd.func98 (congrArg some (Eq.refl (Body.n156 shr))),
  f165 := Eq.trans Tryd.func133 (congrArg some (Eq.refl (Body.n165 shr))),
  f166 := Eq.trans Tryd.func134 (congrArg some (Eq.refl (Body.n166 shr))),
  f169 := Eq.trans Tryd.func132 (congrArg some (Eq.refl (Body.n169 shr))),
  f240 := Eq.trans Tryd.func152 (congrArg some (Eq.refl (Body.n240 shr))),
  f241 := Eq.trans Tryd.func153 (congrArg some (Eq.refl (Body.n241 shr))),
  f276 := Eq.trans Tryd.func162 (congrArg some (Eq.refl (Body.n276 shr))),
  f277 := Eq.trans Tryd.func163 (congrArg some (Eq.refl (Body.n277 shr))),
  t0 := Tryd.underlying0,
  a0 := Tryd.isAgg0,
  z0 := Tryd.sizeOf0,
  v0 := Tryd.zeroValue0,
  t3 := Tryd.underlying3,
  a3 := Tryd.isAgg3,
  z3 := Tryd.sizeOf3,
  v3 := Tryd.zeroValue3,
  t4 := Tryd.underlying4,
  a4 := Tryd.isAgg4,
  z4 := Tryd.sizeOf4,
  v4 := Tryd.zeroValue4,
  t9 := Tryd.underlying9,
  a9 := Tryd.isAgg9,
  z9 := Tryd.sizeOf9,
  v9 := Tryd.zeroValue9,
  t20 := Tryd.underlying20,
  a20 := Tryd.isAgg20,
  z20 := Tryd.sizeOf20,
  v20 := Tryd.zeroValue20,
  t31 := Tryd.underlying51,
  a31 := Tryd.isAgg51,
  z31 := Tryd.sizeOf51,
  v31 := Tryd.zeroValue51,
  t37 := Tryd.underlying151,
  a37 := Tryd.isAgg151,
  z37 := Tryd.sizeOf151,
  v37 := Tryd.zeroValue151,
  t70 := Tryd.underlying150,
  a70 := Tryd.isAgg150,
  z70 := Tryd.sizeOf150,
  v70 := Tryd.zeroValue150,
  t72 := Tryd.underlying153,
  a72 := Tryd.isAgg153,
  z72 := Tryd.sizeOf153,
  v72 := Tryd.zeroValue153,
  t75 := Tryd.underlying155,
  a75 := Tryd.isAgg155,
  z75 := Tryd.sizeOf155,
  v75 := Tryd.zeroValue155,
  t76 := Tryd.underlying159,
  a76 := Tryd.isAgg159,
  z76 := Tryd.sizeOf159,
  v76 := Tryd.zeroValue159,
  t127 := Tryd.underlying168,
  a127 := Tryd.isAgg168,
  z127 := Tryd.sizeOf168,
  v127 := Tryd.zeroValue168,
  t164 := Tryd.underlying171,
  a164 := Tryd.isAgg171,
  z164 := Tryd.sizeOf171,
  v164 := Tryd.zeroValue171 }

set_option maxRecDepth 100000 in
theorem lays_n217 : Lays.n217 Tryd.prog shr :=
{ mixed := Eq.refl true,
  f217 := Eq.trans Tryd.func168 (congrArg some (Eq.refl (Body.n217 shr))),
  f266 := Eq.trans Tryd.func170 (congrArg some (Eq.refl (Body.n266 shr))),
  t3 := Tryd.underlying3,
  a3 := Tryd.isAgg3,
  z3 := Tryd.sizeOf3,
  v3 := Tryd.zeroValue3,
  t5 := Tryd.underlying5,
  a5 := Tryd.isAgg5,
  z5 := Tryd.sizeOf5,
  v5 := Tryd.zeroValue5,
  t9 := Tryd.underlying9,
  a9 := Tryd.isAgg9,
  z9 := Tryd.sizeOf9,
  v9 := Tryd.zeroValue9 }

set_option maxRecDepth 100000 in
theorem lays_n153 : Lays.n153 Tryd.prog shr :=
{ mixed := Eq.refl true,
  f119 := Eq.trans Tryd.func165 (congrArg some (Eq.refl (Body.n119 shr))),
  f137 := Eq.trans Tryd.func164 (congrArg some (Eq.refl (Body.n137 shr))),
  f152 := Eq.trans Tryd.func154 (congrArg some (Eq.refl (Body.n152 shr))),
  f153 := Eq.trans Tryd.func135 (congrArg some (Eq.refl (Body.n153 shr))),
  f217 := Eq.trans Tryd.func168 (congrArg some (Eq.refl (Body.n217 shr))),
  f224 := Eq.trans Tryd.func166 (congrArg some (Eq.refl (Body.n224 shr))),
  f225 := Eq.trans Tryd.func167 (congrArg some (Eq.refl (Body.n225 shr))),
  f226 := Eq.trans Tryd.func155 (congrArg some (Eq.refl (Body.n226 shr))),
  f227 := Eq.trans Tryd.func125 (congrArg some (Eq.refl (Body.n227 shr))),
  f228 := Eq.trans Tryd.func148 (congrArg some (Eq.refl (Body.n228 shr))),
  f266 := Eq.trans Tryd.func170 (congrArg some (Eq.refl (Body.n266 shr))),
  t0 := Tryd.underlying0,
  a0 := Tryd.isAgg0,
  z0 := Tryd.sizeOf0,
  v0 := Tryd.zeroValue0,
  t3 := Tryd.underlying3,
  a3 := Tryd.isAgg3,
  z3 := Tryd.sizeOf3,
  v3 := Tryd.zeroValue3,
  t4 := Tryd.underlying4,
  a4 := Tryd.isAgg4,
  z4 := Tryd.sizeOf4,
  v4 := Tryd.zeroValue4,
  t5 := Tryd.underlying5,
  a5 := Tryd.isAgg5,
  z5 := Tryd.sizeOf5,
  v5 := Tryd.zeroValue5,
  t9 := Tryd.underlying9,
  a9 := Tryd.isAgg9,
  z9 := Tryd.sizeOf9,
  v9 := Tryd.zeroValue9,
  t21 := Tryd.underlying21,
  a21 := Tryd.isAgg21,
  z21 := Tryd.sizeOf21,
  v21 := Tryd.zeroValue21,
  t46 := Tryd.underlying176,
  a46 := Tryd.isAgg176,
  z46 := Tryd.sizeOf176,
  v46 := Tryd.zeroValue176,
  t116 := Tryd.underlying144,
  a116 := Tryd.isAgg144,
  z116 := Tryd.sizeOf144,
  t117 := Tryd.underlying145,
  a117 := Tryd.isAgg145,
  z117 := Tryd.sizeOf145,
  v117 := Tryd.zeroValue145,
  t124 := Tryd.underlying148,
  a124 := Tryd.isAgg148,
  z124 := Tryd.sizeOf148,
  v124 := Tryd.zeroValue148 }

set_option maxRecDepth 100000 in
theorem bextra : Builder.Extra Tryd.prog shr :=
{ sizeBuilder := Eq.refl (some 2), liesBuilder := Eq.refl true, t5 := Tryd.underlying5, a5 := Tryd.isAgg5, z5 := Tryd.sizeOf5, v5 := Tryd.zeroValue5,
  infoByte := Eq.refl (some (some (Value.int IntKind.u8 0), 1, 1)), cellsByte := Eq.refl 1, sizeByte := Eq.refl (some 1), neB5 := by decide }

end Go.Proofs.YtcblbcpnfidndaaDoor

namespace Go.Proofs.YtcblbcpnfidndaaDoor
open Go Go.Abs Go.RowKit
theorem kept_below {w w' : World} (h : Below w.heap.size w w') : Kept w w' := ⟨h.os, h.tape, h.output, h.size, h.block⟩

theorem hand168 : CallOK Tryd.prog 168 (pureC hfIdx) := pure_ok (entered Tryd.func168 rfl (by decide)) (by
  intro args v h
  unfold hfIdx at h
  split at h
  · rename_i s c
    have := Tr.mean_ret h
    subst this
    refine ⟨_, rfl, fun w X vals hsz hv => ?_⟩
    have h0 := PR.strInv (hv 0 _ rfl)
    have h1 := PR.int_inv (hv 1 _ rfl)
    have hvv := two_vals (vals := vals) (by simpa using hsz)
    rw [h0, h1] at hvv
    rw [hvv]
    refine (Any.stringslite_IndexByte (ρ := shr) lays_n217 s c w).mono ?_
    rintro e w' ⟨rfl, rfl⟩
    exact ⟨rfl, Kept.refl _⟩
  · exact (Tr.mean_fail h).elim)

set_option maxRecDepth 100000 in
theorem hand135 : CallOK Tryd.prog 135 (pureC hfAny) := pure_ok (entered Tryd.func135 rfl (by decide)) (by
  intro args v h
  unfold hfAny at h
  split at h
  · rename_i s c
    obtain ⟨hc, h⟩ := Tr.mean_need h
    have := Tr.mean_ret h
    subst this
    refine ⟨_, rfl, fun w X vals hsz hv => ?_⟩
    have h0 := PR.strInv (hv 0 _ rfl)
    have h1 := PR.strInv (hv 1 _ rfl)
    have hvv := two_vals (vals := vals) (by simpa using hsz)
    rw [h0, h1] at hvv
    rw [hvv]
    simp only [Bool.and_eq_true, decide_eq_true_eq, isAsc, List.all_eq_true] at hc
    refine (Any.strings_IndexAny (ρ := shr) lays_n153 Tryd.zeroValue144 (by kernel_rfl) s c w hc.2.1 hc.2.2 (fun j b hb => hc.1.1 b (List.mem_of_getElem? hb)) (fun j b hb => hc.1.2 b (List.mem_of_getElem? hb))).mono ?_
    rintro e w' ⟨rfl, hb⟩
    exact ⟨rfl, kept_below hb⟩
  · exact (Tr.mean_fail h).elim)

theorem row_str {w : World} {X : XT} {v : Value} {l : List ByteArray} {tg : Bool} {ℓ : Lens} (h : PR w X v (d1 ℓ (.row .str l tg))) :
    (l = [] ∧ ∃ a cap, v = .slice a 0 cap) ∨ ∃ b o cap, v = .slice (some ⟨b, o, none⟩) l.length cap ∧ l.length ≤ cap ∧ ∀ (j : Nat) (x : ByteArray), l[j]? = some x → w.cell? ⟨b, o + j, none⟩ = some (.string x) := by
  have e : d1 ℓ (.row .str l tg) = .lst (lsz 1 (l.map fun x => AV.str x)) (l.map fun x => AV.str x) tg := rfl
  rw [e] at h
  cases hl : l with
  | nil =>
    left
    rw [hl] at h
    refine ⟨rfl, ?_⟩
    simp only [List.map_nil] at h
    cases h with
    | lst0 a cap sz t ht => exact ⟨a, cap, rfl⟩
    | lst b o n cap sz t xs f hn hc ht hsz hx hr => simp at hn; subst hn; exact ⟨_, cap, rfl⟩
  | cons y r =>
    right
    rw [← hl]
    have hz : lsz 1 (l.map fun x => AV.str x) = 1 := by rw [hl]; rfl
    rw [hz] at h
    generalize hxs : (l.map fun x => AV.str x) = xs at h
    have hlen : xs.length = l.length := by rw [← hxs]; simp
    cases h with
    | lst0 a cap sz t ht => rw [hl] at hlen; simp at hlen
    | lst b o n cap sz t xs f hn hc ht hsz hx hr =>
      refine ⟨b, o, cap, by rw [← hlen, hn], by omega, fun j x hj => ?_⟩
      have hxj : xs[j]? = some (.str x) := by rw [← hxs, List.getElem?_map, hj]; rfl
      obtain ⟨_, h2, _⟩ := hx j _ hxj 0 (.str x) rfl
      have h3 := hr j _ hxj 0 (.str x) rfl
      have h4 : f j 0 = .string x := PR.strInv h3
      rw [h4] at h2
      simpa using h2

set_option maxRecDepth 100000 in
theorem hand98 : CallOK Tryd.prog 98 (pureC hfJoin) := pure_ok (entered Tryd.func98 rfl (by decide)) (by
  intro args v h
  unfold hfJoin at h
  split at h
  · rename_i l tg sep
    obtain ⟨hc, h⟩ := Tr.mean_need h
    have hc := of_decide_eq_true hc
    have := Tr.mean_ret h
    subst this
    refine ⟨_, rfl, fun w X vals hsz hv => ?_⟩
    have h0 := row_str (hv 0 _ rfl)
    have h1 := PR.strInv (hv 1 _ rfl)
    have hvv := two_vals (vals := vals) (by simpa using hsz)
    rw [h1] at hvv
    have hsz2 : (Lib.join (List.map (fun x => x.data.toList) (show List ByteArray from l)) sep.data.toList).length ≤ 140737488355328 := by
      have := hc.2
      rwa [show (hJoin (show List ByteArray from l) sep).size = (Lib.join (List.map (fun x => x.data.toList) (show List ByteArray from l)) sep.data.toList).length from by simp [hJoin, mkB, ByteArray.size]] at this
    rcases h0 with ⟨hl, a, cap, e⟩ | ⟨b, o, cap, e, hle, hcell⟩
    · rw [hvv, e]
      refine (Any.strings_Join_none (ρ := shr) lays_n156 bextra a cap sep w).mono ?_
      rintro e w' ⟨rfl, rfl⟩
      refine ⟨?_, Kept.refl _⟩
      have hl : (show List ByteArray from l) = [] := hl
      show Ending.returned _ = Ending.returned (.string (hJoin (show List ByteArray from l) sep))
      rw [hl]; rfl
    · rw [hvv, e]
      have hb : l ≠ [] → b < w.heap.size := fun hne => by
        cases hl : (show List ByteArray from l) with
        | nil => exact absurd hl hne
        | cons y r =>
          have := hcell 0 y (by show (show List ByteArray from l)[0]? = _; rw [hl]; rfl)
          rcases Nat.lt_or_ge b w.heap.size with h' | h'
          · exact h'
          · simp [World.cell?, Array.getElem?_eq_none h'] at this
      by_cases hne : l = []
      · have hl : (show List ByteArray from l) = [] := hne
        have e0 : List.length (show List ByteArray from l) = 0 := by rw [hl]; rfl
        show Calls Tryd.prog 98 #[.slice (some ⟨b, o, none⟩) (List.length (show List ByteArray from l)) cap, .string sep] w _
        rw [e0]
        refine (Any.strings_Join_none (ρ := shr) lays_n156 bextra (some ⟨b, o, none⟩) cap sep w).mono ?_
        rintro e w' ⟨rfl, rfl⟩
        refine ⟨?_, Kept.refl _⟩
        show Ending.returned _ = Ending.returned (.string (hJoin (show List ByteArray from l) sep))
        rw [hl]; rfl
      · refine (Any.strings_Join (ρ := shr) lays_n156 bextra b o cap (show List ByteArray from l) sep w hcell (hb hne) (Nat.le_trans hc.1 (by decide)) hle hsz2).mono ?_
        rintro e w' ⟨rfl, hbw⟩
        exact ⟨rfl, kept_below hbw⟩
  · exact (Tr.mean_fail h).elim)

end Go.Proofs.YtcblbcpnfidndaaDoor

namespace Go.Proofs.YtcblbcpnfidndaaDoor
open Go Go.Abs Go.RowKit
theorem wByte (B b : Nat) (bs : List Value) (c : Int) (w : World) (h : Lib.IsBuilder 153 5 B b bs w) (hlen : bs.length + 1 ≤ 140737488355328) (hBw : B ≤ w.heap.size) :
    Calls Tryd.prog 131 #[.pointer (some ⟨b, 0, none⟩), .int .u8 c] w fun e w' => e = .returned .nilIface ∧ (Lib.BuilderAt 153 5 B b (.pointer (some ⟨b, 0, none⟩)) (bs ++ [.int .u8 c]) w' ∧ Below B w w') :=
  Any.Builder_WriteByte (ρ := shr) lays_n167 bextra B b bs c w h hlen hBw

theorem bString (B b : Nat) (l : List UInt8) (w : World) (h : Lib.IsBuilder 153 5 B b (Lib.byteCells l) w) (hBw : B ≤ w.heap.size) :
    Calls Tryd.prog 132 #[.pointer (some ⟨b, 0, none⟩)] w fun e w' => e = .returned (.string ⟨l.toArray⟩) ∧ Below B w w' :=
  Any.Builder_String_any (ρ := shr) lays_n169 bextra B b l w h hBw

theorem esc_snoc : ∀ (l : List UInt8) (c : UInt8), Lab.esc (l ++ [c]) = Lab.esc l ++ (if c = 34 ∨ c = 92 then [92, c] else [c])
  | [], c => by simp only [List.nil_append, Lab.esc]
  | d :: l, c => by
    simp only [List.cons_append, Lab.esc, esc_snoc l c]
    split <;> simp

theorem take_snoc (s : ByteArray) (k : Nat) (h : k < s.size) : s.data.toList.take (k + 1) = s.data.toList.take k ++ [s[k]] := by
  have h' : k < s.data.toList.length := by rw [Array.length_toList]; exact h
  rw [List.take_add_one, List.getElem?_eq_getElem h']
  rfl

set_option maxHeartbeats 4000000 in
set_option maxRecDepth 1000000 in
theorem quoted_calls (s : ByteArray) (w : World) (hs : s.size ≤ 4294967296) :
    Calls Tryd.prog 97 #[.string s] w fun e w' => e = .returned (.string (hQuote s)) ∧ Below w.heap.size w w' := by
  go_enter Tryd.func97, Tryd.ntmps97
  go_wp2_with (go_at_call 131; refine (wByte w.heap.size w.heap.size [] 34 _ (Lib.fresh_isBuilder 153 5 w) (by simp) (by simp)).mono ?_)
  rintro e w1 ⟨rfl, h1, b1⟩
  have b1 : Below w.heap.size w w1 := ((Below.refl _ w).alloc (Nat.le_refl _) _).trans b1
  go_wp2
  go_loopw [8] (fun v wr => ∃ k : Nat, k ≤ s.size ∧ v = .int .i64 k ∧ Lib.BuilderAt 153 5 w.heap.size w.heap.size (.pointer (some ⟨w.heap.size, 0, none⟩)) (Lib.byteCells (34 :: Lab.esc (s.data.toList.take k))) wr ∧ Below w.heap.size w wr) (fun v wr => s.size - (intOf v).toNat)
  case atStart => exact ⟨0, Nat.zero_le _, rfl, by simpa [Lab.esc, Lib.byteCells] using h1, b1⟩
  case round =>
    obtain ⟨k, hk, rfl, hI, hbw⟩ := hrel
    by_cases hp : k < s.size
    · have hsn := take_snoc s k hp
      have hlen : (Lib.byteCells (34 :: Lab.esc (s.data.toList.take k))).length ≤ 2 * k + 1 := by
        have := Lab.esc_len (s.data.toList.take k)
        rw [Lib.byteCells_length]
        simp only [List.length_cons, List.length_take] at this ⊢
        omega
      have hle : w.heap.size ≤ wr.heap.size := hbw.size
      have two : ∀ (w2 w3 : World), s[k] = 34 ∨ s[k] = 92 → Lib.BuilderAt 153 5 w.heap.size w.heap.size (.pointer (some ⟨w.heap.size, 0, none⟩)) (Lib.byteCells (34 :: Lab.esc (s.data.toList.take k)) ++ [Value.int .u8 92] ++ [Value.int .u8 s[k].toNat]) w3 →
          Lib.BuilderAt 153 5 w.heap.size w.heap.size (.pointer (some ⟨w.heap.size, 0, none⟩)) (Lib.byteCells (34 :: Lab.esc (s.data.toList.take (k + 1)))) w3 := by
        intro w2 w3 hq h
        rw [hsn, esc_snoc, if_pos hq]
        simpa [Lib.byteCells] using h
      have one : ∀ (w3 : World), ¬ (s[k] = 34 ∨ s[k] = 92) → Lib.BuilderAt 153 5 w.heap.size w.heap.size (.pointer (some ⟨w.heap.size, 0, none⟩)) (Lib.byteCells (34 :: Lab.esc (s.data.toList.take k)) ++ [Value.int .u8 s[k].toNat]) w3 →
          Lib.BuilderAt 153 5 w.heap.size w.heap.size (.pointer (some ⟨w.heap.size, 0, none⟩)) (Lib.byteCells (34 :: Lab.esc (s.data.toList.take (k + 1)))) w3 := by
        intro w3 hq h
        rw [hsn, esc_snoc, if_neg hq]
        simpa [Lib.byteCells] using h
      have byte34 : ((s[k].toNat : Int) = 34) → s[k] = 34 := fun h => UInt8.toNat_inj.1 (by show s[k].toNat = 34; omega)
      have byte92 : ((s[k].toNat : Int) = 92) → s[k] = 92 := fun h => UInt8.toNat_inj.1 (by show s[k].toNat = 92; omega)
      have both : ((s[k].toNat : Int) == 34) = true ∨ ((s[k].toNat : Int) == 92) = true → s[k] = 34 ∨ s[k] = 92 := by
        rintro (h | h)
        · exact .inl (byte34 (by simpa using h))
        · exact .inr (byte92 (by simpa using h))
      have neither : ((s[k].toNat : Int) == 34) = false ∧ ((s[k].toNat : Int) == 92) = false → ¬ (s[k] = 34 ∨ s[k] = 92) := by
        intro h h2
        rcases h2 with h2 | h2 <;> rw [h2] at h
        · cases h.1
        · cases h.2
      go_wp2_with (go_at_call 131; fail)
      · have hq : s[k] = 34 ∨ s[k] = 92 := .inl (byte34 (by assumption))
        refine (wByte w.heap.size w.heap.size _ 92 wr (Or.inr hI) (by omega) hle).mono ?_
        rintro e w2 ⟨rfl, h2, b2⟩
        go_wp2_with (go_at_call 131; fail)
        refine (wByte w.heap.size w.heap.size _ _ w2 (Or.inr h2) (by simp only [List.length_append, List.length_singleton]; omega) (by have := b2.size; omega)).mono ?_
        rintro e w3 ⟨rfl, h3, b3⟩
        go_wp2
        go_roundw
        case rel => exact ⟨k + 1, by omega, by simp, two w2 w3 hq (by rw [show (s[k].toNat : Int) = 34 from by assumption]; exact h3), (hbw.trans b2).trans b3⟩
        case measure => simp [intOf]; omega
      · have hq : s[k] = 34 ∨ s[k] = 92 := both (by assumption)
        refine (wByte w.heap.size w.heap.size _ 92 wr (Or.inr hI) (by omega) hle).mono ?_
        rintro e w2 ⟨rfl, h2, b2⟩
        go_wp2_with (go_at_call 131; fail)
        refine (wByte w.heap.size w.heap.size _ _ w2 (Or.inr h2) (by simp only [List.length_append, List.length_singleton]; omega) (by have := b2.size; omega)).mono ?_
        rintro e w3 ⟨rfl, h3, b3⟩
        go_wp2
        go_roundw
        case rel => exact ⟨k + 1, by omega, by simp, two w2 w3 hq h3, (hbw.trans b2).trans b3⟩
        case measure => simp [intOf]; omega
      · have hq : ¬ (s[k] = 34 ∨ s[k] = 92) := neither (by assumption)
        refine (wByte w.heap.size w.heap.size _ _ wr (Or.inr hI) (by omega) hle).mono ?_
        rintro e w3 ⟨rfl, h3, b3⟩
        go_wp2
        go_roundw
        case rel => exact ⟨k + 1, by omega, by simp, one w3 hq h3, hbw.trans b3⟩
        case measure => simp [intOf]; omega
    · have hk2 : k = s.size := by omega
      subst hk2
      have hI2 : Lib.BuilderAt 153 5 w.heap.size w.heap.size (.pointer (some ⟨w.heap.size, 0, none⟩)) (Lib.byteCells (34 :: Lab.esc s.data.toList)) wr := by
        have e : s.data.toList.take s.size = s.data.toList := List.take_of_length_le (by rw [Array.length_toList]; exact Nat.le_refl _)
        rw [e] at hI; exact hI
      have hlen : (Lib.byteCells (34 :: Lab.esc s.data.toList)).length ≤ 2 * s.size + 1 := by
        have := Lab.esc_len s.data.toList
        have e : s.data.toList.length = s.size := Array.length_toList
        rw [e] at this
        rw [Lib.byteCells_length, List.length_cons]
        omega
      have hle : w.heap.size ≤ wr.heap.size := hbw.size
      go_wp2_with (go_at_call 131; fail)
      refine (wByte w.heap.size w.heap.size _ 34 wr (Or.inr hI2) (by omega) hle).mono ?_
      rintro e w2 ⟨rfl, h2, b2⟩
      go_wp2_with (go_at_call 132; fail)
      have h2' : Lib.BuilderAt 153 5 w.heap.size w.heap.size (.pointer (some ⟨w.heap.size, 0, none⟩)) (Lib.byteCells (34 :: (Lab.esc s.data.toList ++ [34]))) w2 := by
        simpa [Lib.byteCells] using h2
      refine (bString w.heap.size w.heap.size _ w2 (Or.inr h2') (by have := b2.size; omega)).mono ?_
      rintro e w3 ⟨rfl, b3⟩
      go_wp2
      go_ret
      exact ⟨rfl, (hbw.trans b2).trans b3⟩

theorem hand97 : CallOK Tryd.prog 97 (pureC hfQuote) := pure_ok (entered Tryd.func97 rfl (by decide)) (by
  intro args v h
  unfold hfQuote at h
  split at h
  · rename_i s
    obtain ⟨hc, h⟩ := Tr.mean_need h
    have hc := of_decide_eq_true hc
    have := Tr.mean_ret h
    subst this
    refine ⟨_, rfl, fun w X vals hsz hv => ?_⟩
    have h0 := PR.strInv (hv 0 _ rfl)
    have hvv := one_val (vals := vals) (by simpa using hsz)
    rw [h0] at hvv
    rw [hvv]
    refine (quoted_calls s w hc).mono ?_
    rintro e w' ⟨rfl, hb⟩
    exact ⟨rfl, kept_below hb⟩
  · exact (Tr.mean_fail h).elim)

theorem drop_atB (s : ByteArray) (k : Nat) (h : k < s.size) : s.data.toList.drop k = s[k] :: s.data.toList.drop (k + 1) := by
  have h' : k < s.data.toList.length := by rw [Array.length_toList]; exact h
  rw [List.drop_eq_getElem_cons h']
  rfl

theorem drop_end (s : ByteArray) : s.data.toList.drop s.size = [] := List.drop_eq_nil_of_le (by rw [Array.length_toList]; exact Nat.le_refl _)

theorem extract_drop (s : ByteArray) (k : Nat) : s.extract k s.size = mkB (s.data.toList.drop k) := Lib.extract_from s k

set_option maxHeartbeats 4000000 in
set_option maxRecDepth 1000000 in
theorem unquoted_calls (s : ByteArray) (w : World) (hs : s.size ≤ 4294967296) :
    Calls Tryd.prog 105 #[.string s] w fun e w' => e = .returned (.tuple #[.string (hUnq s).1, .string (hUnq s).2.1, .bool (hUnq s).2.2]) ∧ Below w.heap.size w w' := by
  by_cases he : s.size = 0
  · have hs0 : s = ⟨#[]⟩ := ByteArray.ext (Array.eq_empty_of_size_eq_zero he)
    subst hs0
    go_enter Tryd.func105, Tryd.ntmps105
    go_wp2
    go_ret3
    exact ⟨rfl, Below.refl _ _⟩
  · have hdat := drop_atB s 0 (by omega)
    rw [List.drop_zero] at hdat
    have hne : s.toList.isEmpty = false := by rw [ByteArray.toList_eq, hdat]; rfl
    by_cases h34 : s[0]'(by omega) = 34
    · have hU : hUnq s = match Lab.unq (s.data.toList.drop 1) with | some (v, q) => (mkB v, mkB q, true) | none => (ByteArray.empty, ByteArray.empty, false) := by
        unfold hUnq
        rw [hdat, h34]
        rfl
      go_enter Tryd.func105, Tryd.ntmps105
      go_wp2
      go_loopw [6] (fun v wr => ∃ (k : Nat) (acc : List UInt8), 1 ≤ k ∧ k ≤ s.size ∧ v = .int .i64 k ∧ Lib.IsBuilder 153 5 w.heap.size w.heap.size (Lib.byteCells acc) wr ∧ Below w.heap.size w wr ∧ acc.length ≤ k ∧ Lib.Kept (Lab.unq (s.data.toList.drop 1) = (Lab.unq (s.data.toList.drop k)).map fun p => (acc ++ p.1, p.2))) (fun v wr => s.size - (intOf v).toNat)
      case atStart =>
        refine ⟨1, [], Nat.le_refl _, by omega, rfl, Lib.fresh_isBuilder 153 5 w, (Below.refl _ w).alloc (Nat.le_refl _) _, Nat.zero_le _, ?_⟩
        show _ = _
        cases Lab.unq (s.data.toList.drop 1) <;> rfl
      case round =>
        obtain ⟨k, acc, hk1, hk, rfl, hI, hbw, hacc, hun⟩ := hrel
        have hle : w.heap.size ≤ wr.heap.size := hbw.size
        by_cases hp : k < s.size
        · have hdk := drop_atB s k hp
          by_cases c34 : s[k] = 34
          · have e34 : ((s[k].toNat : Int) == 34) = true := by rw [c34]; rfl
            have hun' : Lab.unq (s.data.toList.drop 1) = (Lab.unq (s.data.toList.drop k)).map fun p => (acc ++ p.1, p.2) := hun
            rw [hdk, c34, Lab.unq_end, Option.map_some, List.append_nil] at hun'
            have hwr : IntKind.i64.wrap ((k : Int) + 1) = (k : Int) + 1 := w64_id (x := (k : Int) + 1) (by omega) (by omega)
            have ha : (0 : Int) ≤ (k : Int) + 1 := by omega
            have hb : (k : Int) + 1 ≤ (s.size : Int) := by omega
            go_wp2_with fail
            go_region_with (go_at_call 132; refine (bString w.heap.size w.heap.size acc wr.drew hI hle).mono ?_; rintro e w3 ⟨rfl, b3⟩)
            all_goals go_wp2
            all_goals go_ret3
            all_goals exact ⟨by rw [hU, hun', extract_drop]; rfl, hbw.trans ⟨b3.os, b3.tape, b3.output, b3.size, b3.block⟩⟩
          · have e34 : ((s[k].toNat : Int) == 34) = false := by
              have hn : (s[k].toNat : Int) ≠ 34 := fun h => c34 (UInt8.toNat_inj.1 (by show s[k].toNat = 34; omega))
              simpa using hn
            go_wp2_with (go_at_call 131; fail)
            · have hun' : Lab.unq (s.data.toList.drop 1) = (Lab.unq (s.data.toList.drop k)).map fun p => (acc ++ p.1, p.2) := hun
              rw [hdk] at hun'
              have h92 : s[k] = 92 := UInt8.toNat_inj.1 (by have : (s[k].toNat : Int) = 92 := by assumption
                                                            show s[k].toNat = 92; omega)
              have hlt : k + 1 < s.size := by have : (k : Int) + 1 < (s.size : Int) := by assumption
                                              omega
              rw [h92, drop_atB s (k + 1) hlt, Lab.unq_esc2] at hun'
              refine (wByte w.heap.size w.heap.size _ _ wr hI (by rw [Lib.byteCells_length]; omega) hle).mono ?_
              rintro e w3 ⟨rfl, h3, b3⟩
              go_wp2
              go_roundw
              case rel =>
                refine ⟨k + 2, acc ++ [s[k + 1]], by omega, by omega, by simp; omega, Or.inr (by simpa [Lib.byteCells] using h3), hbw.trans b3, by simp; omega, ?_⟩
                show _ = _
                rw [hun', Option.map_map]
                congr 1
                funext p
                simp
              case measure => simp [intOf]; omega
            · have hle2 : s.size ≤ k + 1 := by have : (s.size : Int) ≤ (k : Int) + 1 := by assumption
                                               omega
              have h92 : s[k] = 92 := UInt8.toNat_inj.1 (by have : (s[k].toNat : Int) = 92 := by assumption
                                                            show s[k].toNat = 92; omega)
              have hk3 : s.size = k + 1 := by omega
              have hdr : s.data.toList.drop (k + 1) = [] := by rw [← hk3]; exact drop_end s
              have hun' : Lab.unq (s.data.toList.drop 1) = (Lab.unq (s.data.toList.drop k)).map fun p => (acc ++ p.1, p.2) := hun
              rw [hdk, h92, hdr, Lab.unq_last] at hun'
              refine (wByte w.heap.size w.heap.size _ _ wr hI (by rw [Lib.byteCells_length]; omega) hle).mono ?_
              rintro e w3 ⟨rfl, h3, b3⟩
              go_wp2
              go_roundw
              case rel =>
                refine ⟨k + 1, acc ++ [92], by omega, by omega, by simp, Or.inr (by simpa [Lib.byteCells] using h3), hbw.trans b3, by simp; omega, ?_⟩
                show _ = _
                rw [hun', hdr]
                rfl
              case measure => simp [intOf]; omega
            · have h92 : s[k] ≠ 92 := fun h => by
                have : ¬ (s[k].toNat : Int) = 92 := by assumption
                exact this (by rw [h]; rfl)
              have hun' : Lab.unq (s.data.toList.drop 1) = (Lab.unq (s.data.toList.drop k)).map fun p => (acc ++ p.1, p.2) := hun
              rw [hdk, Lab.unq_byte c34 h92] at hun'
              refine (wByte w.heap.size w.heap.size _ _ wr hI (by rw [Lib.byteCells_length]; omega) hle).mono ?_
              rintro e w3 ⟨rfl, h3, b3⟩
              go_wp2
              go_roundw
              case rel =>
                refine ⟨k + 1, acc ++ [s[k]], by omega, by omega, by simp, Or.inr (by simpa [Lib.byteCells] using h3), hbw.trans b3, by simp; omega, ?_⟩
                show _ = _
                rw [hun', Option.map_map]
                congr 1
                funext p
                simp
              case measure => simp [intOf]; omega
        · have hk2 : k = s.size := by omega
          subst hk2
          go_wp2
          go_ret3
          refine ⟨?_, hbw⟩
          have hun' : Lab.unq (s.data.toList.drop 1) = (Lab.unq (s.data.toList.drop s.size)).map fun p => (acc ++ p.1, p.2) := hun
          rw [drop_end, show Lab.unq [] = none from rfl, Option.map_none] at hun'
          rw [hU, hun']
          rfl
    · have hU : hUnq s = (ByteArray.empty, ByteArray.empty, false) := by
        unfold hUnq
        rw [hdat]
        unfold hUnqL
        split
        · rename_i e; exact absurd (List.cons.inj e).1 h34
        · rfl
      have hn : ((s[0]'(by omega)).toNat : Int) ≠ 34 := fun h => h34 (UInt8.toNat_inj.1 (by show (s[0]'(by omega)).toNat = 34; omega))
      go_enter Tryd.func105, Tryd.ntmps105
      go_wp2
      go_ret3
      exact ⟨by rw [hU]; rfl, Below.refl _ _⟩

theorem hand105 : CallOK Tryd.prog 105 (pureC hfUnq) := pure_ok (entered Tryd.func105 rfl (by decide)) (by
  intro args v h
  unfold hfUnq at h
  split at h
  · rename_i s
    obtain ⟨hc, h⟩ := Tr.mean_need h
    have hc := of_decide_eq_true hc
    have := Tr.mean_ret h
    subst this
    refine ⟨_, rfl, fun w X vals hsz hv => ?_⟩
    have h0 := PR.strInv (hv 0 _ rfl)
    have hvv := one_val (vals := vals) (by simpa using hsz)
    rw [h0] at hvv
    rw [hvv]
    refine (unquoted_calls s w hc).mono ?_
    rintro e w' ⟨rfl, hb⟩
    exact ⟨rfl, kept_below hb⟩
  · exact (Tr.mean_fail h).elim)

end Go.Proofs.YtcblbcpnfidndaaDoor

namespace Go.Proofs.YtcblbcpnfidndaaDoor
open Go Go.Abs Go.RowKit
/-! ### slices.Delete -/

theorem run_clear_cells {P : Program} (w : World) (t e ty : TypeId) (z : Value) (ht : P.underlying t = some (.slice e)) (hv : ∀ w, (zeroValue e).run P w = .ok z w) (b o n c : Nat) (hn : 0 < n) (vs : List Value) (hvs : (Builtin.zeroCells z.cells n).toList = vs)
    (h1 : ∀ v ∈ vs, v.oneCell' = true) (hc : ∀ j, j < vs.length → (w.cell? ⟨b, o + j, none⟩).isSome = true) (hf : ∀ j, j < vs.length → w.frozen? ⟨b, o + j, none⟩ = false) :
    (Builtin.clear_ #[t] ty #[.slice (some ⟨b, o, none⟩) n c]).run P w = .ok (.tuple #[]) (w.setCells b o vs) := by
  have hst := run_storeCells_cells (P := P) b o vs 0 w (by simpa using hc) (by simpa using hf) h1
  simp only [Nat.add_zero] at hst
  obtain ⟨m, rfl⟩ : ∃ m, n = m + 1 := ⟨n - 1, by omega⟩
  simp [Builtin.clear_, run_underlying ht, hv, hvs, hst]

theorem setCells_frame (b : Nat) : ∀ (vs : List Value) (o : Nat) (w : World), (w.setCells b o vs).os = w.os ∧ (w.setCells b o vs).tape = w.tape ∧ (w.setCells b o vs).output = w.output ∧ (w.setCells b o vs).heap.size = w.heap.size ∧ ∀ k, k ≠ b → (w.setCells b o vs).heap[k]? = w.heap[k]?
  | [], _, _ => ⟨rfl, rfl, rfl, rfl, fun _ _ => rfl⟩
  | v :: r, o, w => by
    obtain ⟨h1, h2, h3, h4, h5⟩ := setCells_frame b r (o + 1) (w.setCell ⟨b, o, none⟩ v)
    rw [World.setCells]
    refine ⟨h1, h2, h3, h4.trans (by simp [World.setCell]), fun k hk => (h5 k hk).trans ?_⟩
    simp only [World.setCell]
    rw [Array.getElem?_modify, if_neg (fun e => hk e.symm)]

theorem cell_row {w : World} {b : Nat} {cs : Array Value} {T : TypeId} (h : w.heap[b]? = some (.cells cs T (0, 0))) {o : Nat} (ho : o < cs.size) : w.cell? ⟨b, o, none⟩ = some (cs.getD o undef) ∧ w.frozen? ⟨b, o, none⟩ = false := by
  constructor
  · simp [World.cell?, h, Array.getD, ho]
  · simp [World.frozen?, h]

theorem row_of {w : World} {b : Nat} {cs : Array Value} {T : TypeId} (h : w.heap[b]? = some (.cells cs T (0, 0))) : w.rowIs b T cs.size (fun k => cs.getD k undef) :=
  ⟨cs, h, rfl, fun i hi => by simp [Array.getD, hi]⟩

set_option maxHeartbeats 4000000 in
set_option maxRecDepth 1000000 in
theorem del_calls (w : World) (b n cap i j : Nat) (cs : Array Value) (T : TypeId) (hh : w.heap[b]? = some (.cells cs T (0, 0))) (hk : cap * 5 ≤ cs.size) (hone : ∀ k, k < n * 5 → (cs.getD k undef).oneCell' = true) (hij : i < j) (hj : j ≤ n) (hn : n ≤ cap) (hm : n ≤ 4294967296) :
    Calls Tryd.prog 117 #[.slice (some ⟨b, 0, none⟩) n cap, .int .i64 i, .int .i64 j] w (MakesDel 5 b n cap i j w cs T) := by
  have hic : i ≤ cap := by omega
  have hjc : j ≤ cap := by omega
  obtain ⟨i0, hi0, hz0, hz1, _⟩ := info_parts (P := Tryd.prog) (e := 81) (z := .agg #[.int .i64 0, .int .i64 0, .int .i64 0, .int .i64 0, .slice none 0 0]) (size := 5) (bytes := 56) (by kernel_rfl)
  have hv81 : ∀ w, (zeroValue 81).run Tryd.prog w = .ok (.agg #[.int .i64 0, .int .i64 0, .int .i64 0, .int .i64 0, .slice none 0 0]) w := fun w => by simp [zeroValue, typeInfo, hi0, hz0]
  -- the cells that are moved
  obtain ⟨news, hnews⟩ : ∃ news : List Value, news = (List.range ((n - j) * 5)).map (fun k => cs.getD (j * 5 + k) undef) := ⟨_, rfl⟩
  have hlen : news.length = (n - j) * 5 := by rw [hnews]; simp
  have hget : ∀ k, k < (n - j) * 5 → news[k]? = some (cs.getD (j * 5 + k) undef) := by intro k hk'; rw [hnews]; simp [hk']
  have hin : ∀ k, k < cap * 5 → k < cs.size := fun k hk' => by omega
  have hdrew : w.drew.heap[b]? = some (.cells cs T (0, 0)) := hh
  obtain ⟨A, hA, hsrc⟩ : ∃ A : Addr, (if cap = j then (some (⟨b, 0, none⟩ : Addr)) else some ⟨b, j * 5, none⟩) = some A ∧ Hid (∀ k u, news[k]? = some u → w.drew.cell? (A.add k) = some u) := by
    by_cases h : cap = j
    · refine ⟨⟨b, 0, none⟩, by simp [h], fun k u hu => ?_⟩
      have h0 : news.length = 0 := by rw [hlen]; omega
      rw [List.length_eq_zero_iff.1 h0] at hu
      simp at hu
    · refine ⟨⟨b, j * 5, none⟩, by simp [h], fun k u hu => ?_⟩
      have hk' := (List.getElem?_eq_some_iff.1 hu).1
      rw [hlen] at hk'
      rw [hget k hk'] at hu
      rw [addr_add]
      rw [← hu]
      exact (cell_row hdrew (hin _ (by omega))).1
  have s2 : Hid (∀ u ∈ news, u.oneCell' = true) := by
    intro u hu
    rw [hnews] at hu
    simp only [List.mem_map, List.mem_range] at hu
    obtain ⟨k, hk', rfl⟩ := hu
    exact hone _ (by omega)
  have s3 : Hid (∀ k, k < news.length → (w.drew.cell? ⟨b, 0 + i * 5 + k, none⟩).isSome = true ∧ w.drew.frozen? ⟨b, 0 + i * 5 + k, none⟩ = false) := by
    intro k hk'
    rw [hlen] at hk'
    rw [Nat.zero_add]
    obtain ⟨c1, c2⟩ := cell_row hdrew (o := i * 5 + k) (hin _ (by omega))
    exact ⟨by rw [c1]; rfl, c2⟩
  have s1 : Hid (news.length = (n - j) * 5) := hlen
  obtain ⟨W1, hW1⟩ : ∃ W1, W1 = w.drew.setCells b (0 + i * 5) news := ⟨_, rfl⟩
  have hW : Hid (W1 = w.drew.setCells b (0 + i * 5) news) := hW1
  have hrow1 : W1.rowIs b T cs.size (fun k => if 0 + i * 5 ≤ k ∧ k < 0 + i * 5 + news.length then news[k - (0 + i * 5)]?.getD default else cs.getD k undef) := by
    rw [hW1]; exact rowIs_setCells news (0 + i * 5) w.drew _ (row_of hdrew)
  have hfrm1 := setCells_frame b news (0 + i * 5) w.drew
  rw [← hW1] at hfrm1
  -- what is cleared
  obtain ⟨zs, hzs⟩ : ∃ zs, zs = (Builtin.zeroCells (Value.agg #[.int .i64 0, .int .i64 0, .int .i64 0, .int .i64 0, .slice none 0 0]).cells (n - (i + (n - j)))).toList := ⟨_, rfl⟩
  have hzl : zs.length = (n - (i + (n - j))) * 5 := by rw [hzs]; simp [Builtin.zeroCells, Value.cells]
  have hz1' : ∀ v ∈ zs, v.oneCell' = true := by
    intro v hv
    rw [hzs] at hv
    simp only [Builtin.zeroCells, Value.cells, Array.toList_map, List.mem_map] at hv
    obtain ⟨k, _, rfl⟩ := hv
    have hk5 : k % 5 < 5 := Nat.mod_lt _ (by omega)
    simp only [List.size_toArray, List.length_cons, List.length_nil]
    generalize k % 5 = q at hk5
    match q, hk5 with
    | 0, _ => rfl
    | 1, _ => rfl
    | 2, _ => rfl
    | 3, _ => rfl
    | 4, _ => rfl
  obtain ⟨c1, hc1, hc1s, hc1g⟩ := hrow1
  have hcl : ∀ ty, (Builtin.clear_ #[77] ty #[.slice (some ⟨b, (i + (n - j)) * 5, none⟩) (n - (i + (n - j))) (cap - (i + (n - j)))]).run Tryd.prog W1 = .ok (.tuple #[]) (W1.setCells b ((i + (n - j)) * 5) zs) :=
    fun ty => run_clear_cells W1 77 81 ty _ Tryd.underlying77 hv81 b _ _ _ (by omega) zs hzs.symm hz1' (fun q hq => by rw [(cell_row hc1 (by omega)).1]; rfl) (fun q hq => (cell_row hc1 (by omega)).2)
  have hrow2 := rowIs_setCells zs ((i + (n - j)) * 5) W1 _ ⟨c1, hc1, hc1s, hc1g⟩
  have hfrm2 := setCells_frame b zs ((i + (n - j)) * 5) W1
  obtain ⟨c2, hc2, hc2s, hc2g⟩ := hrow2
  have fin : Aside (MakesDel 5 b n cap i j w cs T (.returned (.slice (some ⟨b, 0, none⟩) (i + (n - j)) cap)) (W1.setCells b ((i + (n - j)) * 5) zs)) := by
    refine ⟨c2, by rw [show n - (j - i) = i + (n - j) by omega], hc2, hc2s, fun k hk' => ?_, fun k hk' hk2 => ?_, hfrm2.1.trans hfrm1.1, hfrm2.2.1.trans hfrm1.2.1, hfrm2.2.2.1.trans hfrm1.2.2.1, hfrm2.2.2.2.1.trans hfrm1.2.2.2.1, fun k hk' => (hfrm2.2.2.2.2 k hk').trans (hfrm1.2.2.2.2 k hk')⟩
    · have := hc2g k (by omega)
      simp only at this
      rw [if_neg (by omega), if_neg (by omega)] at this
      rw [Array.getD_eq_getD_getElem?, this]
      rfl
    · have := hc2g k (by omega)
      simp only at this
      rw [if_neg (by omega), if_pos (by omega), hget _ (by omega)] at this
      rw [Array.getD_eq_getD_getElem?, this]
      simp only [Option.getD_some]
      congr 1
      omega
  have mixed : Tryd.prog.follows .mixedOrders = true := by kernel_rfl
  clear hh hk hone hnews hget hlen hin hdrew hfrm1 hfrm2 hc1 hc1s hc1g hc2 hc2s hc2g hzs hzl hz1' hW1
  go_enter Tryd.func117, Tryd.ntmps117
  go_wp2_with fail
  go_region_law_o (refine step_append_room rfl (.tmp 22) (.tmp 25) 77 rfl 81 i0 5 Tryd.underlying77 hi0 hz1 b 0 i cap (by simp [Act.eval, Act.put]) A (n - j) (cap - j) news (by simp [Act.eval, Act.put, hA]) s1.out hsrc.out s2.out (by omega) s3.out ?_; rw [← hW.out])
  go_wp2
  go_ret
  exact fin.out

theorem hand117 (t : Ty) (ht : t.size = 5) : CallOK Tryd.prog 117 (delS t) :=
  del_ok (entered Tryd.func117 rfl (by decide)) (fun w b n cap i j cs T h1 h2 h3 h4 h5 h6 h7 => by
    rw [ht] at h2 h3 ⊢
    exact del_calls w b n cap i j cs T h1 h2 h3 h4 h5 h6 h7)

end Go.Proofs.YtcblbcpnfidndaaDoor

namespace Go.Proofs.YtcblbcpnfidndaaDoor
open Go Go.Abs
noncomputable section
abbrev Z5 : Abs.Ty := (.cons .str (.cons (.int .i64) (.cons .str .unit)))

abbrev Z1 : Abs.Ty := (.cons (.int .i64) (.cons (.int .i64) (.cons (.int .i64) (.cons (.int .i64) (.cons (.row Z5) .unit)))))

abbrev Z2 : Abs.Ty := (.cons (.int .i64) (.cons (.row Z5) (.cons (.int .i64) (.cons (.row .str) (.cons (.int .i64) (.cons (.int .i64) (.cons (.int .i64) (.cons .bool .unit))))))))

abbrev Z7 : Abs.Ty := (.cons .str (.cons .str .unit))

abbrev Z9 : Abs.Ty := (.cons (.row (.int .i64)) (.cons (.int .i64) .unit))

abbrev Y11 : Type := (((List Int) × Int × Unit) × Unit)

abbrev Y12 : Type := (ByteArray × Int × ByteArray × Unit)

abbrev Y3 : Type := (List Y12)

abbrev Y6 : Type := (Int × Y3 × Int × (List ByteArray) × Int × Int × Int × Bool × Unit)

abbrev Y13 : Type := ((Bool × Unit) × (Unit))

abbrev Y15 : Type := (ByteArray × ByteArray × Unit)

abbrev Y4 : Type := (List Y15)

abbrev Y16 : Type := ((List Int) × (List Int) × Unit)

abbrev Y18 : Type := ((ByteArray × Unit) × (Unit))

abbrev Y19 : Type := ((Unit) × ((List Int) × Unit))

abbrev Z20 : Abs.Ty := (.cons (.row Z7) (.cons (.row Z7) (.cons (.row Z7) .unit)))

def note : FuncId → Abs.Note
  | 2 => ⟨true, [], false, fun _ => []⟩
  | 3 => ⟨true, [0, 1, 2, 3, 4, 6, 10, 11, 12, 13, 15, 17, 18, 20, 21, 22, 23, 24, 48, 60, 61, 62, 63, 99, 109, 110, 111, 127, 135, 136, 137, 157], false, fun | 6 => [(1, 2), (1, 3)] | 9 => [(1, 2), (8, 9), (17, 18), (27, 29)] | 12 => [(1, 4), (2, 4), (2, 5), (4, 5), (1, 6), (2, 6), (4, 6), (1, 7), (2, 7)] | _ => []⟩
  | 4 => ⟨true, [0, 2, 3, 4, 5, 6, 7, 8, 9, 10, 13], false, fun _ => []⟩
  | 5 => ⟨true, [0, 1, 2, 6, 7, 8, 9, 10, 23, 28, 67, 71, 118], false, fun _ => []⟩
  | 6 => ⟨true, [0, 2, 3, 4, 5, 6, 8, 9, 10, 13, 21, 22, 23, 24, 38], false, fun | 12 => [(2, 3)] | _ => []⟩
  | 7 => ⟨true, [0, 1, 2, 3, 8, 9, 10, 11, 13, 14, 15, 17, 18, 19, 20, 21, 34, 58, 59, 60, 105, 116, 117, 118, 138], false, fun | 5 => [(1, 2), (2, 4), (1, 7), (2, 7), (4, 7), (6, 7), (2, 9), (6, 9), (7, 9), (2, 11)] | _ => []⟩
  | 8 => ⟨true, [0, 2, 3, 4, 5, 6, 7, 8, 9, 10, 11, 13], true, fun | 11 => [(1, 4), (1, 5)] | _ => []⟩
  | 9 => ⟨true, [0, 1, 2, 3, 8, 9, 10, 12, 14, 16, 29, 40, 41, 42, 48, 54, 55, 56, 89, 95, 96, 97, 116], true, fun | 13 => [(20, 26)] | _ => []⟩
  | 10 => ⟨true, [0, 2, 3, 4, 5, 6, 7, 9, 10, 11, 13, 15, 18, 31, 33, 34, 35, 36, 51, 75, 77, 78, 79, 91, 93, 100, 101, 102, 103, 128, 133, 134, 135, 136, 145], true, fun _ => []⟩
  | 11 => ⟨true, [0, 2, 3, 4, 5, 6, 7, 8, 9, 10, 11, 13, 14, 16, 19, 32, 33, 34, 54, 55, 56, 57, 60, 61, 62, 63, 74], true, fun _ => []⟩
  | 12 => ⟨true, [0, 2, 3, 4, 5, 6, 7, 9, 10, 11, 14, 25, 26, 27, 28], true, fun | 12 => [(13, 14)] | _ => []⟩
  | 13 => ⟨true, [0, 2, 3, 4, 5, 6, 8, 10, 11, 12, 13, 14, 15, 16, 18, 20, 46], false, fun _ => []⟩
  | 14 => ⟨true, [0, 2, 3, 4, 5, 6, 7, 8, 9, 11, 14, 34, 35, 36, 38, 39, 40, 41, 50, 63], false, fun _ => []⟩
  | 15 => ⟨true, [0, 1, 4, 5, 6, 7, 8, 9, 11, 13, 14, 15, 16, 17, 18, 19, 21, 23, 24, 25, 27, 30, 40, 41, 42, 43, 75, 78, 106, 110, 111, 112, 121, 151, 152, 153, 154, 170, 174], false, fun | 19 => [(1, 8)] | _ => []⟩
  | 16 => ⟨true, [0, 1, 2, 3, 4, 5, 6, 14, 15, 16, 17, 18, 19, 20, 22, 24, 26, 28, 29, 30, 31, 32, 33, 34, 35, 36, 37, 39, 40, 41, 42, 43, 44, 45, 46, 47, 48, 71, 108, 109, 110, 116, 123, 124, 125, 161, 167, 168, 169, 175, 181, 182, 183, 230, 234, 235, 236, 260, 280, 313], false, fun | 13 => [(1, 4)] | _ => []⟩
  | 17 => ⟨true, [0, 2], false, fun _ => []⟩
  | 18 => ⟨true, [0, 1, 2, 3, 4, 5, 6], false, fun _ => []⟩
  | 19 => ⟨true, [0, 2], false, fun _ => []⟩
  | 20 => ⟨true, [0, 2, 3, 5, 6, 7, 8, 9, 17], false, fun _ => []⟩
  | 21 => ⟨true, [0, 1, 4, 5, 6, 12], false, fun _ => []⟩
  | 22 => ⟨true, [0, 1, 2], false, fun _ => []⟩
  | 23 => ⟨true, [0, 1, 2], false, fun _ => []⟩
  | 24 => ⟨true, [0, 1, 2, 4, 5, 11, 12, 18, 24, 30], false, fun _ => []⟩
  | 25 => ⟨true, [0, 1, 2, 4, 5, 11, 12, 18, 24, 30], false, fun _ => []⟩
  | 26 => ⟨true, [0, 1, 4, 5, 6, 7, 8, 12, 13, 28, 52], false, fun _ => []⟩
  | 27 => ⟨true, [0, 1, 4, 5, 6, 7, 8, 18, 28, 34, 54], false, fun _ => []⟩
  | 28 => ⟨true, [0, 2, 3, 4, 7, 11, 19, 21], false, fun | 11 => [(5, 6), (6, 11), (6, 19), (5, 20), (11, 20), (13, 20)] | _ => []⟩
  | 29 => ⟨true, [0, 2, 3, 5, 12, 13, 14, 15, 16], false, fun | 7 => [(2, 3), (3, 5), (3, 9), (2, 10), (5, 10)] | _ => []⟩
  | 30 => ⟨true, [0, 1, 3, 4], false, fun _ => []⟩
  | 31 => ⟨true, [0, 1, 4, 5, 9, 18], false, fun _ => []⟩
  | 32 => ⟨true, [0, 2, 3, 4, 5, 6, 7, 13, 32], false, fun _ => []⟩
  | 33 => ⟨true, [0, 2, 3, 4, 5, 7, 20], false, fun _ => []⟩
  | 34 => ⟨true, [0, 1, 4, 5, 10, 12, 13, 14, 24], false, fun _ => []⟩
  | 35 => ⟨true, [0, 2, 3, 4, 5, 6, 7, 21, 30, 53], false, fun _ => []⟩
  | 36 => ⟨true, [0, 2, 3, 5, 8, 9, 10, 11, 12], false, fun | 7 => [(2, 6)] | _ => []⟩
  | 37 => ⟨true, [0, 1, 4, 5, 10, 12, 13, 14, 24], false, fun _ => []⟩
  | 38 => ⟨true, [0, 1, 4, 6, 7, 8, 9, 10, 16], false, fun _ => []⟩
  | 39 => ⟨true, [0, 1, 4, 5, 19, 40], false, fun _ => []⟩
  | 40 => ⟨true, [0, 2, 3, 5, 6, 7, 8, 11], false, fun _ => []⟩
  | 41 => ⟨true, [0, 2, 3, 4, 7, 11, 15], false, fun | 9 => [(5, 12)] | _ => []⟩
  | 42 => ⟨true, [0, 2, 3, 4, 7, 8, 9, 10, 11, 44], false, fun _ => []⟩
  | 43 => ⟨true, [0, 2, 3, 6, 10, 54], false, fun _ => []⟩
  | 44 => ⟨true, [0, 1, 4, 5, 9, 18], false, fun _ => []⟩
  | 45 => ⟨true, [0, 1, 4, 5, 7, 8, 9, 10, 11, 17], false, fun _ => []⟩
  | 46 => ⟨true, [0, 1, 4, 5, 6, 7, 11, 17, 29], false, fun _ => []⟩
  | 47 => ⟨true, [0, 2, 3, 4, 5, 6, 7, 9, 25, 36, 40, 60], false, fun _ => []⟩
  | 48 => ⟨true, [0, 1, 4, 12], false, fun _ => []⟩
  | 49 => ⟨true, [0, 2, 3, 4, 5, 6, 10, 14, 15, 16, 17, 25, 33], false, fun _ => []⟩
  | 50 => ⟨true, [0, 1, 4, 5, 10, 12, 13, 14, 24], true, fun _ => []⟩
  | 51 => ⟨true, [0, 1, 4, 5, 18, 20], false, fun _ => []⟩
  | 52 => ⟨true, [0, 1, 2, 3, 4], true, fun _ => []⟩
  | 53 => ⟨true, [0, 1, 4, 5, 6, 7, 16], false, fun _ => []⟩
  | 54 => ⟨true, [0, 1, 4, 5, 6, 16, 19, 29, 39, 53, 70, 87], true, fun _ => []⟩
  | 55 => ⟨true, [0, 2, 3, 4, 7, 10, 14, 47, 54, 61], true, fun _ => []⟩
  | 56 => ⟨true, [0, 1, 4, 12], true, fun _ => []⟩
  | 57 => ⟨true, [0, 1, 2, 4, 7], false, fun _ => []⟩
  | 58 => ⟨true, [0, 1, 2, 4, 7], true, fun _ => []⟩
  | 59 => ⟨true, [0, 1, 4, 17, 19], true, fun _ => []⟩
  | 60 => ⟨true, [0, 1, 4, 5, 6, 7, 8, 9, 10, 11, 18], false, fun _ => []⟩
  | 61 => ⟨true, [0, 1, 4, 5, 6, 10, 19], true, fun _ => []⟩
  | 62 => ⟨true, [0, 2, 3, 4], false, fun _ => []⟩
  | 63 => ⟨true, [0, 1, 3, 4, 5, 6, 7, 17], false, fun | 1 => [(1, 2), (1, 3)] | _ => []⟩
  | 64 => ⟨true, [0, 1, 2, 6, 7, 9, 10, 11, 12, 13, 41], false, fun _ => []⟩
  | 65 => ⟨true, [0, 1, 4, 5, 6, 7, 9, 10, 11, 12, 13, 29], false, fun _ => []⟩
  | 66 => ⟨true, [0, 1, 2, 3, 4, 5, 6, 7, 9, 10, 11, 12, 13], false, fun _ => []⟩
  | 67 => ⟨true, [0, 2, 3, 4, 5, 9], false, fun _ => []⟩
  | 68 => ⟨true, [0, 1, 2, 6, 8, 10, 11, 12, 13, 14, 21, 22, 23, 24, 25, 45], false, fun _ => []⟩
  | 69 => ⟨true, [0, 2, 3, 4, 8], false, fun _ => []⟩
  | 70 => ⟨true, [0, 1, 4], false, fun _ => []⟩
  | 71 => ⟨true, [0, 1, 2, 4, 6, 7, 8, 9, 10, 14, 19, 22, 38], false, fun _ => []⟩
  | 72 => ⟨true, [0, 1, 4, 5], false, fun _ => []⟩
  | 73 => ⟨true, [0, 1, 4], false, fun _ => []⟩
  | 74 => ⟨true, [0, 2, 4, 5, 8, 9, 10, 11, 12, 18], false, fun _ => []⟩
  | 75 => ⟨true, [0, 2, 3, 4, 7, 11, 18, 29, 46], false, fun _ => []⟩
  | 76 => ⟨true, [0, 1, 2, 6, 7, 8, 12, 22, 26, 64], false, fun _ => []⟩
  | 77 => ⟨true, [0, 1, 2, 3, 4, 10, 12], false, fun _ => []⟩
  | 78 => ⟨true, [0, 1, 2, 3, 4, 10, 12], false, fun _ => []⟩
  | 79 => ⟨true, [0, 2, 3, 5, 6, 9, 10, 11, 12, 13, 20], false, fun _ => []⟩
  | 80 => ⟨true, [0, 2, 3, 4, 7, 11, 18, 37, 58, 63, 68], false, fun _ => []⟩
  | 81 => ⟨true, [0, 1, 2, 6, 7, 8, 9, 10, 11, 15, 47], false, fun _ => []⟩
  | 82 => ⟨true, [0, 1, 4, 5, 6, 7, 8, 9, 13, 32], false, fun _ => []⟩
  | 83 => ⟨true, [0, 1, 2, 6, 7, 8, 9, 10, 11, 12, 16, 21, 31, 35, 39, 47], false, fun _ => []⟩
  | 84 => ⟨true, [0, 1, 4, 5, 6, 7, 8, 13, 17, 62, 67, 80], false, fun | 6 => [(3, 8), (7, 8), (3, 9), (7, 9), (8, 9), (7, 10)] | _ => []⟩
  | 85 => ⟨true, [0, 1, 3, 4, 5, 6, 7, 16], false, fun | 1 => [(1, 2), (1, 3)] | _ => []⟩
  | 86 => ⟨true, [0, 2], false, fun | 1 => [(0, 2), (0, 6), (4, 6), (0, 7), (2, 7), (4, 7), (6, 7), (0, 9), (4, 9), (7, 9), (0, 11)] | _ => []⟩
  | 87 => ⟨true, [0, 2, 3, 4, 21, 23, 24, 25, 47], false, fun _ => []⟩
  | 88 => ⟨true, [0, 2, 3, 5, 6, 7, 18], false, fun _ => []⟩
  | 89 => ⟨true, [0, 2, 3, 21, 25, 55], false, fun _ => []⟩
  | 90 => ⟨true, [0, 2, 3, 6, 10, 22], false, fun _ => []⟩
  | 91 => ⟨true, [0, 1, 4, 5, 6, 12, 21, 34], false, fun _ => []⟩
  | 92 => ⟨true, [0], false, fun _ => []⟩
  | 93 => ⟨true, [0, 2, 3, 4, 8, 20], false, fun _ => []⟩
  | 94 => ⟨true, [0, 1, 4], false, fun _ => []⟩
  | 95 => ⟨true, [0, 1, 2], true, fun _ => []⟩
  | 96 => ⟨true, [0], false, fun _ => []⟩
  | 97 => ⟨true, [0, 2, 3, 4, 7, 8, 9, 20], false, fun _ => []⟩
  | 98 => ⟨true, [0, 1, 4, 5, 7, 8, 10, 12, 13, 15, 22, 29, 39, 40, 41, 42, 49, 63, 64, 65, 66], false, fun _ => []⟩
  | 99 => ⟨true, [0, 1, 2, 3], true, fun _ => []⟩
  | 100 => ⟨true, [0, 2, 3, 4, 5, 6, 7, 8, 9, 10, 11, 12, 13, 17, 26, 27, 28, 37], false, fun _ => []⟩
  | 101 => ⟨true, [0, 1, 4], false, fun _ => []⟩
  | 102 => ⟨true, [0, 2, 3, 4, 5, 6, 7, 20, 26, 30], false, fun _ => []⟩
  | 103 => ⟨true, [0, 1, 4, 5], false, fun _ => []⟩
  | 104 => ⟨true, [0, 1, 4, 5, 6], false, fun _ => []⟩
  | 105 => ⟨true, [0, 2, 3, 4, 5, 6, 13, 17, 20, 30], false, fun _ => []⟩
  | 106 => ⟨true, [0, 1, 4], false, fun _ => []⟩
  | 107 => ⟨true, [0, 1, 4], false, fun _ => []⟩
  | 108 => ⟨true, [0, 1, 2, 6, 7, 9, 12, 13, 14, 15, 25, 37, 41], false, fun _ => []⟩
  | 109 => ⟨true, [0, 1, 2, 4, 5, 28, 39, 49], false, fun _ => []⟩
  | 110 => ⟨true, [0, 2, 3, 9], true, fun _ => []⟩
  | 111 => ⟨true, [0, 1, 2, 3, 13, 18, 27, 28, 33], true, fun _ => []⟩
  | 112 => ⟨true, [0, 1, 2, 6, 7, 8, 9, 16, 29, 47, 50], true, fun _ => []⟩
  | 113 => ⟨true, [0, 2, 3, 4, 8, 9, 10], false, fun _ => []⟩
  | 114 => ⟨true, [0, 1, 2, 3, 4, 6], false, fun _ => []⟩
  | 115 => ⟨true, [0, 1, 4, 5, 7, 8, 9, 16], false, fun _ => []⟩
  | 116 => ⟨true, [0, 1, 2, 3], true, fun _ => []⟩
  | 117 => ⟨true, [0, 1, 2, 6, 7, 16], true, fun _ => []⟩
  | 118 => ⟨true, [0, 1, 2, 3, 14, 31], false, fun _ => []⟩
  | 119 => ⟨true, [0, 2, 3, 7, 15], false, fun _ => []⟩
  | 120 => ⟨true, [0, 2, 3, 7, 31], false, fun _ => []⟩
  | 121 => ⟨true, [0, 1, 2, 6, 7, 11, 26], false, fun | 4 => [(5, 10)] | _ => []⟩
  | 122 => ⟨true, [0, 1, 2, 4, 5, 15, 36, 41, 46], false, fun _ => []⟩
  | 123 => ⟨true, [0, 1, 4, 13], false, fun _ => []⟩
  | 124 => ⟨true, [0, 1, 4, 16], false, fun _ => []⟩
  | 125 => ⟨true, [0, 2, 3, 4, 5, 9, 16], false, fun _ => []⟩
  | 126 => ⟨true, [0, 1, 4, 7, 12], false, fun _ => []⟩
  | 127 => ⟨true, [0, 1, 4, 7, 15], false, fun _ => []⟩
  | 128 => ⟨true, [0, 1, 4, 5, 6, 9, 18], false, fun _ => []⟩
  | 129 => ⟨true, [0, 1, 4, 5, 6, 9, 17, 26], false, fun _ => []⟩
  | 130 => ⟨true, [0, 1, 4, 5, 7, 8, 9, 16], false, fun _ => []⟩
  | 131 => ⟨true, [0, 1, 4], false, fun _ => []⟩
  | 132 => ⟨true, [0, 2], false, fun _ => []⟩
  | 133 => ⟨true, [0, 1, 7, 21], false, fun _ => []⟩
  | 134 => ⟨true, [0, 1, 4, 5], false, fun _ => []⟩
  | 135 => ⟨true, [0, 1, 4, 5, 6, 7, 8, 9, 10, 12, 15, 20, 26, 32, 36, 42, 45, 46, 47, 53], false, fun _ => []⟩
  | 136 => ⟨true, [0, 1, 4, 7], false, fun _ => []⟩
  | 137 => ⟨true, [0, 2, 3, 4, 5, 6, 7, 8, 9, 10, 11, 33, 47, 74, 83, 88, 94, 112], false, fun _ => []⟩
  | 138 => ⟨true, [0, 1, 4, 5, 9], false, fun _ => []⟩
  | 139 => ⟨true, [0, 1, 4, 5, 6, 7, 12], false, fun _ => []⟩
  | 140 => ⟨true, [0, 1, 4, 5, 7, 8, 9, 16], false, fun _ => []⟩
  | 141 => ⟨true, [0, 1, 2], false, fun _ => []⟩
  | 142 => ⟨true, [0, 2, 3, 4, 5, 6, 7, 8, 27], false, fun _ => []⟩
  | 143 => ⟨true, [0, 2, 4], false, fun _ => []⟩
  | 144 => ⟨true, [0, 2, 4], false, fun _ => []⟩
  | 145 => ⟨true, [0, 1, 4], false, fun _ => []⟩
  | 146 => ⟨true, [0, 1, 2, 4], true, fun | 1 => [(2, 3)] | _ => []⟩
  | 147 => ⟨true, [0, 1, 2], false, fun _ => []⟩
  | 148 => ⟨true, [0, 1, 4], false, fun _ => []⟩
  | 149 => ⟨true, [0, 2, 3, 10], false, fun _ => []⟩
  | 150 => ⟨true, [0, 1, 4], false, fun _ => []⟩
  | 151 => ⟨true, [0, 2, 3, 4, 5, 6, 10, 18, 27, 33, 35, 48], false, fun _ => []⟩
  | 152 => ⟨true, [0, 6, 19], false, fun _ => []⟩
  | 153 => ⟨true, [0, 1, 4], false, fun | 0 => [(8, 12)] | _ => []⟩
  | 154 => ⟨true, [0, 1, 4, 5, 6, 7, 8, 9, 10, 11, 12, 13, 14, 15, 16, 26, 33, 43, 51, 64, 98, 108, 124, 139, 143, 156, 160, 171, 175, 176, 177, 181, 183], false, fun _ => []⟩
  | 155 => ⟨true, [0, 2], false, fun _ => []⟩
  | 156 => ⟨true, [0, 1, 4], false, fun _ => []⟩
  | 157 => ⟨true, [0, 1, 4, 5, 6, 7, 8, 9, 10, 11, 12, 13, 16, 24, 31, 36, 59, 64, 73, 93, 107, 114, 132, 139], false, fun _ => []⟩
  | 158 => ⟨true, [0, 2], false, fun _ => []⟩
  | 159 => ⟨true, [0, 1, 4, 5, 7, 8, 9, 16], false, fun _ => []⟩
  | 160 => ⟨true, [0, 2, 3, 4, 5, 6, 7, 8, 9, 10, 11, 12, 16, 23, 45, 57, 59, 75, 77, 98], false, fun _ => []⟩
  | 161 => ⟨true, [0, 2], false, fun _ => []⟩
  | 164 => ⟨true, [0, 1, 4], false, fun _ => []⟩
  | 165 => ⟨true, [0, 2, 3, 10], false, fun _ => []⟩
  | 166 => ⟨true, [0, 2], false, fun _ => []⟩
  | 168 => ⟨true, [0, 1, 4], false, fun _ => []⟩
  | 169 => ⟨true, [0, 1, 4, 5, 6, 7, 8, 9, 10, 20, 39, 44, 77], false, fun _ => []⟩
  | 171 => ⟨true, [0, 2, 3, 4, 5, 6, 7, 8, 12, 25, 30], false, fun _ => []⟩
  | 194 => ⟨true, [], false, fun _ => []⟩
  | _ => ⟨false, [], false, fun _ => []⟩

theorem good : Abs.Good Tryd.prog note := Abs.good_of (by kernel_rfl)

theorem foll : (Tryd.prog).follows .mixedOrders = true := by kernel_rfl

def mvtab (f : FuncId) : Bool := [].contains f

def ctab : FuncId → Option Abs.SCall := Abs.ctabOf [(97, Abs.pureC Abs.hfQuote), (98, Abs.pureC Abs.hfJoin), (168, Abs.pureC Abs.hfIdx), (166, Abs.hfLeft), (169, Abs.hfLeft), (105, Abs.pureC Abs.hfUnq), (135, Abs.pureC Abs.hfAny), (125, Abs.hfLeft), (127, Abs.hfLeft), (126, Abs.hfLeft), (129, Abs.hfLeft), (128, Abs.hfLeft), (117, Abs.delS Z1)]

theorem ctab_ok : ∀ f q, ctab f = some q → Abs.CallOK Tryd.prog f q := Abs.ctabOf_ok _ (by
  intro p hp
  simp only [List.mem_cons, List.not_mem_nil, or_false] at hp
  rcases hp with rfl | rfl | rfl | rfl | rfl | rfl | rfl | rfl | rfl | rfl | rfl | rfl | rfl
  · exact hand97
  · exact hand98
  · exact hand168
  · exact Abs.hfLeft_ok
  · exact Abs.hfLeft_ok
  · exact hand105
  · exact hand135
  · exact Abs.hfLeft_ok
  · exact Abs.hfLeft_ok
  · exact Abs.hfLeft_ok
  · exact Abs.hfLeft_ok
  · exact Abs.hfLeft_ok
  · exact hand117 Z1 rfl
)

/- pagewatch/pagewatchmade.Light -/
def i17 : Abs.Sg := ⟨[0], (.dat (.row (.int .i64)) .nil), .nil⟩

def o17 : Abs.Sg := ⟨[2], (.dat .bool .nil), .nil⟩

def m17 (v : (((List Int) × Unit) × (Unit))) : Option Y13 :=
some (((decide (((v.1.1.length : Int) : Int) ≤ 500)), ()), ())

def sp17 : Abs.Spec := ⟨0, i17, o17, m17⟩

def an17 : Nat → Abs.FAn
  | _ => {}

theorem ok17 : Abs.SpecOK Tryd.prog 17 sp17 :=
  Abs.specOC_of (C := ctab) (mv := mvtab) ctab_ok (n := 12) (an := an17) (T := Abs.tabOf []) good foll (Abs.tabOf_ok _ (fun _ h => by cases h)) rfl (by intro v; kernel_rfl)

def l87_0_4 (v : ((Int × ByteArray × Int × Unit) × (Unit))) : Option (((Int × ByteArray × Int × Unit) × (Unit)) ⊕ (Y13 ⊕ ((Unit) × (Unit)))) :=
bif (decide ((v.1.1 : Int) < v.1.2.2.1)) then (bif (decide ((0 : Int) ≤ v.1.1 ∧ (v.1.1 : Int) < v.1.2.1.size)) then
((let x86 := (decide (((((v.1.2.1[v.1.1.toNat]?.getD 0).toNat : Nat) : Int) : Int) < 97))
bif x86 then (let x87 := (decide (((((v.1.2.1[v.1.1.toNat]?.getD 0).toNat : Nat) : Int) : Int) < 48))
bif x87 then (let x88 := (((((v.1.2.1[v.1.1.toNat]?.getD 0).toNat : Nat) : Int) : Int) != 95)
some ((x88, (v.1.2.1, (v.1.2.2.1, (v.1.1, ())))), ()))
else (let x89 := (decide (((((v.1.2.1[v.1.1.toNat]?.getD 0).toNat : Nat) : Int) : Int) > 57))
bif x89 then (let x90 := (((((v.1.2.1[v.1.1.toNat]?.getD 0).toNat : Nat) : Int) : Int) != 95)
some ((x90, (v.1.2.1, (v.1.2.2.1, (v.1.1, ())))), ()))
else (some ((false, (v.1.2.1, (v.1.2.2.1, (v.1.1, ())))), ()))))
else (let x91 := (decide (((((v.1.2.1[v.1.1.toNat]?.getD 0).toNat : Nat) : Int) : Int) > 122))
bif x91 then (let x92 := (decide (((((v.1.2.1[v.1.1.toNat]?.getD 0).toNat : Nat) : Int) : Int) < 48))
bif x92 then (let x93 := (((((v.1.2.1[v.1.1.toNat]?.getD 0).toNat : Nat) : Int) : Int) != 95)
some ((x93, (v.1.2.1, (v.1.2.2.1, (v.1.1, ())))), ()))
else (let x94 := (decide (((((v.1.2.1[v.1.1.toNat]?.getD 0).toNat : Nat) : Int) : Int) > 57))
bif x94 then (let x95 := (((((v.1.2.1[v.1.1.toNat]?.getD 0).toNat : Nat) : Int) : Int) != 95)
some ((x95, (v.1.2.1, (v.1.2.2.1, (v.1.1, ())))), ()))
else (some ((false, (v.1.2.1, (v.1.2.2.1, (v.1.1, ())))), ()))))
else (some ((false, (v.1.2.1, (v.1.2.2.1, (v.1.1, ())))), ())))) : Option ((Bool × ByteArray × Int × Int × Unit) × (Unit))).bind fun v96 =>
bif v96.1.1 then (some (.inr (.inl ((false, ()), ()))))
else (some (.inl (((w64 (v96.1.2.2.2.1 + 1)), (v96.1.2.1, (v96.1.2.2.1, ()))), ())))
else none)
else (some (.inr (.inr ((), ()))))

/- pagewatch/label.key -/
def i87 : Abs.Sg := ⟨[0], (.dat .str .nil), .nil⟩

def o87 : Abs.Sg := ⟨[2], (.dat .bool .nil), .nil⟩

def m87 (v : Y18) : Option Y13 :=
((bif (v.1.1.toList == ByteArray.empty.toList) then (some ((true, (v.1.1, ())), ()))
else (bif (decide (((v.1.1.size : Int) : Int) > 24)) then (some ((true, (v.1.1, ())), ()))
else (bif (decide ((0 : Int) ≤ 0 ∧ (0 : Int) < v.1.1.size)) then
let x83 := (decide (((((v.1.1[0]?.getD 0).toNat : Nat) : Int) : Int) < 97))
bif x83 then (some ((true, (v.1.1, ())), ()))
else (bif (decide ((0 : Int) ≤ 0 ∧ (0 : Int) < v.1.1.size)) then
let x84 := (decide (((((v.1.1[0]?.getD 0).toNat : Nat) : Int) : Int) > 122))
some ((x84, (v.1.1, ())), ())
else none)
else none))) : Option ((Bool × ByteArray × Unit) × (Unit))).bind fun v85 =>
bif v85.1.1 then (some ((false, ()), ()))
else ((loopT l87_0_4 ((0, (v85.1.2.1, ((v85.1.2.1.size : Int), ()))), ())).bind fun d97 =>
sumE d97 (fun d98 => (some ((d98.1.1, ()), ()))) (fun d99 => (some ((true, ()), ()))))

def sp87 : Abs.Spec := ⟨0, i87, o87, m87⟩

def an87 : Nat → Abs.FAn
  | 0 => Abs.FAn.mk (fun
    | 7 => some ⟨[47, 0, 23, 24], (.dat .bool (.dat .str (.dat (.int .i64) (.dat (.int .i64) .nil)))), .nil⟩
    | 1 => some ⟨[21, 0], (.dat .bool (.dat .str .nil)), .nil⟩
    | _ => none) (fun _ => none) (fun
    | 4 => some ⟨⟨[24, 0, 23], (.dat (.int .i64) (.dat .str (.dat (.int .i64) .nil))), .nil⟩, (.more .ret ⟨[2], (.dat .bool .nil), .nil⟩ (.one (.exit 0) ⟨[], .nil, .nil⟩))⟩
    | _ => none) (fun _ _ => 0)
  | _ => {}

theorem ok87 : Abs.SpecOK Tryd.prog 87 sp87 :=
  Abs.specOC_of (C := ctab) (mv := mvtab) ctab_ok (n := 12) (an := an87) (T := Abs.tabOf []) good foll (Abs.tabOf_ok _ (fun _ h => by cases h)) rfl (by intro v; kernel_rfl)

def l88_0_2 (v : ((Int × ByteArray × Int × Unit) × (Unit))) : Option (((Int × ByteArray × Int × Unit) × (Unit)) ⊕ (Y13 ⊕ Y18)) :=
bif (decide ((v.1.1 : Int) < v.1.2.2.1)) then (((bif (decide ((0 : Int) ≤ v.1.1 ∧ (v.1.1 : Int) < v.1.2.1.size)) then
let x24 := (decide (((((v.1.2.1[v.1.1.toNat]?.getD 0).toNat : Nat) : Int) : Int) < 32))
bif x24 then (some ((true, (v.1.2.1, (v.1.2.2.1, (v.1.1, ())))), ()))
else (bif (decide ((0 : Int) ≤ v.1.1 ∧ (v.1.1 : Int) < v.1.2.1.size)) then
let x25 := (decide (((((v.1.2.1[v.1.1.toNat]?.getD 0).toNat : Nat) : Int) : Int) > 126))
some ((x25, (v.1.2.1, (v.1.2.2.1, (v.1.1, ())))), ())
else none)
else none) : Option ((Bool × ByteArray × Int × Int × Unit) × (Unit))).bind fun v26 =>
bif v26.1.1 then (some (.inr (.inl ((false, ()), ()))))
else (some (.inl (((w64 (v26.1.2.2.2.1 + 1)), (v26.1.2.1, (v26.1.2.2.1, ()))), ()))))
else (some (.inr (.inr ((v.1.2.1, ()), ()))))

/- pagewatch/label.value -/
def i88 : Abs.Sg := ⟨[0], (.dat .str .nil), .nil⟩

def o88 : Abs.Sg := ⟨[2], (.dat .bool .nil), .nil⟩

def m88 (v : Y18) : Option Y13 :=
(loopT l88_0_2 ((0, (v.1.1, ((v.1.1.size : Int), ()))), ())).bind fun d27 =>
sumE d27 (fun d28 => (some ((d28.1.1, ()), ()))) (fun d29 => (some (((decide (((d29.1.1.size : Int) : Int) ≤ 64)), ()), ())))

def sp88 : Abs.Spec := ⟨0, i88, o88, m88⟩

def an88 : Nat → Abs.FAn
  | 0 => Abs.FAn.mk (fun
    | 4 => some ⟨[18, 0, 5, 6], (.dat .bool (.dat .str (.dat (.int .i64) (.dat (.int .i64) .nil)))), .nil⟩
    | _ => none) (fun _ => none) (fun
    | 2 => some ⟨⟨[6, 0, 5], (.dat (.int .i64) (.dat .str (.dat (.int .i64) .nil))), .nil⟩, (.more .ret ⟨[2], (.dat .bool .nil), .nil⟩ (.one (.exit 0) ⟨[0], (.dat .str .nil), .nil⟩))⟩
    | _ => none) (fun _ _ => 0)
  | _ => {}

theorem ok88 : Abs.SpecOK Tryd.prog 88 sp88 :=
  Abs.specOC_of (C := ctab) (mv := mvtab) ctab_ok (n := 12) (an := an88) (T := Abs.tabOf []) good foll (Abs.tabOf_ok _ (fun _ h => by cases h)) rfl (by intro v; kernel_rfl)

def l42_0_4 (v : ((Int × Y4 × Y4 × Int × Unit) × (Unit))) : Option (((Int × Y4 × Y4 × Int × Unit) × (Unit)) ⊕ (Y13 ⊕ ((Unit) × (Unit)))) :=
bif (decide ((v.1.1 : Int) < v.1.2.2.2.1)) then (Abs.rowAt v.1.2.2.1 v.1.1 fun e36 _ =>
(((m87 ((e36.1, ()), ())).bind fun u37 =>
bif (!u37.1.1) then (some ((true, (v.1.2.1, (v.1.2.2.1, (v.1.2.2.2.1, (v.1.1, ()))))), ()))
else ((m88 ((e36.2.1, ()), ())).bind fun u38 =>
bif (!u38.1.1) then (some ((true, (v.1.2.1, (v.1.2.2.1, (v.1.2.2.2.1, (v.1.1, ()))))), ()))
else (bif (e36.2.1.toList == ByteArray.empty.toList) then (some ((true, (v.1.2.1, (v.1.2.2.1, (v.1.2.2.2.1, (v.1.1, ()))))), ()))
else (bif (decide ((v.1.1 : Int) > 0)) then (Abs.rowAt v.1.2.1 (w64 (v.1.1 - 1)) fun e39 _ =>
some (((Op.bytesLess e36.1.toList e39.1.toList || e36.1.toList == e39.1.toList), (v.1.2.1, (v.1.2.2.1, (v.1.2.2.2.1, (v.1.1, ()))))), ()))
else (some ((false, (v.1.2.1, (v.1.2.2.1, (v.1.2.2.2.1, (v.1.1, ()))))), ())))))) : Option ((Bool × Y4 × Y4 × Int × Int × Unit) × (Unit))).bind fun v40 =>
bif v40.1.1 then (some (.inr (.inl ((false, ()), ()))))
else (some (.inl (((w64 (v40.1.2.2.2.2.1 + 1)), (v40.1.2.1, (v40.1.2.2.1, (v40.1.2.2.2.1, ())))), ()))))
else (some (.inr (.inr ((), ()))))

/- pagewatch/label.Valid -/
def i42 : Abs.Sg := ⟨[0], (.dat (.row Z7) .nil), .nil⟩

def o42 : Abs.Sg := ⟨[2], (.dat .bool .nil), .nil⟩

def m42 (v : ((Y4 × Unit) × (Unit))) : Option Y13 :=
bif (decide (((v.1.1.length : Int) : Int) > 12)) then (some ((false, ()), ()))
else ((loopT l42_0_4 ((0, (v.1.1, (v.1.1, ((v.1.1.length : Int), ())))), ())).bind fun d41 =>
sumE d41 (fun d42 => (some ((d42.1.1, ()), ()))) (fun d43 => (some ((true, ()), ()))))

def sp42 : Abs.Spec := ⟨0, i42, o42, m42⟩

def an42 : Nat → Abs.FAn
  | 0 => Abs.FAn.mk (fun
    | 6 => some ⟨[44, 0, 8, 9, 10], (.dat .bool (.dat (.row Z7) (.dat (.row Z7) (.dat (.int .i64) (.dat (.int .i64) .nil))))), .nil⟩
    | _ => none) (fun _ => none) (fun
    | 4 => some ⟨⟨[10, 0, 8, 9], (.dat (.int .i64) (.dat (.row Z7) (.dat (.row Z7) (.dat (.int .i64) .nil)))), .nil⟩, (.more .ret ⟨[2], (.dat .bool .nil), .nil⟩ (.one (.exit 0) ⟨[], .nil, .nil⟩))⟩
    | _ => none) (fun _ _ => 0)
  | _ => {}

theorem ok42 : Abs.SpecOK Tryd.prog 42 sp42 :=
  Abs.specOC_of (C := ctab) (mv := mvtab) ctab_ok (n := 12) (an := an42) (T := Abs.tabOf [(87, sp87), (88, sp88)]) good foll (Abs.tabOf_ok _ (by simp only [List.forall_mem_cons]; exact ⟨ok87, ok88, fun _ h => by cases h⟩)) rfl (by intro v; kernel_rfl)

/- 97 pagewatch/label.quoted: not told by a law: run where it is called -/

/- 98 strings.Join: not told by a law: run where it is called -/

def l36_0_5 (v : ((Int × Y4 × Int × Unit) × ((List ByteArray) × Unit))) : Option (((Int × Y4 × Int × Unit) × ((List ByteArray) × Unit)) ⊕ ((Unit) × ((List ByteArray) × Unit))) :=
bif (decide ((v.1.1 : Int) < v.1.2.2.1)) then (Abs.rowAt v.1.2.1 v.1.1 fun e21 _ =>
bif (decide (e21.1.size + 1 ≤ 4294967296)) then
bif (decide (e21.2.1.size ≤ 4294967296)) then
bif (decide ((e21.1 ++ (bs [61])).size + (hQuote e21.2.1).size ≤ 4294967296)) then
bif (decide (v.2.1.length + [((e21.1 ++ (bs [61])) ++ (hQuote e21.2.1))].length ≤ 4294967296)) then
let x22 := (v.2.1 ++ [((e21.1 ++ (bs [61])) ++ (hQuote e21.2.1))])
some (.inl (((w64 (v.1.1 + 1)), (v.1.2.1, (v.1.2.2.1, ()))), (x22, ())))
else none
else none
else none
else none)
else (some (.inr ((), (v.2.1, ()))))

/- pagewatch/label.Text -/
def i36 : Abs.Sg := ⟨[0], (.dat (.row Z7) .nil), .nil⟩

def o36 : Abs.Sg := ⟨[2], (.dat .str .nil), .nil⟩

def m36 (v : ((Y4 × Unit) × (Unit))) : Option Y18 :=
(m42 ((v.1.1, ()), ())).bind fun u20 =>
bif (!u20.1.1) then (some ((ByteArray.empty, ()), ()))
else ((loopT l36_0_5 ((0, (v.1.1, ((v.1.1.length : Int), ()))), ([], ()))).bind fun d23 =>
bif (decide (List.length d23.2.1 ≤ 4294967296 ∧ (hJoin d23.2.1 (bs [44])).size ≤ 140737488355328)) then
bif (decide (1 + (hJoin d23.2.1 (bs [44])).size ≤ 4294967296)) then
bif (decide (((bs [123]) ++ (hJoin d23.2.1 (bs [44]))).size + 1 ≤ 4294967296)) then
let x24 := (((bs [123]) ++ (hJoin d23.2.1 (bs [44]))) ++ (bs [125]))
some ((x24, ()), ())
else none
else none
else none)

def sp36 : Abs.Spec := ⟨0, i36, o36, m36⟩

def an36 : Nat → Abs.FAn
  | 0 => Abs.FAn.mk (fun _ => none) (fun _ => none) (fun
    | 5 => some ⟨⟨[11, 3, 9, 10], (.dat (.int .i64) (.st (.own .str (0, 0)) (.dat (.row Z7) (.dat (.int .i64) .nil)))), (.arr .str false .nil)⟩, (.one (.exit 0) ⟨[3], (.st (.own .str (0, 0)) .nil), (.arr .str false .nil)⟩)⟩
    | _ => none) (fun _ _ => 0)
  | _ => {}

theorem ok36 : Abs.SpecOK Tryd.prog 36 sp36 :=
  Abs.specOC_of (C := ctab) (mv := mvtab) ctab_ok (n := 12) (an := an36) (T := Abs.tabOf [(42, sp42)]) good foll (Abs.tabOf_ok _ (by simp only [List.forall_mem_cons]; exact ⟨ok42, fun _ h => by cases h⟩)) rfl (by intro v; kernel_rfl)

/- 168 internal/stringslite.IndexByte: not told by a law: run where it is called -/

/- 166 internal/bytealg.Cutover: not told by a law: run where it is called -/

/- 169 internal/bytealg.IndexRabinKarp[string]: not told by a law: run where it is called -/

/- warnings: load: pointer ? -/

/- 105 pagewatch/label.unquoted: not told by a law: run where it is called -/

/- 135 strings.IndexAny: not told by a law: run where it is called -/

/- 130 slices.IndexFunc[[]pagewatch/api.Matcher,pagewatch/api.Matcher]: not told by a law: a parameter -/

/- 94 slices.ContainsFunc[[]pagewatch/api.Matcher,pagewatch/api.Matcher]: not told by a law: a parameter -/

/- pagewatch/label.Right -/
def i22 : Abs.Sg := ⟨[0], (.dat Z5 .nil), .nil⟩

def o22 : Abs.Sg := ⟨[2], (.dat .bool .nil), .nil⟩

def m22 (v : ((Y12 × Unit) × (Unit))) : Option Y13 :=
(((m87 ((v.1.1.1, ()), ())).bind fun u5 =>
bif u5.1.1 then (bif (decide ((v.1.1.2.1 : Int) ≥ 0)) then (bif (decide ((v.1.1.2.1 : Int) ≤ 3)) then ((m88 ((v.1.1.2.2.1, ()), ())).bind fun u6 =>
some ((u6.1.1, ()), ()))
else (some ((false, ()), ())))
else (some ((false, ()), ())))
else (some ((false, ()), ()))) : Option Y13).bind fun v7 =>
some ((v7.1.1, ()), ())

def sp22 : Abs.Spec := ⟨0, i22, o22, m22⟩

def an22 : Nat → Abs.FAn
  | 0 => Abs.FAn.mk (fun
    | 1 => some ⟨[2], (.dat .bool .nil), .nil⟩
    | _ => none) (fun _ => none) (fun _ => none) (fun _ _ => 0)
  | _ => {}

theorem ok22 : Abs.SpecOK Tryd.prog 22 sp22 :=
  Abs.specOC_of (C := ctab) (mv := mvtab) ctab_ok (n := 12) (an := an22) (T := Abs.tabOf [(87, sp87), (88, sp88)]) good foll (Abs.tabOf_ok _ (by simp only [List.forall_mem_cons]; exact ⟨ok87, ok88, fun _ h => by cases h⟩)) rfl (by intro v; kernel_rfl)

def l124_0_1 (v : ((ByteArray × Int × Unit) × (Unit))) : Option (((ByteArray × Int × Unit) × (Unit)) ⊕ Y18) :=
((bif (decide (((v.1.1.size : Int) : Int) > 0)) then (bif (decide ((0 : Int) ≤ (w64 ((v.1.1.size : Int) - 1)) ∧ ((w64 ((v.1.1.size : Int) - 1)) : Int) < v.1.1.size)) then
let x16 := (((((v.1.1[(w64 ((v.1.1.size : Int) - 1)).toNat]?.getD 0).toNat : Nat) : Int) : Int) == v.1.2.1)
some ((x16, (v.1.2.1, (v.1.1, ()))), ())
else none)
else (some ((false, (v.1.2.1, (v.1.1, ()))), ()))) : Option ((Bool × Int × ByteArray × Unit) × (Unit))).bind fun v17 =>
bif v17.1.1 then (bif (decide ((0 : Int) ≤ (w64 ((v17.1.2.2.1.size : Int) - 1)))) then
bif (decide (0 ≤ (w64 ((v17.1.2.2.1.size : Int) - 1)).toNat ∧ (w64 ((v17.1.2.2.1.size : Int) - 1)).toNat ≤ v17.1.2.2.1.size)) then
let x18 := (v17.1.2.2.1.extract 0 (w64 ((v17.1.2.2.1.size : Int) - 1)).toNat)
some (.inl ((x18, (v17.1.2.1, ())), ()))
else none
else none)
else (some (.inr ((v17.1.2.2.1, ()), ())))

/- strings.trimRightByte -/
def i124 : Abs.Sg := ⟨[0, 1], (.dat .str (.dat (.int .u8) .nil)), .nil⟩

def o124 : Abs.Sg := ⟨[4], (.dat .str .nil), .nil⟩

def m124 (v : ((ByteArray × Int × Unit) × (Unit))) : Option Y18 :=
(loopT l124_0_1 ((v.1.1, (v.1.2.1, ())), ())).bind fun d19 =>
some ((d19.1.1, ()), ())

def sp124 : Abs.Spec := ⟨0, i124, o124, m124⟩

def an124 : Nat → Abs.FAn
  | 0 => Abs.FAn.mk (fun
    | 1 => some ⟨[16, 1, 0], (.dat .bool (.dat (.int .u8) (.dat .str .nil))), .nil⟩
    | _ => none) (fun _ => none) (fun
    | 1 => some ⟨⟨[0, 1], (.dat .str (.dat (.int .u8) .nil)), .nil⟩, (.one (.exit 0) ⟨[0], (.dat .str .nil), .nil⟩)⟩
    | _ => none) (fun _ _ => 0)
  | _ => {}

theorem ok124 : Abs.SpecOK Tryd.prog 124 sp124 :=
  Abs.specOC_of (C := ctab) (mv := mvtab) ctab_ok (n := 12) (an := an124) (T := Abs.tabOf []) good foll (Abs.tabOf_ok _ (fun _ h => by cases h)) rfl (by intro v; kernel_rfl)

def l123_0_1 (v : ((ByteArray × Int × Unit) × (Unit))) : Option (((ByteArray × Int × Unit) × (Unit)) ⊕ Y18) :=
((bif (decide (((v.1.1.size : Int) : Int) > 0)) then (bif (decide ((0 : Int) ≤ 0 ∧ (0 : Int) < v.1.1.size)) then
let x12 := (((((v.1.1[0]?.getD 0).toNat : Nat) : Int) : Int) == v.1.2.1)
some ((x12, (v.1.2.1, (v.1.1, ()))), ())
else none)
else (some ((false, (v.1.2.1, (v.1.1, ()))), ()))) : Option ((Bool × Int × ByteArray × Unit) × (Unit))).bind fun v13 =>
bif v13.1.1 then (bif (decide (1 ≤ v13.1.2.2.1.size ∧ v13.1.2.2.1.size ≤ v13.1.2.2.1.size)) then
some (.inl (((v13.1.2.2.1.extract 1 v13.1.2.2.1.size), (v13.1.2.1, ())), ()))
else none)
else (some (.inr ((v13.1.2.2.1, ()), ())))

/- strings.trimLeftByte -/
def i123 : Abs.Sg := ⟨[0, 1], (.dat .str (.dat (.int .u8) .nil)), .nil⟩

def o123 : Abs.Sg := ⟨[4], (.dat .str .nil), .nil⟩

def m123 (v : ((ByteArray × Int × Unit) × (Unit))) : Option Y18 :=
(loopT l123_0_1 ((v.1.1, (v.1.2.1, ())), ())).bind fun d14 =>
some ((d14.1.1, ()), ())

def sp123 : Abs.Spec := ⟨0, i123, o123, m123⟩

def an123 : Nat → Abs.FAn
  | 0 => Abs.FAn.mk (fun
    | 1 => some ⟨[13, 1, 0], (.dat .bool (.dat (.int .u8) (.dat .str .nil))), .nil⟩
    | _ => none) (fun _ => none) (fun
    | 1 => some ⟨⟨[0, 1], (.dat .str (.dat (.int .u8) .nil)), .nil⟩, (.one (.exit 0) ⟨[0], (.dat .str .nil), .nil⟩)⟩
    | _ => none) (fun _ _ => 0)
  | _ => {}

theorem ok123 : Abs.SpecOK Tryd.prog 123 sp123 :=
  Abs.specOC_of (C := ctab) (mv := mvtab) ctab_ok (n := 12) (an := an123) (T := Abs.tabOf []) good foll (Abs.tabOf_ok _ (fun _ h => by cases h)) rfl (by intro v; kernel_rfl)

/- 125 strings.makeASCIISet: not told by a law: run where it is called -/

/- 127 strings.trimRightASCII: not told by a law: run where it is called -/

/- 126 strings.trimLeftASCII: not told by a law: run where it is called -/

/- 129 strings.trimRightUnicode: not told by a law: run where it is called -/

/- 128 strings.trimLeftUnicode: not told by a law: run where it is called -/

/- strings.Trim -/
def i91 : Abs.Sg := ⟨[0, 1], (.dat .str (.dat .str .nil)), .nil⟩

def o91 : Abs.Sg := ⟨[4], (.dat .str .nil), .nil⟩

def m91 (v : (Y15 × (Unit))) : Option Y18 :=
((bif (v.1.1.toList == ByteArray.empty.toList) then (some ((true, (v.1.1, (v.1.2.1, ()))), ()))
else (some (((v.1.2.1.toList == ByteArray.empty.toList), (v.1.1, (v.1.2.1, ()))), ()))) : Option ((Bool × ByteArray × ByteArray × Unit) × (Unit))).bind fun v16 =>
bif v16.1.1 then (some ((v16.1.2.1, ()), ()))
else (((bif (((v16.1.2.2.1.size : Int) : Int) == 1) then (bif (decide ((0 : Int) ≤ 0 ∧ (0 : Int) < v16.1.2.2.1.size)) then
let x17 := (decide (((((v16.1.2.2.1[0]?.getD 0).toNat : Nat) : Int) : Int) < 128))
some ((x17, (v16.1.2.2.1, (v16.1.2.1, ()))), ())
else none)
else (some ((false, (v16.1.2.2.1, (v16.1.2.1, ()))), ()))) : Option ((Bool × ByteArray × ByteArray × Unit) × (Unit))).bind fun v18 =>
bif v18.1.1 then (bif (decide ((0 : Int) ≤ 0 ∧ (0 : Int) < v18.1.2.1.size)) then
(m124 ((v18.1.2.2.1, ((((v18.1.2.1[0]?.getD 0).toNat : Nat) : Int), ())), ())).bind fun u19 =>
bif (decide ((0 : Int) ≤ 0 ∧ (0 : Int) < v18.1.2.1.size)) then
(m123 ((u19.1.1, ((((v18.1.2.1[0]?.getD 0).toNat : Nat) : Int), ())), ())).bind fun u20 =>
some ((u20.1.1, ()), ())
else none
else none)
else (none))

def sp91 : Abs.Spec := ⟨0, i91, o91, m91⟩

def an91 : Nat → Abs.FAn
  | 0 => Abs.FAn.mk (fun
    | 3 => some ⟨[21, 1, 0], (.dat .bool (.dat .str (.dat .str .nil))), .nil⟩
    | 1 => some ⟨[12, 0, 1], (.dat .bool (.dat .str (.dat .str .nil))), .nil⟩
    | _ => none) (fun _ => none) (fun _ => none) (fun _ _ => 0)
  | _ => {}

theorem ok91 : Abs.SpecOK Tryd.prog 91 sp91 :=
  Abs.specOC_of (C := ctab) (mv := mvtab) ctab_ok (n := 12) (an := an91) (T := Abs.tabOf [(124, sp124), (123, sp123)]) good foll (Abs.tabOf_ok _ (by simp only [List.forall_mem_cons]; exact ⟨ok124, ok123, fun _ h => by cases h⟩)) rfl (by intro v; kernel_rfl)

/- warnings: left out -/

def l26_0_2 (v : ((Int × Int × Int × Int × ByteArray × ByteArray × Unit) × (Unit))) : Option (((Int × Int × Int × Int × ByteArray × ByteArray × Unit) × (Unit)) ⊕ (Y13 ⊕ ((Int × ByteArray × Unit) × (Unit)))) :=
let x47 := (decide ((v.1.2.1 : Int) < (v.1.2.2.2.2.1.size : Int)))
bif x47 then (((let x48 := (decide ((v.1.1 : Int) < (v.1.2.2.2.2.2.1.size : Int)))
bif x48 then (bif (decide ((0 : Int) ≤ v.1.1 ∧ (v.1.1 : Int) < v.1.2.2.2.2.2.1.size)) then
let x49 := (((((v.1.2.2.2.2.2.1[v.1.1.toNat]?.getD 0).toNat : Nat) : Int) : Int) == 42)
some ((x49, (v.1.2.1, (v.1.2.2.2.2.1, (v.1.2.2.2.2.2.1, (v.1.1, (v.1.2.2.1, (v.1.2.2.2.1, ()))))))), ())
else none)
else (some ((false, (v.1.2.1, (v.1.2.2.2.2.1, (v.1.2.2.2.2.2.1, (v.1.1, (v.1.2.2.1, (v.1.2.2.2.1, ()))))))), ()))) : Option ((Bool × Int × ByteArray × ByteArray × Int × Int × Int × Unit) × (Unit))).bind fun v50 =>
bif v50.1.1 then (some (.inl (((w64 (v50.1.2.2.2.2.1 + 1)), (v50.1.2.1, (v50.1.2.2.2.2.1, (v50.1.2.1, (v50.1.2.2.1, (v50.1.2.2.2.1, ())))))), ())))
else (((let x51 := (decide ((v50.1.2.2.2.2.1 : Int) < (v50.1.2.2.2.1.size : Int)))
bif x51 then (bif (decide ((0 : Int) ≤ v50.1.2.2.2.2.1 ∧ (v50.1.2.2.2.2.1 : Int) < v50.1.2.2.2.1.size)) then
let x52 := (((((v50.1.2.2.2.1[v50.1.2.2.2.2.1.toNat]?.getD 0).toNat : Nat) : Int) : Int) == 63)
bif x52 then (some ((true, (v50.1.2.2.2.2.2.1, (v50.1.2.2.2.2.2.2.1, (v50.1.2.2.1, (v50.1.2.2.2.1, (v50.1.2.1, (v50.1.2.2.2.2.1, ()))))))), ()))
else (bif (decide ((0 : Int) ≤ v50.1.2.2.2.2.1 ∧ (v50.1.2.2.2.2.1 : Int) < v50.1.2.2.2.1.size)) then
bif (decide ((0 : Int) ≤ v50.1.2.1 ∧ (v50.1.2.1 : Int) < v50.1.2.2.1.size)) then
let x53 := (((((v50.1.2.2.2.1[v50.1.2.2.2.2.1.toNat]?.getD 0).toNat : Nat) : Int) : Int) == (((v50.1.2.2.1[v50.1.2.1.toNat]?.getD 0).toNat : Nat) : Int))
some ((x53, (v50.1.2.2.2.2.2.1, (v50.1.2.2.2.2.2.2.1, (v50.1.2.2.1, (v50.1.2.2.2.1, (v50.1.2.1, (v50.1.2.2.2.2.1, ()))))))), ())
else none
else none)
else none)
else (some ((false, (v50.1.2.2.2.2.2.1, (v50.1.2.2.2.2.2.2.1, (v50.1.2.2.1, (v50.1.2.2.2.1, (v50.1.2.1, (v50.1.2.2.2.2.1, ()))))))), ()))) : Option ((Bool × Int × Int × ByteArray × ByteArray × Int × Int × Unit) × (Unit))).bind fun v54 =>
bif v54.1.1 then (some (.inl (((w64 (v54.1.2.2.2.2.2.2.1 + 1)), ((w64 (v54.1.2.2.2.2.2.1 + 1)), (v54.1.2.1, (v54.1.2.2.1, (v54.1.2.2.2.1, (v54.1.2.2.2.2.1, ())))))), ())))
else (bif (decide ((v54.1.2.1 : Int) ≥ 0)) then (some (.inl (((w64 (v54.1.2.1 + 1)), ((w64 (v54.1.2.2.1 + 1)), (v54.1.2.1, ((w64 (v54.1.2.2.1 + 1)), (v54.1.2.2.2.1, (v54.1.2.2.2.2.1, ())))))), ())))
else (some (.inr (.inl ((false, ()), ())))))))
else (some (.inr (.inr ((v.1.1, (v.1.2.2.2.2.2.1, ())), ()))))

/- pagewatch/label.Like -/
def i26 : Abs.Sg := ⟨[0, 1], (.dat .str (.dat .str .nil)), .nil⟩

def o26 : Abs.Sg := ⟨[4], (.dat .bool .nil), .nil⟩

def m26 (v : (Y15 × (Unit))) : Option Y13 :=
(loopT l26_0_2 ((0, (0, ((-1), (0, (v.1.2.1, (v.1.1, ())))))), ())).bind fun d55 =>
sumE d55 (fun d56 => (some ((d56.1.1, ()), ()))) (fun d57 => (bif (decide ((0 : Int) ≤ d57.1.1)) then
bif (decide (d57.1.1.toNat ≤ d57.1.2.1.size ∧ d57.1.2.1.size ≤ d57.1.2.1.size)) then
(m91 (((d57.1.2.1.extract d57.1.1.toNat d57.1.2.1.size), ((bs [42]), ())), ())).bind fun u58 =>
some (((u58.1.1.toList == ByteArray.empty.toList), ()), ())
else none
else none))

def sp26 : Abs.Spec := ⟨0, i26, o26, m26⟩

def an26 : Nat → Abs.FAn
  | 0 => Abs.FAn.mk (fun
    | 7 => some ⟨[28, 7, 8, 1, 0, 6, 5], (.dat .bool (.dat (.int .i64) (.dat (.int .i64) (.dat .str (.dat .str (.dat (.int .i64) (.dat (.int .i64) .nil))))))), .nil⟩
    | 4 => some ⟨[13, 6, 1, 0, 5, 7, 8], (.dat .bool (.dat (.int .i64) (.dat .str (.dat .str (.dat (.int .i64) (.dat (.int .i64) (.dat (.int .i64) .nil))))))), .nil⟩
    | _ => none) (fun _ => none) (fun
    | 2 => some ⟨⟨[5, 6, 7, 8, 1, 0], (.dat (.int .i64) (.dat (.int .i64) (.dat (.int .i64) (.dat (.int .i64) (.dat .str (.dat .str .nil)))))), .nil⟩, (.more .ret ⟨[4], (.dat .bool .nil), .nil⟩ (.one (.exit 0) ⟨[5, 0], (.dat (.int .i64) (.dat .str .nil)), .nil⟩))⟩
    | _ => none) (fun _ _ => 0)
  | _ => {}

theorem ok26 : Abs.SpecOK Tryd.prog 26 sp26 :=
  Abs.specOC_of (C := ctab) (mv := mvtab) ctab_ok (n := 12) (an := an26) (T := Abs.tabOf [(91, sp91)]) good foll (Abs.tabOf_ok _ (by simp only [List.forall_mem_cons]; exact ⟨ok91, fun _ h => by cases h⟩)) rfl (by intro v; kernel_rfl)

def l38_0_2 (v : ((Int × ByteArray × Y4 × Int × Unit) × (Unit))) : Option (((Int × ByteArray × Y4 × Int × Unit) × (Unit)) ⊕ (Y18 ⊕ ((Unit) × (Unit)))) :=
bif (decide ((v.1.1 : Int) < v.1.2.2.2.1)) then (Abs.rowAt v.1.2.2.1 v.1.1 fun e13 _ =>
bif (e13.1.toList == v.1.2.1.toList) then (some (.inr (.inl ((e13.2.1, ()), ()))))
else (some (.inl (((w64 (v.1.1 + 1)), (v.1.2.1, (v.1.2.2.1, (v.1.2.2.2.1, ())))), ()))))
else (some (.inr (.inr ((), ()))))

/- pagewatch/label.Get -/
def i38 : Abs.Sg := ⟨[0, 1], (.dat (.row Z7) (.dat .str .nil)), .nil⟩

def o38 : Abs.Sg := ⟨[4], (.dat .str .nil), .nil⟩

def m38 (v : ((Y4 × ByteArray × Unit) × (Unit))) : Option Y18 :=
(loopT l38_0_2 ((0, (v.1.2.1, (v.1.1, ((v.1.1.length : Int), ())))), ())).bind fun d14 =>
sumE d14 (fun d15 => (some ((d15.1.1, ()), ()))) (fun d16 => (some ((ByteArray.empty, ()), ())))

def sp38 : Abs.Spec := ⟨0, i38, o38, m38⟩

def an38 : Nat → Abs.FAn
  | 0 => Abs.FAn.mk (fun _ => none) (fun _ => none) (fun
    | 2 => some ⟨⟨[9, 1, 7, 8], (.dat (.int .i64) (.dat .str (.dat (.row Z7) (.dat (.int .i64) .nil)))), .nil⟩, (.more .ret ⟨[4], (.dat .str .nil), .nil⟩ (.one (.exit 0) ⟨[], .nil, .nil⟩))⟩
    | _ => none) (fun _ _ => 0)
  | _ => {}

theorem ok38 : Abs.SpecOK Tryd.prog 38 sp38 :=
  Abs.specOC_of (C := ctab) (mv := mvtab) ctab_ok (n := 12) (an := an38) (T := Abs.tabOf []) good foll (Abs.tabOf_ok _ (fun _ h => by cases h)) rfl (by intro v; kernel_rfl)

/- pagewatch/label.Match -/
def i24 : Abs.Sg := ⟨[0, 1], (.dat Z5 (.dat (.row Z7) .nil)), .nil⟩

def o24 : Abs.Sg := ⟨[4], (.dat .bool .nil), .nil⟩

def m24 (v : ((Y12 × Y4 × Unit) × (Unit))) : Option Y13 :=
(m38 ((v.1.2.1, (v.1.1.1, ())), ())).bind fun u9 =>
bif ((v.1.1.2.1 : Int) == 0) then (some (((u9.1.1.toList == v.1.1.2.2.1.toList), ()), ()))
else (bif ((v.1.1.2.1 : Int) == 1) then (some (((!(u9.1.1.toList == v.1.1.2.2.1.toList)), ()), ()))
else (bif ((v.1.1.2.1 : Int) == 2) then ((m26 ((v.1.1.2.2.1, (u9.1.1, ())), ())).bind fun u10 =>
some ((u10.1.1, ()), ()))
else (bif ((v.1.1.2.1 : Int) == 3) then ((m26 ((v.1.1.2.2.1, (u9.1.1, ())), ())).bind fun u11 =>
some (((!u11.1.1), ()), ()))
else (some ((false, ()), ())))))

def sp24 : Abs.Spec := ⟨0, i24, o24, m24⟩

def an24 : Nat → Abs.FAn
  | _ => {}

theorem ok24 : Abs.SpecOK Tryd.prog 24 sp24 :=
  Abs.specOC_of (C := ctab) (mv := mvtab) ctab_ok (n := 12) (an := an24) (T := Abs.tabOf [(38, sp38), (26, sp26)]) good foll (Abs.tabOf_ok _ (by simp only [List.forall_mem_cons]; exact ⟨ok38, ok26, fun _ h => by cases h⟩)) rfl (by intro v; kernel_rfl)

/- 99 pagewatch/label.All$1: not told by a law: a closure -/

def l30_2_2 (v : ((Int × Y3 × Int × Unit) × ((Y4 × Unit) × Unit))) : Option (((Int × Y3 × Int × Unit) × ((Y4 × Unit) × Unit)) ⊕ (((Int × Unit) × ((Y4 × Unit) × Unit)) ⊕ ((Unit) × ((Y4 × Unit) × Unit)))) :=
bif (decide ((v.1.1 : Int) < v.1.2.2.1)) then (Abs.rowAt v.1.2.1 v.1.1 fun e32 _ =>
(m24 ((e32, (v.2.1.1, ())), ())).bind fun u33 =>
bif (!u33.1.1) then (some (.inr (.inl ((v.1.1, ()), ((v.2.1.1, ()), ())))))
else (some (.inl (((w64 (v.1.1 + 1)), (v.1.2.1, (v.1.2.2.1, ()))), ((v.2.1.1, ()), ())))))
else (some (.inr (.inr ((), ((v.2.1.1, ()), ())))))

/- pagewatch/label.All -/
def i30 : Abs.Sg := ⟨[0, 1], (.dat (.row Z5) (.dat (.row Z7) .nil)), .nil⟩

def o30 : Abs.Sg := ⟨[4], (.dat .bool .nil), .nil⟩

def m30 (v : ((Y3 × Y4 × Unit) × (Unit))) : Option Y13 :=
(((loopT l30_2_2 ((0, (v.1.1, ((v.1.1.length : Int), ()))), ((v.1.2.1, ()), ()))).bind fun d34 =>
sumE d34 (fun d35 => (some (((decide ((d35.1.1 : Int) ≥ 0)), ()), ((d35.2.1.1, ()), ())))) (fun d36 => (some ((false, ()), ((d36.2.1.1, ()), ()))))) : Option ((Bool × Unit) × ((Y4 × Unit) × Unit))).bind fun v37 =>
some (((!v37.1.1), ()), ())

def sp30 : Abs.Spec := ⟨0, i30, o30, m30⟩

def an30 : Nat → Abs.FAn
  | 0 => Abs.FAn.mk (fun _ => none) (fun _ => none) (fun _ => none) (fun
    | 1, 2 => 1
    | _, _ => 0)
  | 1 => Abs.FAn.mk (fun
    | 1 => some ⟨[4], (.dat .bool .nil), (.box 1 (.dat (.row Z7) .nil) .nil)⟩
    | _ => none) (fun _ => none) (fun _ => none) (fun
    | 1, 2 => 2
    | _, _ => 0)
  | 2 => Abs.FAn.mk (fun _ => none) (fun _ => none) (fun
    | 2 => some ⟨⟨[8, 0, 1, 7], (.dat (.int .i64) (.dat (.row Z5) (.st (.clo 99 [((0, 0), 1, 0, 0)]) (.dat (.int .i64) .nil)))), (.box 1 (.dat (.row Z7) .nil) .nil)⟩, (.more .ret ⟨[4], (.dat (.int .i64) .nil), (.box 1 (.dat (.row Z7) .nil) .nil)⟩ (.one (.exit 0) ⟨[], .nil, (.box 1 (.dat (.row Z7) .nil) .nil)⟩))⟩
    | _ => none) (fun
    | 4, 5 => 3
    | _, _ => 0)
  | _ => {}

theorem ok30 : Abs.SpecOK Tryd.prog 30 sp30 :=
  Abs.specOC_of (C := ctab) (mv := mvtab) ctab_ok (n := 12) (an := an30) (T := Abs.tabOf [(24, sp24)]) good foll (Abs.tabOf_ok _ (by simp only [List.forall_mem_cons]; exact ⟨ok24, fun _ h => by cases h⟩)) rfl (by intro v; kernel_rfl)

/- pagewatch/pagewatchmade.Roll -/
def i19 : Abs.Sg := ⟨[0], (.dat (.row (.int .i64)) .nil), .nil⟩

def o19 : Abs.Sg := ⟨[2], (.st (.ptr (0, 0) 2 0 0) .nil), (.box 2 (.dat Z9 .nil) .nil)⟩

def m19 (v : (((List Int) × Unit) × (Unit))) : Option ((Unit) × (Y11 × Unit)) :=
some ((), (((v.1.1, (0, ())), ()), ()))

def sp19 : Abs.Spec := ⟨0, i19, o19, m19⟩

def an19 : Nat → Abs.FAn
  | _ => {}

theorem ok19 : Abs.SpecOK Tryd.prog 19 sp19 :=
  Abs.specOC_of (C := ctab) (mv := mvtab) ctab_ok (n := 12) (an := an19) (T := Abs.tabOf []) good foll (Abs.tabOf_ok _ (fun _ h => by cases h)) rfl (by intro v; kernel_rfl)

/- (*pagewatch/pagewatchmade.Dice).Next -/
def i39 : Abs.Sg := ⟨[0, 1], (.st (.ptr (0, 0) 2 0 0) (.dat (.int .i64) .nil)), (.box 2 (.dat Z9 .nil) .nil)⟩

def o39 : Abs.Sg := ⟨[4], (.dat (.int .i64) .nil), (.box 2 (.dat Z9 .nil) .nil)⟩

def m39 (v : ((Int × Unit) × (Y11 × Unit))) : Option ((Int × Unit) × (Y11 × Unit)) :=
((let x15 := (decide ((v.2.1.1.2.1 : Int) ≥ (v.2.1.1.1.length : Int)))
bif x15 then (some ((true, (v.1.1, ())), ((v.2.1.1, ()), ())))
else (some (((decide ((v.1.1 : Int) < 1)), (v.1.1, ())), ((v.2.1.1, ()), ())))) : Option ((Bool × Int × Unit) × (Y11 × Unit))).bind fun v16 =>
bif v16.1.1 then (some ((0, ()), ((v16.2.1.1, ()), ())))
else (Abs.rowAt v16.2.1.1.1 v16.2.1.1.2.1 fun e17 _ =>
bif (decide (v16.1.2.1 ≠ (0 : Int))) then
((let x18 := (decide ((((e17 : Int).tmod v16.1.2.1) : Int) < 0))
bif x18 then (some (((w64 (((e17 : Int).tmod v16.1.2.1) + v16.1.2.1)), ()), (((v16.2.1.1.1, ((w64 (v16.2.1.1.2.1 + 1)), ())), ()), ())))
else (some ((((e17 : Int).tmod v16.1.2.1), ()), (((v16.2.1.1.1, ((w64 (v16.2.1.1.2.1 + 1)), ())), ()), ())))) : Option ((Int × Unit) × (Y11 × Unit))).bind fun v19 =>
some ((v19.1.1, ()), ((v19.2.1.1, ()), ()))
else none)

def sp39 : Abs.Spec := ⟨1, i39, o39, m39⟩

def an39 : Nat → Abs.FAn
  | 0 => Abs.FAn.mk (fun
    | 1 => some ⟨[19, 1, 0], (.dat .bool (.dat (.int .i64) (.st (.ptr (0, 0) 2 0 0) .nil))), (.box 2 (.dat Z9 .nil) .nil)⟩
    | _ => none) (fun
    | 7 => some (⟨[5], (.dat (.int .i64) .nil), (.box 2 (.dat Z9 .nil) .nil)⟩, none)
    | _ => none) (fun _ => none) (fun _ _ => 0)
  | _ => {}

theorem ok39 : Abs.SpecOK Tryd.prog 39 sp39 :=
  Abs.specOC_of (C := ctab) (mv := mvtab) ctab_ok (n := 12) (an := an39) (T := Abs.tabOf []) good foll (Abs.tabOf_ok _ (fun _ h => by cases h)) rfl (by intro v; kernel_rfl)

def l20_0_3 (v : ((Int × (ByteArray × ByteArray × ByteArray × ByteArray × Unit) × Unit) × (Y11 × Y4 × Unit))) : Option (((Int × (ByteArray × ByteArray × ByteArray × ByteArray × Unit) × Unit) × (Y11 × Y4 × Unit)) ⊕ ((Unit) × (Y11 × Y4 × Unit))) :=
bif (decide ((v.1.1 : Int) < 4)) then (((Abs.rowAt ([v.1.2.1.1, v.1.2.1.2.1, v.1.2.1.2.2.1, v.1.2.1.2.2.2.1] : List ByteArray) v.1.1 fun e29 _ =>
(m39 ((6, ()), ((v.2.1.1, ()), ()))).bind fun u30 =>
bif (decide ((0 : Int) ≤ u30.1.1 ∧ (u30.1.1 : Int) < [ByteArray.empty, (bs [97]), (bs [98]), (bs [99, 114, 105, 116]), (bs [97, 34, 98, 92]), (bs [119, 101, 98, 45, 49])].length)) then
([ByteArray.empty, (bs [97]), (bs [98]), (bs [99, 114, 105, 116]), (bs [97, 34, 98, 92]), (bs [119, 101, 98, 45, 49])][u30.1.1.toNat]?).bind fun e31 =>
bif (!(e31.toList == ByteArray.empty.toList)) then (bif (decide (v.2.2.1.length + ([(e29, (e31, ()))] : List Y15).length ≤ 4294967296)) then
let x32 := (v.2.2.1 ++ ([(e29, (e31, ()))] : List Y15))
some ((v.1.2.1, (v.1.1, ())), ((u30.2.1.1, ()), (x32, ())))
else none)
else (some ((v.1.2.1, (v.1.1, ())), ((u30.2.1.1, ()), (v.2.2.1, ()))))
else none) : Option (((ByteArray × ByteArray × ByteArray × ByteArray × Unit) × Int × Unit) × (Y11 × Y4 × Unit))).bind fun v33 =>
some (.inl (((w64 (v33.1.2.1 + 1)), (v33.1.1, ())), ((v33.2.1.1, ()), (v33.2.2.1, ())))))
else (some (.inr ((), ((v.2.1.1, ()), (v.2.2.1, ())))))

/- (*pagewatch/pagewatchmade.Dice).Labels -/
def i20 : Abs.Sg := ⟨[0], (.st (.ptr (0, 0) 2 0 0) .nil), (.box 2 (.dat Z9 .nil) .nil)⟩

def o20 : Abs.Sg := ⟨[2], (.st (.own Z7 (1, 0)) .nil), (.box 2 (.dat Z9 .nil) (.arr Z7 false .nil))⟩

def m20 (v : ((Unit) × (Y11 × Unit))) : Option ((Unit) × (Y11 × Y4 × Unit)) :=
(loopT l20_0_3 ((0, (((bs [97, 112, 112]), ((bs [104, 111, 115, 116]), ((bs [115, 101, 118]), ((bs [116, 101, 97, 109]), ())))), ())), ((v.2.1.1, ()), ([], ())))).bind fun d34 =>
some ((), ((d34.2.1.1, ()), (d34.2.2.1, ())))

def sp20 : Abs.Spec := ⟨1, i20, o20, m20⟩

def an20 : Nat → Abs.FAn
  | 0 => Abs.FAn.mk (fun _ => none) (fun
    | 8 => some (⟨[3, 0, 7, 8], (.st (.own Z7 (1, 0)) (.st (.ptr (0, 0) 2 0 0) (.dat (.cons .str (.cons .str Z7)) (.dat (.int .i64) .nil)))), (.box 2 (.dat Z9 .nil) (.arr Z7 false .nil))⟩, none)
    | _ => none) (fun
    | 3 => some ⟨⟨[8, 3, 0, 7], (.dat (.int .i64) (.st (.own Z7 (1, 0)) (.st (.ptr (0, 0) 2 0 0) (.dat (.cons .str (.cons .str Z7)) .nil)))), (.box 2 (.dat Z9 .nil) (.arr Z7 false .nil))⟩, (.one (.exit 0) ⟨[3], (.st (.own Z7 (1, 0)) .nil), (.box 2 (.dat Z9 .nil) (.arr Z7 false .nil))⟩)⟩
    | _ => none) (fun _ _ => 0)
  | _ => {}

theorem ok20 : Abs.SpecOK Tryd.prog 20 sp20 :=
  Abs.specOC_of (C := ctab) (mv := mvtab) ctab_ok (n := 12) (an := an20) (T := Abs.tabOf [(39, sp39)]) good foll (Abs.tabOf_ok _ (by simp only [List.forall_mem_cons]; exact ⟨ok39, fun _ h => by cases h⟩)) rfl (by intro v; kernel_rfl)

/- (*pagewatch/pagewatchmade.Dice).Matcher -/
def i86 : Abs.Sg := ⟨[0], (.st (.ptr (0, 0) 2 0 0) .nil), (.box 2 (.dat Z9 .nil) .nil)⟩

def o86 : Abs.Sg := ⟨[2], (.st (.ptr (1, 0) 3 0 0) .nil), (.box 2 (.dat Z9 .nil) (.box 3 (.dat Z5 .nil) .nil))⟩

def m86 (v : ((Unit) × (Y11 × Unit))) : Option ((Unit) × (Y11 × (Y12 × Unit) × Unit)) :=
(m39 ((5, ()), ((v.2.1.1, ()), ()))).bind fun u10 =>
bif (decide ((0 : Int) ≤ u10.1.1 ∧ (u10.1.1 : Int) < [(bs [97, 112, 112]), (bs [104, 111, 115, 116]), (bs [115, 101, 118]), (bs [116, 101, 97, 109]), (bs [122, 111, 110, 101])].length)) then
([(bs [97, 112, 112]), (bs [104, 111, 115, 116]), (bs [115, 101, 118]), (bs [116, 101, 97, 109]), (bs [122, 111, 110, 101])][u10.1.1.toNat]?).bind fun e11 =>
(m39 ((4, ()), ((u10.2.1.1, ()), ()))).bind fun u12 =>
(m39 ((8, ()), ((u12.2.1.1, ()), ()))).bind fun u13 =>
bif (decide ((0 : Int) ≤ u13.1.1 ∧ (u13.1.1 : Int) < [(bs [97]), (bs [98]), ByteArray.empty, (bs [42]), (bs [99, 114, 105, 116]), (bs [63]), (bs [119, 101, 98, 45, 42]), (bs [97, 34, 98, 92])].length)) then
([(bs [97]), (bs [98]), ByteArray.empty, (bs [42]), (bs [99, 114, 105, 116]), (bs [63]), (bs [119, 101, 98, 45, 42]), (bs [97, 34, 98, 92])][u13.1.1.toNat]?).bind fun e14 =>
some ((), ((u13.2.1.1, ()), (((e11, (u12.1.1, (e14, ()))), ()), ())))
else none
else none

def sp86 : Abs.Spec := ⟨1, i86, o86, m86⟩

def an86 : Nat → Abs.FAn
  | _ => {}

theorem ok86 : Abs.SpecOK Tryd.prog 86 sp86 :=
  Abs.specOC_of (C := ctab) (mv := mvtab) ctab_ok (n := 12) (an := an86) (T := Abs.tabOf [(39, sp39)]) good foll (Abs.tabOf_ok _ (by simp only [List.forall_mem_cons]; exact ⟨ok39, fun _ h => by cases h⟩)) rfl (by intro v; kernel_rfl)

def l21_0_3 (v : ((Int × Unit) × (Y11 × Y3 × Unit))) : Option (((Int × Unit) × (Y11 × Y3 × Unit)) ⊕ ((Unit) × (Y11 × Y3 × Unit))) :=
bif (decide ((v.1.1 : Int) > 0)) then ((m86 ((), ((v.2.1.1, ()), ()))).bind fun u19 =>
bif (decide (v.2.2.1.length + ([u19.2.2.1.1] : List Y12).length ≤ 4294967296)) then
let x20 := (v.2.2.1 ++ ([u19.2.2.1.1] : List Y12))
some (.inl (((w64 (v.1.1 - 1)), ()), ((u19.2.1.1, ()), (x20, ()))))
else none)
else (some (.inr ((), ((v.2.1.1, ()), (v.2.2.1, ())))))

/- (*pagewatch/pagewatchmade.Dice).Matchers -/
def i21 : Abs.Sg := ⟨[0, 1], (.st (.ptr (0, 0) 2 0 0) (.dat (.int .i64) .nil)), (.box 2 (.dat Z9 .nil) .nil)⟩

def o21 : Abs.Sg := ⟨[4], (.st (.own Z5 (1, 0)) .nil), (.box 2 (.dat Z9 .nil) (.arr Z5 false .nil))⟩

def m21 (v : ((Int × Unit) × (Y11 × Unit))) : Option ((Unit) × (Y11 × Y3 × Unit)) :=
(m39 (((w64 (v.1.1 + 1)), ()), ((v.2.1.1, ()), ()))).bind fun u18 =>
(loopT l21_0_3 ((u18.1.1, ()), ((u18.2.1.1, ()), ([], ())))).bind fun d21 =>
some ((), ((d21.2.1.1, ()), (d21.2.2.1, ())))

def sp21 : Abs.Spec := ⟨1, i21, o21, m21⟩

def an21 : Nat → Abs.FAn
  | 0 => Abs.FAn.mk (fun _ => none) (fun _ => none) (fun
    | 3 => some ⟨⟨[6, 0, 5], (.dat (.int .i64) (.st (.ptr (0, 0) 2 0 0) (.st (.own Z5 (1, 0)) .nil))), (.box 2 (.dat Z9 .nil) (.arr Z5 false .nil))⟩, (.one (.exit 0) ⟨[5], (.st (.own Z5 (1, 0)) .nil), (.box 2 (.dat Z9 .nil) (.arr Z5 false .nil))⟩)⟩
    | _ => none) (fun _ _ => 0)
  | _ => {}

theorem ok21 : Abs.SpecOK Tryd.prog 21 sp21 :=
  Abs.specOC_of (C := ctab) (mv := mvtab) ctab_ok (n := 12) (an := an21) (T := Abs.tabOf [(39, sp39), (86, sp86)]) good foll (Abs.tabOf_ok _ (by simp only [List.forall_mem_cons]; exact ⟨ok39, ok86, fun _ h => by cases h⟩)) rfl (by intro v; kernel_rfl)

/- (*pagewatch/pagewatchmade.Dice).Bool -/
def i106 : Abs.Sg := ⟨[0, 1], (.st (.ptr (0, 0) 2 0 0) (.dat (.int .i64) .nil)), (.box 2 (.dat Z9 .nil) .nil)⟩

def o106 : Abs.Sg := ⟨[4], (.dat .bool .nil), (.box 2 (.dat Z9 .nil) .nil)⟩

def m106 (v : ((Int × Unit) × (Y11 × Unit))) : Option ((Bool × Unit) × (Y11 × Unit)) :=
(m39 ((v.1.1, ()), ((v.2.1.1, ()), ()))).bind fun u2 =>
some ((((u2.1.1 : Int) == (w64 (v.1.1 - 1))), ()), ((u2.2.1.1, ()), ()))

def sp106 : Abs.Spec := ⟨1, i106, o106, m106⟩

def an106 : Nat → Abs.FAn
  | _ => {}

theorem ok106 : Abs.SpecOK Tryd.prog 106 sp106 :=
  Abs.specOC_of (C := ctab) (mv := mvtab) ctab_ok (n := 12) (an := an106) (T := Abs.tabOf [(39, sp39)]) good foll (Abs.tabOf_ok _ (by simp only [List.forall_mem_cons]; exact ⟨ok39, fun _ h => by cases h⟩)) rfl (by intro v; kernel_rfl)

def l40_0_3 (v : ((Int × (ByteArray × ByteArray × ByteArray × ByteArray × Unit) × Unit) × (Y11 × (List ByteArray) × Unit))) : Option (((Int × (ByteArray × ByteArray × ByteArray × ByteArray × Unit) × Unit) × (Y11 × (List ByteArray) × Unit)) ⊕ ((Unit) × (Y11 × (List ByteArray) × Unit))) :=
bif (decide ((v.1.1 : Int) < 4)) then (((Abs.rowAt ([v.1.2.1.1, v.1.2.1.2.1, v.1.2.1.2.2.1, v.1.2.1.2.2.2.1] : List ByteArray) v.1.1 fun e18 _ =>
(m106 ((3, ()), ((v.2.1.1, ()), ()))).bind fun u19 =>
bif u19.1.1 then (bif (decide (v.2.2.1.length + [e18].length ≤ 4294967296)) then
some ((v.1.2.1, (v.1.1, ())), ((u19.2.1.1, ()), ((v.2.2.1 ++ [e18]), ())))
else none)
else (some ((v.1.2.1, (v.1.1, ())), ((u19.2.1.1, ()), (v.2.2.1, ()))))) : Option (((ByteArray × ByteArray × ByteArray × ByteArray × Unit) × Int × Unit) × (Y11 × (List ByteArray) × Unit))).bind fun v20 =>
some (.inl (((w64 (v20.1.2.1 + 1)), (v20.1.1, ())), ((v20.2.1.1, ()), (v20.2.2.1, ())))))
else (some (.inr ((), ((v.2.1.1, ()), (v.2.2.1, ())))))

/- (*pagewatch/pagewatchmade.Dice).Keys -/
def i40 : Abs.Sg := ⟨[0], (.st (.ptr (0, 0) 2 0 0) .nil), (.box 2 (.dat Z9 .nil) .nil)⟩

def o40 : Abs.Sg := ⟨[2], (.st (.own .str (1, 0)) .nil), (.box 2 (.dat Z9 .nil) (.arr .str false .nil))⟩

def m40 (v : ((Unit) × (Y11 × Unit))) : Option ((Unit) × (Y11 × (List ByteArray) × Unit)) :=
(loopT l40_0_3 ((0, (((bs [97, 112, 112]), ((bs [104, 111, 115, 116]), ((bs [115, 101, 118]), ((bs [116, 101, 97, 109]), ())))), ())), ((v.2.1.1, ()), ([], ())))).bind fun d21 =>
some ((), ((d21.2.1.1, ()), (d21.2.2.1, ())))

def sp40 : Abs.Spec := ⟨1, i40, o40, m40⟩

def an40 : Nat → Abs.FAn
  | 0 => Abs.FAn.mk (fun _ => none) (fun
    | 7 => some (⟨[3, 0, 6, 7], (.st (.own .str (1, 0)) (.st (.ptr (0, 0) 2 0 0) (.dat (.cons .str (.cons .str Z7)) (.dat (.int .i64) .nil)))), (.box 2 (.dat Z9 .nil) (.arr .str false .nil))⟩, none)
    | _ => none) (fun
    | 3 => some ⟨⟨[7, 3, 0, 6], (.dat (.int .i64) (.st (.own .str (1, 0)) (.st (.ptr (0, 0) 2 0 0) (.dat (.cons .str (.cons .str Z7)) .nil)))), (.box 2 (.dat Z9 .nil) (.arr .str false .nil))⟩, (.one (.exit 0) ⟨[3], (.st (.own .str (1, 0)) .nil), (.box 2 (.dat Z9 .nil) (.arr .str false .nil))⟩)⟩
    | _ => none) (fun _ _ => 0)
  | _ => {}

theorem ok40 : Abs.SpecOK Tryd.prog 40 sp40 :=
  Abs.specOC_of (C := ctab) (mv := mvtab) ctab_ok (n := 12) (an := an40) (T := Abs.tabOf [(106, sp106)]) good foll (Abs.tabOf_ok _ (by simp only [List.forall_mem_cons]; exact ⟨ok106, fun _ h => by cases h⟩)) rfl (by intro v; kernel_rfl)

def l89_0_4 (v : ((Int × ByteArray × Unit) × (Unit))) : Option (((Int × ByteArray × Unit) × (Unit)) ⊕ (Y13 ⊕ ((Unit) × (Unit)))) :=
bif (decide ((v.1.1 : Int) < (v.1.2.1.size : Int))) then (((bif (decide ((0 : Int) ≤ v.1.1 ∧ (v.1.1 : Int) < v.1.2.1.size)) then
let x89 := (decide (((((v.1.2.1[v.1.1.toNat]?.getD 0).toNat : Nat) : Int) : Int) < 97))
bif x89 then (bif (decide ((0 : Int) ≤ v.1.1 ∧ (v.1.1 : Int) < v.1.2.1.size)) then
let x90 := (decide (((((v.1.2.1[v.1.1.toNat]?.getD 0).toNat : Nat) : Int) : Int) < 48))
bif x90 then (bif (decide ((0 : Int) ≤ v.1.1 ∧ (v.1.1 : Int) < v.1.2.1.size)) then
let x91 := (((((v.1.2.1[v.1.1.toNat]?.getD 0).toNat : Nat) : Int) : Int) != 95)
some ((x91, (v.1.2.1, (v.1.1, ()))), ())
else none)
else (bif (decide ((0 : Int) ≤ v.1.1 ∧ (v.1.1 : Int) < v.1.2.1.size)) then
let x92 := (decide (((((v.1.2.1[v.1.1.toNat]?.getD 0).toNat : Nat) : Int) : Int) > 57))
bif x92 then (bif (decide ((0 : Int) ≤ v.1.1 ∧ (v.1.1 : Int) < v.1.2.1.size)) then
let x93 := (((((v.1.2.1[v.1.1.toNat]?.getD 0).toNat : Nat) : Int) : Int) != 95)
some ((x93, (v.1.2.1, (v.1.1, ()))), ())
else none)
else (some ((false, (v.1.2.1, (v.1.1, ()))), ()))
else none)
else none)
else (bif (decide ((0 : Int) ≤ v.1.1 ∧ (v.1.1 : Int) < v.1.2.1.size)) then
let x94 := (decide (((((v.1.2.1[v.1.1.toNat]?.getD 0).toNat : Nat) : Int) : Int) > 122))
bif x94 then (bif (decide ((0 : Int) ≤ v.1.1 ∧ (v.1.1 : Int) < v.1.2.1.size)) then
let x95 := (decide (((((v.1.2.1[v.1.1.toNat]?.getD 0).toNat : Nat) : Int) : Int) < 48))
bif x95 then (bif (decide ((0 : Int) ≤ v.1.1 ∧ (v.1.1 : Int) < v.1.2.1.size)) then
let x96 := (((((v.1.2.1[v.1.1.toNat]?.getD 0).toNat : Nat) : Int) : Int) != 95)
some ((x96, (v.1.2.1, (v.1.1, ()))), ())
else none)
else (bif (decide ((0 : Int) ≤ v.1.1 ∧ (v.1.1 : Int) < v.1.2.1.size)) then
let x97 := (decide (((((v.1.2.1[v.1.1.toNat]?.getD 0).toNat : Nat) : Int) : Int) > 57))
bif x97 then (bif (decide ((0 : Int) ≤ v.1.1 ∧ (v.1.1 : Int) < v.1.2.1.size)) then
let x98 := (((((v.1.2.1[v.1.1.toNat]?.getD 0).toNat : Nat) : Int) : Int) != 95)
some ((x98, (v.1.2.1, (v.1.1, ()))), ())
else none)
else (some ((false, (v.1.2.1, (v.1.1, ()))), ()))
else none)
else none)
else (some ((false, (v.1.2.1, (v.1.1, ()))), ()))
else none)
else none) : Option ((Bool × ByteArray × Int × Unit) × (Unit))).bind fun v99 =>
bif v99.1.1 then (some (.inr (.inl ((false, ()), ()))))
else (some (.inl (((w64 (v99.1.2.2.1 + 1)), (v99.1.2.1, ())), ()))))
else (some (.inr (.inr ((), ()))))

/- pagewatch/pagewatchref20.Key -/
def i89 : Abs.Sg := ⟨[0], (.dat .str .nil), .nil⟩

def o89 : Abs.Sg := ⟨[2], (.dat .bool .nil), .nil⟩

def m89 (v : Y18) : Option Y13 :=
((bif (decide (((v.1.1.size : Int) : Int) < 1)) then (some ((true, (v.1.1, ())), ()))
else (bif (decide (((v.1.1.size : Int) : Int) > 24)) then (some ((true, (v.1.1, ())), ()))
else (bif (decide ((0 : Int) ≤ 0 ∧ (0 : Int) < v.1.1.size)) then
let x86 := (decide (((((v.1.1[0]?.getD 0).toNat : Nat) : Int) : Int) < 97))
bif x86 then (some ((true, (v.1.1, ())), ()))
else (bif (decide ((0 : Int) ≤ 0 ∧ (0 : Int) < v.1.1.size)) then
let x87 := (decide (((((v.1.1[0]?.getD 0).toNat : Nat) : Int) : Int) > 122))
some ((x87, (v.1.1, ())), ())
else none)
else none))) : Option ((Bool × ByteArray × Unit) × (Unit))).bind fun v88 =>
bif v88.1.1 then (some ((false, ()), ()))
else ((loopT l89_0_4 ((0, (v88.1.2.1, ())), ())).bind fun d100 =>
sumE d100 (fun d101 => (some ((d101.1.1, ()), ()))) (fun d102 => (some ((true, ()), ()))))

def sp89 : Abs.Spec := ⟨0, i89, o89, m89⟩

def an89 : Nat → Abs.FAn
  | 0 => Abs.FAn.mk (fun
    | 6 => some ⟨[55, 0, 3], (.dat .bool (.dat .str (.dat (.int .i64) .nil))), .nil⟩
    | 1 => some ⟨[21, 0], (.dat .bool (.dat .str .nil)), .nil⟩
    | _ => none) (fun _ => none) (fun
    | 4 => some ⟨⟨[3, 0], (.dat (.int .i64) (.dat .str .nil)), .nil⟩, (.more .ret ⟨[2], (.dat .bool .nil), .nil⟩ (.one (.exit 0) ⟨[], .nil, .nil⟩))⟩
    | _ => none) (fun _ _ => 0)
  | _ => {}

theorem ok89 : Abs.SpecOK Tryd.prog 89 sp89 :=
  Abs.specOC_of (C := ctab) (mv := mvtab) ctab_ok (n := 12) (an := an89) (T := Abs.tabOf []) good foll (Abs.tabOf_ok _ (fun _ h => by cases h)) rfl (by intro v; kernel_rfl)

def l90_0_4 (v : ((Int × ByteArray × Unit) × (Unit))) : Option (((Int × ByteArray × Unit) × (Unit)) ⊕ (Y13 ⊕ ((Unit) × (Unit)))) :=
bif (decide ((v.1.1 : Int) < (v.1.2.1.size : Int))) then (((bif (decide ((0 : Int) ≤ v.1.1 ∧ (v.1.1 : Int) < v.1.2.1.size)) then
let x27 := (decide (((((v.1.2.1[v.1.1.toNat]?.getD 0).toNat : Nat) : Int) : Int) < 32))
bif x27 then (some ((true, (v.1.2.1, (v.1.1, ()))), ()))
else (bif (decide ((0 : Int) ≤ v.1.1 ∧ (v.1.1 : Int) < v.1.2.1.size)) then
let x28 := (decide (((((v.1.2.1[v.1.1.toNat]?.getD 0).toNat : Nat) : Int) : Int) > 126))
some ((x28, (v.1.2.1, (v.1.1, ()))), ())
else none)
else none) : Option ((Bool × ByteArray × Int × Unit) × (Unit))).bind fun v29 =>
bif v29.1.1 then (some (.inr (.inl ((false, ()), ()))))
else (some (.inl (((w64 (v29.1.2.2.1 + 1)), (v29.1.2.1, ())), ()))))
else (some (.inr (.inr ((), ()))))

/- pagewatch/pagewatchref20.value -/
def i90 : Abs.Sg := ⟨[0], (.dat .str .nil), .nil⟩

def o90 : Abs.Sg := ⟨[2], (.dat .bool .nil), .nil⟩

def m90 (v : Y18) : Option Y13 :=
bif (decide (((v.1.1.size : Int) : Int) > 64)) then (some ((false, ()), ()))
else ((loopT l90_0_4 ((0, (v.1.1, ())), ())).bind fun d30 =>
sumE d30 (fun d31 => (some ((d31.1.1, ()), ()))) (fun d32 => (some ((true, ()), ()))))

def sp90 : Abs.Spec := ⟨0, i90, o90, m90⟩

def an90 : Nat → Abs.FAn
  | 0 => Abs.FAn.mk (fun
    | 6 => some ⟨[22, 0, 3], (.dat .bool (.dat .str (.dat (.int .i64) .nil))), .nil⟩
    | _ => none) (fun _ => none) (fun
    | 4 => some ⟨⟨[3, 0], (.dat (.int .i64) (.dat .str .nil)), .nil⟩, (.more .ret ⟨[2], (.dat .bool .nil), .nil⟩ (.one (.exit 0) ⟨[], .nil, .nil⟩))⟩
    | _ => none) (fun _ _ => 0)
  | _ => {}

theorem ok90 : Abs.SpecOK Tryd.prog 90 sp90 :=
  Abs.specOC_of (C := ctab) (mv := mvtab) ctab_ok (n := 12) (an := an90) (T := Abs.tabOf []) good foll (Abs.tabOf_ok _ (fun _ h => by cases h)) rfl (by intro v; kernel_rfl)

def l43_0_4 (v : ((Int × Y4 × Unit) × (Unit))) : Option (((Int × Y4 × Unit) × (Unit)) ⊕ (Y13 ⊕ ((Unit) × (Unit)))) :=
let x59 := (decide ((v.1.1 : Int) < (v.1.2.1.length : Int)))
bif x59 then (((Abs.rowAt v.1.2.1 v.1.1 fun e60 _ =>
(m89 ((e60.1, ()), ())).bind fun u61 =>
bif (!u61.1.1) then (some ((true, (v.1.2.1, (v.1.1, ()))), ()))
else (Abs.rowAt v.1.2.1 v.1.1 fun e62 _ =>
(m90 ((e62.2.1, ()), ())).bind fun u63 =>
bif (!u63.1.1) then (some ((true, (v.1.2.1, (v.1.1, ()))), ()))
else (Abs.rowAt v.1.2.1 v.1.1 fun e64 _ =>
bif (e64.2.1.toList == ByteArray.empty.toList) then (some ((true, (v.1.2.1, (v.1.1, ()))), ()))
else (bif (decide ((v.1.1 : Int) > 0)) then (Abs.rowAt v.1.2.1 v.1.1 fun e65 _ =>
Abs.rowAt v.1.2.1 (w64 (v.1.1 - 1)) fun e66 _ =>
some (((Op.bytesLess e65.1.toList e66.1.toList || e65.1.toList == e66.1.toList), (v.1.2.1, (v.1.1, ()))), ()))
else (some ((false, (v.1.2.1, (v.1.1, ()))), ())))))) : Option ((Bool × Y4 × Int × Unit) × (Unit))).bind fun v67 =>
bif v67.1.1 then (some (.inr (.inl ((false, ()), ()))))
else (some (.inl (((w64 (v67.1.2.2.1 + 1)), (v67.1.2.1, ())), ()))))
else (some (.inr (.inr ((), ()))))

/- pagewatch/pagewatchref20.Valid -/
def i43 : Abs.Sg := ⟨[0], (.dat (.row Z7) .nil), .nil⟩

def o43 : Abs.Sg := ⟨[2], (.dat .bool .nil), .nil⟩

def m43 (v : ((Y4 × Unit) × (Unit))) : Option Y13 :=
bif (decide (((v.1.1.length : Int) : Int) > 12)) then (some ((false, ()), ()))
else ((loopT l43_0_4 ((0, (v.1.1, ())), ())).bind fun d68 =>
sumE d68 (fun d69 => (some ((d69.1.1, ()), ()))) (fun d70 => (some ((true, ()), ()))))

def sp43 : Abs.Spec := ⟨0, i43, o43, m43⟩

def an43 : Nat → Abs.FAn
  | 0 => Abs.FAn.mk (fun
    | 6 => some ⟨[54, 0, 3], (.dat .bool (.dat (.row Z7) (.dat (.int .i64) .nil))), .nil⟩
    | _ => none) (fun _ => none) (fun
    | 4 => some ⟨⟨[3, 0], (.dat (.int .i64) (.dat (.row Z7) .nil)), .nil⟩, (.more .ret ⟨[2], (.dat .bool .nil), .nil⟩ (.one (.exit 0) ⟨[], .nil, .nil⟩))⟩
    | _ => none) (fun _ _ => 0)
  | _ => {}

theorem ok43 : Abs.SpecOK Tryd.prog 43 sp43 :=
  Abs.specOC_of (C := ctab) (mv := mvtab) ctab_ok (n := 12) (an := an43) (T := Abs.tabOf [(89, sp89), (90, sp90)]) good foll (Abs.tabOf_ok _ (by simp only [List.forall_mem_cons]; exact ⟨ok89, ok90, fun _ h => by cases h⟩)) rfl (by intro v; kernel_rfl)

def l93_0_3 (v : ((Int × ByteArray × ByteArray × Unit) × (Unit))) : Option (((Int × ByteArray × ByteArray × Unit) × (Unit)) ⊕ Y18) :=
bif (decide ((v.1.1 : Int) < (v.1.2.1.size : Int))) then (((((bif (decide ((0 : Int) ≤ v.1.1 ∧ (v.1.1 : Int) < v.1.2.1.size)) then
let x35 := (((((v.1.2.1[v.1.1.toNat]?.getD 0).toNat : Nat) : Int) : Int) == 34)
bif x35 then (some ((true, (v.1.2.1, (v.1.1, (v.1.2.2.1, ())))), ()))
else (bif (decide ((0 : Int) ≤ v.1.1 ∧ (v.1.1 : Int) < v.1.2.1.size)) then
let x36 := (((((v.1.2.1[v.1.1.toNat]?.getD 0).toNat : Nat) : Int) : Int) == 92)
some ((x36, (v.1.2.1, (v.1.1, (v.1.2.2.1, ())))), ())
else none)
else none) : Option ((Bool × ByteArray × Int × ByteArray × Unit) × (Unit))).bind fun v37 =>
bif v37.1.1 then (bif (decide (v37.1.2.2.2.1.size + 1 ≤ 4294967296)) then
some ((v37.1.2.1, (v37.1.2.2.1, ((v37.1.2.2.2.1 ++ (bs [92])), ()))), ())
else none)
else (some ((v37.1.2.1, (v37.1.2.2.1, (v37.1.2.2.2.1, ()))), ()))) : Option (Y12 × (Unit))).bind fun v38 =>
bif (decide ((0 : Int) ≤ v38.1.2.1)) then
bif (decide ((0 : Int) ≤ (w64 (v38.1.2.1 + 1)))) then
bif (decide (v38.1.2.1.toNat ≤ (w64 (v38.1.2.1 + 1)).toNat ∧ (w64 (v38.1.2.1 + 1)).toNat ≤ v38.1.1.size)) then
let x39 := (v38.1.1.extract v38.1.2.1.toNat (w64 (v38.1.2.1 + 1)).toNat)
bif (decide (v38.1.2.2.1.size + x39.size ≤ 4294967296)) then
some (.inl (((w64 (v38.1.2.1 + 1)), (v38.1.1, ((v38.1.2.2.1 ++ x39), ()))), ()))
else none
else none
else none
else none)
else (some (.inr ((v.1.2.2.1, ()), ())))

/- pagewatch/pagewatchref20.quote -/
def i93 : Abs.Sg := ⟨[0], (.dat .str .nil), .nil⟩

def o93 : Abs.Sg := ⟨[2], (.dat .str .nil), .nil⟩

def m93 (v : Y18) : Option Y18 :=
(loopT l93_0_3 ((0, (v.1.1, ((bs [34]), ()))), ())).bind fun d40 =>
bif (decide (d40.1.1.size + 1 ≤ 4294967296)) then
some (((d40.1.1 ++ (bs [34])), ()), ())
else none

def sp93 : Abs.Spec := ⟨0, i93, o93, m93⟩

def an93 : Nat → Abs.FAn
  | 0 => Abs.FAn.mk (fun
    | 5 => some ⟨[20, 0, 4, 3], (.dat .bool (.dat .str (.dat (.int .i64) (.dat .str .nil)))), .nil⟩
    | _ => none) (fun
    | 7 => some (⟨[0, 4, 3], (.dat .str (.dat (.int .i64) (.dat .str .nil))), .nil⟩, none)
    | _ => none) (fun
    | 3 => some ⟨⟨[4, 0, 3], (.dat (.int .i64) (.dat .str (.dat .str .nil))), .nil⟩, (.one (.exit 0) ⟨[3], (.dat .str .nil), .nil⟩)⟩
    | _ => none) (fun _ _ => 0)
  | _ => {}

theorem ok93 : Abs.SpecOK Tryd.prog 93 sp93 :=
  Abs.specOC_of (C := ctab) (mv := mvtab) ctab_ok (n := 12) (an := an93) (T := Abs.tabOf []) good foll (Abs.tabOf_ok _ (fun _ h => by cases h)) rfl (by intro v; kernel_rfl)

def l41_0_5 (v : ((Int × Y4 × ByteArray × Unit) × (Unit))) : Option (((Int × Y4 × ByteArray × Unit) × (Unit)) ⊕ Y18) :=
let x36 := (decide ((v.1.1 : Int) < (v.1.2.1.length : Int)))
bif x36 then (((bif (decide ((v.1.1 : Int) > 0)) then (bif (decide (v.1.2.2.1.size + 1 ≤ 4294967296)) then
some ((v.1.2.1, (v.1.1, ((v.1.2.2.1 ++ (bs [44])), ()))), ())
else none)
else (some ((v.1.2.1, (v.1.1, (v.1.2.2.1, ()))), ()))) : Option ((Y4 × Int × ByteArray × Unit) × (Unit))).bind fun v37 =>
Abs.rowAt v37.1.1 v37.1.2.1 fun e38 _ =>
bif (decide (e38.1.size + 1 ≤ 4294967296)) then
Abs.rowAt v37.1.1 v37.1.2.1 fun e39 _ =>
(m93 ((e39.2.1, ()), ())).bind fun u40 =>
bif (decide ((e38.1 ++ (bs [61])).size + u40.1.1.size ≤ 4294967296)) then
bif (decide (v37.1.2.2.1.size + ((e38.1 ++ (bs [61])) ++ u40.1.1).size ≤ 4294967296)) then
let x41 := (v37.1.2.2.1 ++ ((e38.1 ++ (bs [61])) ++ u40.1.1))
some (.inl (((w64 (v37.1.2.1 + 1)), (v37.1.1, (x41, ()))), ()))
else none
else none
else none)
else (some (.inr ((v.1.2.2.1, ()), ())))

/- pagewatch/pagewatchref20.Text -/
def i41 : Abs.Sg := ⟨[0], (.dat (.row Z7) .nil), .nil⟩

def o41 : Abs.Sg := ⟨[2], (.dat .str .nil), .nil⟩

def m41 (v : ((Y4 × Unit) × (Unit))) : Option Y18 :=
(m43 ((v.1.1, ()), ())).bind fun u35 =>
bif (!u35.1.1) then (some ((ByteArray.empty, ()), ()))
else ((loopT l41_0_5 ((0, (v.1.1, ((bs [123]), ()))), ())).bind fun d42 =>
bif (decide (d42.1.1.size + 1 ≤ 4294967296)) then
some (((d42.1.1 ++ (bs [125])), ()), ())
else none)

def sp41 : Abs.Spec := ⟨0, i41, o41, m41⟩

def an41 : Nat → Abs.FAn
  | 0 => Abs.FAn.mk (fun _ => none) (fun
    | 9 => some (⟨[0, 4, 3], (.dat (.row Z7) (.dat (.int .i64) (.dat .str .nil))), .nil⟩, none)
    | _ => none) (fun
    | 5 => some ⟨⟨[4, 0, 3], (.dat (.int .i64) (.dat (.row Z7) (.dat .str .nil))), .nil⟩, (.one (.exit 0) ⟨[3], (.dat .str .nil), .nil⟩)⟩
    | _ => none) (fun _ _ => 0)
  | _ => {}

theorem ok41 : Abs.SpecOK Tryd.prog 41 sp41 :=
  Abs.specOC_of (C := ctab) (mv := mvtab) ctab_ok (n := 12) (an := an41) (T := Abs.tabOf [(43, sp43), (93, sp93)]) good foll (Abs.tabOf_ok _ (by simp only [List.forall_mem_cons]; exact ⟨ok43, ok93, fun _ h => by cases h⟩)) rfl (by intro v; kernel_rfl)

def l44_0_2 (v : ((Int × Y4 × ByteArray × Unit) × (Unit))) : Option (((Int × Y4 × ByteArray × Unit) × (Unit)) ⊕ (Y18 ⊕ ((Unit) × (Unit)))) :=
let x23 := (decide ((v.1.1 : Int) < (v.1.2.1.length : Int)))
bif x23 then (Abs.rowAt v.1.2.1 v.1.1 fun e24 _ =>
bif (e24.1.toList == v.1.2.2.1.toList) then (Abs.rowAt v.1.2.1 v.1.1 fun e25 _ =>
some (.inr (.inl ((e25.2.1, ()), ()))))
else (some (.inl (((w64 (v.1.1 + 1)), (v.1.2.1, (v.1.2.2.1, ()))), ()))))
else (some (.inr (.inr ((), ()))))

/- pagewatch/pagewatchref20.Get -/
def i44 : Abs.Sg := ⟨[0, 1], (.dat (.row Z7) (.dat .str .nil)), .nil⟩

def o44 : Abs.Sg := ⟨[4], (.dat .str .nil), .nil⟩

def m44 (v : ((Y4 × ByteArray × Unit) × (Unit))) : Option Y18 :=
(loopT l44_0_2 ((0, (v.1.1, (v.1.2.1, ()))), ())).bind fun d26 =>
sumE d26 (fun d27 => (some ((d27.1.1, ()), ()))) (fun d28 => (some ((ByteArray.empty, ()), ())))

def sp44 : Abs.Spec := ⟨0, i44, o44, m44⟩

def an44 : Nat → Abs.FAn
  | 0 => Abs.FAn.mk (fun _ => none) (fun _ => none) (fun
    | 2 => some ⟨⟨[5, 0, 1], (.dat (.int .i64) (.dat (.row Z7) (.dat .str .nil))), .nil⟩, (.more .ret ⟨[4], (.dat .str .nil), .nil⟩ (.one (.exit 0) ⟨[], .nil, .nil⟩))⟩
    | _ => none) (fun _ _ => 0)
  | _ => {}

theorem ok44 : Abs.SpecOK Tryd.prog 44 sp44 :=
  Abs.specOC_of (C := ctab) (mv := mvtab) ctab_ok (n := 12) (an := an44) (T := Abs.tabOf []) good foll (Abs.tabOf_ok _ (fun _ h => by cases h)) rfl (by intro v; kernel_rfl)

def l140_0_2 (v : ((Int × (List ByteArray) × ByteArray × Int × Unit) × (Unit))) : Option (((Int × (List ByteArray) × ByteArray × Int × Unit) × (Unit)) ⊕ (((Int × Unit) × (Unit)) ⊕ ((Unit) × (Unit)))) :=
bif (decide ((v.1.1 : Int) < v.1.2.2.2.1)) then (Abs.rowAt v.1.2.1 v.1.1 fun e13 _ =>
bif (v.1.2.2.1.toList == e13.toList) then (some (.inr (.inl ((v.1.1, ()), ()))))
else (some (.inl (((w64 (v.1.1 + 1)), (v.1.2.1, (v.1.2.2.1, (v.1.2.2.2.1, ())))), ()))))
else (some (.inr (.inr ((), ()))))

/- slices.Index[[]string,string] -/
def i140 : Abs.Sg := ⟨[0, 1], (.dat (.row .str) (.dat .str .nil)), .nil⟩

def o140 : Abs.Sg := ⟨[4], (.dat (.int .i64) .nil), .nil⟩

def m140 (v : (((List ByteArray) × ByteArray × Unit) × (Unit))) : Option ((Int × Unit) × (Unit)) :=
(loopT l140_0_2 ((0, (v.1.1, (v.1.2.1, ((v.1.1.length : Int), ())))), ())).bind fun d14 =>
sumE d14 (fun d15 => (some ((d15.1.1, ()), ()))) (fun d16 => (some (((-1), ()), ())))

def sp140 : Abs.Spec := ⟨0, i140, o140, m140⟩

def an140 : Nat → Abs.FAn
  | 0 => Abs.FAn.mk (fun _ => none) (fun _ => none) (fun
    | 2 => some ⟨⟨[8, 0, 1, 7], (.dat (.int .i64) (.dat (.row .str) (.dat .str (.dat (.int .i64) .nil)))), .nil⟩, (.more .ret ⟨[4], (.dat (.int .i64) .nil), .nil⟩ (.one (.exit 0) ⟨[], .nil, .nil⟩))⟩
    | _ => none) (fun _ _ => 0)
  | _ => {}

theorem ok140 : Abs.SpecOK Tryd.prog 140 sp140 :=
  Abs.specOC_of (C := ctab) (mv := mvtab) ctab_ok (n := 12) (an := an140) (T := Abs.tabOf []) good foll (Abs.tabOf_ok _ (fun _ h => by cases h)) rfl (by intro v; kernel_rfl)

/- slices.Contains[[]string,string] -/
def i107 : Abs.Sg := ⟨[0, 1], (.dat (.row .str) (.dat .str .nil)), .nil⟩

def o107 : Abs.Sg := ⟨[4], (.dat .bool .nil), .nil⟩

def m107 (v : (((List ByteArray) × ByteArray × Unit) × (Unit))) : Option Y13 :=
(m140 ((v.1.1, (v.1.2.1, ())), ())).bind fun u2 =>
some (((decide ((u2.1.1 : Int) ≥ 0)), ()), ())

def sp107 : Abs.Spec := ⟨0, i107, o107, m107⟩

def an107 : Nat → Abs.FAn
  | _ => {}

theorem ok107 : Abs.SpecOK Tryd.prog 107 sp107 :=
  Abs.specOC_of (C := ctab) (mv := mvtab) ctab_ok (n := 12) (an := an107) (T := Abs.tabOf [(140, sp140)]) good foll (Abs.tabOf_ok _ (by simp only [List.forall_mem_cons]; exact ⟨ok140, fun _ h => by cases h⟩)) rfl (by intro v; kernel_rfl)

def l45_0_3 (v : ((Int × (List ByteArray) × Y4 × Int × Unit) × (Y4 × Unit))) : Option (((Int × (List ByteArray) × Y4 × Int × Unit) × (Y4 × Unit)) ⊕ ((Unit) × (Y4 × Unit))) :=
bif (decide ((v.1.1 : Int) < v.1.2.2.2.1)) then (((Abs.rowAt v.1.2.2.1 v.1.1 fun e23 _ =>
(m107 ((v.1.2.1, (e23.1, ())), ())).bind fun u24 =>
bif u24.1.1 then (bif (decide (v.2.1.length + ([e23] : List Y15).length ≤ 4294967296)) then
let x25 := (v.2.1 ++ ([e23] : List Y15))
some ((v.1.2.1, (v.1.2.2.1, (v.1.2.2.2.1, (v.1.1, ())))), (x25, ()))
else none)
else (some ((v.1.2.1, (v.1.2.2.1, (v.1.2.2.2.1, (v.1.1, ())))), (v.2.1, ())))) : Option (((List ByteArray) × Y4 × Int × Int × Unit) × (Y4 × Unit))).bind fun v26 =>
some (.inl (((w64 (v26.1.2.2.2.1 + 1)), (v26.1.1, (v26.1.2.1, (v26.1.2.2.1, ())))), (v26.2.1, ()))))
else (some (.inr ((), (v.2.1, ()))))

/- pagewatch/label.Pick -/
def i45 : Abs.Sg := ⟨[0, 1], (.dat (.row Z7) (.dat (.row .str) .nil)), .nil⟩

def o45 : Abs.Sg := ⟨[4], (.st (.own Z7 (0, 0)) .nil), (.arr Z7 false .nil)⟩

def m45 (v : ((Y4 × (List ByteArray) × Unit) × (Unit))) : Option ((Unit) × (Y4 × Unit)) :=
(loopT l45_0_3 ((0, (v.1.2.1, (v.1.1, ((v.1.1.length : Int), ())))), ([], ()))).bind fun d27 =>
some ((), (d27.2.1, ()))

def sp45 : Abs.Spec := ⟨0, i45, o45, m45⟩

def an45 : Nat → Abs.FAn
  | 0 => Abs.FAn.mk (fun _ => none) (fun
    | 7 => some (⟨[5, 1, 8, 9, 10], (.st (.own Z7 (0, 0)) (.dat (.row .str) (.dat (.row Z7) (.dat (.int .i64) (.dat (.int .i64) .nil))))), (.arr Z7 false .nil)⟩, none)
    | _ => none) (fun
    | 3 => some ⟨⟨[10, 5, 1, 8, 9], (.dat (.int .i64) (.st (.own Z7 (0, 0)) (.dat (.row .str) (.dat (.row Z7) (.dat (.int .i64) .nil))))), (.arr Z7 false .nil)⟩, (.one (.exit 0) ⟨[5], (.st (.own Z7 (0, 0)) .nil), (.arr Z7 false .nil)⟩)⟩
    | _ => none) (fun _ _ => 0)
  | _ => {}

theorem ok45 : Abs.SpecOK Tryd.prog 45 sp45 :=
  Abs.specOC_of (C := ctab) (mv := mvtab) ctab_ok (n := 12) (an := an45) (T := Abs.tabOf [(107, sp107)]) good foll (Abs.tabOf_ok _ (by simp only [List.forall_mem_cons]; exact ⟨ok107, fun _ h => by cases h⟩)) rfl (by intro v; kernel_rfl)

def l46_0_6 (v : ((Y4 × (List ByteArray) × Int × Int × Unit) × (Y4 × Unit))) : Option (((Y4 × (List ByteArray) × Int × Int × Unit) × (Y4 × Unit)) ⊕ ((Y4 × (List ByteArray) × Int × Unit) × (Y4 × Unit))) :=
let x51 := (decide ((v.1.2.2.2.1 : Int) < (v.1.2.1.length : Int)))
bif x51 then (Abs.rowAt v.1.2.1 v.1.2.2.2.1 fun e52 _ =>
Abs.rowAt v.1.1 v.1.2.2.1 fun e53 _ =>
bif (e52.toList == e53.1.toList) then (Abs.rowAt v.1.1 v.1.2.2.1 fun e54 _ =>
bif (decide (v.2.1.length + ([e54] : List Y15).length ≤ 4294967296)) then
let x55 := (v.2.1 ++ ([e54] : List Y15))
some (.inr ((v.1.1, (v.1.2.1, (v.1.2.2.1, ()))), (x55, ())))
else none)
else (some (.inl ((v.1.1, (v.1.2.1, (v.1.2.2.1, ((w64 (v.1.2.2.2.1 + 1)), ())))), (v.2.1, ())))))
else (some (.inr ((v.1.1, (v.1.2.1, (v.1.2.2.1, ()))), (v.2.1, ()))))

def l46_0_3 (v : ((Int × Y4 × (List ByteArray) × Unit) × (Y4 × Unit))) : Option (((Int × Y4 × (List ByteArray) × Unit) × (Y4 × Unit)) ⊕ ((Unit) × (Y4 × Unit))) :=
let x50 := (decide ((v.1.1 : Int) < (v.1.2.1.length : Int)))
bif x50 then ((loopT l46_0_6 ((v.1.2.1, (v.1.2.2.1, (v.1.1, (0, ())))), (v.2.1, ()))).bind fun d56 =>
some (.inl (((w64 (d56.1.2.2.1 + 1)), (d56.1.1, (d56.1.2.1, ()))), (d56.2.1, ()))))
else (some (.inr ((), (v.2.1, ()))))

/- pagewatch/pagewatchref20.Pick -/
def i46 : Abs.Sg := ⟨[0, 1], (.dat (.row Z7) (.dat (.row .str) .nil)), .nil⟩

def o46 : Abs.Sg := ⟨[4], (.st (.own Z7 (0, 0)) .nil), (.arr Z7 false .nil)⟩

def m46 (v : ((Y4 × (List ByteArray) × Unit) × (Unit))) : Option ((Unit) × (Y4 × Unit)) :=
(loopT l46_0_3 ((0, (v.1.1, (v.1.2.1, ()))), ([], ()))).bind fun d57 =>
some ((), (d57.2.1, ()))

def sp46 : Abs.Spec := ⟨0, i46, o46, m46⟩

def an46 : Nat → Abs.FAn
  | 0 => Abs.FAn.mk (fun _ => none) (fun _ => none) (fun
    | 3 => some ⟨⟨[6, 0, 5, 1], (.dat (.int .i64) (.dat (.row Z7) (.st (.own Z7 (0, 0)) (.dat (.row .str) .nil)))), (.arr Z7 false .nil)⟩, (.one (.exit 0) ⟨[5], (.st (.own Z7 (0, 0)) .nil), (.arr Z7 false .nil)⟩)⟩
    | 6 => some ⟨⟨[0, 1, 6, 5, 7], (.dat (.row Z7) (.dat (.row .str) (.dat (.int .i64) (.st (.own Z7 (0, 0)) (.dat (.int .i64) .nil))))), (.arr Z7 false .nil)⟩, (.one (.exit 2) ⟨[0, 5, 1, 6], (.dat (.row Z7) (.st (.own Z7 (0, 0)) (.dat (.row .str) (.dat (.int .i64) .nil)))), (.arr Z7 false .nil)⟩)⟩
    | _ => none) (fun _ _ => 0)
  | _ => {}

theorem ok46 : Abs.SpecOK Tryd.prog 46 sp46 :=
  Abs.specOC_of (C := ctab) (mv := mvtab) ctab_ok (n := 12) (an := an46) (T := Abs.tabOf []) good foll (Abs.tabOf_ok _ (fun _ h => by cases h)) rfl (by intro v; kernel_rfl)

/- pagewatch/route.wrong -/
def i141 : Abs.Sg := ⟨[0], (.dat Z5 .nil), .nil⟩

def o141 : Abs.Sg := ⟨[2], (.dat .bool .nil), .nil⟩

def m141 (v : ((Y12 × Unit) × (Unit))) : Option Y13 :=
(m22 ((v.1.1, ()), ())).bind fun u2 =>
some (((!u2.1.1), ()), ())

def sp141 : Abs.Spec := ⟨0, i141, o141, m141⟩

def an141 : Nat → Abs.FAn
  | _ => {}

theorem ok141 : Abs.SpecOK Tryd.prog 141 sp141 :=
  Abs.specOC_of (C := ctab) (mv := mvtab) ctab_ok (n := 12) (an := an141) (T := Abs.tabOf [(22, sp22)]) good foll (Abs.tabOf_ok _ (by simp only [List.forall_mem_cons]; exact ⟨ok22, fun _ h => by cases h⟩)) rfl (by intro v; kernel_rfl)

/- pagewatch/label.KeyIs -/
def i158 : Abs.Sg := ⟨[0], (.dat .str .nil), .nil⟩

def o158 : Abs.Sg := ⟨[2], (.dat .bool .nil), .nil⟩

def m158 (v : Y18) : Option Y13 :=
(m87 ((v.1.1, ()), ())).bind fun u2 =>
some ((u2.1.1, ()), ())

def sp158 : Abs.Spec := ⟨0, i158, o158, m158⟩

def an158 : Nat → Abs.FAn
  | _ => {}

theorem ok158 : Abs.SpecOK Tryd.prog 158 sp158 :=
  Abs.specOC_of (C := ctab) (mv := mvtab) ctab_ok (n := 12) (an := an158) (T := Abs.tabOf [(87, sp87)]) good foll (Abs.tabOf_ok _ (by simp only [List.forall_mem_cons]; exact ⟨ok87, fun _ h => by cases h⟩)) rfl (by intro v; kernel_rfl)

def l142_0_2 (v : ((Int × (List ByteArray) × (List ByteArray) × Int × Unit) × (Unit))) : Option (((Int × (List ByteArray) × (List ByteArray) × Int × Unit) × (Unit)) ⊕ (Y13 ⊕ ((Unit) × (Unit)))) :=
bif (decide ((v.1.1 : Int) < v.1.2.2.2.1)) then (Abs.rowAt v.1.2.2.1 v.1.1 fun e30 _ =>
(((m158 ((e30, ()), ())).bind fun u31 =>
bif (!u31.1.1) then (some ((true, (v.1.2.1, (v.1.2.2.1, (v.1.2.2.2.1, (v.1.1, ()))))), ()))
else (bif (decide ((v.1.1 : Int) > 0)) then (Abs.rowAt v.1.2.1 (w64 (v.1.1 - 1)) fun e32 _ =>
some (((Op.bytesLess e30.toList e32.toList || e30.toList == e32.toList), (v.1.2.1, (v.1.2.2.1, (v.1.2.2.2.1, (v.1.1, ()))))), ()))
else (some ((false, (v.1.2.1, (v.1.2.2.1, (v.1.2.2.2.1, (v.1.1, ()))))), ())))) : Option ((Bool × (List ByteArray) × (List ByteArray) × Int × Int × Unit) × (Unit))).bind fun v33 =>
bif v33.1.1 then (some (.inr (.inl ((false, ()), ()))))
else (some (.inl (((w64 (v33.1.2.2.2.2.1 + 1)), (v33.1.2.1, (v33.1.2.2.1, (v33.1.2.2.2.1, ())))), ()))))
else (some (.inr (.inr ((), ()))))

/- pagewatch/route.Keys -/
def i142 : Abs.Sg := ⟨[0], (.dat (.row .str) .nil), .nil⟩

def o142 : Abs.Sg := ⟨[2], (.dat .bool .nil), .nil⟩

def m142 (v : (((List ByteArray) × Unit) × (Unit))) : Option Y13 :=
(loopT l142_0_2 ((0, (v.1.1, (v.1.1, ((v.1.1.length : Int), ())))), ())).bind fun d34 =>
sumE d34 (fun d35 => (some ((d35.1.1, ()), ()))) (fun d36 => (some ((true, ()), ())))

def sp142 : Abs.Spec := ⟨0, i142, o142, m142⟩

def an142 : Nat → Abs.FAn
  | 0 => Abs.FAn.mk (fun
    | 4 => some ⟨[27, 0, 5, 6, 7], (.dat .bool (.dat (.row .str) (.dat (.row .str) (.dat (.int .i64) (.dat (.int .i64) .nil))))), .nil⟩
    | _ => none) (fun _ => none) (fun
    | 2 => some ⟨⟨[7, 0, 5, 6], (.dat (.int .i64) (.dat (.row .str) (.dat (.row .str) (.dat (.int .i64) .nil)))), .nil⟩, (.more .ret ⟨[2], (.dat .bool .nil), .nil⟩ (.one (.exit 0) ⟨[], .nil, .nil⟩))⟩
    | _ => none) (fun _ _ => 0)
  | _ => {}

theorem ok142 : Abs.SpecOK Tryd.prog 142 sp142 :=
  Abs.specOC_of (C := ctab) (mv := mvtab) ctab_ok (n := 12) (an := an142) (T := Abs.tabOf [(158, sp158)]) good foll (Abs.tabOf_ok _ (by simp only [List.forall_mem_cons]; exact ⟨ok158, fun _ h => by cases h⟩)) rfl (by intro v; kernel_rfl)

def l109_2_2 (v : ((Int × Y3 × Int × Unit) × (Unit))) : Option (((Int × Y3 × Int × Unit) × (Unit)) ⊕ (((Int × Unit) × (Unit)) ⊕ ((Unit) × (Unit)))) :=
bif (decide ((v.1.1 : Int) < v.1.2.2.1)) then (Abs.rowAt v.1.2.1 v.1.1 fun e83 _ =>
(m141 ((e83, ()), ())).bind fun u84 =>
bif u84.1.1 then (some (.inr (.inl ((v.1.1, ()), ()))))
else (some (.inl (((w64 (v.1.1 + 1)), (v.1.2.1, (v.1.2.2.1, ()))), ()))))
else (some (.inr (.inr ((), ()))))

/- pagewatch/route.check -/
def i109 : Abs.Sg := ⟨[0, 1], (.dat Z2 (.dat (.int .i64) .nil)), .nil⟩

def o109 : Abs.Sg := ⟨[4], (.dat (.int .i64) .nil), .nil⟩

def m109 (v : ((Y6 × Int × Unit) × (Unit))) : Option ((Int × Unit) × (Unit)) :=
((bif ((v.1.2.1 : Int) == 0) then (bif ((v.1.1.1 : Int) != (-1)) then (some ((true, ()), ((v.1.1, ()), ())))
else (bif (decide ((v.1.2.1 : Int) > 0)) then (bif (decide ((v.1.1.1 : Int) < 0)) then (some ((true, ()), ((v.1.1, ()), ())))
else (some (((decide ((v.1.1.1 : Int) ≥ v.1.2.1)), ()), ((v.1.1, ()), ()))))
else (some ((false, ()), ((v.1.1, ()), ())))))
else (bif (decide ((v.1.2.1 : Int) > 0)) then (bif (decide ((v.1.1.1 : Int) < 0)) then (some ((true, ()), ((v.1.1, ()), ())))
else (some (((decide ((v.1.1.1 : Int) ≥ v.1.2.1)), ()), ((v.1.1, ()), ()))))
else (some ((false, ()), ((v.1.1, ()), ()))))) : Option ((Bool × Unit) × ((Y6 × Unit) × Unit))).bind fun v79 =>
bif v79.1.1 then (some ((3, ()), ()))
else (((let x80 := (decide (((v79.2.1.1.2.1.length : Int) : Int) > 8))
bif x80 then (some ((true, ()), ((v79.2.1.1, ()), ())))
else (let x81 := (decide (((v79.2.1.1.2.2.2.1.length : Int) : Int) > 12))
some ((x81, ()), ((v79.2.1.1, ()), ())))) : Option ((Bool × Unit) × ((Y6 × Unit) × Unit))).bind fun v82 =>
bif v82.1.1 then (some ((5, ()), ()))
else ((((((loopT l109_2_2 ((0, (v82.2.1.1.2.1, ((v82.2.1.1.2.1.length : Int), ()))), ())).bind fun d85 =>
sumE d85 (fun d86 => (some (((decide ((d86.1.1 : Int) ≥ 0)), ()), ()))) (fun d87 => (some ((false, ()), ())))) : Option Y13).bind fun v88 =>
bif v88.1.1 then (some ((true, ()), ((v82.2.1.1, ()), ())))
else ((m142 ((v82.2.1.1.2.2.2.1, ()), ())).bind fun u89 =>
some (((!u89.1.1), ()), ((v82.2.1.1, ()), ())))) : Option ((Bool × Unit) × ((Y6 × Unit) × Unit))).bind fun v90 =>
bif v90.1.1 then (some ((8, ()), ()))
else (((bif (decide ((v90.2.1.1.2.2.1 : Int) < 0)) then (some ((true, ()), ()))
else (bif (decide ((v90.2.1.1.2.2.2.2.1 : Int) < 0)) then (some ((true, ()), ()))
else (let x91 := (decide ((v90.2.1.1.2.2.2.2.1 : Int) > v90.2.1.1.2.2.2.2.2.1))
bif x91 then (some ((true, ()), ()))
else (let x92 := (decide ((v90.2.1.1.2.2.2.2.2.1 : Int) > v90.2.1.1.2.2.2.2.2.2.1))
bif x92 then (some ((true, ()), ()))
else (let x93 := (decide ((v90.2.1.1.2.2.2.2.2.2.1 : Int) > 604800))
bif x93 then (some ((true, ()), ()))
else (some ((((v90.2.1.1.2.2.2.2.2.2.1 : Int) == 0), ()), ()))))))) : Option Y13).bind fun v94 =>
bif v94.1.1 then (some ((1, ()), ()))
else (some ((0, ()), ())))))

def sp109 : Abs.Spec := ⟨0, i109, o109, m109⟩

def an109 : Nat → Abs.FAn
  | 0 => Abs.FAn.mk (fun
    | 7 => some ⟨[49], (.dat .bool .nil), .nil⟩
    | 5 => some ⟨[39, 2], (.dat .bool (.st (.ptr (0, 0) 8 0 0) .nil)), (.box 8 (.dat Z2 .nil) .nil)⟩
    | 3 => some ⟨[28, 2], (.dat .bool (.st (.ptr (0, 0) 8 0 0) .nil)), (.box 8 (.dat Z2 .nil) .nil)⟩
    | 1 => some ⟨[5, 2], (.dat .bool (.st (.ptr (0, 0) 8 0 0) .nil)), (.box 8 (.dat Z2 .nil) .nil)⟩
    | _ => none) (fun _ => none) (fun _ => none) (fun
    | 5, 2 => 1
    | _, _ => 0)
  | 1 => Abs.FAn.mk (fun
    | 1 => some ⟨[4], (.dat .bool .nil), .nil⟩
    | _ => none) (fun _ => none) (fun _ => none) (fun
    | 1, 2 => 2
    | _, _ => 0)
  | 2 => Abs.FAn.mk (fun _ => none) (fun _ => none) (fun
    | 2 => some ⟨⟨[8, 0, 1, 7], (.dat (.int .i64) (.dat (.row Z5) (.st (.clo 141 []) (.dat (.int .i64) .nil)))), .nil⟩, (.more .ret ⟨[4], (.dat (.int .i64) .nil), .nil⟩ (.one (.exit 0) ⟨[], .nil, .nil⟩))⟩
    | _ => none) (fun _ _ => 0)
  | _ => {}

theorem ok109 : Abs.SpecOK Tryd.prog 109 sp109 :=
  Abs.specOC_of (C := ctab) (mv := mvtab) ctab_ok (n := 12) (an := an109) (T := Abs.tabOf [(141, sp141), (142, sp142)]) good foll (Abs.tabOf_ok _ (by simp only [List.forall_mem_cons]; exact ⟨ok141, ok142, fun _ h => by cases h⟩)) rfl (by intro v; kernel_rfl)

def l49_0_6 (v : ((Int × (List Y6) × (List Y6) × Int × Unit) × (Unit))) : Option (((Int × (List Y6) × (List Y6) × Int × Unit) × (Unit)) ⊕ (((Int × Unit) × (Unit)) ⊕ (((List Y6) × Unit) × (Unit)))) :=
bif (decide ((v.1.1 : Int) < v.1.2.2.2.1)) then (Abs.rowAt v.1.2.1 v.1.1 fun e23 _ =>
(m109 ((e23, (v.1.1, ())), ())).bind fun u24 =>
bif ((u24.1.1 : Int) != 0) then (some (.inr (.inl ((u24.1.1, ()), ()))))
else (some (.inl (((w64 (v.1.1 + 1)), (v.1.2.1, (v.1.2.2.1, (v.1.2.2.2.1, ())))), ()))))
else (some (.inr (.inr ((v.1.2.2.1, ()), ()))))

/- pagewatch/route.Check -/
def i49 : Abs.Sg := ⟨[0], (.dat (.row Z2) .nil), .nil⟩

def o49 : Abs.Sg := ⟨[2], (.dat (.int .i64) .nil), .nil⟩

def m49 (v : (((List Y6) × Unit) × (Unit))) : Option ((Int × Unit) × (Unit)) :=
bif (((v.1.1.length : Int) : Int) == 0) then (some ((7, ()), ()))
else (bif (decide (((v.1.1.length : Int) : Int) > 24)) then (some ((5, ()), ()))
else ((loopT l49_0_6 ((0, (v.1.1, (v.1.1, ((v.1.1.length : Int), ())))), ())).bind fun d25 =>
sumE d25 (fun d26 => (some ((d26.1.1, ()), ()))) (fun d27 => (Abs.rowAt d27.1.1 0 fun e28 _ =>
bif (decide (((e28.2.1.length : Int) : Int) > 0)) then (some ((8, ()), ()))
else (some ((0, ()), ()))))))

def sp49 : Abs.Spec := ⟨0, i49, o49, m49⟩

def an49 : Nat → Abs.FAn
  | 0 => Abs.FAn.mk (fun _ => none) (fun _ => none) (fun
    | 6 => some ⟨⟨[16, 14, 0, 15], (.dat (.int .i64) (.dat (.row Z2) (.dat (.row Z2) (.dat (.int .i64) .nil)))), .nil⟩, (.more .ret ⟨[2], (.dat (.int .i64) .nil), .nil⟩ (.one (.exit 1) ⟨[0], (.dat (.row Z2) .nil), .nil⟩))⟩
    | _ => none) (fun _ _ => 0)
  | _ => {}

theorem ok49 : Abs.SpecOK Tryd.prog 49 sp49 :=
  Abs.specOC_of (C := ctab) (mv := mvtab) ctab_ok (n := 12) (an := an49) (T := Abs.tabOf [(109, sp109)]) good foll (Abs.tabOf_ok _ (by simp only [List.forall_mem_cons]; exact ⟨ok109, fun _ h => by cases h⟩)) rfl (by intro v; kernel_rfl)

def l60_0_3 (v : ((Int × Int × (List Y6) × Int × Unit) × ((List Int) × Unit))) : Option (((Int × Int × (List Y6) × Int × Unit) × ((List Int) × Unit)) ⊕ Y19) :=
bif (decide ((v.1.1 : Int) < v.1.2.2.2.1)) then (((Abs.rowAt v.1.2.2.1 v.1.1 fun e12 _ =>
bif ((e12.1 : Int) == v.1.2.1) then (bif (decide (v.2.1.length + [v.1.1].length ≤ 4294967296)) then
some ((v.1.2.1, (v.1.2.2.1, (v.1.2.2.2.1, (v.1.1, ())))), ((v.2.1 ++ [v.1.1]), ()))
else none)
else (some ((v.1.2.1, (v.1.2.2.1, (v.1.2.2.2.1, (v.1.1, ())))), (v.2.1, ())))) : Option ((Int × (List Y6) × Int × Int × Unit) × ((List Int) × Unit))).bind fun v13 =>
some (.inl (((w64 (v13.1.2.2.2.1 + 1)), (v13.1.1, (v13.1.2.1, (v13.1.2.2.1, ())))), (v13.2.1, ()))))
else (some (.inr ((), (v.2.1, ()))))

/- pagewatch/route.Children -/
def i60 : Abs.Sg := ⟨[0, 1], (.dat (.row Z2) (.dat (.int .i64) .nil)), .nil⟩

def o60 : Abs.Sg := ⟨[4], (.st (.own (.int .i64) (0, 0)) .nil), (.arr (.int .i64) false .nil)⟩

def m60 (v : (((List Y6) × Int × Unit) × (Unit))) : Option Y19 :=
(loopT l60_0_3 ((0, (v.1.2.1, (v.1.1, ((v.1.1.length : Int), ())))), ([], ()))).bind fun d14 =>
some ((), (d14.2.1, ()))

def sp60 : Abs.Spec := ⟨0, i60, o60, m60⟩

def an60 : Nat → Abs.FAn
  | 0 => Abs.FAn.mk (fun _ => none) (fun
    | 7 => some (⟨[5, 1, 8, 9, 10], (.st (.own (.int .i64) (0, 0)) (.dat (.int .i64) (.dat (.row Z2) (.dat (.int .i64) (.dat (.int .i64) .nil))))), (.arr (.int .i64) false .nil)⟩, none)
    | _ => none) (fun
    | 3 => some ⟨⟨[10, 5, 1, 8, 9], (.dat (.int .i64) (.st (.own (.int .i64) (0, 0)) (.dat (.int .i64) (.dat (.row Z2) (.dat (.int .i64) .nil))))), (.arr (.int .i64) false .nil)⟩, (.one (.exit 0) ⟨[5], (.st (.own (.int .i64) (0, 0)) .nil), (.arr (.int .i64) false .nil)⟩)⟩
    | _ => none) (fun _ _ => 0)
  | _ => {}

theorem ok60 : Abs.SpecOK Tryd.prog 60 sp60 :=
  Abs.specOC_of (C := ctab) (mv := mvtab) ctab_ok (n := 12) (an := an60) (T := Abs.tabOf []) good foll (Abs.tabOf_ok _ (fun _ h => by cases h)) rfl (by intro v; kernel_rfl)

def l108_0_3 (rc : (((List Y6) × Int × Y4 × Unit) × (Unit)) → Option Y19) (v : ((Int × Int × (List Y6) × Y4 × Int × Unit) × Y16)) : Option (((Int × Int × (List Y6) × Y4 × Int × Unit) × Y16) ⊕ ((Int × Unit) × ((List Int) × Unit))) :=
bif (decide ((v.1.1 : Int) < v.1.2.2.2.2.1)) then (((bif (decide ((0 : Int) ≤ v.1.1 ∧ (v.1.1 : Int) < v.2.2.1.length)) then
(v.2.2.1[v.1.1.toNat]?).bind fun e47 =>
Abs.rowAt v.1.2.2.1 e47 fun e48 _ =>
(m30 ((e48.2.1, (v.1.2.2.2.1, ())), ())).bind fun u49 =>
bif (!u49.1.1) then (some (.inl ((v.1.2.1, (v.1.2.2.1, (v.1.2.2.2.1, (v.1.2.2.2.2.1, (v.1.1, ()))))), (v.2.1, (v.2.2.1, ())))))
else ((rc ((v.1.2.2.1, (e47, (v.1.2.2.2.1, ()))), ())).bind fun u50 =>
bif (decide (v.2.1.length + u50.2.1.length ≤ 4294967296)) then
Abs.rowAt v.1.2.2.1 e47 fun e51 _ =>
bif (!e51.2.2.2.2.2.2.2.1) then (some (.inr ((v.1.2.1, ()), ((v.2.1 ++ u50.2.1), ()))))
else (some (.inl ((v.1.2.1, (v.1.2.2.1, (v.1.2.2.2.1, (v.1.2.2.2.2.1, (v.1.1, ()))))), ((v.2.1 ++ u50.2.1), (v.2.2.1, ())))))
else none)
else none) : Option (((Int × (List Y6) × Y4 × Int × Int × Unit) × Y16) ⊕ ((Int × Unit) × ((List Int) × Unit)))).bind fun r54 =>
sumE r54 (fun v52 => (some (.inl (((w64 (v52.1.2.2.2.2.1 + 1)), (v52.1.1, (v52.1.2.1, (v52.1.2.2.1, (v52.1.2.2.2.1, ()))))), (v52.2.1, (v52.2.2.1, ())))))) (fun d53 => (some (.inr ((d53.1.1, ()), (d53.2.1, ()))))))
else (some (.inr ((v.1.2.1, ()), (v.2.1, ()))))

/- pagewatch/route.find -/
def i108 : Abs.Sg := ⟨[0, 1, 2], (.dat (.row Z2) (.dat (.int .i64) (.dat (.row Z7) .nil))), .nil⟩

def o108 : Abs.Sg := ⟨[6], (.st (.own (.int .i64) (0, 0)) .nil), (.arr (.int .i64) false .nil)⟩

def mb108 (rc : (((List Y6) × Int × Y4 × Unit) × (Unit)) → Option Y19) (v : (((List Y6) × Int × Y4 × Unit) × (Unit))) : Option Y19 :=
(m60 ((v.1.1, (v.1.2.1, ())), ())).bind fun u46 =>
(loopT (l108_0_3 rc) ((0, (v.1.2.1, (v.1.1, (v.1.2.2.1, (((u46.2.1.length : Nat) : Int), ()))))), ([], (u46.2.1, ())))).bind fun d55 =>
bif ((((d55.2.1.length : Nat) : Int) : Int) == 0) then (some ((), ([d55.1.1], ())))
else (some ((), (d55.2.1, ())))

def mr108 (n : Nat) : (((List Y6) × Int × Y4 × Unit) × (Unit)) → Option Y19 := Nat.rec (motive := fun _ => (((List Y6) × Int × Y4 × Unit) × (Unit)) → Option Y19) (fun _ => none) (fun _ rc => mb108 rc) n

def m108 : (((List Y6) × Int × Y4 × Unit) × (Unit)) → Option Y19 := mr108 400

def spr108 (n : Nat) : Abs.Spec := ⟨0, i108, o108, mr108 n⟩

def sp108 : Abs.Spec := ⟨0, i108, o108, m108⟩

def an108 : Nat → Abs.FAn
  | 0 => Abs.FAn.mk (fun _ => none) (fun
    | 8 => some (⟨[1, 0, 2, 7, 12, 13, 14], (.dat (.int .i64) (.dat (.row Z2) (.dat (.row Z7) (.st (.own (.int .i64) (0, 0)) (.st (.own (.int .i64) (1, 0)) (.dat (.int .i64) (.dat (.int .i64) .nil))))))), (.arr (.int .i64) false (.arr (.int .i64) false .nil))⟩, some (.one (.exit 0) ⟨[1, 7], (.dat (.int .i64) (.st (.own (.int .i64) (0, 0)) .nil)), (.arr (.int .i64) false .nil)⟩))
    | _ => none) (fun
    | 3 => some ⟨⟨[14, 1, 0, 2, 7, 12, 13], (.dat (.int .i64) (.dat (.int .i64) (.dat (.row Z2) (.dat (.row Z7) (.st (.own (.int .i64) (0, 0)) (.st (.own (.int .i64) (1, 0)) (.dat (.int .i64) .nil))))))), (.arr (.int .i64) false (.arr (.int .i64) false .nil))⟩, (.one (.exit 0) ⟨[1, 7], (.dat (.int .i64) (.st (.own (.int .i64) (0, 0)) .nil)), (.arr (.int .i64) false .nil)⟩)⟩
    | _ => none) (fun _ _ => 0)
  | _ => {}

theorem okr108 : ∀ n, Abs.SpecOK Tryd.prog 108 (spr108 n)
  | 0 => fun _ _ _ _ _ _ h => by cases h
  | n + 1 => Abs.specOC_of (C := ctab) (mv := mvtab) ctab_ok (n := 12) (an := an108) (T := Abs.tabOf [(108, spr108 n), (60, sp60), (30, sp30)]) good foll (Abs.tabOf_ok _ (by simp only [List.forall_mem_cons]; exact ⟨okr108 n, ok60, ok30, fun _ h => by cases h⟩)) rfl (by intro v; kernel_rfl)

theorem ok108 : Abs.SpecOK Tryd.prog 108 sp108 := okr108 400

/- pagewatch/route.Find -/
def i48 : Abs.Sg := ⟨[0, 1], (.dat (.row Z2) (.dat (.row Z7) .nil)), .nil⟩

def o48 : Abs.Sg := ⟨[4], (.st (.own (.int .i64) (0, 0)) .nil), (.arr (.int .i64) false .nil)⟩

def m48 (v : (((List Y6) × Y4 × Unit) × (Unit))) : Option Y19 :=
(((m49 ((v.1.1, ()), ())).bind fun u13 =>
bif ((u13.1.1 : Int) != 0) then (some ((true, (v.1.2.1, (v.1.1, ()))), ()))
else ((m42 ((v.1.2.1, ()), ())).bind fun u14 =>
some (((!u14.1.1), (v.1.2.1, (v.1.1, ()))), ()))) : Option ((Bool × Y4 × (List Y6) × Unit) × (Unit))).bind fun v15 =>
bif v15.1.1 then (some ((), ([], ())))
else ((m108 ((v15.1.2.2.1, (0, (v15.1.2.1, ()))), ())).bind fun u16 =>
some ((), (u16.2.1, ())))

def sp48 : Abs.Spec := ⟨0, i48, o48, m48⟩

def an48 : Nat → Abs.FAn
  | 0 => Abs.FAn.mk (fun
    | 1 => some ⟨[12, 1, 0], (.dat .bool (.dat (.row Z7) (.dat (.row Z2) .nil))), .nil⟩
    | _ => none) (fun _ => none) (fun _ => none) (fun _ _ => 0)
  | _ => {}

theorem ok48 : Abs.SpecOK Tryd.prog 48 sp48 :=
  Abs.specOC_of (C := ctab) (mv := mvtab) ctab_ok (n := 12) (an := an48) (T := Abs.tabOf [(49, sp49), (42, sp42), (108, sp108)]) good foll (Abs.tabOf_ok _ (by simp only [List.forall_mem_cons]; exact ⟨ok49, ok42, ok108, fun _ h => by cases h⟩)) rfl (by intro v; kernel_rfl)

/- warnings: store: pointer &e16.0 -/

def l51_0_4 (v : ((Int × (List Y6) × Unit) × ((List Int) × Unit))) : Option (((Int × (List Y6) × Unit) × ((List Int) × Unit)) ⊕ Y19) :=
bif (decide ((v.1.1 : Int) ≥ 0)) then (bif (decide (v.2.1.length + [v.1.1].length ≤ 4294967296)) then
Abs.rowAt v.1.2.1 v.1.1 fun e37 _ =>
some (.inl ((e37.1, (v.1.2.1, ())), ((v.2.1 ++ [v.1.1]), ())))
else none)
else (some (.inr ((), (v.2.1, ()))))

def l51_1_1 (v : ((Int × Int × Unit) × ((List Int) × Unit))) : Option (((Int × Int × Unit) × ((List Int) × Unit)) ⊕ Y19) :=
bif (decide ((v.1.2.1 : Int) < v.1.1)) then (bif (decide ((0 : Int) ≤ v.1.1 ∧ (v.1.1 : Int) < v.2.1.length)) then
(v.2.1[v.1.1.toNat]?).bind fun e39 =>
bif (decide ((0 : Int) ≤ v.1.2.1 ∧ (v.1.2.1 : Int) < v.2.1.length)) then
(v.2.1[v.1.2.1.toNat]?).bind fun e40 =>
bif (decide ((0 : Int) ≤ v.1.2.1 ∧ (v.1.2.1 : Int) < v.2.1.length)) then
bif (decide (v.1.2.1.toNat < v.2.1.length)) then
bif (decide ((0 : Int) ≤ v.1.1 ∧ (v.1.1 : Int) < (v.2.1.set v.1.2.1.toNat e39).length)) then
bif (decide (v.1.1.toNat < (v.2.1.set v.1.2.1.toNat e39).length)) then
some (.inl (((w64 (v.1.1 - 1)), ((w64 (v.1.2.1 + 1)), ())), (((v.2.1.set v.1.2.1.toNat e39).set v.1.1.toNat e40), ())))
else none
else none
else none
else none
else none
else none)
else (some (.inr ((), (v.2.1, ()))))

/- pagewatch/route.Path -/
def i51 : Abs.Sg := ⟨[0, 1], (.dat (.row Z2) (.dat (.int .i64) .nil)), .nil⟩

def o51 : Abs.Sg := ⟨[4], (.st (.own (.int .i64) (0, 0)) .nil), (.arr (.int .i64) false .nil)⟩

def m51 (v : (((List Y6) × Int × Unit) × (Unit))) : Option Y19 :=
((bif (decide ((v.1.2.1 : Int) < 0)) then (some ((true, (v.1.2.1, (v.1.1, ()))), ()))
else (let x34 := (decide ((v.1.2.1 : Int) ≥ (v.1.1.length : Int)))
bif x34 then (some ((true, (v.1.2.1, (v.1.1, ()))), ()))
else ((m49 ((v.1.1, ()), ())).bind fun u35 =>
some ((((u35.1.1 : Int) != 0), (v.1.2.1, (v.1.1, ()))), ())))) : Option ((Bool × Int × (List Y6) × Unit) × (Unit))).bind fun v36 =>
bif v36.1.1 then (some ((), ([], ())))
else ((loopT l51_0_4 ((v36.1.2.1, (v36.1.2.2.1, ())), ([], ()))).bind fun d38 =>
(loopT l51_1_1 (((w64 (((d38.2.1.length : Nat) : Int) - 1)), (0, ())), (d38.2.1, ()))).bind fun d41 =>
bif (decide (d41.2.1.length = d38.2.1.length) && true) then
some ((), (d41.2.1, ()))
else none)

def sp51 : Abs.Spec := ⟨0, i51, o51, m51⟩

def an51 : Nat → Abs.FAn
  | 0 => Abs.FAn.mk (fun
    | 1 => some ⟨[18, 1, 0], (.dat .bool (.dat (.int .i64) (.dat (.row Z2) .nil))), .nil⟩
    | _ => none) (fun _ => none) (fun
    | 4 => some ⟨⟨[1, 0, 5], (.dat (.int .i64) (.dat (.row Z2) (.st (.own (.int .i64) (0, 0)) .nil))), (.arr (.int .i64) false .nil)⟩, (.one (.exit 0) ⟨[5], (.st (.own (.int .i64) (0, 0)) .nil), (.arr (.int .i64) false .nil)⟩)⟩
    | _ => none) (fun
    | 7, 1 => 1
    | _, _ => 0)
  | 1 => Abs.FAn.mk (fun _ => none) (fun _ => none) (fun
    | 1 => some ⟨⟨[3, 2, 0], (.dat (.int .i64) (.dat (.int .i64) (.st (.own (.int .i64) (0, 0)) .nil))), (.arr (.int .i64) false .nil)⟩, (.one (.exit 0) ⟨[], .nil, (.arr (.int .i64) false .nil)⟩)⟩
    | _ => none) (fun _ _ => 0)
  | _ => {}

theorem ok51 : Abs.SpecOK Tryd.prog 51 sp51 :=
  Abs.specOC_of (C := ctab) (mv := mvtab) ctab_ok (n := 12) (an := an51) (T := Abs.tabOf [(49, sp49)]) good foll (Abs.tabOf_ok _ (by simp only [List.forall_mem_cons]; exact ⟨ok49, fun _ h => by cases h⟩)) rfl (by intro v; kernel_rfl)

/- pagewatch/route.Key -/
def i57 : Abs.Sg := ⟨[0, 1], (.dat Z2 (.dat (.row Z7) .nil)), .nil⟩

def o57 : Abs.Sg := ⟨[4], (.dat .str .nil), .nil⟩

def m57 (v : ((Y6 × Y4 × Unit) × (Unit))) : Option Y18 :=
(m42 ((v.1.2.1, ()), ())).bind fun u8 =>
bif (!u8.1.1) then (some ((ByteArray.empty, ()), ()))
else ((m45 ((v.1.2.1, (v.1.1.2.2.2.1, ())), ())).bind fun u9 =>
(m36 ((u9.2.1, ()), ())).bind fun u10 =>
some ((u10.1.1, ()), ()))

def sp57 : Abs.Spec := ⟨0, i57, o57, m57⟩

def an57 : Nat → Abs.FAn
  | _ => {}

theorem ok57 : Abs.SpecOK Tryd.prog 57 sp57 :=
  Abs.specOC_of (C := ctab) (mv := mvtab) ctab_ok (n := 12) (an := an57) (T := Abs.tabOf [(42, sp42), (45, sp45), (36, sp36)]) good foll (Abs.tabOf_ok _ (by simp only [List.forall_mem_cons]; exact ⟨ok42, ok45, ok36, fun _ h => by cases h⟩)) rfl (by intro v; kernel_rfl)

/- pagewatch/pagewatchlaw21.sane -/
def i52 : Abs.Sg := ⟨[], .nil, .nil⟩

def o52 : Abs.Sg := ⟨[0], (.dat .bool .nil), .nil⟩

def m52 (v : ((Unit) × (Unit))) : Option Y13 :=
(m48 ((([((-1), ([], (0, ([], (0, (0, (1, (false, ())))))))), (0, (([((bs [116, 101, 97, 109]), (0, ((bs [97]), ())))] : List Y12), (0, ([(bs [116, 101, 97, 109])], (0, (0, (1, (false, ())))))))), (0, (([((bs [116, 101, 97, 109]), (0, ((bs [98]), ())))] : List Y12), (0, ([], (0, (0, (1, (false, ()))))))))] : List Y6), (([((bs [104, 111, 115, 116]), ((bs [120]), ())), ((bs [116, 101, 97, 109]), ((bs [97]), ()))] : List Y15), ())), ())).bind fun u21 =>
bif (decide (0 ≤ 1 ∧ 1 ≤ ([((bs [104, 111, 115, 116]), ((bs [120]), ())), ((bs [116, 101, 97, 109]), ((bs [97]), ()))] : List Y15).length)) then
bif (decide (0 + 1 ≤ ([((bs [104, 111, 115, 116]), ((bs [120]), ())), ((bs [116, 101, 97, 109]), ((bs [97]), ()))] : List Y15).length)) then
(m48 ((([((-1), ([], (0, ([], (0, (0, (1, (false, ())))))))), (0, (([((bs [116, 101, 97, 109]), (0, ((bs [97]), ())))] : List Y12), (0, ([(bs [116, 101, 97, 109])], (0, (0, (1, (false, ())))))))), (0, (([((bs [116, 101, 97, 109]), (0, ((bs [98]), ())))] : List Y12), (0, ([], (0, (0, (1, (false, ()))))))))] : List Y6), (((([((bs [104, 111, 115, 116]), ((bs [120]), ())), ((bs [116, 101, 97, 109]), ((bs [97]), ()))] : List Y15).drop 0).take 1), ())), ())).bind fun u22 =>
(((m49 ((([((-1), ([], (0, ([], (0, (0, (1, (false, ())))))))), (0, (([((bs [116, 101, 97, 109]), (0, ((bs [97]), ())))] : List Y12), (0, ([(bs [116, 101, 97, 109])], (0, (0, (1, (false, ())))))))), (0, (([((bs [116, 101, 97, 109]), (0, ((bs [98]), ())))] : List Y12), (0, ([], (0, (0, (1, (false, ()))))))))] : List Y6), ()), ())).bind fun u23 =>
bif ((u23.1.1 : Int) == 0) then (bif ((((u21.2.1.length : Nat) : Int) : Int) == 1) then (bif (decide ((0 : Int) ≤ 0 ∧ (0 : Int) < u21.2.1.length)) then
(u21.2.1[0]?).bind fun e24 =>
bif ((e24 : Int) == 1) then (bif ((((u22.2.1.length : Nat) : Int) : Int) == 1) then (bif (decide ((0 : Int) ≤ 0 ∧ (0 : Int) < u22.2.1.length)) then
(u22.2.1[0]?).bind fun e25 =>
bif ((e25 : Int) == 0) then (bif (decide ((0 : Int) ≤ 1 ∧ (1 : Int) < ([((-1), ([], (0, ([], (0, (0, (1, (false, ())))))))), (0, (([((bs [116, 101, 97, 109]), (0, ((bs [97]), ())))] : List Y12), (0, ([(bs [116, 101, 97, 109])], (0, (0, (1, (false, ())))))))), (0, (([((bs [116, 101, 97, 109]), (0, ((bs [98]), ())))] : List Y12), (0, ([], (0, (0, (1, (false, ()))))))))] : List Y6).length)) then
(([((-1), ([], (0, ([], (0, (0, (1, (false, ())))))))), (0, (([((bs [116, 101, 97, 109]), (0, ((bs [97]), ())))] : List Y12), (0, ([(bs [116, 101, 97, 109])], (0, (0, (1, (false, ())))))))), (0, (([((bs [116, 101, 97, 109]), (0, ((bs [98]), ())))] : List Y12), (0, ([], (0, (0, (1, (false, ()))))))))] : List Y6)[1]?).bind fun e26 =>
(m57 ((e26, (([((bs [104, 111, 115, 116]), ((bs [120]), ())), ((bs [116, 101, 97, 109]), ((bs [97]), ()))] : List Y15), ())), ())).bind fun u27 =>
bif (u27.1.1.toList == (bs [123, 116, 101, 97, 109, 61, 34, 97, 34, 125]).toList) then ((m51 ((([((-1), ([], (0, ([], (0, (0, (1, (false, ())))))))), (0, (([((bs [116, 101, 97, 109]), (0, ((bs [97]), ())))] : List Y12), (0, ([(bs [116, 101, 97, 109])], (0, (0, (1, (false, ())))))))), (0, (([((bs [116, 101, 97, 109]), (0, ((bs [98]), ())))] : List Y12), (0, ([], (0, (0, (1, (false, ()))))))))] : List Y6), (2, ())), ())).bind fun u28 =>
bif ((((u28.2.1.length : Nat) : Int) : Int) == 2) then ((m60 ((([((-1), ([], (0, ([], (0, (0, (1, (false, ())))))))), (0, (([((bs [116, 101, 97, 109]), (0, ((bs [97]), ())))] : List Y12), (0, ([(bs [116, 101, 97, 109])], (0, (0, (1, (false, ())))))))), (0, (([((bs [116, 101, 97, 109]), (0, ((bs [98]), ())))] : List Y12), (0, ([], (0, (0, (1, (false, ()))))))))] : List Y6), (0, ())), ())).bind fun u29 =>
some ((((((u29.2.1.length : Nat) : Int) : Int) == 2), ()), ()))
else (some ((false, ()), ())))
else (some ((false, ()), ()))
else none)
else (some ((false, ()), ()))
else none)
else (some ((false, ()), ())))
else (some ((false, ()), ()))
else none)
else (some ((false, ()), ())))
else (some ((false, ()), ()))) : Option Y13).bind fun v30 =>
some ((v30.1.1, ()), ())
else none
else none

def sp52 : Abs.Spec := ⟨0, i52, o52, m52⟩

def an52 : Nat → Abs.FAn
  | 0 => Abs.FAn.mk (fun
    | 4 => some ⟨[0], (.dat .bool .nil), .nil⟩
    | _ => none) (fun _ => none) (fun _ => none) (fun _ _ => 0)
  | _ => {}

theorem ok52 : Abs.SpecOK Tryd.prog 52 sp52 :=
  Abs.specOC_of (C := ctab) (mv := mvtab) ctab_ok (n := 12) (an := an52) (T := Abs.tabOf [(48, sp48), (49, sp49), (57, sp57), (51, sp51), (60, sp60)]) good foll (Abs.tabOf_ok _ (by simp only [List.forall_mem_cons]; exact ⟨ok48, ok49, ok57, ok51, ok60, fun _ h => by cases h⟩)) rfl (by intro v; kernel_rfl)

/- (*pagewatch/pagewatchmade.Dice).Pick -/
def i73 : Abs.Sg := ⟨[0, 1], (.st (.ptr (0, 0) 2 0 0) (.dat (.row (.int .i64)) .nil)), (.box 2 (.dat Z9 .nil) .nil)⟩

def o73 : Abs.Sg := ⟨[4], (.dat (.int .i64) .nil), (.box 2 (.dat Z9 .nil) .nil)⟩

def m73 (v : (((List Int) × Unit) × (Y11 × Unit))) : Option ((Int × Unit) × (Y11 × Unit)) :=
(m39 (((v.1.1.length : Int), ()), ((v.2.1.1, ()), ()))).bind fun u4 =>
Abs.rowAt v.1.1 u4.1.1 fun e5 _ =>
some ((e5, ()), ((u4.2.1.1, ()), ()))

def sp73 : Abs.Spec := ⟨1, i73, o73, m73⟩

def an73 : Nat → Abs.FAn
  | _ => {}

theorem ok73 : Abs.SpecOK Tryd.prog 73 sp73 :=
  Abs.specOC_of (C := ctab) (mv := mvtab) ctab_ok (n := 12) (an := an73) (T := Abs.tabOf [(39, sp39)]) good foll (Abs.tabOf_ok _ (by simp only [List.forall_mem_cons]; exact ⟨ok39, fun _ h => by cases h⟩)) rfl (by intro v; kernel_rfl)

/- (*pagewatch/pagewatchmade.Dice).Route -/
def i62 : Abs.Sg := ⟨[0], (.st (.ptr (0, 0) 2 0 0) .nil), (.box 2 (.dat Z9 .nil) .nil)⟩

def o62 : Abs.Sg := ⟨[2], (.st (.ptr (1, 0) 8 0 0) .nil), (.box 2 (.dat Z9 .nil) (.box 8 (.agg (.dat (.int .i64) (.st .nil (.dat (.int .i64) (.st (.own .str (2, 0)) (.dat (.int .i64) (.dat (.int .i64) (.dat (.int .i64) (.dat .bool .nil)))))))) .nil) (.arr .str false .nil)))⟩

def m62 (v : ((Unit) × (Y11 × Unit))) : Option ((Unit) × (Y11 × ((Int × Int × Int × Int × Int × Bool × Unit) × Unit) × (List ByteArray) × Unit)) :=
(m73 (([0, 30, 10, 60], ()), ((v.2.1.1, ()), ()))).bind fun u14 =>
(m73 (([20, 300, 40], ()), ((u14.2.1.1, ()), ()))).bind fun u15 =>
(m39 ((3, ()), ((u15.2.1.1, ()), ()))).bind fun u16 =>
(m40 ((), ((u16.2.1.1, ()), ()))).bind fun u17 =>
(m73 (([0, 3600, 100], ()), ((u17.2.1.1, ()), ()))).bind fun u18 =>
(m106 ((2, ()), ((u18.2.1.1, ()), ()))).bind fun u19 =>
some ((), ((u19.2.1.1, ()), ((((-1), (u16.1.1, (u14.1.1, ((w64 (u14.1.1 + u15.1.1)), ((w64 ((w64 (u14.1.1 + u15.1.1)) + u18.1.1)), (u19.1.1, ())))))), ()), (u17.2.2.1, ()))))

def sp62 : Abs.Spec := ⟨1, i62, o62, m62⟩

def an62 : Nat → Abs.FAn
  | _ => {}

theorem ok62 : Abs.SpecOK Tryd.prog 62 sp62 :=
  Abs.specOC_of (C := ctab) (mv := mvtab) ctab_ok (n := 12) (an := an62) (T := Abs.tabOf [(73, sp73), (39, sp39), (40, sp40), (106, sp106)]) good foll (Abs.tabOf_ok _ (by simp only [List.forall_mem_cons]; exact ⟨ok73, ok39, ok40, ok106, fun _ h => by cases h⟩)) rfl (by intro v; kernel_rfl)

def l53_0_3 (v : ((Int × Unit) × (Y11 × (List Y6) × Unit))) : Option (((Int × Unit) × (Y11 × (List Y6) × Unit)) ⊕ ((Unit) × (Y11 × (List Y6) × Unit))) :=
bif (decide ((v.1.1 : Int) > 0)) then ((m62 ((), ((v.2.1.1, ()), ()))).bind fun u36 =>
(m39 ((((v.2.2.1.length : Nat) : Int), ()), ((u36.2.1.1, ()), ()))).bind fun u37 =>
(m21 ((2, ()), ((u37.2.1.1, ()), ()))).bind fun u38 =>
bif (decide (v.2.2.1.length + ([(u37.1.1, (u38.2.2.1, (u36.2.2.1.1.2.1, (u36.2.2.2.1, (u36.2.2.1.1.2.2.1, (u36.2.2.1.1.2.2.2.1, (u36.2.2.1.1.2.2.2.2.1, (u36.2.2.1.1.2.2.2.2.2.1, ()))))))))] : List Y6).length ≤ 4294967296)) then
let x39 := (v.2.2.1 ++ ([(u37.1.1, (u38.2.2.1, (u36.2.2.1.1.2.1, (u36.2.2.2.1, (u36.2.2.1.1.2.2.1, (u36.2.2.1.1.2.2.2.1, (u36.2.2.1.1.2.2.2.2.1, (u36.2.2.1.1.2.2.2.2.2.1, ()))))))))] : List Y6))
some (.inl (((w64 (v.1.1 - 1)), ()), ((u38.2.1.1, ()), (x39, ()))))
else none)
else (some (.inr ((), ((v.2.1.1, ()), (v.2.2.1, ())))))

/- (*pagewatch/pagewatchmade.Dice).Routes -/
def i53 : Abs.Sg := ⟨[0, 1], (.st (.ptr (0, 0) 2 0 0) (.dat (.int .i64) .nil)), (.box 2 (.dat Z9 .nil) .nil)⟩

def o53 : Abs.Sg := ⟨[4], (.st (.own Z2 (1, 0)) .nil), (.box 2 (.dat Z9 .nil) (.arr Z2 false .nil))⟩

def m53 (v : ((Int × Unit) × (Y11 × Unit))) : Option ((Unit) × (Y11 × (List Y6) × Unit)) :=
(m62 ((), ((v.2.1.1, ()), ()))).bind fun u34 =>
(m39 (((w64 (v.1.1 + 1)), ()), ((u34.2.1.1, ()), ()))).bind fun u35 =>
(loopT l53_0_3 ((u35.1.1, ()), ((u35.2.1.1, ()), (([(u34.2.2.1.1.1, ([], (u34.2.2.1.1.2.1, (u34.2.2.2.1, (u34.2.2.1.1.2.2.1, (u34.2.2.1.1.2.2.2.1, (u34.2.2.1.1.2.2.2.2.1, (u34.2.2.1.1.2.2.2.2.2.1, ()))))))))] : List Y6), ())))).bind fun d40 =>
some ((), ((d40.2.1.1, ()), (d40.2.2.1, ())))

def sp53 : Abs.Spec := ⟨1, i53, o53, m53⟩

def an53 : Nat → Abs.FAn
  | 0 => Abs.FAn.mk (fun _ => none) (fun _ => none) (fun
    | 3 => some ⟨⟨[6, 5, 0], (.dat (.int .i64) (.st (.own Z2 (1, 0)) (.st (.ptr (0, 0) 2 0 0) .nil))), (.box 2 (.dat Z9 .nil) (.arr Z2 false .nil))⟩, (.one (.exit 0) ⟨[5], (.st (.own Z2 (1, 0)) .nil), (.box 2 (.dat Z9 .nil) (.arr Z2 false .nil))⟩)⟩
    | _ => none) (fun _ _ => 0)
  | _ => {}

theorem ok53 : Abs.SpecOK Tryd.prog 53 sp53 :=
  Abs.specOC_of (C := ctab) (mv := mvtab) ctab_ok (n := 12) (an := an53) (T := Abs.tabOf [(62, sp62), (39, sp39), (21, sp21)]) good foll (Abs.tabOf_ok _ (by simp only [List.forall_mem_cons]; exact ⟨ok62, ok39, ok21, fun _ h => by cases h⟩)) rfl (by intro v; kernel_rfl)

/- pagewatch/pagewatchref20.Right -/
def i23 : Abs.Sg := ⟨[0], (.dat Z5 .nil), .nil⟩

def o23 : Abs.Sg := ⟨[2], (.dat .bool .nil), .nil⟩

def m23 (v : ((Y12 × Unit) × (Unit))) : Option Y13 :=
(((m89 ((v.1.1.1, ()), ())).bind fun u5 =>
bif u5.1.1 then (bif (decide ((v.1.1.2.1 : Int) ≥ 0)) then (bif (decide ((v.1.1.2.1 : Int) ≤ 3)) then ((m90 ((v.1.1.2.2.1, ()), ())).bind fun u6 =>
some ((u6.1.1, ()), ()))
else (some ((false, ()), ())))
else (some ((false, ()), ())))
else (some ((false, ()), ()))) : Option Y13).bind fun v7 =>
some ((v7.1.1, ()), ())

def sp23 : Abs.Spec := ⟨0, i23, o23, m23⟩

def an23 : Nat → Abs.FAn
  | 0 => Abs.FAn.mk (fun
    | 1 => some ⟨[2], (.dat .bool .nil), .nil⟩
    | _ => none) (fun _ => none) (fun _ => none) (fun _ _ => 0)
  | _ => {}

theorem ok23 : Abs.SpecOK Tryd.prog 23 sp23 :=
  Abs.specOC_of (C := ctab) (mv := mvtab) ctab_ok (n := 12) (an := an23) (T := Abs.tabOf [(89, sp89), (90, sp90)]) good foll (Abs.tabOf_ok _ (by simp only [List.forall_mem_cons]; exact ⟨ok89, ok90, fun _ h => by cases h⟩)) rfl (by intro v; kernel_rfl)

def l120_0_2 (v : ((Int × (List ByteArray) × Unit) × (Unit))) : Option (((Int × (List ByteArray) × Unit) × (Unit)) ⊕ (Y13 ⊕ ((Unit) × (Unit)))) :=
let x41 := (decide ((v.1.1 : Int) < (v.1.2.1.length : Int)))
bif x41 then (((Abs.rowAt v.1.2.1 v.1.1 fun e42 _ =>
(m89 ((e42, ()), ())).bind fun u43 =>
bif (!u43.1.1) then (some ((true, (v.1.2.1, (v.1.1, ()))), ()))
else (bif (decide ((v.1.1 : Int) > 0)) then (Abs.rowAt v.1.2.1 v.1.1 fun e44 _ =>
Abs.rowAt v.1.2.1 (w64 (v.1.1 - 1)) fun e45 _ =>
some (((Op.bytesLess e44.toList e45.toList || e44.toList == e45.toList), (v.1.2.1, (v.1.1, ()))), ()))
else (some ((false, (v.1.2.1, (v.1.1, ()))), ())))) : Option ((Bool × (List ByteArray) × Int × Unit) × (Unit))).bind fun v46 =>
bif v46.1.1 then (some (.inr (.inl ((false, ()), ()))))
else (some (.inl (((w64 (v46.1.2.2.1 + 1)), (v46.1.2.1, ())), ()))))
else (some (.inr (.inr ((), ()))))

/- pagewatch/pagewatchref20.Keys -/
def i120 : Abs.Sg := ⟨[0], (.dat (.row .str) .nil), .nil⟩

def o120 : Abs.Sg := ⟨[2], (.dat .bool .nil), .nil⟩

def m120 (v : (((List ByteArray) × Unit) × (Unit))) : Option Y13 :=
(loopT l120_0_2 ((0, (v.1.1, ())), ())).bind fun d47 =>
sumE d47 (fun d48 => (some ((d48.1.1, ()), ()))) (fun d49 => (some ((true, ()), ())))

def sp120 : Abs.Spec := ⟨0, i120, o120, m120⟩

def an120 : Nat → Abs.FAn
  | 0 => Abs.FAn.mk (fun
    | 4 => some ⟨[31, 0, 3], (.dat .bool (.dat (.row .str) (.dat (.int .i64) .nil))), .nil⟩
    | _ => none) (fun _ => none) (fun
    | 2 => some ⟨⟨[3, 0], (.dat (.int .i64) (.dat (.row .str) .nil)), .nil⟩, (.more .ret ⟨[2], (.dat .bool .nil), .nil⟩ (.one (.exit 0) ⟨[], .nil, .nil⟩))⟩
    | _ => none) (fun _ _ => 0)
  | _ => {}

theorem ok120 : Abs.SpecOK Tryd.prog 120 sp120 :=
  Abs.specOC_of (C := ctab) (mv := mvtab) ctab_ok (n := 12) (an := an120) (T := Abs.tabOf [(89, sp89)]) good foll (Abs.tabOf_ok _ (by simp only [List.forall_mem_cons]; exact ⟨ok89, fun _ h => by cases h⟩)) rfl (by intro v; kernel_rfl)

def l111_0_4 (v : ((Int × Unit) × ((Y6 × Unit) × Unit))) : Option (((Int × Unit) × ((Y6 × Unit) × Unit)) ⊕ (((Int × Unit) × (Unit)) ⊕ ((Unit) × ((Y6 × Unit) × Unit)))) :=
let x52 := (decide ((v.1.1 : Int) < (v.2.1.1.2.1.length : Int)))
bif x52 then (Abs.rowAt v.2.1.1.2.1 v.1.1 fun e53 _ =>
(m23 ((e53, ()), ())).bind fun u54 =>
bif (!u54.1.1) then (some (.inr (.inl ((8, ()), ()))))
else (some (.inl (((w64 (v.1.1 + 1)), ()), ((v.2.1.1, ()), ())))))
else (some (.inr (.inr ((), ((v.2.1.1, ()), ())))))

/- pagewatch/pagewatchref21.one -/
def i111 : Abs.Sg := ⟨[0], (.dat Z2 .nil), .nil⟩

def o111 : Abs.Sg := ⟨[2], (.dat (.int .i64) .nil), .nil⟩

def m111 (v : ((Y6 × Unit) × (Unit))) : Option ((Int × Unit) × (Unit)) :=
((bif (decide (((v.1.1.2.1.length : Int) : Int) > 8)) then (some ((true, ()), ((v.1.1, ()), ())))
else (let x50 := (decide (((v.1.1.2.2.2.1.length : Int) : Int) > 12))
some ((x50, ()), ((v.1.1, ()), ())))) : Option ((Bool × Unit) × ((Y6 × Unit) × Unit))).bind fun v51 =>
bif v51.1.1 then (some ((5, ()), ()))
else ((loopT l111_0_4 ((0, ()), ((v51.2.1.1, ()), ()))).bind fun d55 =>
sumE d55 (fun d56 => (some ((d56.1.1, ()), ()))) (fun d57 => ((m120 ((d57.2.1.1.2.2.2.1, ()), ())).bind fun u58 =>
bif (!u58.1.1) then (some ((8, ()), ()))
else (((bif (decide ((d57.2.1.1.2.2.1 : Int) < 0)) then (some ((true, ()), ()))
else (bif (decide ((d57.2.1.1.2.2.2.2.1 : Int) < 0)) then (some ((true, ()), ()))
else (let x59 := (decide ((d57.2.1.1.2.2.2.2.1 : Int) > d57.2.1.1.2.2.2.2.2.1))
bif x59 then (some ((true, ()), ()))
else (let x60 := (decide ((d57.2.1.1.2.2.2.2.2.1 : Int) > d57.2.1.1.2.2.2.2.2.2.1))
bif x60 then (some ((true, ()), ()))
else (let x61 := (decide ((d57.2.1.1.2.2.2.2.2.2.1 : Int) > 604800))
bif x61 then (some ((true, ()), ()))
else (some ((((d57.2.1.1.2.2.2.2.2.2.1 : Int) == 0), ()), ()))))))) : Option Y13).bind fun v62 =>
bif v62.1.1 then (some ((1, ()), ()))
else (some ((0, ()), ()))))))

def sp111 : Abs.Spec := ⟨0, i111, o111, m111⟩

def an111 : Nat → Abs.FAn
  | 0 => Abs.FAn.mk (fun
    | 10 => some ⟨[33], (.dat .bool .nil), .nil⟩
    | 1 => some ⟨[13, 1], (.dat .bool (.st (.ptr (0, 0) 8 0 0) .nil)), (.box 8 (.dat Z2 .nil) .nil)⟩
    | _ => none) (fun _ => none) (fun
    | 4 => some ⟨⟨[3, 1], (.dat (.int .i64) (.st (.ptr (0, 0) 8 0 0) .nil)), (.box 8 (.dat Z2 .nil) .nil)⟩, (.more .ret ⟨[2], (.dat (.int .i64) .nil), .nil⟩ (.one (.exit 0) ⟨[1], (.st (.ptr (0, 0) 8 0 0) .nil), (.box 8 (.dat Z2 .nil) .nil)⟩))⟩
    | _ => none) (fun _ _ => 0)
  | _ => {}

theorem ok111 : Abs.SpecOK Tryd.prog 111 sp111 :=
  Abs.specOC_of (C := ctab) (mv := mvtab) ctab_ok (n := 12) (an := an111) (T := Abs.tabOf [(23, sp23), (120, sp120)]) good foll (Abs.tabOf_ok _ (by simp only [List.forall_mem_cons]; exact ⟨ok23, ok120, fun _ h => by cases h⟩)) rfl (by intro v; kernel_rfl)

def l55_0_6 (v : ((Int × (List Y6) × Unit) × (Unit))) : Option (((Int × (List Y6) × Unit) × (Unit)) ⊕ (((Int × Unit) × (Unit)) ⊕ (((List Y6) × Unit) × (Unit)))) :=
let x69 := (decide ((v.1.1 : Int) < (v.1.2.1.length : Int)))
bif x69 then (((bif ((v.1.1 : Int) == 0) then (Abs.rowAt v.1.2.1 v.1.1 fun e70 _ =>
bif ((e70.1 : Int) != (-1)) then (some ((true, (v.1.2.1, (v.1.1, ()))), ()))
else (bif (decide ((v.1.1 : Int) > 0)) then (Abs.rowAt v.1.2.1 v.1.1 fun e71 _ =>
bif (decide ((e71.1 : Int) < 0)) then (some ((true, (v.1.2.1, (v.1.1, ()))), ()))
else (Abs.rowAt v.1.2.1 v.1.1 fun e72 _ =>
some (((decide ((e72.1 : Int) ≥ v.1.1)), (v.1.2.1, (v.1.1, ()))), ())))
else (some ((false, (v.1.2.1, (v.1.1, ()))), ()))))
else (bif (decide ((v.1.1 : Int) > 0)) then (Abs.rowAt v.1.2.1 v.1.1 fun e73 _ =>
bif (decide ((e73.1 : Int) < 0)) then (some ((true, (v.1.2.1, (v.1.1, ()))), ()))
else (Abs.rowAt v.1.2.1 v.1.1 fun e74 _ =>
some (((decide ((e74.1 : Int) ≥ v.1.1)), (v.1.2.1, (v.1.1, ()))), ())))
else (some ((false, (v.1.2.1, (v.1.1, ()))), ())))) : Option ((Bool × (List Y6) × Int × Unit) × (Unit))).bind fun v75 =>
bif v75.1.1 then (some (.inr (.inl ((3, ()), ()))))
else (Abs.rowAt v75.1.2.1 v75.1.2.2.1 fun e76 _ =>
(m111 ((e76, ()), ())).bind fun u77 =>
bif ((u77.1.1 : Int) != 0) then (some (.inr (.inl ((u77.1.1, ()), ()))))
else (some (.inl (((w64 (v75.1.2.2.1 + 1)), (v75.1.2.1, ())), ())))))
else (some (.inr (.inr ((v.1.2.1, ()), ()))))

/- pagewatch/pagewatchref21.Check -/
def i55 : Abs.Sg := ⟨[0], (.dat (.row Z2) .nil), .nil⟩

def o55 : Abs.Sg := ⟨[2], (.dat (.int .i64) .nil), .nil⟩

def m55 (v : (((List Y6) × Unit) × (Unit))) : Option ((Int × Unit) × (Unit)) :=
bif (((v.1.1.length : Int) : Int) == 0) then (some ((7, ()), ()))
else (bif (decide (((v.1.1.length : Int) : Int) > 24)) then (some ((5, ()), ()))
else ((loopT l55_0_6 ((0, (v.1.1, ())), ())).bind fun d78 =>
sumE d78 (fun d79 => (some ((d79.1.1, ()), ()))) (fun d80 => (Abs.rowAt d80.1.1 0 fun e81 _ =>
bif (decide (((e81.2.1.length : Int) : Int) > 0)) then (some ((8, ()), ()))
else (some ((0, ()), ()))))))

def sp55 : Abs.Spec := ⟨0, i55, o55, m55⟩

def an55 : Nat → Abs.FAn
  | 0 => Abs.FAn.mk (fun
    | 8 => some ⟨[47, 0, 3], (.dat .bool (.dat (.row Z2) (.dat (.int .i64) .nil))), .nil⟩
    | _ => none) (fun _ => none) (fun
    | 6 => some ⟨⟨[3, 0], (.dat (.int .i64) (.dat (.row Z2) .nil)), .nil⟩, (.more .ret ⟨[2], (.dat (.int .i64) .nil), .nil⟩ (.one (.exit 0) ⟨[0], (.dat (.row Z2) .nil), .nil⟩))⟩
    | _ => none) (fun _ _ => 0)
  | _ => {}

theorem ok55 : Abs.SpecOK Tryd.prog 55 sp55 :=
  Abs.specOC_of (C := ctab) (mv := mvtab) ctab_ok (n := 12) (an := an55) (T := Abs.tabOf [(111, sp111)]) good foll (Abs.tabOf_ok _ (by simp only [List.forall_mem_cons]; exact ⟨ok111, fun _ h => by cases h⟩)) rfl (by intro v; kernel_rfl)

def l61_0_3 (v : ((Int × Int × (List Y6) × Unit) × ((List Int) × Unit))) : Option (((Int × Int × (List Y6) × Unit) × ((List Int) × Unit)) ⊕ Y19) :=
let x17 := (decide ((v.1.1 : Int) < (v.1.2.2.1.length : Int)))
bif x17 then (((Abs.rowAt v.1.2.2.1 v.1.1 fun e18 _ =>
bif ((e18.1 : Int) == v.1.2.1) then (bif (decide (v.2.1.length + [v.1.1].length ≤ 4294967296)) then
some ((v.1.2.1, (v.1.2.2.1, (v.1.1, ()))), ((v.2.1 ++ [v.1.1]), ()))
else none)
else (some ((v.1.2.1, (v.1.2.2.1, (v.1.1, ()))), (v.2.1, ())))) : Option ((Int × (List Y6) × Int × Unit) × ((List Int) × Unit))).bind fun v19 =>
some (.inl (((w64 (v19.1.2.2.1 + 1)), (v19.1.1, (v19.1.2.1, ()))), (v19.2.1, ()))))
else (some (.inr ((), (v.2.1, ()))))

/- pagewatch/pagewatchref21.Children -/
def i61 : Abs.Sg := ⟨[0, 1], (.dat (.row Z2) (.dat (.int .i64) .nil)), .nil⟩

def o61 : Abs.Sg := ⟨[4], (.st (.own (.int .i64) (0, 0)) .nil), (.arr (.int .i64) false .nil)⟩

def m61 (v : (((List Y6) × Int × Unit) × (Unit))) : Option Y19 :=
(loopT l61_0_3 ((0, (v.1.2.1, (v.1.1, ()))), ([], ()))).bind fun d20 =>
some ((), (d20.2.1, ()))

def sp61 : Abs.Spec := ⟨0, i61, o61, m61⟩

def an61 : Nat → Abs.FAn
  | 0 => Abs.FAn.mk (fun _ => none) (fun
    | 4 => some (⟨[5, 1, 0, 6], (.st (.own (.int .i64) (0, 0)) (.dat (.int .i64) (.dat (.row Z2) (.dat (.int .i64) .nil)))), (.arr (.int .i64) false .nil)⟩, none)
    | _ => none) (fun
    | 3 => some ⟨⟨[6, 5, 1, 0], (.dat (.int .i64) (.st (.own (.int .i64) (0, 0)) (.dat (.int .i64) (.dat (.row Z2) .nil)))), (.arr (.int .i64) false .nil)⟩, (.one (.exit 0) ⟨[5], (.st (.own (.int .i64) (0, 0)) .nil), (.arr (.int .i64) false .nil)⟩)⟩
    | _ => none) (fun _ _ => 0)
  | _ => {}

theorem ok61 : Abs.SpecOK Tryd.prog 61 sp61 :=
  Abs.specOC_of (C := ctab) (mv := mvtab) ctab_ok (n := 12) (an := an61) (T := Abs.tabOf []) good foll (Abs.tabOf_ok _ (fun _ h => by cases h)) rfl (by intro v; kernel_rfl)

def l27_0_8 (v : ((Int × ByteArray × Int × ByteArray × Unit) × ((List Bool) × (List Bool) × Unit))) : Option (((Int × ByteArray × Int × ByteArray × Unit) × ((List Bool) × (List Bool) × Unit)) ⊕ ((ByteArray × ByteArray × Int × Unit) × ((List Bool) × Unit))) :=
bif (decide ((v.1.1 : Int) ≤ (v.1.2.1.size : Int))) then (((bif (decide ((0 : Int) ≤ v.1.2.2.1 ∧ (v.1.2.2.1 : Int) < v.1.2.2.2.1.size)) then
let x89 := (((((v.1.2.2.2.1[v.1.2.2.1.toNat]?.getD 0).toNat : Nat) : Int) : Int) == 42)
bif x89 then (((bif (decide ((0 : Int) ≤ v.1.1 ∧ (v.1.1 : Int) < v.2.2.1.length)) then
(v.2.2.1[v.1.1.toNat]?).bind fun e90 =>
bif e90 then (bif (decide ((0 : Int) ≤ v.1.1 ∧ (v.1.1 : Int) < v.2.1.length)) then
bif (decide (v.1.1.toNat < v.2.1.length)) then
some ((v.1.2.1, (v.1.2.2.1, (v.1.2.2.2.1, (v.1.1, ())))), ((v.2.1.set v.1.1.toNat true), (v.2.2.1, ())))
else none
else none)
else (bif (decide ((v.1.1 : Int) > 0)) then (bif (decide ((0 : Int) ≤ (w64 (v.1.1 - 1)) ∧ ((w64 (v.1.1 - 1)) : Int) < v.2.1.length)) then
(v.2.1[(w64 (v.1.1 - 1)).toNat]?).bind fun e91 =>
bif (decide ((0 : Int) ≤ v.1.1 ∧ (v.1.1 : Int) < v.2.1.length)) then
bif (decide (v.1.1.toNat < v.2.1.length)) then
some ((v.1.2.1, (v.1.2.2.1, (v.1.2.2.2.1, (v.1.1, ())))), ((v.2.1.set v.1.1.toNat e91), (v.2.2.1, ())))
else none
else none
else none)
else (bif (decide ((0 : Int) ≤ v.1.1 ∧ (v.1.1 : Int) < v.2.1.length)) then
bif (decide (v.1.1.toNat < v.2.1.length)) then
some ((v.1.2.1, (v.1.2.2.1, (v.1.2.2.2.1, (v.1.1, ())))), ((v.2.1.set v.1.1.toNat false), (v.2.2.1, ())))
else none
else none))
else none) : Option ((ByteArray × Int × ByteArray × Int × Unit) × ((List Bool) × (List Bool) × Unit))).bind fun v92 =>
some ((v92.1.1, (v92.1.2.1, (v92.1.2.2.1, (v92.1.2.2.2.1, ())))), (v92.2.1, (v92.2.2.1, ()))))
else (bif (decide ((v.1.1 : Int) > 0)) then (((bif (decide ((0 : Int) ≤ (w64 (v.1.1 - 1)) ∧ ((w64 (v.1.1 - 1)) : Int) < v.2.2.1.length)) then
(v.2.2.1[(w64 (v.1.1 - 1)).toNat]?).bind fun e93 =>
bif e93 then (bif (decide ((0 : Int) ≤ v.1.2.2.1 ∧ (v.1.2.2.1 : Int) < v.1.2.2.2.1.size)) then
let x94 := (((((v.1.2.2.2.1[v.1.2.2.1.toNat]?.getD 0).toNat : Nat) : Int) : Int) == 63)
bif x94 then (bif (decide ((0 : Int) ≤ v.1.1 ∧ (v.1.1 : Int) < v.2.1.length)) then
bif (decide (v.1.1.toNat < v.2.1.length)) then
some ((v.1.2.1, (v.1.2.2.1, (v.1.2.2.2.1, (v.1.1, ())))), ((v.2.1.set v.1.1.toNat true), (v.2.2.1, ())))
else none
else none)
else (bif (decide ((0 : Int) ≤ v.1.2.2.1 ∧ (v.1.2.2.1 : Int) < v.1.2.2.2.1.size)) then
bif (decide ((0 : Int) ≤ (w64 (v.1.1 - 1)) ∧ ((w64 (v.1.1 - 1)) : Int) < v.1.2.1.size)) then
let x95 := (((((v.1.2.2.2.1[v.1.2.2.1.toNat]?.getD 0).toNat : Nat) : Int) : Int) == (((v.1.2.1[(w64 (v.1.1 - 1)).toNat]?.getD 0).toNat : Nat) : Int))
bif (decide ((0 : Int) ≤ v.1.1 ∧ (v.1.1 : Int) < v.2.1.length)) then
bif (decide (v.1.1.toNat < v.2.1.length)) then
some ((v.1.2.1, (v.1.2.2.1, (v.1.2.2.2.1, (v.1.1, ())))), ((v.2.1.set v.1.1.toNat x95), (v.2.2.1, ())))
else none
else none
else none
else none)
else none)
else (bif (decide ((0 : Int) ≤ v.1.1 ∧ (v.1.1 : Int) < v.2.1.length)) then
bif (decide (v.1.1.toNat < v.2.1.length)) then
some ((v.1.2.1, (v.1.2.2.1, (v.1.2.2.2.1, (v.1.1, ())))), ((v.2.1.set v.1.1.toNat false), (v.2.2.1, ())))
else none
else none)
else none) : Option ((ByteArray × Int × ByteArray × Int × Unit) × ((List Bool) × (List Bool) × Unit))).bind fun v96 =>
some ((v96.1.1, (v96.1.2.1, (v96.1.2.2.1, (v96.1.2.2.2.1, ())))), (v96.2.1, (v96.2.2.1, ()))))
else (some ((v.1.2.1, (v.1.2.2.1, (v.1.2.2.2.1, (v.1.1, ())))), (v.2.1, (v.2.2.1, ())))))
else none) : Option ((ByteArray × Int × ByteArray × Int × Unit) × ((List Bool) × (List Bool) × Unit))).bind fun v97 =>
some (.inl (((w64 (v97.1.2.2.2.1 + 1)), (v97.1.1, (v97.1.2.1, (v97.1.2.2.1, ())))), (v97.2.1, (v97.2.2.1, ())))))
else (some (.inr ((v.1.2.1, (v.1.2.2.2.1, (v.1.2.2.1, ()))), (v.2.1, ()))))

def l27_0_4 (v : (Y12 × ((List Bool) × Unit))) : Option ((Y12 × ((List Bool) × Unit)) ⊕ ((ByteArray × Unit) × ((List Bool) × Unit))) :=
let x88 := (decide ((v.1.2.1 : Int) < (v.1.2.2.1.size : Int)))
bif x88 then (bif (decide ((0 : Int) ≤ (w64 ((v.1.1.size : Int) + 1)) ∧ ((w64 ((v.1.1.size : Int) + 1)) : Int) ≤ (w64 ((v.1.1.size : Int) + 1)) ∧ ((w64 ((v.1.1.size : Int) + 1)) : Int) ≤ 4294967296)) then
(loopT l27_0_8 ((0, (v.1.1, (v.1.2.1, (v.1.2.2.1, ())))), ((List.replicate (w64 ((v.1.1.size : Int) + 1)).toNat (false : Bool)), (v.2.1, ())))).bind fun d98 =>
some (.inl ((d98.1.1, ((w64 (d98.1.2.2.1 + 1)), (d98.1.2.1, ()))), (d98.2.1, ())))
else none)
else (some (.inr ((v.1.1, ()), (v.2.1, ()))))

/- pagewatch/pagewatchref20.Like -/
def i27 : Abs.Sg := ⟨[0, 1], (.dat .str (.dat .str .nil)), .nil⟩

def o27 : Abs.Sg := ⟨[4], (.dat .bool .nil), .nil⟩

def m27 (v : (Y15 × (Unit))) : Option Y13 :=
bif (decide ((0 : Int) ≤ (w64 ((v.1.2.1.size : Int) + 1)) ∧ ((w64 ((v.1.2.1.size : Int) + 1)) : Int) ≤ (w64 ((v.1.2.1.size : Int) + 1)) ∧ ((w64 ((v.1.2.1.size : Int) + 1)) : Int) ≤ 4294967296)) then
bif (decide ((0 : Int) ≤ 0 ∧ (0 : Int) < (List.replicate (w64 ((v.1.2.1.size : Int) + 1)).toNat (false : Bool)).length)) then
bif (decide (0 < (List.replicate (w64 ((v.1.2.1.size : Int) + 1)).toNat (false : Bool)).length)) then
(loopT l27_0_4 ((v.1.2.1, (0, (v.1.1, ()))), (((List.replicate (w64 ((v.1.2.1.size : Int) + 1)).toNat (false : Bool)).set 0 true), ()))).bind fun d99 =>
bif (decide ((0 : Int) ≤ (d99.1.1.size : Int) ∧ ((d99.1.1.size : Int) : Int) < d99.2.1.length)) then
(d99.2.1[(d99.1.1.size : Int).toNat]?).bind fun e100 =>
some ((e100, ()), ())
else none
else none
else none
else none

def sp27 : Abs.Spec := ⟨0, i27, o27, m27⟩

def an27 : Nat → Abs.FAn
  | 0 => Abs.FAn.mk (fun
    | 13 => some ⟨[7, 5, 1, 6, 0, 8], (.st (.own .bool (0, 0)) (.st (.own .bool (1, 0)) (.dat .str (.dat (.int .i64) (.dat .str (.dat (.int .i64) .nil)))))), (.arr .bool false (.arr .bool false .nil))⟩
    | 11 => some ⟨[7, 5, 1, 6, 0, 8], (.st (.own .bool (0, 0)) (.st (.own .bool (1, 0)) (.dat .str (.dat (.int .i64) (.dat .str (.dat (.int .i64) .nil)))))), (.arr .bool false (.arr .bool false .nil))⟩
    | _ => none) (fun
    | 9 => some (⟨[7, 5, 1, 6, 0, 8], (.st (.own .bool (0, 0)) (.st (.own .bool (1, 0)) (.dat .str (.dat (.int .i64) (.dat .str (.dat (.int .i64) .nil)))))), (.arr .bool false (.arr .bool false .nil))⟩, none)
    | _ => none) (fun
    | 4 => some ⟨⟨[5, 1, 6, 0], (.st (.own .bool (0, 0)) (.dat .str (.dat (.int .i64) (.dat .str .nil)))), (.arr .bool false .nil)⟩, (.one (.exit 0) ⟨[1, 5], (.dat .str (.st (.own .bool (0, 0)) .nil)), (.arr .bool false .nil)⟩)⟩
    | 8 => some ⟨⟨[8, 7, 5, 1, 6, 0], (.dat (.int .i64) (.st (.own .bool (0, 0)) (.st (.own .bool (1, 0)) (.dat .str (.dat (.int .i64) (.dat .str .nil)))))), (.arr .bool false (.arr .bool false .nil))⟩, (.one (.exit 2) ⟨[1, 0, 6, 7], (.dat .str (.dat .str (.dat (.int .i64) (.st (.own .bool (0, 0)) .nil)))), (.arr .bool false .nil)⟩)⟩
    | _ => none) (fun _ _ => 0)
  | _ => {}

theorem ok27 : Abs.SpecOK Tryd.prog 27 sp27 :=
  Abs.specOC_of (C := ctab) (mv := mvtab) ctab_ok (n := 12) (an := an27) (T := Abs.tabOf []) good foll (Abs.tabOf_ok _ (fun _ h => by cases h)) rfl (by intro v; kernel_rfl)

/- pagewatch/pagewatchref20.Match -/
def i25 : Abs.Sg := ⟨[0, 1], (.dat Z5 (.dat (.row Z7) .nil)), .nil⟩

def o25 : Abs.Sg := ⟨[4], (.dat .bool .nil), .nil⟩

def m25 (v : ((Y12 × Y4 × Unit) × (Unit))) : Option Y13 :=
(m44 ((v.1.2.1, (v.1.1.1, ())), ())).bind fun u9 =>
bif ((v.1.1.2.1 : Int) == 0) then (some (((u9.1.1.toList == v.1.1.2.2.1.toList), ()), ()))
else (bif ((v.1.1.2.1 : Int) == 1) then (some (((!(u9.1.1.toList == v.1.1.2.2.1.toList)), ()), ()))
else (bif ((v.1.1.2.1 : Int) == 2) then ((m27 ((v.1.1.2.2.1, (u9.1.1, ())), ())).bind fun u10 =>
some ((u10.1.1, ()), ()))
else (bif ((v.1.1.2.1 : Int) == 3) then ((m27 ((v.1.1.2.2.1, (u9.1.1, ())), ())).bind fun u11 =>
some (((!u11.1.1), ()), ()))
else (some ((false, ()), ())))))

def sp25 : Abs.Spec := ⟨0, i25, o25, m25⟩

def an25 : Nat → Abs.FAn
  | _ => {}

theorem ok25 : Abs.SpecOK Tryd.prog 25 sp25 :=
  Abs.specOC_of (C := ctab) (mv := mvtab) ctab_ok (n := 12) (an := an25) (T := Abs.tabOf [(44, sp44), (27, sp27)]) good foll (Abs.tabOf_ok _ (by simp only [List.forall_mem_cons]; exact ⟨ok44, ok27, fun _ h => by cases h⟩)) rfl (by intro v; kernel_rfl)

def l31_0_2 (v : ((Int × Y4 × Y3 × Unit) × (Unit))) : Option (((Int × Y4 × Y3 × Unit) × (Unit)) ⊕ (Y13 ⊕ ((Unit) × (Unit)))) :=
let x24 := (decide ((v.1.1 : Int) < (v.1.2.2.1.length : Int)))
bif x24 then (Abs.rowAt v.1.2.2.1 v.1.1 fun e25 _ =>
(m25 ((e25, (v.1.2.1, ())), ())).bind fun u26 =>
bif (!u26.1.1) then (some (.inr (.inl ((false, ()), ()))))
else (some (.inl (((w64 (v.1.1 + 1)), (v.1.2.1, (v.1.2.2.1, ()))), ()))))
else (some (.inr (.inr ((), ()))))

/- pagewatch/pagewatchref20.All -/
def i31 : Abs.Sg := ⟨[0, 1], (.dat (.row Z5) (.dat (.row Z7) .nil)), .nil⟩

def o31 : Abs.Sg := ⟨[4], (.dat .bool .nil), .nil⟩

def m31 (v : ((Y3 × Y4 × Unit) × (Unit))) : Option Y13 :=
(loopT l31_0_2 ((0, (v.1.2.1, (v.1.1, ()))), ())).bind fun d27 =>
sumE d27 (fun d28 => (some ((d28.1.1, ()), ()))) (fun d29 => (some ((true, ()), ())))

def sp31 : Abs.Spec := ⟨0, i31, o31, m31⟩

def an31 : Nat → Abs.FAn
  | 0 => Abs.FAn.mk (fun _ => none) (fun _ => none) (fun
    | 2 => some ⟨⟨[5, 1, 0], (.dat (.int .i64) (.dat (.row Z7) (.dat (.row Z5) .nil))), .nil⟩, (.more .ret ⟨[4], (.dat .bool .nil), .nil⟩ (.one (.exit 0) ⟨[], .nil, .nil⟩))⟩
    | _ => none) (fun _ _ => 0)
  | _ => {}

theorem ok31 : Abs.SpecOK Tryd.prog 31 sp31 :=
  Abs.specOC_of (C := ctab) (mv := mvtab) ctab_ok (n := 12) (an := an31) (T := Abs.tabOf [(25, sp25)]) good foll (Abs.tabOf_ok _ (by simp only [List.forall_mem_cons]; exact ⟨ok25, fun _ h => by cases h⟩)) rfl (by intro v; kernel_rfl)

def l112_0_4 (rc : (((List Y6) × Int × Y4 × Unit) × (Unit)) → Option Y19) (v : ((Int × Int × (List Y6) × Y4 × Unit) × Y16)) : Option (((Int × Int × (List Y6) × Y4 × Unit) × Y16) ⊕ ((Int × Unit) × ((List Int) × Unit))) :=
let x61 := (decide ((v.1.1 : Int) < ((v.2.1.length : Nat) : Int)))
bif x61 then (((bif (decide ((0 : Int) ≤ v.1.1 ∧ (v.1.1 : Int) < v.2.1.length)) then
(v.2.1[v.1.1.toNat]?).bind fun e62 =>
Abs.rowAt v.1.2.2.1 e62 fun e63 _ =>
(m31 ((e63.2.1, (v.1.2.2.2.1, ())), ())).bind fun u64 =>
bif (!u64.1.1) then (some (.inl ((v.1.2.1, (v.1.2.2.1, (v.1.2.2.2.1, (v.1.1, ())))), (v.2.1, (v.2.2.1, ())))))
else (bif (decide ((0 : Int) ≤ v.1.1 ∧ (v.1.1 : Int) < v.2.1.length)) then
(v.2.1[v.1.1.toNat]?).bind fun e65 =>
(rc ((v.1.2.2.1, (e65, (v.1.2.2.2.1, ()))), ())).bind fun u66 =>
bif (decide (v.2.2.1.length + u66.2.1.length ≤ 4294967296)) then
bif (decide ((0 : Int) ≤ v.1.1 ∧ (v.1.1 : Int) < v.2.1.length)) then
(v.2.1[v.1.1.toNat]?).bind fun e67 =>
Abs.rowAt v.1.2.2.1 e67 fun e68 _ =>
bif (!e68.2.2.2.2.2.2.2.1) then (some (.inr ((v.1.2.1, ()), ((v.2.2.1 ++ u66.2.1), ()))))
else (some (.inl ((v.1.2.1, (v.1.2.2.1, (v.1.2.2.2.1, (v.1.1, ())))), (v.2.1, ((v.2.2.1 ++ u66.2.1), ())))))
else none
else none
else none)
else none) : Option (((Int × (List Y6) × Y4 × Int × Unit) × Y16) ⊕ ((Int × Unit) × ((List Int) × Unit)))).bind fun r71 =>
sumE r71 (fun v69 => (some (.inl (((w64 (v69.1.2.2.2.1 + 1)), (v69.1.1, (v69.1.2.1, (v69.1.2.2.1, ())))), (v69.2.1, (v69.2.2.1, ())))))) (fun d70 => (some (.inr ((d70.1.1, ()), (d70.2.1, ()))))))
else (some (.inr ((v.1.2.1, ()), (v.2.2.1, ()))))

/- pagewatch/pagewatchref21.of -/
def i112 : Abs.Sg := ⟨[0, 1, 2], (.dat (.row Z2) (.dat (.int .i64) (.dat (.row Z7) .nil))), .nil⟩

def o112 : Abs.Sg := ⟨[6], (.st (.own (.int .i64) (0, 0)) .nil), (.arr (.int .i64) false .nil)⟩

def mb112 (rc : (((List Y6) × Int × Y4 × Unit) × (Unit)) → Option Y19) (v : (((List Y6) × Int × Y4 × Unit) × (Unit))) : Option Y19 :=
(m61 ((v.1.1, (v.1.2.1, ())), ())).bind fun u60 =>
(loopT (l112_0_4 rc) ((0, (v.1.2.1, (v.1.1, (v.1.2.2.1, ())))), (u60.2.1, ([], ())))).bind fun d72 =>
bif ((((d72.2.1.length : Nat) : Int) : Int) == 0) then (some ((), ([d72.1.1], ())))
else (some ((), (d72.2.1, ())))

def mr112 (n : Nat) : (((List Y6) × Int × Y4 × Unit) × (Unit)) → Option Y19 := Nat.rec (motive := fun _ => (((List Y6) × Int × Y4 × Unit) × (Unit)) → Option Y19) (fun _ => none) (fun _ rc => mb112 rc) n

def m112 : (((List Y6) × Int × Y4 × Unit) × (Unit)) → Option Y19 := mr112 400

def spr112 (n : Nat) : Abs.Spec := ⟨0, i112, o112, mr112 n⟩

def sp112 : Abs.Spec := ⟨0, i112, o112, m112⟩

def an112 : Nat → Abs.FAn
  | 0 => Abs.FAn.mk (fun _ => none) (fun
    | 5 => some (⟨[1, 8, 0, 2, 7, 9], (.dat (.int .i64) (.st (.own (.int .i64) (0, 0)) (.dat (.row Z2) (.dat (.row Z7) (.st (.own (.int .i64) (1, 0)) (.dat (.int .i64) .nil)))))), (.arr (.int .i64) false (.arr (.int .i64) false .nil))⟩, some (.one (.exit 0) ⟨[1, 7], (.dat (.int .i64) (.st (.own (.int .i64) (0, 0)) .nil)), (.arr (.int .i64) false .nil)⟩))
    | _ => none) (fun
    | 4 => some ⟨⟨[9, 1, 8, 0, 2, 7], (.dat (.int .i64) (.dat (.int .i64) (.st (.own (.int .i64) (0, 0)) (.dat (.row Z2) (.dat (.row Z7) (.st (.own (.int .i64) (1, 0)) .nil)))))), (.arr (.int .i64) false (.arr (.int .i64) false .nil))⟩, (.one (.exit 0) ⟨[1, 7], (.dat (.int .i64) (.st (.own (.int .i64) (0, 0)) .nil)), (.arr (.int .i64) false .nil)⟩)⟩
    | _ => none) (fun _ _ => 0)
  | _ => {}

theorem okr112 : ∀ n, Abs.SpecOK Tryd.prog 112 (spr112 n)
  | 0 => fun _ _ _ _ _ _ h => by cases h
  | n + 1 => Abs.specOC_of (C := ctab) (mv := mvtab) ctab_ok (n := 12) (an := an112) (T := Abs.tabOf [(112, spr112 n), (61, sp61), (31, sp31)]) good foll (Abs.tabOf_ok _ (by simp only [List.forall_mem_cons]; exact ⟨okr112 n, ok61, ok31, fun _ h => by cases h⟩)) rfl (by intro v; kernel_rfl)

theorem ok112 : Abs.SpecOK Tryd.prog 112 sp112 := okr112 400

/- pagewatch/pagewatchref21.Find -/
def i56 : Abs.Sg := ⟨[0, 1], (.dat (.row Z2) (.dat (.row Z7) .nil)), .nil⟩

def o56 : Abs.Sg := ⟨[4], (.st (.own (.int .i64) (0, 0)) .nil), (.arr (.int .i64) false .nil)⟩

def m56 (v : (((List Y6) × Y4 × Unit) × (Unit))) : Option Y19 :=
(((m55 ((v.1.1, ()), ())).bind fun u13 =>
bif ((u13.1.1 : Int) != 0) then (some ((true, (v.1.2.1, (v.1.1, ()))), ()))
else ((m43 ((v.1.2.1, ()), ())).bind fun u14 =>
some (((!u14.1.1), (v.1.2.1, (v.1.1, ()))), ()))) : Option ((Bool × Y4 × (List Y6) × Unit) × (Unit))).bind fun v15 =>
bif v15.1.1 then (some ((), ([], ())))
else ((m112 ((v15.1.2.2.1, (0, (v15.1.2.1, ()))), ())).bind fun u16 =>
some ((), (u16.2.1, ())))

def sp56 : Abs.Spec := ⟨0, i56, o56, m56⟩

def an56 : Nat → Abs.FAn
  | 0 => Abs.FAn.mk (fun
    | 1 => some ⟨[12, 1, 0], (.dat .bool (.dat (.row Z7) (.dat (.row Z2) .nil))), .nil⟩
    | _ => none) (fun _ => none) (fun _ => none) (fun _ _ => 0)
  | _ => {}

theorem ok56 : Abs.SpecOK Tryd.prog 56 sp56 :=
  Abs.specOC_of (C := ctab) (mv := mvtab) ctab_ok (n := 12) (an := an56) (T := Abs.tabOf [(55, sp55), (43, sp43), (112, sp112)]) good foll (Abs.tabOf_ok _ (by simp only [List.forall_mem_cons]; exact ⟨ok55, ok43, ok112, fun _ h => by cases h⟩)) rfl (by intro v; kernel_rfl)

/- pagewatch/pagewatchref21.Key -/
def i58 : Abs.Sg := ⟨[0, 1], (.dat Z2 (.dat (.row Z7) .nil)), .nil⟩

def o58 : Abs.Sg := ⟨[4], (.dat .str .nil), .nil⟩

def m58 (v : ((Y6 × Y4 × Unit) × (Unit))) : Option Y18 :=
(m43 ((v.1.2.1, ()), ())).bind fun u8 =>
bif (!u8.1.1) then (some ((ByteArray.empty, ()), ()))
else ((m46 ((v.1.2.1, (v.1.1.2.2.2.1, ())), ())).bind fun u9 =>
(m41 ((u9.2.1, ()), ())).bind fun u10 =>
some ((u10.1.1, ()), ()))

def sp58 : Abs.Spec := ⟨0, i58, o58, m58⟩

def an58 : Nat → Abs.FAn
  | _ => {}

theorem ok58 : Abs.SpecOK Tryd.prog 58 sp58 :=
  Abs.specOC_of (C := ctab) (mv := mvtab) ctab_ok (n := 12) (an := an58) (T := Abs.tabOf [(43, sp43), (46, sp46), (41, sp41)]) good foll (Abs.tabOf_ok _ (by simp only [List.forall_mem_cons]; exact ⟨ok43, ok46, ok41, fun _ h => by cases h⟩)) rfl (by intro v; kernel_rfl)

/- pagewatch/pagewatchref21.Path -/
def i59 : Abs.Sg := ⟨[0, 1], (.dat (.row Z2) (.dat (.int .i64) .nil)), .nil⟩

def o59 : Abs.Sg := ⟨[4], (.st (.own (.int .i64) (0, 0)) .nil), (.arr (.int .i64) false .nil)⟩

def mb59 (rc : (((List Y6) × Int × Unit) × (Unit)) → Option Y19) (v : (((List Y6) × Int × Unit) × (Unit))) : Option Y19 :=
(((m55 ((v.1.1, ()), ())).bind fun u15 =>
bif ((u15.1.1 : Int) != 0) then (some ((true, (v.1.2.1, (v.1.1, ()))), ()))
else (bif (decide ((v.1.2.1 : Int) < 0)) then (some ((true, (v.1.2.1, (v.1.1, ()))), ()))
else (let x16 := (decide ((v.1.2.1 : Int) ≥ (v.1.1.length : Int)))
some ((x16, (v.1.2.1, (v.1.1, ()))), ())))) : Option ((Bool × Int × (List Y6) × Unit) × (Unit))).bind fun v17 =>
bif v17.1.1 then (some ((), ([], ())))
else (bif ((v17.1.2.1 : Int) == 0) then (some ((), ([0], ())))
else (Abs.rowAt v17.1.2.2.1 v17.1.2.1 fun e18 _ =>
(rc ((v17.1.2.2.1, (e18.1, ())), ())).bind fun u19 =>
bif (decide (u19.2.1.length + [v17.1.2.1].length ≤ 4294967296)) then
some ((), ((u19.2.1 ++ [v17.1.2.1]), ()))
else none))

def mr59 (n : Nat) : (((List Y6) × Int × Unit) × (Unit)) → Option Y19 := Nat.rec (motive := fun _ => (((List Y6) × Int × Unit) × (Unit)) → Option Y19) (fun _ => none) (fun _ rc => mb59 rc) n

def m59 : (((List Y6) × Int × Unit) × (Unit)) → Option Y19 := mr59 400

def spr59 (n : Nat) : Abs.Spec := ⟨0, i59, o59, mr59 n⟩

def sp59 : Abs.Spec := ⟨0, i59, o59, m59⟩

def an59 : Nat → Abs.FAn
  | 0 => Abs.FAn.mk (fun
    | 1 => some ⟨[17, 1, 0], (.dat .bool (.dat (.int .i64) (.dat (.row Z2) .nil))), .nil⟩
    | _ => none) (fun _ => none) (fun _ => none) (fun _ _ => 0)
  | _ => {}

theorem okr59 : ∀ n, Abs.SpecOK Tryd.prog 59 (spr59 n)
  | 0 => fun _ _ _ _ _ _ h => by cases h
  | n + 1 => Abs.specOC_of (C := ctab) (mv := mvtab) ctab_ok (n := 12) (an := an59) (T := Abs.tabOf [(59, spr59 n), (55, sp55)]) good foll (Abs.tabOf_ok _ (by simp only [List.forall_mem_cons]; exact ⟨okr59 n, ok55, fun _ h => by cases h⟩)) rfl (by intro v; kernel_rfl)

theorem ok59 : Abs.SpecOK Tryd.prog 59 sp59 := okr59 400

def l9_7_4 (v : ((Int × Int × Unit) × Y16)) : Option (((Int × Int × Unit) × Y16) ⊕ (((Bool × Unit) × Y16) ⊕ ((Unit) × Y16))) :=
bif (decide ((v.1.1 : Int) < v.1.2.1)) then (bif (decide ((0 : Int) ≤ v.1.1 ∧ (v.1.1 : Int) < v.2.1.length)) then
(v.2.1[v.1.1.toNat]?).bind fun e1211 =>
bif (decide ((0 : Int) ≤ v.1.1 ∧ (v.1.1 : Int) < v.2.2.1.length)) then
(v.2.2.1[v.1.1.toNat]?).bind fun e1212 =>
bif ((e1211 : Int) != e1212) then (some (.inr (.inl ((false, ()), (v.2.1, (v.2.2.1, ()))))))
else (some (.inl (((w64 (v.1.1 + 1)), (v.1.2.1, ())), (v.2.1, (v.2.2.1, ())))))
else none
else none)
else (some (.inr (.inr ((), (v.2.1, (v.2.2.1, ()))))))

def l9_0_11 (v : ((Int × (List Y6) × (Y4 × Y4 × Y4 × Unit) × Int × Y4 × ((List Y6) × (List Y6) × (List Y6) × Unit) × Int × Unit) × (Y11 × Unit))) : Option (((Int × (List Y6) × (Y4 × Y4 × Y4 × Unit) × Int × Y4 × ((List Y6) × (List Y6) × (List Y6) × Unit) × Int × Unit) × (Y11 × Unit)) ⊕ (Y13 ⊕ (((List Y6) × Int × Y4 × ((List Y6) × (List Y6) × (List Y6) × Unit) × Int × Unit) × (Y11 × Unit)))) :=
bif (decide ((v.1.1 : Int) < 3)) then (Abs.rowAt ([v.1.2.2.1.1, v.1.2.2.1.2.1, v.1.2.2.1.2.2.1] : List Y4) v.1.1 fun e1207 _ =>
(((m48 ((v.1.2.1, (e1207, ())), ())).bind fun u1208 =>
(m56 ((v.1.2.1, (e1207, ())), ())).bind fun u1209 =>
let x1210 := ((((u1208.2.1.length : Nat) : Int) : Int) != ((u1209.2.1.length : Nat) : Int))
bif x1210 then (bif (decide (u1208.2.1.length = u1208.2.1.length) && (decide (u1209.2.1.length = u1209.2.1.length) && true)) then
some ((true, (v.1.2.1, (v.1.2.2.1, (v.1.2.2.2.1, (v.1.2.2.2.2.1, (v.1.2.2.2.2.2.1, (v.1.2.2.2.2.2.2.1, (v.1.1, ())))))))), ((v.2.1.1, ()), ()))
else none)
else ((loopT l9_7_4 ((0, (((u1208.2.1.length : Nat) : Int), ())), (u1208.2.1, (u1209.2.1, ())))).bind fun d1213 =>
sumE d1213 (fun d1214 => (bif (decide (d1214.2.1.length = u1208.2.1.length) && (decide (d1214.2.2.1.length = u1209.2.1.length) && true)) then
bif (!d1214.1.1) then (some ((true, (v.1.2.1, (v.1.2.2.1, (v.1.2.2.2.1, (v.1.2.2.2.2.1, (v.1.2.2.2.2.2.1, (v.1.2.2.2.2.2.2.1, (v.1.1, ())))))))), ((v.2.1.1, ()), ())))
else (bif (decide (((v.1.2.1.length : Int) : Int) > 0)) then (Abs.rowAt v.1.2.1 (w64 ((v.1.2.1.length : Int) - 1)) fun e1216 _ =>
(m57 ((e1216, (e1207, ())), ())).bind fun u1217 =>
Abs.rowAt v.1.2.1 (w64 ((v.1.2.1.length : Int) - 1)) fun e1218 _ =>
(m58 ((e1218, (e1207, ())), ())).bind fun u1219 =>
some (((!(u1217.1.1.toList == u1219.1.1.toList)), (v.1.2.1, (v.1.2.2.1, (v.1.2.2.2.1, (v.1.2.2.2.2.1, (v.1.2.2.2.2.2.1, (v.1.2.2.2.2.2.2.1, (v.1.1, ())))))))), ((v.2.1.1, ()), ())))
else (some ((false, (v.1.2.1, (v.1.2.2.1, (v.1.2.2.2.1, (v.1.2.2.2.2.1, (v.1.2.2.2.2.2.1, (v.1.2.2.2.2.2.2.1, (v.1.1, ())))))))), ((v.2.1.1, ()), ()))))
else none)) (fun d1215 => (bif (decide (d1215.2.1.length = u1208.2.1.length) && (decide (d1215.2.2.1.length = u1209.2.1.length) && true)) then
bif (decide (((v.1.2.1.length : Int) : Int) > 0)) then (Abs.rowAt v.1.2.1 (w64 ((v.1.2.1.length : Int) - 1)) fun e1220 _ =>
(m57 ((e1220, (e1207, ())), ())).bind fun u1221 =>
Abs.rowAt v.1.2.1 (w64 ((v.1.2.1.length : Int) - 1)) fun e1222 _ =>
(m58 ((e1222, (e1207, ())), ())).bind fun u1223 =>
some (((!(u1221.1.1.toList == u1223.1.1.toList)), (v.1.2.1, (v.1.2.2.1, (v.1.2.2.2.1, (v.1.2.2.2.2.1, (v.1.2.2.2.2.2.1, (v.1.2.2.2.2.2.2.1, (v.1.1, ())))))))), ((v.2.1.1, ()), ())))
else (some ((false, (v.1.2.1, (v.1.2.2.1, (v.1.2.2.2.1, (v.1.2.2.2.2.1, (v.1.2.2.2.2.2.1, (v.1.2.2.2.2.2.2.1, (v.1.1, ())))))))), ((v.2.1.1, ()), ())))
else none)))) : Option ((Bool × (List Y6) × (Y4 × Y4 × Y4 × Unit) × Int × Y4 × ((List Y6) × (List Y6) × (List Y6) × Unit) × Int × Int × Unit) × (Y11 × Unit))).bind fun v1224 =>
bif v1224.1.1 then (some (.inr (.inl ((false, ()), ()))))
else (some (.inl (((w64 (v1224.1.2.2.2.2.2.2.2.1 + 1)), (v1224.1.2.1, (v1224.1.2.2.1, (v1224.1.2.2.2.1, (v1224.1.2.2.2.2.1, (v1224.1.2.2.2.2.2.1, (v1224.1.2.2.2.2.2.2.1, ()))))))), ((v1224.2.1.1, ()), ())))))
else (some (.inr (.inr ((v.1.2.1, (v.1.2.2.2.1, (v.1.2.2.2.2.1, (v.1.2.2.2.2.2.1, (v.1.2.2.2.2.2.2.1, ()))))), ((v.2.1.1, ()), ())))))

def l9_8_4 (v : ((Int × Int × Unit) × Y16)) : Option (((Int × Int × Unit) × Y16) ⊕ (((Bool × Unit) × Y16) ⊕ ((Unit) × Y16))) :=
bif (decide ((v.1.1 : Int) < v.1.2.1)) then (bif (decide ((0 : Int) ≤ v.1.1 ∧ (v.1.1 : Int) < v.2.1.length)) then
(v.2.1[v.1.1.toNat]?).bind fun e1233 =>
bif (decide ((0 : Int) ≤ v.1.1 ∧ (v.1.1 : Int) < v.2.2.1.length)) then
(v.2.2.1[v.1.1.toNat]?).bind fun e1234 =>
bif ((e1233 : Int) != e1234) then (some (.inr (.inl ((false, ()), (v.2.1, (v.2.2.1, ()))))))
else (some (.inl (((w64 (v.1.1 + 1)), (v.1.2.1, ())), (v.2.1, (v.2.2.1, ())))))
else none
else none)
else (some (.inr (.inr ((), (v.2.1, (v.2.2.1, ()))))))

def l9_9_4 (v : ((Int × Int × Unit) × Y16)) : Option (((Int × Int × Unit) × Y16) ⊕ (((Bool × Unit) × Y16) ⊕ ((Unit) × Y16))) :=
bif (decide ((v.1.1 : Int) < v.1.2.1)) then (bif (decide ((0 : Int) ≤ v.1.1 ∧ (v.1.1 : Int) < v.2.1.length)) then
(v.2.1[v.1.1.toNat]?).bind fun e1241 =>
bif (decide ((0 : Int) ≤ v.1.1 ∧ (v.1.1 : Int) < v.2.2.1.length)) then
(v.2.2.1[v.1.1.toNat]?).bind fun e1242 =>
bif ((e1241 : Int) != e1242) then (some (.inr (.inl ((false, ()), (v.2.1, (v.2.2.1, ()))))))
else (some (.inl (((w64 (v.1.1 + 1)), (v.1.2.1, ())), (v.2.1, (v.2.2.1, ())))))
else none
else none)
else (some (.inr (.inr ((), (v.2.1, (v.2.2.1, ()))))))

def l9_0_17 (v : ((Int × (List Y6) × (Int × Int × Unit) × Int × Y4 × ((List Y6) × (List Y6) × (List Y6) × Unit) × Int × Unit) × (Y11 × Unit))) : Option (((Int × (List Y6) × (Int × Int × Unit) × Int × Y4 × ((List Y6) × (List Y6) × (List Y6) × Unit) × Int × Unit) × (Y11 × Unit)) ⊕ (Y13 ⊕ ((Int × Y4 × ((List Y6) × (List Y6) × (List Y6) × Unit) × Int × Unit) × (Y11 × Unit)))) :=
bif (decide ((v.1.1 : Int) < 2)) then (Abs.rowAt ([v.1.2.2.1.1, v.1.2.2.1.2.1] : List Int) v.1.1 fun e1229 _ =>
(((m51 ((v.1.2.1, (e1229, ())), ())).bind fun u1230 =>
(m59 ((v.1.2.1, (e1229, ())), ())).bind fun u1231 =>
let x1232 := ((((u1230.2.1.length : Nat) : Int) : Int) != ((u1231.2.1.length : Nat) : Int))
bif x1232 then (bif (decide (u1230.2.1.length = u1230.2.1.length) && (decide (u1231.2.1.length = u1231.2.1.length) && true)) then
some ((true, (v.1.2.1, (v.1.2.2.1, (v.1.2.2.2.1, (v.1.2.2.2.2.1, (v.1.2.2.2.2.2.1, (v.1.2.2.2.2.2.2.1, (v.1.1, ())))))))), ((v.2.1.1, ()), ()))
else none)
else ((loopT l9_8_4 ((0, (((u1230.2.1.length : Nat) : Int), ())), (u1230.2.1, (u1231.2.1, ())))).bind fun d1235 =>
sumE d1235 (fun d1236 => (bif (decide (d1236.2.1.length = u1230.2.1.length) && (decide (d1236.2.2.1.length = u1231.2.1.length) && true)) then
bif (!d1236.1.1) then (some ((true, (v.1.2.1, (v.1.2.2.1, (v.1.2.2.2.1, (v.1.2.2.2.2.1, (v.1.2.2.2.2.2.1, (v.1.2.2.2.2.2.2.1, (v.1.1, ())))))))), ((v.2.1.1, ()), ())))
else ((m60 ((v.1.2.1, (e1229, ())), ())).bind fun u1238 =>
(m61 ((v.1.2.1, (e1229, ())), ())).bind fun u1239 =>
let x1240 := ((((u1238.2.1.length : Nat) : Int) : Int) != ((u1239.2.1.length : Nat) : Int))
bif x1240 then (bif (decide (u1238.2.1.length = u1238.2.1.length) && (decide (u1239.2.1.length = u1239.2.1.length) && true)) then
some ((true, (v.1.2.1, (v.1.2.2.1, (v.1.2.2.2.1, (v.1.2.2.2.2.1, (v.1.2.2.2.2.2.1, (v.1.2.2.2.2.2.2.1, (v.1.1, ())))))))), ((v.2.1.1, ()), ()))
else none)
else ((loopT l9_9_4 ((0, (((u1238.2.1.length : Nat) : Int), ())), (u1238.2.1, (u1239.2.1, ())))).bind fun d1243 =>
sumE d1243 (fun d1244 => (bif (decide (d1244.2.1.length = u1238.2.1.length) && (decide (d1244.2.2.1.length = u1239.2.1.length) && true)) then
some (((!d1244.1.1), (v.1.2.1, (v.1.2.2.1, (v.1.2.2.2.1, (v.1.2.2.2.2.1, (v.1.2.2.2.2.2.1, (v.1.2.2.2.2.2.2.1, (v.1.1, ())))))))), ((v.2.1.1, ()), ()))
else none)) (fun d1245 => (bif (decide (d1245.2.1.length = u1238.2.1.length) && (decide (d1245.2.2.1.length = u1239.2.1.length) && true)) then
some ((false, (v.1.2.1, (v.1.2.2.1, (v.1.2.2.2.1, (v.1.2.2.2.2.1, (v.1.2.2.2.2.2.1, (v.1.2.2.2.2.2.2.1, (v.1.1, ())))))))), ((v.2.1.1, ()), ()))
else none))))
else none)) (fun d1237 => (bif (decide (d1237.2.1.length = u1230.2.1.length) && (decide (d1237.2.2.1.length = u1231.2.1.length) && true)) then
(m60 ((v.1.2.1, (e1229, ())), ())).bind fun u1246 =>
(m61 ((v.1.2.1, (e1229, ())), ())).bind fun u1247 =>
let x1248 := ((((u1246.2.1.length : Nat) : Int) : Int) != ((u1247.2.1.length : Nat) : Int))
bif x1248 then (bif (decide (u1246.2.1.length = u1246.2.1.length) && (decide (u1247.2.1.length = u1247.2.1.length) && true)) then
some ((true, (v.1.2.1, (v.1.2.2.1, (v.1.2.2.2.1, (v.1.2.2.2.2.1, (v.1.2.2.2.2.2.1, (v.1.2.2.2.2.2.2.1, (v.1.1, ())))))))), ((v.2.1.1, ()), ()))
else none)
else ((loopT l9_9_4 ((0, (((u1246.2.1.length : Nat) : Int), ())), (u1246.2.1, (u1247.2.1, ())))).bind fun d1249 =>
sumE d1249 (fun d1250 => (bif (decide (d1250.2.1.length = u1246.2.1.length) && (decide (d1250.2.2.1.length = u1247.2.1.length) && true)) then
some (((!d1250.1.1), (v.1.2.1, (v.1.2.2.1, (v.1.2.2.2.1, (v.1.2.2.2.2.1, (v.1.2.2.2.2.2.1, (v.1.2.2.2.2.2.2.1, (v.1.1, ())))))))), ((v.2.1.1, ()), ()))
else none)) (fun d1251 => (bif (decide (d1251.2.1.length = u1246.2.1.length) && (decide (d1251.2.2.1.length = u1247.2.1.length) && true)) then
some ((false, (v.1.2.1, (v.1.2.2.1, (v.1.2.2.2.1, (v.1.2.2.2.2.1, (v.1.2.2.2.2.2.1, (v.1.2.2.2.2.2.2.1, (v.1.1, ())))))))), ((v.2.1.1, ()), ()))
else none)))
else none)))) : Option ((Bool × (List Y6) × (Int × Int × Unit) × Int × Y4 × ((List Y6) × (List Y6) × (List Y6) × Unit) × Int × Int × Unit) × (Y11 × Unit))).bind fun v1252 =>
bif v1252.1.1 then (some (.inr (.inl ((false, ()), ()))))
else (some (.inl (((w64 (v1252.1.2.2.2.2.2.2.2.1 + 1)), (v1252.1.2.1, (v1252.1.2.2.1, (v1252.1.2.2.2.1, (v1252.1.2.2.2.2.1, (v1252.1.2.2.2.2.2.1, (v1252.1.2.2.2.2.2.2.1, ()))))))), ((v1252.2.1.1, ()), ())))))
else (some (.inr (.inr ((v.1.2.2.2.1, (v.1.2.2.2.2.1, (v.1.2.2.2.2.2.1, (v.1.2.2.2.2.2.2.1, ())))), ((v.2.1.1, ()), ())))))

def l9_0_6 (v : ((Int × Int × Y4 × ((List Y6) × (List Y6) × (List Y6) × Unit) × Unit) × (Y11 × Unit))) : Option (((Int × Int × Y4 × ((List Y6) × (List Y6) × (List Y6) × Unit) × Unit) × (Y11 × Unit)) ⊕ (Y13 ⊕ ((Unit) × (Unit)))) :=
bif (decide ((v.1.1 : Int) < 3)) then (Abs.rowAt ([v.1.2.2.2.1.1, v.1.2.2.2.1.2.1, v.1.2.2.2.1.2.2.1] : List (List Y6)) v.1.1 fun e1202 _ =>
(m49 ((e1202, ()), ())).bind fun u1203 =>
(m55 ((e1202, ()), ())).bind fun u1204 =>
bif ((u1203.1.1 : Int) != u1204.1.1) then (some (.inr (.inl ((false, ()), ()))))
else ((m20 ((), ((v.2.1.1, ()), ()))).bind fun u1205 =>
(m20 ((), ((u1205.2.1.1, ()), ()))).bind fun u1206 =>
(loopT l9_0_11 ((0, (e1202, ((u1205.2.2.1, (u1206.2.2.1, (v.1.2.2.1, ()))), (v.1.2.1, (v.1.2.2.1, (v.1.2.2.2.1, (v.1.1, ()))))))), ((u1206.2.1.1, ()), ()))).bind fun d1225 =>
sumE d1225 (fun d1226 => (some (.inr (.inl ((d1226.1.1, ()), ()))))) (fun d1227 => ((m39 ((8, ()), ((d1227.2.1.1, ()), ()))).bind fun u1228 =>
(loopT l9_0_17 ((0, (d1227.1.1, ((d1227.1.2.1, ((w64 (u1228.1.1 - 1)), ())), (d1227.1.2.1, (d1227.1.2.2.1, (d1227.1.2.2.2.1, (d1227.1.2.2.2.2.1, ()))))))), ((u1228.2.1.1, ()), ()))).bind fun d1253 =>
sumE d1253 (fun d1254 => (some (.inr (.inl ((d1254.1.1, ()), ()))))) (fun d1255 => (some (.inl (((w64 (d1255.1.2.2.2.1 + 1)), (d1255.1.1, (d1255.1.2.1, (d1255.1.2.2.1, ())))), ((d1255.2.1.1, ()), ())))))))))
else (some (.inr (.inr ((), ()))))

/- pagewatch/pagewatchlaw21.RouteExact -/

end
end Go.Proofs.YtcblbcpnfidndaaDoor

namespace Go.Proofs.YtcblbcpnfidndaaDoor
open Go Go.Abs
noncomputable section
def i9 : Abs.Sg := ⟨[0, 1, 2, 3], (.dat (.row (.int .i64)) (.dat (.row Z2) (.dat (.row Z7) (.dat (.int .i64) .nil)))), .nil⟩

def o9 : Abs.Sg := ⟨[8], (.dat .bool .nil), .nil⟩

def m9 (v : (((List Int) × (List Y6) × Y4 × Int × Unit) × (Unit))) : Option Y13 :=
(((m17 ((v.1.1, ()), ())).bind fun u1178 =>
bif (!u1178.1.1) then (some ((true, (v.1.2.2.2.1, (v.1.2.2.1, (v.1.2.1, (v.1.1, ()))))), ()))
else (bif (decide (((v.1.2.1.length : Int) : Int) > 40)) then (some ((true, (v.1.2.2.2.1, (v.1.2.2.1, (v.1.2.1, (v.1.1, ()))))), ()))
else (some (((decide (((v.1.2.2.1.length : Int) : Int) > 20)), (v.1.2.2.2.1, (v.1.2.2.1, (v.1.2.1, (v.1.1, ()))))), ())))) : Option ((Bool × Int × Y4 × (List Y6) × (List Int) × Unit) × (Unit))).bind fun v1179 =>
bif v1179.1.1 then ((m52 ((), ())).bind fun u1180 =>
some ((u1180.1.1, ()), ()))
else ((m19 ((v1179.1.2.2.2.2.1, ()), ())).bind fun u1181 =>
(m53 ((6, ()), ((u1181.2.1.1, ()), ()))).bind fun u1182 =>
bif (decide (0 + u1182.2.2.1.length ≤ 4294967296)) then
(m39 ((((u1182.2.2.1.length : Nat) : Int), ()), ((u1182.2.1.1, ()), ()))).bind fun u1183 =>
bif (decide ((0 : Int) ≤ u1183.1.1 ∧ (u1183.1.1 : Int) < u1182.2.2.1.length)) then
(((m39 ((7, ()), ((u1183.2.1.1, ()), ()))).bind fun u1184 =>
bif ((u1184.1.1 : Int) == 0) then ((m73 (([(-1), 0, ((u1182.2.2.1.length : Nat) : Int), 1], ()), ((u1184.2.1.1, ()), ()))).bind fun u1185 =>
(u1182.2.2.1[u1183.1.1.toNat]?).bind fun e1186 =>
some (((0, (u1182.2.2.1.set u1183.1.1.toNat (u1185.1.1, e1186.2)).length), ()), ((u1185.2.1.1, ()), (u1182.2.2.1, ((u1182.2.2.1.set u1183.1.1.toNat (u1185.1.1, e1186.2)), ())))))
else (bif ((u1184.1.1 : Int) == 1) then ((m39 ((6, ()), ((u1184.2.1.1, ()), ()))).bind fun u1187 =>
(u1182.2.2.1[u1183.1.1.toNat]?).bind fun e1188 =>
some (((0, (u1182.2.2.1.set u1183.1.1.toNat (e1188.1, (([((bs [97]), ((w64 (u1187.1.1 - 1)), (ByteArray.empty, ())))] : List Y12), e1188.2.2))).length), ()), ((u1187.2.1.1, ()), (u1182.2.2.1, ((u1182.2.2.1.set u1183.1.1.toNat (e1188.1, (([((bs [97]), ((w64 (u1187.1.1 - 1)), (ByteArray.empty, ())))] : List Y12), e1188.2.2))), ())))))
else (bif ((u1184.1.1 : Int) == 2) then ((m39 ((4, ()), ((u1184.2.1.1, ()), ()))).bind fun u1189 =>
bif (decide ((0 : Int) ≤ u1189.1.1 ∧ (u1189.1.1 : Int) < ([[(bs [98]), (bs [97])], [(bs [97]), (bs [97])], [(bs [65])], [(bs [97]), (bs [98])]] : List (List ByteArray)).length)) then
(([[(bs [98]), (bs [97])], [(bs [97]), (bs [97])], [(bs [65])], [(bs [97]), (bs [98])]] : List (List ByteArray))[u1189.1.1.toNat]?).bind fun e1190 =>
(u1182.2.2.1[u1183.1.1.toNat]?).bind fun e1191 =>
some (((0, (u1182.2.2.1.set u1183.1.1.toNat (e1191.1, (e1191.2.1, (e1191.2.2.1, (e1190, e1191.2.2.2.2))))).length), ()), ((u1189.2.1.1, ()), (u1182.2.2.1, ((u1182.2.2.1.set u1183.1.1.toNat (e1191.1, (e1191.2.1, (e1191.2.2.1, (e1190, e1191.2.2.2.2))))), ()))))
else none)
else (bif ((u1184.1.1 : Int) == 3) then ((u1182.2.2.1[u1183.1.1.toNat]?).bind fun e1192 =>
(u1182.2.2.1[u1183.1.1.toNat]?).bind fun e1193 =>
(m73 (([(-1), e1192.2.2.2.2.2.1, (w64 (e1193.2.2.2.2.2.1 + 1))], ()), ((u1184.2.1.1, ()), ()))).bind fun u1194 =>
(u1182.2.2.1[u1183.1.1.toNat]?).bind fun e1195 =>
some (((0, (u1182.2.2.1.set u1183.1.1.toNat (e1195.1, (e1195.2.1, (e1195.2.2.1, (e1195.2.2.2.1, (u1194.1.1, e1195.2.2.2.2.2)))))).length), ()), ((u1194.2.1.1, ()), (u1182.2.2.1, ((u1182.2.2.1.set u1183.1.1.toNat (e1195.1, (e1195.2.1, (e1195.2.2.1, (e1195.2.2.2.1, (u1194.1.1, e1195.2.2.2.2.2)))))), ())))))
else (bif ((u1184.1.1 : Int) == 4) then ((u1182.2.2.1[u1183.1.1.toNat]?).bind fun e1196 =>
(u1182.2.2.1[u1183.1.1.toNat]?).bind fun e1197 =>
(m73 (([0, e1196.2.2.2.2.2.1, (w64 (e1197.2.2.2.2.2.1 - 1)), 604800, 604801], ()), ((u1184.2.1.1, ()), ()))).bind fun u1198 =>
(u1182.2.2.1[u1183.1.1.toNat]?).bind fun e1199 =>
some (((0, (u1182.2.2.1.set u1183.1.1.toNat (e1199.1, (e1199.2.1, (e1199.2.2.1, (e1199.2.2.2.1, (e1199.2.2.2.2.1, (e1199.2.2.2.2.2.1, (u1198.1.1, e1199.2.2.2.2.2.2.2)))))))).length), ()), ((u1198.2.1.1, ()), (u1182.2.2.1, ((u1182.2.2.1.set u1183.1.1.toNat (e1199.1, (e1199.2.1, (e1199.2.2.1, (e1199.2.2.2.1, (e1199.2.2.2.2.1, (e1199.2.2.2.2.2.1, (u1198.1.1, e1199.2.2.2.2.2.2.2)))))))), ())))))
else (bif ((u1184.1.1 : Int) == 5) then ((u1182.2.2.1[u1183.1.1.toNat]?).bind fun e1200 =>
some (((0, (u1182.2.2.1.set u1183.1.1.toNat (e1200.1, (e1200.2.1, ((-1), e1200.2.2.2)))).length), ()), ((u1184.2.1.1, ()), (u1182.2.2.1, ((u1182.2.2.1.set u1183.1.1.toNat (e1200.1, (e1200.2.1, ((-1), e1200.2.2.2)))), ())))))
else (bif (decide (0 ≤ 0 ∧ 0 ≤ u1182.2.2.1.length)) then
some (((0, 0), ()), ((u1184.2.1.1, ()), (u1182.2.2.1, (u1182.2.2.1, ()))))
else none))))))) : Option (((Nat × Nat) × Unit) × (Y11 × (List Y6) × (List Y6) × Unit))).bind fun v1201 =>
bif (decide (v1201.2.2.1.length = u1182.2.2.1.length) && true) then
bif (decide (v1201.1.1.1 + v1201.1.1.2 ≤ v1201.2.2.2.1.length)) then
(loopT l9_0_6 ((0, (v1179.1.2.1, (v1179.1.2.2.1, ((v1201.2.2.1, (((v1201.2.2.2.1.drop v1201.1.1.1).take v1201.1.1.2), (v1179.1.2.2.2.1, ()))), ())))), ((v1201.2.1.1, ()), ()))).bind fun d1256 =>
sumE d1256 (fun d1257 => (some ((d1257.1.1, ()), ()))) (fun d1258 => ((m52 ((), ())).bind fun u1259 =>
some ((u1259.1.1, ()), ())))
else none
else none
else none
else none)

def sp9 : Abs.Spec := ⟨0, i9, o9, m9⟩

def an9 : Nat → Abs.FAn
  | 0 => Abs.FAn.mk (fun
    | 19 => some ⟨[116, 12, 95, 9, 3, 2, 40, 41, 96], (.dat .bool (.dat (.row Z2) (.dat (.cons (.int .i64) (.cons (.int .i64) .unit)) (.st (.ptr (0, 0) 2 0 0) (.dat (.int .i64) (.dat (.row Z7) (.dat (.cons (.row Z2) (.cons (.row Z2) (.cons (.row Z2) .unit))) (.dat (.int .i64) (.dat (.int .i64) .nil))))))))), (.box 2 (.dat Z9 .nil) .nil)⟩
    | 13 => some ⟨[89, 12, 54, 9, 3, 2, 40, 41, 55], (.dat .bool (.dat (.row Z2) (.dat Z20 (.st (.ptr (0, 0) 2 0 0) (.dat (.int .i64) (.dat (.row Z7) (.dat (.cons (.row Z2) (.cons (.row Z2) (.cons (.row Z2) .unit))) (.dat (.int .i64) (.dat (.int .i64) .nil))))))))), (.box 2 (.dat Z9 .nil) .nil)⟩
    | 1 => some ⟨[29, 3, 2, 1, 0], (.dat .bool (.dat (.int .i64) (.dat (.row Z7) (.dat (.row Z2) (.dat (.row (.int .i64)) .nil))))), .nil⟩
    | _ => none) (fun _ => none) (fun
    | 6 => some ⟨⟨[41, 9, 3, 2, 40], (.dat (.int .i64) (.st (.ptr (0, 0) 2 0 0) (.dat (.int .i64) (.dat (.row Z7) (.dat (.cons (.row Z2) (.cons (.row Z2) (.cons (.row Z2) .unit))) .nil))))), (.box 2 (.dat Z9 .nil) .nil)⟩, (.more .ret ⟨[8], (.dat .bool .nil), .nil⟩ (.one (.exit 0) ⟨[], .nil, .nil⟩))⟩
    | 17 => some ⟨⟨[96, 12, 95, 9, 3, 2, 40, 41], (.dat (.int .i64) (.dat (.row Z2) (.dat (.cons (.int .i64) (.cons (.int .i64) .unit)) (.st (.ptr (0, 0) 2 0 0) (.dat (.int .i64) (.dat (.row Z7) (.dat (.cons (.row Z2) (.cons (.row Z2) (.cons (.row Z2) .unit))) (.dat (.int .i64) .nil)))))))), (.box 2 (.dat Z9 .nil) .nil)⟩, (.more .ret ⟨[8], (.dat .bool .nil), .nil⟩ (.one (.exit 4) ⟨[9, 3, 2, 40, 41], (.st (.ptr (0, 0) 2 0 0) (.dat (.int .i64) (.dat (.row Z7) (.dat (.cons (.row Z2) (.cons (.row Z2) (.cons (.row Z2) .unit))) (.dat (.int .i64) .nil))))), (.box 2 (.dat Z9 .nil) .nil)⟩))⟩
    | 11 => some ⟨⟨[55, 12, 54, 9, 3, 2, 40, 41], (.dat (.int .i64) (.dat (.row Z2) (.dat Z20 (.st (.ptr (0, 0) 2 0 0) (.dat (.int .i64) (.dat (.row Z7) (.dat (.cons (.row Z2) (.cons (.row Z2) (.cons (.row Z2) .unit))) (.dat (.int .i64) .nil)))))))), (.box 2 (.dat Z9 .nil) .nil)⟩, (.more .ret ⟨[8], (.dat .bool .nil), .nil⟩ (.one (.exit 2) ⟨[12, 9, 3, 2, 40, 41], (.dat (.row Z2) (.st (.ptr (0, 0) 2 0 0) (.dat (.int .i64) (.dat (.row Z7) (.dat (.cons (.row Z2) (.cons (.row Z2) (.cons (.row Z2) .unit))) (.dat (.int .i64) .nil)))))), (.box 2 (.dat Z9 .nil) .nil)⟩))⟩
    | _ => none) (fun
    | 19, 15 => 9
    | 19, 6 => 8
    | 13, 6 => 7
    | 5, 3 => 1
    | _, _ => 0)
  | 1 => Abs.FAn.mk (fun _ => none) (fun
    | 17 => some (⟨[5], (.part Z2 (2, 0) .nil), (.box 2 (.dat Z9 .nil) (.arr Z2 false (.arr Z2 false .nil)))⟩, none)
    | _ => none) (fun _ => none) (fun _ _ => 0)
  | 2 => Abs.FAn.mk (fun _ => none) (fun _ => none) (fun
    | 4 => some ⟨⟨[13, 1, 0, 12], (.dat (.int .i64) (.st (.own (.int .i64) (1, 0)) (.st (.own (.int .i64) (0, 0)) (.dat (.int .i64) .nil)))), (.arr (.int .i64) false (.arr (.int .i64) false .nil))⟩, (.more .ret ⟨[4], (.dat .bool .nil), (.arr (.int .i64) false (.arr (.int .i64) false .nil))⟩ (.one (.exit 0) ⟨[], .nil, (.arr (.int .i64) false (.arr (.int .i64) false .nil))⟩))⟩
    | _ => none) (fun _ _ => 0)
  | 3 => Abs.FAn.mk (fun _ => none) (fun _ => none) (fun
    | 4 => some ⟨⟨[13, 1, 0, 12], (.dat (.int .i64) (.st (.own (.int .i64) (1, 0)) (.st (.own (.int .i64) (0, 0)) (.dat (.int .i64) .nil)))), (.arr (.int .i64) false (.arr (.int .i64) false .nil))⟩, (.more .ret ⟨[4], (.dat .bool .nil), (.arr (.int .i64) false (.arr (.int .i64) false .nil))⟩ (.one (.exit 0) ⟨[], .nil, (.arr (.int .i64) false (.arr (.int .i64) false .nil))⟩))⟩
    | _ => none) (fun _ _ => 0)
  | 4 => Abs.FAn.mk (fun _ => none) (fun _ => none) (fun
    | 4 => some ⟨⟨[13, 1, 0, 12], (.dat (.int .i64) (.st (.own (.int .i64) (1, 0)) (.st (.own (.int .i64) (0, 0)) (.dat (.int .i64) .nil)))), (.arr (.int .i64) false (.arr (.int .i64) false .nil))⟩, (.more .ret ⟨[4], (.dat .bool .nil), (.arr (.int .i64) false (.arr (.int .i64) false .nil))⟩ (.one (.exit 0) ⟨[], .nil, (.arr (.int .i64) false (.arr (.int .i64) false .nil))⟩))⟩
    | _ => none) (fun _ _ => 0)
  | 5 => Abs.FAn.mk (fun _ => none) (fun _ => none) (fun
    | 4 => some ⟨⟨[13, 1, 0, 12], (.dat (.int .i64) (.st (.own (.int .i64) (1, 0)) (.st (.own (.int .i64) (0, 0)) (.dat (.int .i64) .nil)))), (.arr (.int .i64) false (.arr (.int .i64) false .nil))⟩, (.more .ret ⟨[4], (.dat .bool .nil), (.arr (.int .i64) false (.arr (.int .i64) false .nil))⟩ (.one (.exit 0) ⟨[], .nil, (.arr (.int .i64) false (.arr (.int .i64) false .nil))⟩))⟩
    | _ => none) (fun _ _ => 0)
  | 6 => Abs.FAn.mk (fun _ => none) (fun _ => none) (fun
    | 4 => some ⟨⟨[13, 1, 0, 12], (.dat (.int .i64) (.st (.own (.int .i64) (1, 0)) (.st (.own (.int .i64) (0, 0)) (.dat (.int .i64) .nil)))), (.arr (.int .i64) false (.arr (.int .i64) false .nil))⟩, (.more .ret ⟨[4], (.dat .bool .nil), (.arr (.int .i64) false (.arr (.int .i64) false .nil))⟩ (.one (.exit 0) ⟨[], .nil, (.arr (.int .i64) false (.arr (.int .i64) false .nil))⟩))⟩
    | _ => none) (fun _ _ => 0)
  | 7 => Abs.FAn.mk (fun _ => none) (fun _ => none) (fun
    | 4 => some ⟨⟨[13, 1, 0, 12], (.dat (.int .i64) (.st (.own (.int .i64) (1, 0)) (.st (.own (.int .i64) (0, 0)) (.dat (.int .i64) .nil)))), (.arr (.int .i64) false (.arr (.int .i64) false .nil))⟩, (.more .ret ⟨[4], (.dat .bool .nil), (.arr (.int .i64) false (.arr (.int .i64) false .nil))⟩ (.one (.exit 0) ⟨[], .nil, (.arr (.int .i64) false (.arr (.int .i64) false .nil))⟩))⟩
    | _ => none) (fun _ _ => 0)
  | 8 => Abs.FAn.mk (fun _ => none) (fun _ => none) (fun
    | 4 => some ⟨⟨[13, 1, 0, 12], (.dat (.int .i64) (.st (.own (.int .i64) (1, 0)) (.st (.own (.int .i64) (0, 0)) (.dat (.int .i64) .nil)))), (.arr (.int .i64) false (.arr (.int .i64) false .nil))⟩, (.more .ret ⟨[4], (.dat .bool .nil), (.arr (.int .i64) false (.arr (.int .i64) false .nil))⟩ (.one (.exit 0) ⟨[], .nil, (.arr (.int .i64) false (.arr (.int .i64) false .nil))⟩))⟩
    | _ => none) (fun _ _ => 0)
  | 9 => Abs.FAn.mk (fun _ => none) (fun _ => none) (fun
    | 4 => some ⟨⟨[13, 1, 0, 12], (.dat (.int .i64) (.st (.own (.int .i64) (1, 0)) (.st (.own (.int .i64) (0, 0)) (.dat (.int .i64) .nil)))), (.arr (.int .i64) false (.arr (.int .i64) false .nil))⟩, (.more .ret ⟨[4], (.dat .bool .nil), (.arr (.int .i64) false (.arr (.int .i64) false .nil))⟩ (.one (.exit 0) ⟨[], .nil, (.arr (.int .i64) false (.arr (.int .i64) false .nil))⟩))⟩
    | _ => none) (fun _ _ => 0)
  | _ => {}

theorem ok9 : Abs.SpecOK Tryd.prog 9 sp9 :=
  Abs.specOC_of (C := ctab) (mv := mvtab) ctab_ok (n := 12) (an := an9) (T := Abs.tabOf [(17, sp17), (52, sp52), (19, sp19), (53, sp53), (39, sp39), (73, sp73), (49, sp49), (55, sp55), (20, sp20), (48, sp48), (56, sp56), (57, sp57), (58, sp58), (51, sp51), (59, sp59), (60, sp60), (61, sp61)]) good foll (Abs.tabOf_ok _ (by simp only [List.forall_mem_cons]; exact ⟨ok17, ok52, ok19, ok53, ok39, ok73, ok49, ok55, ok20, ok48, ok56, ok57, ok58, ok51, ok59, ok60, ok61, fun _ h => by cases h⟩)) rfl (by intro v; kernel_rfl)

/- pagewatch/mute.Silenced -/
def i64 : Abs.Sg := ⟨[0, 1, 2], (.dat (.row Z1) (.dat (.row Z7) (.dat (.int .i64) .nil))), .nil⟩

/- 116 pagewatch/mute.End$1: not told by a law: a closure -/

/- 115 slices.IndexFunc[[]pagewatch/api.Silence,pagewatch/api.Silence]: not told by a law: a parameter -/

/- 117 slices.Delete[[]pagewatch/api.Silence,pagewatch/api.Silence]: not told by a law: run where it is called -/

/- 146 pagewatch/mute.equal$1: not told by a law: a closure -/

/- 159 slices.IndexFunc[[]string,string]: not told by a law: a parameter -/

/- 145 slices.ContainsFunc[[]string,string]: not told by a law: a parameter -/

end
end Go.Proofs.YtcblbcpnfidndaaDoor

namespace Go.Proofs.YtcblbcpnfidndaaDoor
open Go Go.Abs Go.Lab
/-- What joins and conditions need. -/
theorem sS : (∀ h : Decidable True, @decide True h = true) ∧ (∀ h : Decidable False, @decide False h = false) ∧ (∀ {α : Type} (a b : α), cond true a b = a) ∧ (∀ {α : Type} (a b : α), cond false a b = b) ∧ (∀ {α β : Type} (a : α) (f : α → Option β), (some a).bind f = f a) ∧ (!true) = false ∧ (!false) = true ∧ (∀ b : Bool, (true && b) = b) ∧ (∀ b : Bool, (b && true) = b) ∧ (∀ b : Bool, (false && b) = false) ∧ (∀ b : Bool, (b && false) = false) ∧ (∀ {α : Type} [BEq α] [LawfulBEq α] (a : α), (a == a) = true) ∧ (∀ {α : Type} [BEq α] [LawfulBEq α] (a : α), (a != a) = false) :=
  ⟨fun _ => decide_true _, fun _ => decide_false _, fun _ _ => rfl, fun _ _ => rfl, fun _ _ => rfl, rfl, rfl, Bool.true_and, Bool.and_true, Bool.false_and, Bool.and_false, fun _ => beq_self_eq_true _, fun _ => bne_self_eq_false _⟩

/-- An element of a row, without the proof that it is one. -/
def rowG {A B : Type} (l : List A) (n : Int) (F : A → Option B) : Option B := bif decide (0 ≤ n) then (l[n.toNat]?).bind F else none

theorem rowAt_G {A B : Type} {l : List A} {n : Int} (F : A → Option B) : Abs.rowAt l n (fun e _ => F e) = rowG l n F := by
  unfold Abs.rowAt rowG
  cases l[n.toNat]? <;> rfl

theorem rowG_nat {A B : Type} {l : List A} {i : Nat} {e : A} (h : l[i]? = some e) (F : A → Option B) : rowG l (i : Int) F = F e := by
  unfold rowG
  rw [show decide (0 ≤ (i : Int)) = true from decide_eq_true (by omega), Int.toNat_natCast, h]; rfl

theorem rowG_int {A B : Type} {l : List A} {n : Int} {e : A} (h0 : 0 ≤ n) (h : l[n.toNat]? = some e) (F : A → Option B) : rowG l n F = F e := by
  unfold rowG
  rw [show decide (0 ≤ n) = true from decide_eq_true h0, h]; rfl

theorem w64_nat {i : Nat} (h : i < 9223372036854775807) : w64 ((i : Int) + 1) = ((i + 1 : Nat) : Int) := by rw [w64_id (by omega) (by omega)]; omega

theorem drop_at {A : Type} {l : List A} {i : Nat} (h : i < l.length) : ∃ e, l[i]? = some e ∧ l.drop i = e :: l.drop (i + 1) :=
  ⟨l[i], List.getElem?_eq_getElem h, List.drop_eq_getElem_cons h⟩

theorem getD_some {A : Type} {l : List A} {i : Nat} (h : i < l.length) : ∃ e, l[i]? = some e := ⟨_, List.getElem?_eq_getElem h⟩

theorem bind_of {A B : Type} {o : Option A} {f : A → Option B} {y : Option B} (x : A) (h : o = some x) (h2 : f x = y) : o.bind f = y := by rw [h]; exact h2

theorem beq_decide (a b : Int) : (a == b) = decide (a = b) := by
  by_cases h : a = b <;> simp [h]

/-! ### Bytes -/
abbrev bl (s : ByteArray) : List UInt8 := s.data.toList

theorem len_bl (s : ByteArray) : (bl s).length = s.size := Array.length_toList

theorem at_bl (s : ByteArray) (i : Nat) : (s[i]? : Option UInt8) = (bl s)[i]? := by
  rw [Array.getElem?_toList]
  by_cases h : i < s.size
  · rw [getElem?_pos s i h, getElem?_pos s.data i h]; rfl
  · rw [getElem?_neg s i h, getElem?_neg s.data i h]

theorem toList_bl (s : ByteArray) : s.toList = bl s := ByteArray.toList_eq s

theorem bl_inj {s t : ByteArray} (h : bl s = bl t) : s = t := ByteArray.ext (Array.toList_inj.1 h)

theorem bl_mk (l : List UInt8) : bl (mkB l) = l := rfl

theorem bl_empty : bl ByteArray.empty = [] := rfl

theorem beq_bl (s t : ByteArray) : (bl s == bl t) = decide (s = t) := by
  by_cases h : s = t
  · subst h; simp
  · have : bl s ≠ bl t := fun e => h (bl_inj e)
    rw [decide_eq_false h]; exact beq_eq_false_iff_ne.2 this

theorem size_mk (l : List UInt8) : (mkB l).size = l.length := rfl

theorem extract_bl (s : ByteArray) (a b : Nat) : bl (s.extract a b) = ((bl s).drop a).take (b - a) := by
  exact Lib.extract_data s a b

abbrev LT : Type := ByteArray × ByteArray × Unit

abbrev MT : Type := ByteArray × Int × ByteArray × Unit

def u8 (c : UInt8) : Int := ((c.toNat : Nat) : Int)

theorem keyChar_u8 (c : UInt8) : keyChar c = ((decide (97 ≤ u8 c) && decide (u8 c ≤ 122)) || (decide (48 ≤ u8 c) && decide (u8 c ≤ 57)) || u8 c == 95) := by
  have e : (c == 95) = (u8 c == 95) := by
    by_cases h : c = 95
    · subst h; rfl
    · have : u8 c ≠ 95 := fun e => h (UInt8.toNat_inj.1 (by unfold u8 at e; show c.toNat = 95; omega))
      rw [beq_eq_false_iff_ne.2 h, beq_eq_false_iff_ne.2 this]
  unfold keyChar
  rw [e]
  have le : ∀ (n : UInt8), decide (n ≤ c) = decide ((n.toNat : Int) ≤ u8 c) := fun n => decide_eq_decide.2 (by rw [UInt8.le_iff_toNat_le]; unfold u8; omega)
  have ge : ∀ (n : UInt8), decide (c ≤ n) = decide (u8 c ≤ (n.toNat : Int)) := fun n => decide_eq_decide.2 (by rw [UInt8.le_iff_toNat_le]; unfold u8; omega)
  rw [le, ge, le, ge]
  rfl

theorem valChar_u8 (c : UInt8) : (decide (32 ≤ c) && decide (c ≤ 126)) = (decide (32 ≤ u8 c) && decide (u8 c ≤ 126)) := by
  have le : ∀ (n : UInt8), decide (n ≤ c) = decide ((n.toNat : Int) ≤ u8 c) := fun n => decide_eq_decide.2 (by rw [UInt8.le_iff_toNat_le]; unfold u8; omega)
  have ge : ∀ (n : UInt8), decide (c ≤ n) = decide (u8 c ≤ (n.toNat : Int)) := fun n => decide_eq_decide.2 (by rw [UInt8.le_iff_toNat_le]; unfold u8; omega)
  rw [le, ge]
  rfl

theorem byte_at {s : ByteArray} {i : Nat} {c : UInt8} (h : (bl s)[i]? = some c) : (((s[(i : Int).toNat]?.getD 0).toNat : Nat) : Int) = u8 c := by
  rw [Int.toNat_natCast, at_bl, h]; rfl

theorem lt_ge (a b : Int) : decide (a < b) = !decide (b ≤ a) := by
  by_cases h : a < b
  · rw [decide_eq_true h, decide_eq_false (by omega)]; rfl
  · rw [decide_eq_false h, decide_eq_true (by omega)]; rfl

theorem gt_le (a b : Int) : decide (a > b) = !decide (a ≤ b) := by
  by_cases h : a > b
  · rw [decide_eq_true h, decide_eq_false (by omega)]; rfl
  · rw [decide_eq_false h, decide_eq_true (by omega)]; rfl

theorem loop87 (s : ByteArray) (hs : s.size ≤ 9223372036854775807) : ∀ (k i : Nat), i + k = s.size →
    loopT l87_0_4 (((i : Int), s, (s.size : Int), ()), ()) = some (if ((bl s).drop i).all keyChar then .inr ((), ()) else .inl ((false, ()), ())) := by
  intro k
  induction k with
  | zero =>
    intro i h
    rw [List.drop_eq_nil_of_le (by rw [len_bl]; omega)]
    refine loopT_inr ?_
    have : ¬ (i : Int) < (s.size : Int) := by omega
    simp only [l87_0_4, decide_eq_false this, sumE, sS, List.all_nil, if_true]
  | succ k ih =>
    intro i h
    obtain ⟨c, hc, hd⟩ := drop_at (l := bl s) (i := i) (by rw [len_bl]; omega)
    have hlt : decide ((i : Int) < (s.size : Int)) = true := decide_eq_true (by omega)
    have hbd : decide ((0 : Int) ≤ (i : Int) ∧ (i : Int) < (s.size : Int)) = true := decide_eq_true (by omega)
    rw [hd, List.all_cons]
    have hstep : l87_0_4 (((i : Int), s, (s.size : Int), ()), ()) = if keyChar c then some (.inl ((w64 ((i : Int) + 1), s, (s.size : Int), ()), ())) else some (.inr (.inl ((false, ()), ()))) := by
      rw [keyChar_u8]
      simp only [l87_0_4, hlt, hbd, byte_at hc, sumE, sS, lt_ge, gt_le, bne]
      cases decide (97 ≤ u8 c) <;> cases decide (u8 c ≤ 122) <;> cases decide (48 ≤ u8 c) <;> cases decide (u8 c ≤ 57) <;> cases (u8 c == 95) <;> rfl
    cases hk : keyChar c
    · rw [hk] at hstep
      exact loopT_inr hstep
    · rw [hk, w64_nat (by omega)] at hstep
      rw [loopT_inl hstep, ih (i + 1) (by omega)]
      rfl

theorem byte_n {s : ByteArray} {i : Nat} {c : UInt8} (h : (bl s)[i]? = some c) : (((s[i]?.getD 0).toNat : Nat) : Int) = u8 c := by
  rw [at_bl, h]; rfl

def valChar (c : UInt8) : Bool := decide (32 ≤ c) && decide (c ≤ 126)

theorem valChar_eq (c : UInt8) : valChar c = (decide (32 ≤ u8 c) && decide (u8 c ≤ 126)) := valChar_u8 c

theorem loop89 (s : ByteArray) (hs : s.size ≤ 9223372036854775807) : ∀ (k i : Nat), i + k = s.size →
    loopT l89_0_4 (((i : Int), s, ()), ()) = some (if ((bl s).drop i).all keyChar then .inr ((), ()) else .inl ((false, ()), ())) := by
  intro k
  induction k with
  | zero =>
    intro i h
    rw [List.drop_eq_nil_of_le (by rw [len_bl]; omega)]
    refine loopT_inr ?_
    have : ¬ (i : Int) < (s.size : Int) := by omega
    simp only [l89_0_4, decide_eq_false this, sumE, sS, List.all_nil, if_true]
  | succ k ih =>
    intro i h
    obtain ⟨c, hc, hd⟩ := drop_at (l := bl s) (i := i) (by rw [len_bl]; omega)
    have hlt : decide ((i : Int) < (s.size : Int)) = true := decide_eq_true (by omega)
    have hbd : decide ((0 : Int) ≤ (i : Int) ∧ (i : Int) < (s.size : Int)) = true := decide_eq_true (by omega)
    rw [hd, List.all_cons]
    have hstep : l89_0_4 (((i : Int), s, ()), ()) = if keyChar c then some (.inl ((w64 ((i : Int) + 1), s, ()), ())) else some (.inr (.inl ((false, ()), ()))) := by
      rw [keyChar_u8]
      simp only [l89_0_4, hlt, hbd, byte_at hc, sumE, sS, lt_ge, gt_le, bne]
      cases decide (97 ≤ u8 c) <;> cases decide (u8 c ≤ 122) <;> cases decide (48 ≤ u8 c) <;> cases decide (u8 c ≤ 57) <;> cases (u8 c == 95) <;> rfl
    cases hk : keyChar c
    · rw [hk] at hstep
      exact loopT_inr hstep
    · rw [hk, w64_nat (by omega)] at hstep
      rw [loopT_inl hstep, ih (i + 1) (by omega)]
      rfl

theorem loop88 (s : ByteArray) (hs : s.size ≤ 9223372036854775807) : ∀ (k i : Nat), i + k = s.size →
    loopT l88_0_2 (((i : Int), s, (s.size : Int), ()), ()) = some (if ((bl s).drop i).all valChar then .inr ((s, ()), ()) else .inl ((false, ()), ())) := by
  intro k
  induction k with
  | zero =>
    intro i h
    rw [List.drop_eq_nil_of_le (by rw [len_bl]; omega)]
    refine loopT_inr ?_
    have : ¬ (i : Int) < (s.size : Int) := by omega
    simp only [l88_0_2, decide_eq_false this, sumE, sS, List.all_nil, if_true]
  | succ k ih =>
    intro i h
    obtain ⟨c, hc, hd⟩ := drop_at (l := bl s) (i := i) (by rw [len_bl]; omega)
    have hlt : decide ((i : Int) < (s.size : Int)) = true := decide_eq_true (by omega)
    have hbd : decide ((0 : Int) ≤ (i : Int) ∧ (i : Int) < (s.size : Int)) = true := decide_eq_true (by omega)
    rw [hd, List.all_cons]
    have hstep : l88_0_2 (((i : Int), s, (s.size : Int), ()), ()) = if valChar c then some (.inl ((w64 ((i : Int) + 1), s, (s.size : Int), ()), ())) else some (.inr (.inl ((false, ()), ()))) := by
      rw [valChar_eq]
      simp only [l88_0_2, hlt, hbd, byte_at hc, sumE, sS, lt_ge, gt_le, bne]
      cases decide (32 ≤ u8 c) <;> cases decide (u8 c ≤ 126) <;> rfl
    cases hk : valChar c
    · rw [hk] at hstep
      exact loopT_inr hstep
    · rw [hk, w64_nat (by omega)] at hstep
      rw [loopT_inl hstep, ih (i + 1) (by omega)]
      rfl

theorem loop90 (s : ByteArray) (hs : s.size ≤ 9223372036854775807) : ∀ (k i : Nat), i + k = s.size →
    loopT l90_0_4 (((i : Int), s, ()), ()) = some (if ((bl s).drop i).all valChar then .inr ((), ()) else .inl ((false, ()), ())) := by
  intro k
  induction k with
  | zero =>
    intro i h
    rw [List.drop_eq_nil_of_le (by rw [len_bl]; omega)]
    refine loopT_inr ?_
    have : ¬ (i : Int) < (s.size : Int) := by omega
    simp only [l90_0_4, decide_eq_false this, sumE, sS, List.all_nil, if_true]
  | succ k ih =>
    intro i h
    obtain ⟨c, hc, hd⟩ := drop_at (l := bl s) (i := i) (by rw [len_bl]; omega)
    have hlt : decide ((i : Int) < (s.size : Int)) = true := decide_eq_true (by omega)
    have hbd : decide ((0 : Int) ≤ (i : Int) ∧ (i : Int) < (s.size : Int)) = true := decide_eq_true (by omega)
    rw [hd, List.all_cons]
    have hstep : l90_0_4 (((i : Int), s, ()), ()) = if valChar c then some (.inl ((w64 ((i : Int) + 1), s, ()), ())) else some (.inr (.inl ((false, ()), ()))) := by
      rw [valChar_eq]
      simp only [l90_0_4, hlt, hbd, byte_at hc, sumE, sS, lt_ge, gt_le, bne]
      cases decide (32 ≤ u8 c) <;> cases decide (u8 c ≤ 126) <;> rfl
    cases hk : valChar c
    · rw [hk] at hstep
      exact loopT_inr hstep
    · rw [hk, w64_nat (by omega)] at hstep
      rw [loopT_inl hstep, ih (i + 1) (by omega)]
      rfl

abbrev keyS (s : ByteArray) : Bool := keyL (bl s)

abbrev valS (s : ByteArray) : Bool := valL (bl s)

theorem key_head (s : ByteArray) : keyS s = match bl s with
    | [] => false
    | c :: _ => (!decide ((s.size : Int) > 24)) && (decide (97 ≤ u8 c) && decide (u8 c ≤ 122)) && (bl s).all keyChar := by
  have hl := len_bl s
  unfold keyS keyL
  cases h : bl s with
  | nil => rfl
  | cons c r =>
    rw [h] at hl
    have le : ∀ (n : UInt8), decide (n ≤ c) = decide ((n.toNat : Int) ≤ u8 c) := fun n => decide_eq_decide.2 (by rw [UInt8.le_iff_toNat_le]; unfold u8; omega)
    have ge : ∀ (n : UInt8), decide (c ≤ n) = decide (u8 c ≤ (n.toNat : Int)) := fun n => decide_eq_decide.2 (by rw [UInt8.le_iff_toNat_le]; unfold u8; omega)
    simp only [gt_le, Bool.not_not]
    rw [show decide ((c :: r).length ≤ 24) = decide ((s.size : Int) ≤ 24) from decide_eq_decide.2 (by rw [hl]; omega), le, ge]
    rfl

theorem m87_eq (s : ByteArray) (hs : s.size ≤ 9223372036854775807) : m87 ((s, ()), ()) = some ((keyS s, ()), ()) := by
  rw [key_head]
  have hl := len_bl s
  have hlp := loop87 s hs s.size 0 (by omega)
  unfold m87
  cases h : bl s with
  | nil =>
    simp only [toList_bl, h, bl_empty, sumE, sS]
  | cons c r =>
    have hne : (bl s == bl ByteArray.empty) = false := by rw [h]; rfl
    have h0 : (((s[0]?.getD 0).toNat : Nat) : Int) = u8 c := by rw [at_bl, h]; rfl
    have hpos : decide ((0 : Int) ≤ 0 ∧ (0 : Int) < s.size) = true := decide_eq_true (by rw [h] at hl; simp at hl; omega)
    simp only [toList_bl, hne, hpos, h0, sumE, sS]
    cases decide ((s.size : Int) > 24)
    · simp only [lt_ge, gt_le, sumE, sS]
      cases decide (97 ≤ u8 c)
      · rfl
      · cases decide (u8 c ≤ 122)
        · rfl
        · simp only [sumE, sS]
          rw [List.drop_zero] at hlp
          refine bind_of _ hlp ?_
          cases ha : (bl s).all keyChar <;> rw [← h] <;> simp only [ha, sumE, sS] <;> rfl
    · rfl

theorem m89_eq (s : ByteArray) (hs : s.size ≤ 9223372036854775807) : m89 ((s, ()), ()) = some ((keyS s, ()), ()) := by
  rw [key_head]
  have hl := len_bl s
  have hlp := loop89 s hs s.size 0 (by omega)
  unfold m89
  cases h : bl s with
  | nil =>
    have : decide ((s.size : Int) < 1) = true := decide_eq_true (by rw [h] at hl; simp at hl; omega)
    simp only [this, sumE, sS]
  | cons c r =>
    have hne : decide ((s.size : Int) < 1) = false := decide_eq_false (by rw [h] at hl; simp at hl; omega)
    have h0 : (((s[0]?.getD 0).toNat : Nat) : Int) = u8 c := by rw [at_bl, h]; rfl
    have hpos : decide ((0 : Int) ≤ 0 ∧ (0 : Int) < s.size) = true := decide_eq_true (by rw [h] at hl; simp at hl; omega)
    simp only [hne, hpos, h0, sumE, sS]
    cases decide ((s.size : Int) > 24)
    · simp only [lt_ge, gt_le, sumE, sS]
      cases decide (97 ≤ u8 c)
      · rfl
      · cases decide (u8 c ≤ 122)
        · rfl
        · simp only [sumE, sS]
          rw [List.drop_zero] at hlp
          refine bind_of _ hlp ?_
          cases ha : (bl s).all keyChar <;> rw [← h] <;> simp only [ha, sumE, sS] <;> rfl
    · rfl

theorem val_def (s : ByteArray) : valS s = ((bl s).all valChar && decide ((s.size : Int) ≤ 64)) := by
  unfold valS valL
  rw [len_bl, show decide (s.size ≤ 64) = decide ((s.size : Int) ≤ 64) from decide_eq_decide.2 (by omega)]
  rfl

theorem m88_eq (s : ByteArray) (hs : s.size ≤ 9223372036854775807) : m88 ((s, ()), ()) = some ((valS s, ()), ()) := by
  rw [val_def]
  have hlp := loop88 s hs s.size 0 (by omega)
  rw [List.drop_zero] at hlp
  unfold m88
  refine bind_of _ hlp ?_
  cases ha : (bl s).all valChar <;> simp only [sumE, sS] <;> rfl

theorem m90_eq (s : ByteArray) (hs : s.size ≤ 9223372036854775807) : m90 ((s, ()), ()) = some ((valS s, ()), ()) := by
  rw [val_def]
  have hlp := loop90 s hs s.size 0 (by omega)
  rw [List.drop_zero] at hlp
  unfold m90
  simp only [gt_le]
  cases decide ((s.size : Int) ≤ 64)
  · simp only [sumE, sS]
  · simp only [sumE, sS]
    refine bind_of _ hlp ?_
    cases ha : (bl s).all valChar <;> rfl

/-- Whether a matcher is right. -/
def rightM (m : MT) : Bool := keyS m.1 && (decide (m.2.1 ≥ 0) && (decide (m.2.1 ≤ 3) && valS m.2.2.1))

def MSz (m : MT) : Prop := m.1.size ≤ 9223372036854775807 ∧ m.2.2.1.size ≤ 9223372036854775807

theorem m22_eq (m : MT) (hm : MSz m) : m22 ((m, ()), ()) = some ((rightM m, ()), ()) := by
  unfold m22 rightM
  simp only [m87_eq _ hm.1, m88_eq _ hm.2, sumE, sS]
  cases keyS m.1 <;> cases decide (m.2.1 ≥ 0) <;> cases decide (m.2.1 ≤ 3) <;> simp only [sumE, sS]

theorem m23_eq (m : MT) (hm : MSz m) : m23 ((m, ()), ()) = some ((rightM m, ()), ()) := by
  unfold m23 rightM
  simp only [m89_eq _ hm.1, m90_eq _ hm.2, sumE, sS]
  cases keyS m.1 <;> cases decide (m.2.1 ≥ 0) <;> cases decide (m.2.1 ≤ 3) <;> simp only [sumE, sS]

end Go.Proofs.YtcblbcpnfidndaaDoor

namespace Go.Proofs.YtcblbcpnfidndaaDoor
open Go Go.Abs Go.Lab
/-- The value of a key. -/
def findL (k : ByteArray) : List LT → Option ByteArray
  | [] => none
  | x :: l => if x.1 = k then some x.2.1 else findL k l

def getL (l : List LT) (k : ByteArray) : ByteArray := (findL k l).getD ByteArray.empty

theorem loop38 (l : List LT) (key : ByteArray) (hl : l.length ≤ 9223372036854775807) : ∀ (k i : Nat), i + k = l.length →
    loopT l38_0_2 (((i : Int), key, l, (l.length : Int), ()), ()) = some (match findL key (l.drop i) with | some v => .inl ((v, ()), ()) | none => .inr ((), ())) := by
  intro k
  induction k with
  | zero =>
    intro i h
    rw [List.drop_eq_nil_of_le (by omega)]
    refine loopT_inr ?_
    have : ¬ (i : Int) < (l.length : Int) := by omega
    simp only [l38_0_2, decide_eq_false this, sumE, sS, findL]
  | succ k ih =>
    intro i h
    obtain ⟨e, he, hd⟩ := drop_at (l := l) (i := i) (by omega)
    have hlt : decide ((i : Int) < (l.length : Int)) = true := decide_eq_true (by omega)
    rw [hd, findL]
    by_cases hk : e.1 = key
    · rw [if_pos hk]
      refine loopT_inr ?_
      simp only [l38_0_2, rowAt_G, rowG_nat he, hlt, toList_bl, beq_bl, decide_eq_true hk, sumE, sS]
    · rw [if_neg hk, ← ih (i + 1) (by omega)]
      refine loopT_inl ?_
      simp only [l38_0_2, rowAt_G, rowG_nat he, hlt, toList_bl, beq_bl, decide_eq_false hk, sumE, sS, w64_nat (show i < 9223372036854775807 by omega)]

theorem m38_eq (l : List LT) (key : ByteArray) (hl : l.length ≤ 9223372036854775807) : m38 ((l, key, ()), ()) = some ((getL l key, ()), ()) := by
  have h := loop38 l key hl l.length 0 (by omega)
  rw [List.drop_zero] at h
  unfold m38 getL
  refine bind_of _ h ?_
  cases findL key l <;> rfl

theorem loop44 (l : List LT) (key : ByteArray) (hl : l.length ≤ 9223372036854775807) : ∀ (k i : Nat), i + k = l.length →
    loopT l44_0_2 (((i : Int), l, key, ()), ()) = some (match findL key (l.drop i) with | some v => .inl ((v, ()), ()) | none => .inr ((), ())) := by
  intro k
  induction k with
  | zero =>
    intro i h
    rw [List.drop_eq_nil_of_le (by omega)]
    refine loopT_inr ?_
    have : ¬ (i : Int) < (l.length : Int) := by omega
    simp only [l44_0_2, decide_eq_false this, sumE, sS, findL]
  | succ k ih =>
    intro i h
    obtain ⟨e, he, hd⟩ := drop_at (l := l) (i := i) (by omega)
    have hlt : decide ((i : Int) < (l.length : Int)) = true := decide_eq_true (by omega)
    rw [hd, findL]
    by_cases hk : e.1 = key
    · rw [if_pos hk]
      refine loopT_inr ?_
      simp only [l44_0_2, rowAt_G, rowG_nat he, hlt, toList_bl, beq_bl, decide_eq_true hk, sumE, sS]
    · rw [if_neg hk, ← ih (i + 1) (by omega)]
      refine loopT_inl ?_
      simp only [l44_0_2, rowAt_G, rowG_nat he, hlt, toList_bl, beq_bl, decide_eq_false hk, sumE, sS, w64_nat (show i < 9223372036854775807 by omega)]

theorem m44_eq (l : List LT) (key : ByteArray) (hl : l.length ≤ 9223372036854775807) : m44 ((l, key, ()), ()) = some ((getL l key, ()), ()) := by
  have h := loop44 l key hl l.length 0 (by omega)
  rw [List.drop_zero] at h
  unfold m44 getL
  refine bind_of _ h ?_
  cases findL key l <;> rfl

/-! ### Trim -/
theorem last_bl (s : ByteArray) (h : 0 < s.size) : ∃ c, (bl s)[s.size - 1]? = some c ∧ bl s = bl (s.extract 0 (s.size - 1)) ++ [c] := by
  have hl := len_bl s
  obtain ⟨c, hc⟩ := getD_some (l := bl s) (i := s.size - 1) (by omega)
  refine ⟨c, hc, ?_⟩
  rw [extract_bl, List.drop_zero, Nat.sub_zero]
  have := List.take_append_drop (s.size - 1) (bl s)
  conv => lhs; rw [← this]
  congr 1
  obtain ⟨e, he, hd⟩ := drop_at (l := bl s) (i := s.size - 1) (by omega)
  rw [hc] at he; cases he
  rw [hd, List.drop_eq_nil_of_le (by omega)]

theorem trimR (n : Nat) : ∀ (s : ByteArray), s.size = n → n ≤ 9223372036854775807 → ∃ t, loopT l124_0_1 ((s, 42, ()), ()) = some ((t, ()), ()) ∧ ∃ k, bl s = bl t ++ List.replicate k 42 := by
  induction n with
  | zero =>
    intro s hs _
    refine ⟨s, loopT_inr ?_, 0, by simp⟩
    have : decide ((s.size : Int) > 0) = false := decide_eq_false (by omega)
    simp only [l124_0_1, this, sumE, sS]
  | succ n ih =>
    intro s hs hn
    obtain ⟨c, hc, hsp⟩ := last_bl s (by omega)
    have hw : w64 ((s.size : Int) - 1) = ((s.size - 1 : Nat) : Int) := by rw [w64_id (by omega) (by omega)]; omega
    have h0 : decide ((s.size : Int) > 0) = true := decide_eq_true (by omega)
    have h1 : decide ((0 : Int) ≤ ((s.size - 1 : Nat) : Int) ∧ ((s.size - 1 : Nat) : Int) < s.size) = true := decide_eq_true (by omega)
    have h2 : decide ((0 : Int) ≤ ((s.size - 1 : Nat) : Int)) = true := decide_eq_true (by omega)
    have h3 : decide (0 ≤ s.size - 1 ∧ s.size - 1 ≤ s.size) = true := decide_eq_true (by omega)
    have hb := byte_at hc
    by_cases h42 : u8 c = 42
    · have hc42 : c = 42 := UInt8.toNat_inj.1 (by unfold u8 at h42; show c.toNat = 42; omega)
      have hsz : (s.extract 0 (s.size - 1)).size = n := by rw [← len_bl, extract_bl, List.length_take, List.length_drop, len_bl]; omega
      obtain ⟨t, ht, k, hk⟩ := ih (s.extract 0 (s.size - 1)) hsz (by omega)
      refine ⟨t, ?_, k + 1, ?_⟩
      · rw [← ht]
        refine loopT_inl ?_
        simp only [l124_0_1, h0, hw, h1, h2, Int.toNat_natCast, byte_n hc, beq_decide, decide_eq_true h42, h3, sumE, sS]
      · rw [hsp, hk, hc42, List.append_assoc]
        congr 1
        rw [List.replicate_succ']
    · refine ⟨s, loopT_inr ?_, 0, by simp⟩
      simp only [l124_0_1, h0, hw, h1, hb, beq_decide, decide_eq_false h42, sumE, sS]

theorem trimL (n : Nat) : ∀ (s : ByteArray), s.size = n → n ≤ 9223372036854775807 → ∃ t, loopT l123_0_1 ((s, 42, ()), ()) = some ((t, ()), ()) ∧ (∃ k, bl s = List.replicate k 42 ++ bl t) ∧ (∀ c r, bl t = c :: r → c ≠ 42) := by
  induction n with
  | zero =>
    intro s hs _
    refine ⟨s, loopT_inr ?_, ⟨0, by simp⟩, fun c r h => ?_⟩
    · have : decide ((s.size : Int) > 0) = false := decide_eq_false (by omega)
      simp only [l123_0_1, this, sumE, sS]
    · have := len_bl s; rw [h] at this; simp at this; omega
  | succ n ih =>
    intro s hs hn
    obtain ⟨c, hc, hsp⟩ := drop_at (l := bl s) (i := 0) (by rw [len_bl]; omega)
    rw [List.drop_zero] at hsp
    have h0 : decide ((s.size : Int) > 0) = true := decide_eq_true (by omega)
    have h1 : decide ((0 : Int) ≤ 0 ∧ (0 : Int) < s.size) = true := decide_eq_true (by omega)
    have h3 : decide (1 ≤ s.size ∧ s.size ≤ s.size) = true := decide_eq_true (by omega)
    have hb : (((s[0]?.getD 0).toNat : Nat) : Int) = u8 c := by rw [at_bl, hc]; rfl
    by_cases h42 : u8 c = 42
    · have hc42 : c = 42 := UInt8.toNat_inj.1 (by unfold u8 at h42; show c.toNat = 42; omega)
      have hex : bl (s.extract 1 s.size) = (bl s).drop 1 := by
        rw [extract_bl, List.take_of_length_le]
        rw [List.length_drop, len_bl]; exact Nat.le_refl _
      have hsz : (s.extract 1 s.size).size = n := by rw [← len_bl, hex, List.length_drop, len_bl]; omega
      obtain ⟨t, ht, ⟨k, hk⟩, hf⟩ := ih (s.extract 1 s.size) hsz (by omega)
      refine ⟨t, ?_, ⟨k + 1, ?_⟩, hf⟩
      · rw [← ht]
        refine loopT_inl ?_
        simp only [l123_0_1, h0, h1, hb, beq_decide, decide_eq_true h42, h3, sumE, sS]
      · rw [hsp, ← hex, hk, hc42]; rfl
    · refine ⟨s, loopT_inr ?_, ⟨0, by simp⟩, fun d r h => ?_⟩
      · simp only [l123_0_1, h0, h1, hb, beq_decide, decide_eq_false h42, sumE, sS]
      · rw [hsp] at h
        cases h
        intro e; subst e; exact h42 rfl

theorem m91_eq (s : ByteArray) (hs : s.size ≤ 9223372036854775807) : ∃ t, m91 ((s, bs [42], ()), ()) = some ((t, ()), ()) ∧ (bl t == bl ByteArray.empty) = (bl s).all (· == 42) := by
  by_cases he : bl s = []
  · refine ⟨s, ?_, ?_⟩
    · unfold m91
      simp only [toList_bl, he, bl_empty, sumE, sS]
    · rw [he]; rfl
  · obtain ⟨t1, h1, k1, e1⟩ := trimR s.size s rfl hs
    have hsz1 : t1.size ≤ s.size := by rw [← len_bl t1, ← len_bl s, e1, List.length_append]; omega
    obtain ⟨t2, h2, ⟨k2, e2⟩, hf⟩ := trimL t1.size t1 rfl (by omega)
    have m124e : m124 ((s, 42, ()), ()) = some ((t1, ()), ()) := by unfold m124; exact bind_of _ h1 rfl
    have m123e : m123 ((t1, 42, ()), ()) = some ((t2, ()), ()) := by unfold m123; exact bind_of _ h2 rfl
    refine ⟨t2, ?_, ?_⟩
    · have hne : (bl s == bl ByteArray.empty) = false := beq_eq_false_iff_ne.2 he
      have hb : ((((bs [42])[0]?.getD 0).toNat : Nat) : Int) = 42 := by rfl
      have hbe : (bl (bs [42]) == bl ByteArray.empty) = false := by rfl
      have hbs : (((bs [42]).size : Int) == 1) = true := by rfl
      have hbd : decide ((0 : Int) ≤ 0 ∧ (0 : Int) < (bs [42]).size) = true := by rfl
      unfold m91
      simp only [toList_bl, hne, hb, hbe, hbs, hbd, m124e, m123e, sumE, sS]
      rfl
    · rw [e1, e2, List.all_append, List.all_append]
      rw [show (List.replicate k1 (42 : UInt8)).all (· == 42) = true by simp, show (List.replicate k2 (42 : UInt8)).all (· == 42) = true by simp, Bool.and_true, Bool.true_and]
      cases h : bl t2 with
      | nil => rfl
      | cons c r =>
        have : (c == 42) = false := beq_eq_false_iff_ne.2 (hf c r h)
        simp [this, bl_empty]

end Go.Proofs.YtcblbcpnfidndaaDoor

namespace Go.Proofs.YtcblbcpnfidndaaDoor
open Go Go.Abs Go.Lab
def likeS (p s : ByteArray) : Bool := like (bl p) (bl s)

theorem u8_inj {c d : UInt8} (h : u8 c = u8 d) : c = d := UInt8.toNat_inj.1 (by unfold u8 at h; omega)

theorem u8_beq (c d : UInt8) : (u8 c == u8 d) = (c == d) := by
  by_cases h : c = d
  · subst h; simp
  · rw [beq_eq_false_iff_ne.2 h, beq_eq_false_iff_ne.2 (fun e => h (u8_inj e))]

theorem u8_42 (c : UInt8) : (u8 c == 42) = decide (c = 42) := by
  rw [show (42 : Int) = u8 42 from rfl, u8_beq]
  by_cases h : c = 42 <;> simp [h]

theorem u8_63 (c : UInt8) : (u8 c == 63) = (c == 63) := u8_beq c 63

def starOK : Option (Nat × Nat) → Int → Int → Prop
  | none, s, _ => s = -1
  | some q, s, f => s = ((q.1 : Nat) : Int) ∧ f = ((q.2 : Nat) : Int)

/-- The state of the program's loop. -/
structure LS (P V : ByteArray) (p v : Nat) (star : Option (Nat × Nat)) (a : (Int × Int × Int × Int × ByteArray × ByteArray × Unit) × Unit) : Prop where
  inv : LInv (bl P) (bl V) p v star
  st : ∃ (s f : Int), a = (((p : Int), (v : Int), s, f, V, P, ()), ()) ∧ starOK star s f

def lsMu (P V : ByteArray) (p : Nat) (star : Option (Nat × Nat)) : Nat := (V.size + 1 - (star.map (·.2)).getD 0) * (P.size + 1) + (P.size - p)

theorem like_loop (P V : ByteArray) (hP : P.size ≤ 4294967295) (hV : V.size ≤ 4294967295) : ∀ (n p v : Nat) (star : Option (Nat × Nat)) (a), LS P V p v star a → lsMu P V p star ≤ n →
    ∃ d, loopT l26_0_2 a = some d ∧ ((d = .inl ((false, ()), ()) ∧ likeS P V = false) ∨ ∃ q : Nat, q ≤ P.size ∧ d = .inr (((q : Int), P, ()), ()) ∧ likeS P V = ((bl P).drop q).all (· == 42)) := by
  intro n
  induction n with
  | zero =>
    intro p v star a h hn
    exfalso
    have hp := h.inv.hp
    have hv := h.inv.hv
    rw [len_bl] at hp hv
    unfold lsMu at hn
    have hf : (star.map (·.2)).getD 0 ≤ V.size := by
      cases star with
      | none => exact Nat.zero_le _
      | some q => have := (h.inv.ok : _ ∧ _ ∧ _).2.1; simp; omega
    have : 1 * (P.size + 1) ≤ (V.size + 1 - (star.map (·.2)).getD 0) * (P.size + 1) := Nat.mul_le_mul_right _ (by omega)
    omega
  | succ n ih =>
    intro p v star a h hn
    obtain ⟨inv, s, f, rfl, hst⟩ := h
    have hp := inv.hp
    have hv := inv.hv
    rw [len_bl] at hp hv
    have hf : (star.map (·.2)).getD 0 ≤ v := by
      cases star with
      | none => exact Nat.zero_le _
      | some q => exact (inv.ok : _ ∧ _ ∧ _).2.1
    by_cases hve : v = V.size
    · refine ⟨.inr (((p : Int), P, ()), ()), loopT_inr ?_, .inr ⟨p, hp, rfl, inv.onEnd (by rw [len_bl]; exact hve)⟩⟩
      have : decide ((v : Int) < (V.size : Int)) = false := decide_eq_false (by omega)
      simp only [l26_0_2, this, sumE, sS]
    · have hvlt : decide ((v : Int) < (V.size : Int)) = true := decide_eq_true (by omega)
      have hvb : decide ((0 : Int) ≤ (v : Int) ∧ (v : Int) < (V.size : Int)) = true := decide_eq_true (by omega)
      obtain ⟨x, hx, _⟩ := drop_at (l := bl V) (i := v) (by rw [len_bl]; omega)
      have bx := byte_at hx
      have w1 : w64 ((v : Int) + 1) = ((v + 1 : Nat) : Int) := w64_nat (by omega)
      have w2 : w64 ((p : Int) + 1) = ((p + 1 : Nat) : Int) := w64_nat (by omega)
      -- a miss
      have miss : (∀ c, (bl P)[p]? = some c → c ≠ 42 ∧ (c == 63 || c == x) = false) → l26_0_2 (((p : Int), (v : Int), s, f, V, P, ()), ()) = (bif decide (s ≥ 0) then some (.inl ((w64 (s + 1), w64 (f + 1), s, w64 (f + 1), V, P, ()), ())) else some (.inr (.inl ((false, ()), ())))) →
          ∃ d, loopT l26_0_2 (((p : Int), (v : Int), s, f, V, P, ()), ()) = some d ∧ ((d = .inl ((false, ()), ()) ∧ likeS P V = false) ∨ ∃ q : Nat, q ≤ P.size ∧ d = .inr (((q : Int), P, ()), ()) ∧ likeS P V = ((bl P).drop q).all (· == 42)) := by
        intro hm hstep
        cases star with
        | none =>
          have hs : s = -1 := hst
          subst hs
          exact ⟨_, loopT_inr hstep, .inl ⟨rfl, inv.onFail hx hm⟩⟩
        | some q =>
          obtain ⟨q1, q2⟩ := q
          obtain ⟨rfl, rfl⟩ : s = ((q1 : Nat) : Int) ∧ f = ((q2 : Nat) : Int) := hst
          have hq := (inv.ok : _ ∧ _ ∧ _)
          have hq1 : q1 + 1 ≤ p := hq.1
          have hq2 : q2 ≤ v := hq.2.1
          rw [decide_eq_true (show ((q1 : Nat) : Int) ≥ 0 by omega), w64_nat (by omega), w64_nat (by omega)] at hstep
          rw [loopT_inl hstep]
          refine ih (q1 + 1) (q2 + 1) (some (q1, q2 + 1)) _ ⟨inv.onMiss hx hm, _, _, rfl, ⟨rfl, rfl⟩⟩ ?_
          unfold lsMu at hn ⊢
          simp only [Option.map_some, Option.getD_some] at hn ⊢
          have e : V.size + 1 - q2 = (V.size + 1 - (q2 + 1)) + 1 := by omega
          rw [e, Nat.succ_mul] at hn
          omega
      by_cases hpe : p < P.size
      · have hplt : decide ((p : Int) < (P.size : Int)) = true := decide_eq_true (by omega)
        have hpb : decide ((0 : Int) ≤ (p : Int) ∧ (p : Int) < (P.size : Int)) = true := decide_eq_true (by omega)
        obtain ⟨c, hc, _⟩ := drop_at (l := bl P) (i := p) (by rw [len_bl]; omega)
        have bc := byte_at hc
        by_cases h42 : c = 42
        · subst h42
          rw [show loopT l26_0_2 (((p : Int), (v : Int), s, f, V, P, ()), ()) = loopT l26_0_2 ((((p + 1 : Nat) : Int), (v : Int), (p : Int), (v : Int), V, P, ()), ()) from loopT_inl (by
            simp only [l26_0_2, hvlt, hplt, hpb, bc, u8_42, sumE, sS, w2])]
          refine ih (p + 1) v (some (p, v)) _ ⟨inv.onStar hc, _, _, rfl, ⟨rfl, rfl⟩⟩ ?_
          unfold lsMu at hn ⊢
          simp only [Option.map_some, Option.getD_some]
          have := Nat.mul_le_mul_right (P.size + 1) (show V.size + 1 - v ≤ V.size + 1 - (star.map (·.2)).getD 0 by omega)
          omega
        · by_cases hm : (c == 63 || c == x) = true
          · rw [show loopT l26_0_2 (((p : Int), (v : Int), s, f, V, P, ()), ()) = loopT l26_0_2 ((((p + 1 : Nat) : Int), ((v + 1 : Nat) : Int), s, f, V, P, ()), ()) from loopT_inl (by
              simp only [l26_0_2, hvlt, hplt, hpb, hvb, bc, bx, u8_42, u8_63, u8_beq, decide_eq_false h42, sumE, sS, w2]
              rcases Bool.or_eq_true_iff.1 hm with h | h
              · simp only [h, sumE, sS, w1, w2]
              · cases (c == 63) <;> simp only [h, sumE, sS, w1, w2])]
            refine ih (p + 1) (v + 1) star _ ⟨inv.onByte hc hx h42 hm, s, f, rfl, hst⟩ ?_
            unfold lsMu at hn ⊢
            omega
          · have hm : (c == 63 || c == x) = false := by simpa using hm
            refine miss (fun d hd => ?_) ?_
            · rw [hc] at hd; cases hd; exact ⟨h42, hm⟩
            · rw [Bool.or_eq_false_iff] at hm
              simp only [l26_0_2, hvlt, hplt, hpb, hvb, bc, bx, u8_42, u8_63, u8_beq, decide_eq_false h42, hm.1, hm.2, sumE, sS]
      · have hplt : decide ((p : Int) < (P.size : Int)) = false := decide_eq_false (by omega)
        refine miss (fun d hd => ?_) ?_
        · have := (List.getElem?_eq_some_iff.1 hd).1; rw [len_bl] at this; omega
        · simp only [l26_0_2, hvlt, hplt, sumE, sS]

theorem m26_eq (P V : ByteArray) (hP : P.size ≤ 4294967295) (hV : V.size ≤ 4294967295) : m26 ((P, V, ()), ()) = some ((likeS P V, ()), ()) := by
  obtain ⟨d, h1, h2⟩ := like_loop P V hP hV _ 0 0 none (((0 : Int), (0 : Int), (-1), (0 : Int), V, P, ()), ()) ⟨LInv.start _ _, -1, 0, rfl, rfl⟩ (Nat.le_refl _)
  unfold m26
  refine bind_of _ h1 ?_
  rcases h2 with ⟨rfl, h⟩ | ⟨q, hq, rfl, h⟩
  · rw [h]; rfl
  · have ex : bl (P.extract q P.size) = (bl P).drop q := by
      rw [extract_bl, List.take_of_length_le]
      rw [List.length_drop, len_bl]; exact Nat.le_refl _
    have hsz : (P.extract q P.size).size ≤ P.size := by rw [← len_bl, ex, List.length_drop, len_bl]; omega
    obtain ⟨t, ht, he⟩ := m91_eq (P.extract q P.size) (by omega)
    simp only [sumE, sS, decide_eq_true (show (0 : Int) ≤ (q : Int) by omega), Int.toNat_natCast, decide_eq_true (show q ≤ P.size ∧ P.size ≤ P.size by omega), ht, toList_bl, he, ex, h]

/-! ### The reference's patterns -/
def cell (c : UInt8) (V : List UInt8) (r r' : List Bool) (k : Nat) : Bool :=
  if c = 42 then (r[k]?.getD false || (decide (0 < k) && r'[k - 1]?.getD false)) else (decide (0 < k) && r[k - 1]?.getD false && (c == 63 || some c == V[k - 1]?))

theorem row_loop (P V : ByteArray) (c : UInt8) (i : Nat) (hc : (bl P)[i]? = some c) (hi : i < P.size) (hV : V.size ≤ 4294967295) (hP : P.size ≤ 4294967295) (r : List Bool) (hr : r.length = V.size + 1) :
    ∀ (n k : Nat) (N : List Bool), k + n = V.size + 1 → N.length = V.size + 1 → (∀ j, j < k → N[j]?.getD false = cell c (bl V) r N j) → (∀ j, k ≤ j → N[j]?.getD false = false) →
      ∃ N', loopT l27_0_8 (((k : Int), V, (i : Int), P, ()), (N, r, ())) = some ((V, P, (i : Int), ()), (N', ())) ∧ N'.length = V.size + 1 ∧ ∀ j, j ≤ V.size → N'[j]?.getD false = cell c (bl V) r N' j := by
  intro n
  induction n with
  | zero =>
    intro k N h hN h1 _
    refine ⟨N, loopT_inr ?_, hN, fun j hj => h1 j (by omega)⟩
    have : decide ((k : Int) ≤ (V.size : Int)) = false := decide_eq_false (by omega)
    simp only [l27_0_8, this, sumE, sS]
  | succ n ih =>
    intro k N h hN h1 h2
    have hle : decide ((k : Int) ≤ (V.size : Int)) = true := decide_eq_true (by omega)
    have hib : decide ((0 : Int) ≤ (i : Int) ∧ (i : Int) < (P.size : Int)) = true := decide_eq_true (by omega)
    have hkr : decide ((0 : Int) ≤ (k : Int) ∧ (k : Int) < (r.length : Int)) = true := decide_eq_true (by omega)
    have hkN : decide ((0 : Int) ≤ (k : Int) ∧ (k : Int) < (N.length : Int)) = true := decide_eq_true (by omega)
    have hkN2 : decide (k < N.length) = true := decide_eq_true (by omega)
    have w1 : w64 ((k : Int) + 1) = ((k + 1 : Nat) : Int) := w64_nat (by omega)
    have bc := byte_at hc
    have bn := byte_n hc
    -- the next state
    have next : ∀ b : Bool, b = cell c (bl V) r N k → ∃ N', loopT l27_0_8 ((((k + 1 : Nat) : Int), V, (i : Int), P, ()), (N.set k b, r, ())) = some ((V, P, (i : Int), ()), (N', ())) ∧ N'.length = V.size + 1 ∧ ∀ j, j ≤ V.size → N'[j]?.getD false = cell c (bl V) r N' j := by
      intro b hb
      have same : ∀ j, j < k → (N.set k b)[j]? = N[j]? := fun j hj => by rw [List.getElem?_set_ne (by omega)]
      refine ih (k + 1) (N.set k b) (by omega) (by simpa using hN) (fun j hj => ?_) (fun j hj => by rw [List.getElem?_set_ne (by omega)]; exact h2 j (by omega))
      rcases Nat.lt_or_ge j k with hlt | hge
      · rw [same j hlt, h1 j hlt]
        unfold cell
        cases j with
        | zero => rfl
        | succ j => simp only [Nat.add_sub_cancel, same j (by omega)]
      · have : j = k := by omega
        subst this
        rw [List.getElem?_set_self (by omega), Option.getD_some]
        refine hb.trans ?_
        unfold cell
        cases j with
        | zero => rfl
        | succ j => simp only [Nat.add_sub_cancel, same j (by omega)]
    obtain ⟨rk, hrk⟩ := getD_some (l := r) (i := k) (by omega)
    by_cases h42 : c = 42
    · have hcell : cell c (bl V) r N k = (rk || (decide (0 < k) && N[k - 1]?.getD false)) := by unfold cell; rw [if_pos h42, hrk]; rfl
      cases rk with
      | true =>
        obtain ⟨N', e1, e2⟩ := next true (by rw [hcell]; rfl)
        refine ⟨N', ?_, e2⟩
        rw [← e1]
        refine loopT_inl ?_
        simp only [l27_0_8, hle, hib, bc, bn, u8_42, decide_eq_true h42, hkr, Int.toNat_natCast, hrk, hkN, hkN2, sumE, sS, w1]
      | false =>
        rw [Bool.false_or] at hcell
        by_cases hk0 : k = 0
        · subst hk0
          obtain ⟨N', e1, e2⟩ := next false (by rw [hcell]; rfl)
          refine ⟨N', ?_, e2⟩
          rw [← e1]
          refine loopT_inl ?_
          have hg : decide (((0 : Nat) : Int) > 0) = false := rfl
          simp only [l27_0_8, hle, hib, bc, bn, u8_42, decide_eq_true h42, hkr, Int.toNat_natCast, hrk, hkN, hkN2, hg, sumE, sS, w1]
        · obtain ⟨b, hb⟩ := getD_some (l := N) (i := k - 1) (by omega)
          have hg : decide ((k : Int) > 0) = true := decide_eq_true (by omega)
          have hw : w64 ((k : Int) - 1) = ((k - 1 : Nat) : Int) := by rw [w64_id (by omega) (by omega)]; omega
          have hk1 : decide ((0 : Int) ≤ ((k - 1 : Nat) : Int) ∧ ((k - 1 : Nat) : Int) < (N.length : Int)) = true := decide_eq_true (by omega)
          rw [decide_eq_true (show 0 < k by omega), hb, Option.getD_some, Bool.true_and] at hcell
          obtain ⟨N', e1, e2⟩ := next b hcell.symm
          refine ⟨N', ?_, e2⟩
          rw [← e1]
          refine loopT_inl ?_
          simp only [l27_0_8, hle, hib, bc, bn, u8_42, decide_eq_true h42, hkr, Int.toNat_natCast, hrk, hkN, hkN2, hg, hw, hk1, hb, sumE, sS, w1]
    · have hcell : cell c (bl V) r N k = (decide (0 < k) && r[k - 1]?.getD false && (c == 63 || some c == (bl V)[k - 1]?)) := by unfold cell; rw [if_neg h42]
      by_cases hk0 : k = 0
      · subst hk0
        have hset : N.set 0 false = N := by
          refine List.ext_getElem? fun j => ?_
          cases j with
          | zero =>
            rw [List.getElem?_set_self (by omega)]
            obtain ⟨b, hb⟩ := getD_some (l := N) (i := 0) (by omega)
            have := h2 0 (Nat.le_refl _)
            rw [hb] at this ⊢
            exact congrArg some this.symm
          | succ j => rw [List.getElem?_set_ne (by omega)]
        obtain ⟨N', e1, e2⟩ := next false (by rw [hcell]; rfl)
        rw [hset] at e1
        refine ⟨N', ?_, e2⟩
        rw [← e1]
        refine loopT_inl ?_
        have hg : decide (((0 : Nat) : Int) > 0) = false := rfl
        simp only [l27_0_8, hle, hib, bc, bn, u8_42, decide_eq_false h42, hg, sumE, sS, w1]
      · obtain ⟨b, hb⟩ := getD_some (l := r) (i := k - 1) (by omega)
        obtain ⟨x, hx⟩ := getD_some (l := bl V) (i := k - 1) (by rw [len_bl]; omega)
        have hg : decide ((k : Int) > 0) = true := decide_eq_true (by omega)
        have hw : w64 ((k : Int) - 1) = ((k - 1 : Nat) : Int) := by rw [w64_id (by omega) (by omega)]; omega
        have hk1 : decide ((0 : Int) ≤ ((k - 1 : Nat) : Int) ∧ ((k - 1 : Nat) : Int) < (r.length : Int)) = true := decide_eq_true (by omega)
        have hk2 : decide ((0 : Int) ≤ ((k - 1 : Nat) : Int) ∧ ((k - 1 : Nat) : Int) < (V.size : Int)) = true := decide_eq_true (by omega)
        rw [decide_eq_true (show 0 < k by omega), hb, Option.getD_some, Bool.true_and, hx] at hcell
        have hso : (some c == some x) = (c == x) := rfl
        rw [hso] at hcell
        cases b with
        | false =>
          obtain ⟨N', e1, e2⟩ := next false (by rw [hcell]; rfl)
          refine ⟨N', ?_, e2⟩
          rw [← e1]
          refine loopT_inl ?_
          simp only [l27_0_8, hle, hib, bc, bn, u8_42, decide_eq_false h42, hg, hw, hk1, Int.toNat_natCast, hb, hkN, hkN2, sumE, sS, w1]
        | true =>
          rw [Bool.true_and] at hcell
          cases h63 : (c == 63) with
          | true =>
            obtain ⟨N', e1, e2⟩ := next true (by rw [hcell, h63]; rfl)
            refine ⟨N', ?_, e2⟩
            rw [← e1]
            refine loopT_inl ?_
            simp only [l27_0_8, hle, hib, bc, bn, u8_42, u8_63, h63, decide_eq_false h42, hg, hw, hk1, Int.toNat_natCast, hb, hkN, hkN2, sumE, sS, w1]
          | false =>
            obtain ⟨N', e1, e2⟩ := next (c == x) (by rw [hcell, h63]; rfl)
            refine ⟨N', ?_, e2⟩
            rw [← e1]
            refine loopT_inl ?_
            simp only [l27_0_8, hle, hib, bc, bn, u8_42, u8_63, h63, decide_eq_false h42, hg, hw, hk1, hk2, byte_n hx, byte_at hx, u8_beq, Int.toNat_natCast, hb, hkN, hkN2, sumE, sS, w1]


theorem ref_loop (P V : ByteArray) (hP : P.size ≤ 4294967295) (hV : V.size ≤ 4294967294) : ∀ (n i : Nat) (r : List Bool), i + n = P.size → RInv (bl P) (bl V) i r →
    ∃ r', loopT l27_0_4 ((V, (i : Int), P, ()), (r, ())) = some ((V, ()), (r', ())) ∧ RInv (bl P) (bl V) P.size r' := by
  intro n
  induction n with
  | zero =>
    intro i r h hr
    refine ⟨r, loopT_inr ?_, by rw [show P.size = i by omega]; exact hr⟩
    have : decide ((i : Int) < (P.size : Int)) = false := decide_eq_false (by omega)
    simp only [l27_0_4, this, sumE, sS]
  | succ n ih =>
    intro i r h hr
    obtain ⟨c, hc, _⟩ := drop_at (l := bl P) (i := i) (by rw [len_bl]; omega)
    have hlt : decide ((i : Int) < (P.size : Int)) = true := decide_eq_true (by omega)
    have wv : w64 ((V.size : Int) + 1) = ((V.size + 1 : Nat) : Int) := w64_nat (by omega)
    have hb : decide ((0 : Int) ≤ ((V.size + 1 : Nat) : Int) ∧ ((V.size + 1 : Nat) : Int) ≤ ((V.size + 1 : Nat) : Int) ∧ ((V.size + 1 : Nat) : Int) ≤ 4294967296) = true := decide_eq_true (by omega)
    have hrl : r.length = V.size + 1 := by rw [hr.1, len_bl]
    obtain ⟨N', e1, e2, e3⟩ := row_loop P V c i hc (by omega) (by omega) hP r hrl (V.size + 1) 0 (List.replicate (V.size + 1) false) (by omega) (by simp) (fun j hj => by omega) (fun j _ => by
      rw [List.getElem?_replicate]
      split <;> rfl)
    obtain ⟨r', e4, e5⟩ := ih (i + 1) N' (by omega) (RInv.step hr hc ⟨by rw [e2, len_bl], fun k hk => e3 k (by rw [len_bl] at hk; exact hk)⟩)
    refine ⟨r', ?_, e5⟩
    rw [← e4]
    refine loopT_inl ?_
    simp only [l27_0_4, hlt, wv, hb, Int.toNat_natCast, sumE, sS]
    refine bind_of _ e1 ?_
    simp only [w64_nat (show i < 9223372036854775807 by omega)]

theorem m27_eq (P V : ByteArray) (hP : P.size ≤ 4294967295) (hV : V.size ≤ 4294967294) : m27 ((P, V, ()), ()) = some ((likeS P V, ()), ()) := by
  have wv : w64 ((V.size : Int) + 1) = ((V.size + 1 : Nat) : Int) := w64_nat (by omega)
  have hb : decide ((0 : Int) ≤ ((V.size + 1 : Nat) : Int) ∧ ((V.size + 1 : Nat) : Int) ≤ ((V.size + 1 : Nat) : Int) ∧ ((V.size + 1 : Nat) : Int) ≤ 4294967296) = true := decide_eq_true (by omega)
  have hl : (List.replicate (V.size + 1) false).length = V.size + 1 := by simp
  have h0 : decide ((0 : Int) ≤ 0 ∧ (0 : Int) < ((V.size + 1 : Nat) : Int)) = true := decide_eq_true (by omega)
  have h1 : decide (0 < V.size + 1) = true := decide_eq_true (by omega)
  have hst : (List.replicate (V.size + 1) false).set 0 true = true :: List.replicate (bl V).length false := by rw [List.replicate_succ, List.set_cons_zero, len_bl]
  obtain ⟨r', e1, e2⟩ := ref_loop P V hP hV P.size 0 _ (by omega) (RInv.start (bl P) (bl V))
  have hd := RInv.done (P := bl P) (V := bl V) (r := r') (by rw [len_bl]; exact e2)
  rw [len_bl] at hd
  have hrl : r'.length = V.size + 1 := by rw [e2.1, len_bl]
  obtain ⟨b, hb2⟩ := getD_some (l := r') (i := V.size) (by omega)
  rw [hb2, Option.getD_some] at hd
  subst hd
  have h3 : decide ((0 : Int) ≤ (V.size : Int) ∧ (V.size : Int) < (r'.length : Int)) = true := decide_eq_true (by omega)
  unfold m27
  simp only [wv, hb, Int.toNat_natCast, hl, h0, h1, hst, sumE, sS]
  refine bind_of _ e1 ?_
  simp only [h3, hb2, Int.toNat_natCast, sumE, sS]
  rfl

/-! ### Match, All -/
def matchM (m : MT) (l : List LT) : Bool :=
  let v := getL l m.1
  if m.2.1 = 0 then decide (v = m.2.2.1) else if m.2.1 = 1 then !decide (v = m.2.2.1) else if m.2.1 = 2 then likeS m.2.2.1 v else if m.2.1 = 3 then !likeS m.2.2.1 v else false

def allM (ms : List MT) (l : List LT) : Bool := ms.all fun m => matchM m l

/-- No value is long. -/
def LSz (l : List LT) : Prop := l.length ≤ 9223372036854775807 ∧ ∀ x ∈ l, x.2.1.size ≤ 4294967294

def PSz (m : MT) : Prop := m.2.2.1.size ≤ 4294967295

theorem findL_mem {k v : ByteArray} : ∀ {l : List LT}, findL k l = some v → ∃ x ∈ l, x.2.1 = v
  | [], h => by cases h
  | x :: l, h => by
    simp only [findL] at h
    split at h
    · cases h; exact ⟨x, by simp, rfl⟩
    · obtain ⟨y, h1, h2⟩ := findL_mem h; exact ⟨y, by simp [h1], h2⟩

theorem get_size {l : List LT} (h : LSz l) (k : ByteArray) : (getL l k).size ≤ 4294967294 := by
  unfold getL
  cases hf : findL k l with
  | none => exact Nat.zero_le _
  | some v =>
    obtain ⟨x, h1, rfl⟩ := findL_mem hf
    exact h.2 x h1

theorem m24_eq (m : MT) (l : List LT) (hm : PSz m) (hl : LSz l) : m24 ((m, l, ()), ()) = some ((matchM m l, ()), ()) := by
  have hg := get_size hl m.1
  unfold m24 matchM
  simp only [m38_eq l m.1 hl.1, m26_eq m.2.2.1 _ hm (show (getL l m.1).size ≤ 4294967295 by omega), sumE, sS, beq_decide, toList_bl, beq_bl]
  by_cases h0 : m.2.1 = 0
  · simp only [decide_eq_true h0, if_pos h0, sumE, sS]
  · by_cases h1 : m.2.1 = 1
    · simp only [decide_eq_false h0, decide_eq_true h1, if_neg h0, if_pos h1, sumE, sS]
    · by_cases h2 : m.2.1 = 2
      · simp only [decide_eq_false h0, decide_eq_false h1, decide_eq_true h2, if_neg h0, if_neg h1, if_pos h2, sumE, sS]
      · by_cases h3 : m.2.1 = 3
        · simp only [decide_eq_false h0, decide_eq_false h1, decide_eq_false h2, decide_eq_true h3, if_neg h0, if_neg h1, if_neg h2, if_pos h3, sumE, sS]
        · simp only [decide_eq_false h0, decide_eq_false h1, decide_eq_false h2, decide_eq_false h3, if_neg h0, if_neg h1, if_neg h2, if_neg h3, sumE, sS]

theorem m25_eq (m : MT) (l : List LT) (hm : PSz m) (hl : LSz l) : m25 ((m, l, ()), ()) = some ((matchM m l, ()), ()) := by
  have hg := get_size hl m.1
  unfold m25 matchM
  simp only [m44_eq l m.1 hl.1, m27_eq m.2.2.1 _ hm hg, sumE, sS, beq_decide, toList_bl, beq_bl]
  by_cases h0 : m.2.1 = 0
  · simp only [decide_eq_true h0, if_pos h0, sumE, sS]
  · by_cases h1 : m.2.1 = 1
    · simp only [decide_eq_false h0, decide_eq_true h1, if_neg h0, if_pos h1, sumE, sS]
    · by_cases h2 : m.2.1 = 2
      · simp only [decide_eq_false h0, decide_eq_false h1, decide_eq_true h2, if_neg h0, if_neg h1, if_pos h2, sumE, sS]
      · by_cases h3 : m.2.1 = 3
        · simp only [decide_eq_false h0, decide_eq_false h1, decide_eq_false h2, decide_eq_true h3, if_neg h0, if_neg h1, if_neg h2, if_pos h3, sumE, sS]
        · simp only [decide_eq_false h0, decide_eq_false h1, decide_eq_false h2, decide_eq_false h3, if_neg h0, if_neg h1, if_neg h2, if_neg h3, sumE, sS]

def PSs (ms : List MT) : Prop := ms.length ≤ 9223372036854775807 ∧ ∀ m ∈ ms, PSz m

theorem loop30 (ms : List MT) (l : List LT) (hm : PSs ms) (hl : LSz l) : ∀ (k i : Nat), i + k = ms.length →
    ∃ j : Nat, loopT l30_2_2 (((i : Int), ms, (ms.length : Int), ()), ((l, ()), ())) = some (if allM (ms.drop i) l then .inr ((), ((l, ()), ())) else .inl (((j : Int), ()), ((l, ()), ()))) := by
  intro k
  induction k with
  | zero =>
    intro i h
    refine ⟨0, ?_⟩
    rw [List.drop_eq_nil_of_le (by omega)]
    refine loopT_inr ?_
    have : decide ((i : Int) < (ms.length : Int)) = false := decide_eq_false (by omega)
    simp only [l30_2_2, this, sumE, sS, allM, List.all_nil, if_true]
  | succ k ih =>
    intro i h
    obtain ⟨e, he, hd⟩ := drop_at (l := ms) (i := i) (by omega)
    have hlt : decide ((i : Int) < (ms.length : Int)) = true := decide_eq_true (by omega)
    have hle := hm.1
    have hme := m24_eq e l (hm.2 e (List.mem_of_getElem? he)) hl
    rw [hd]
    unfold allM
    rw [List.all_cons]
    cases hq : matchM e l
    · refine ⟨i, loopT_inr ?_⟩
      simp only [l30_2_2, rowAt_G, rowG_nat he, hlt, hme, hq, sumE, sS]
      rfl
    · obtain ⟨j, hj⟩ := ih (i + 1) (by omega)
      refine ⟨j, ?_⟩
      rw [Bool.true_and]
      unfold allM at hj
      rw [← hj]
      refine loopT_inl ?_
      simp only [l30_2_2, rowAt_G, rowG_nat he, hlt, hme, hq, sumE, sS, w64_nat (show i < 9223372036854775807 by omega)]

theorem m30_eq (ms : List MT) (l : List LT) (hm : PSs ms) (hl : LSz l) : m30 ((ms, l, ()), ()) = some ((allM ms l, ()), ()) := by
  obtain ⟨j, h⟩ := loop30 ms l hm hl ms.length 0 (by omega)
  rw [List.drop_zero] at h
  unfold m30
  rw [show loopT l30_2_2 ((0, ms, (ms.length : Int), ()), ((l, ()), ())) = _ from h]
  cases allM ms l
  · simp only [sumE, sS, Bool.false_eq_true, if_false, decide_eq_true (show (j : Int) ≥ 0 by omega)]
  · simp only [sumE, sS, if_true]

theorem loop31 (ms : List MT) (l : List LT) (hm : PSs ms) (hl : LSz l) : ∀ (k i : Nat), i + k = ms.length →
    loopT l31_0_2 (((i : Int), l, ms, ()), ()) = some (if allM (ms.drop i) l then .inr ((), ()) else .inl ((false, ()), ())) := by
  intro k
  induction k with
  | zero =>
    intro i h
    rw [List.drop_eq_nil_of_le (by omega)]
    refine loopT_inr ?_
    have : decide ((i : Int) < (ms.length : Int)) = false := decide_eq_false (by omega)
    simp only [l31_0_2, this, sumE, sS, allM, List.all_nil, if_true]
  | succ k ih =>
    intro i h
    obtain ⟨e, he, hd⟩ := drop_at (l := ms) (i := i) (by omega)
    have hlt : decide ((i : Int) < (ms.length : Int)) = true := decide_eq_true (by omega)
    have hle := hm.1
    have hme := m25_eq e l (hm.2 e (List.mem_of_getElem? he)) hl
    rw [hd]
    unfold allM
    rw [List.all_cons]
    cases hq : matchM e l
    · refine loopT_inr ?_
      simp only [l31_0_2, rowAt_G, rowG_nat he, hlt, hme, hq, sumE, sS]
      rfl
    · rw [Bool.true_and]
      have hj := ih (i + 1) (by omega)
      unfold allM at hj
      rw [← hj]
      refine loopT_inl ?_
      simp only [l31_0_2, rowAt_G, rowG_nat he, hlt, hme, hq, sumE, sS, w64_nat (show i < 9223372036854775807 by omega)]

theorem m31_eq (ms : List MT) (l : List LT) (hm : PSs ms) (hl : LSz l) : m31 ((ms, l, ()), ()) = some ((allM ms l, ()), ()) := by
  have h := loop31 ms l hm hl ms.length 0 (by omega)
  rw [List.drop_zero] at h
  unfold m31
  refine bind_of _ h ?_
  cases allM ms l <;> rfl

end Go.Proofs.YtcblbcpnfidndaaDoor

namespace Go.Proofs.YtcblbcpnfidndaaDoor
open Go Go.Abs Go.Lab
theorem sane21 : m52 ((), ()) = some ((true, ()), ()) := by kernel_rfl

end Go.Proofs.YtcblbcpnfidndaaDoor

namespace Go.Proofs.YtcblbcpnfidndaaDoor
open Go Go.Abs Go.Lab
abbrev Dice := List Int × Int × Unit

def DOK (d : Dice) : Prop := 0 ≤ d.2.1 ∧ d.2.1 ≤ d.1.length ∧ d.1.length ≤ 500

theorem dok0 {l : List Int} (h : l.length ≤ 500) : DOK (l, 0, ()) := ⟨Int.le_refl _, Int.natCast_nonneg _, h⟩

theorem next_spec (n : Int) (d : Dice) (hd : DOK d) (hn : n ≤ 9223372036854775807) :
    ∃ (r : Int) (d' : Dice), m39 ((n, ()), ((d, ()), ())) = some ((r, ()), ((d', ()), ())) ∧ DOK d' ∧ (1 ≤ n → 0 ≤ r ∧ r < n) ∧ (n < 1 → r = 0) := by
  obtain ⟨l, at_, u⟩ := d
  obtain ⟨h1, h2, h3⟩ := hd
  simp only at h1 h2 h3
  unfold m39
  simp only [rowAt_G]
  by_cases c1 : at_ ≥ (l.length : Int)
  · refine ⟨0, (l, at_, ()), ?_, ⟨h1, h2, h3⟩, fun h => ⟨by omega, by omega⟩, fun _ => rfl⟩
    simp only [decide_eq_true c1, sumE, sS]
  · by_cases c2 : n < 1
    · refine ⟨0, (l, at_, ()), ?_, ⟨h1, h2, h3⟩, fun h => ⟨by omega, by omega⟩, fun _ => rfl⟩
      simp only [decide_eq_false c1, decide_eq_true c2, sumE, sS]
    · have hat : w64 (at_ + 1) = at_ + 1 := w64_id (by omega) (by omega)
      have hne : n ≠ 0 := by omega
      obtain ⟨e, he⟩ := getD_some (l := l) (i := at_.toNat) (by omega)
      have hb := Int.tmod_lt_of_pos e (show (0 : Int) < n by omega)
      have hb2 : -n < e.tmod n := by
        have := Int.lt_tmod_of_pos e (show (0 : Int) < n by omega)
        omega
      by_cases c3 : e.tmod n < 0
      · refine ⟨e.tmod n + n, (l, at_ + 1, ()), ?_, ⟨by simp only; omega, by simp only; omega, h3⟩, fun h => ⟨by omega, by omega⟩, fun h => by omega⟩
        simp only [decide_eq_false c1, decide_eq_false c2, sumE, sS, rowG_int h1 he, decide_eq_true hne, decide_eq_true c3, hat, w64_id (x := e.tmod n + n) (by omega) (by omega)]
      · refine ⟨e.tmod n, (l, at_ + 1, ()), ?_, ⟨by simp only; omega, by simp only; omega, h3⟩, fun h => ⟨by omega, by omega⟩, fun h => by omega⟩
        simp only [decide_eq_false c1, decide_eq_false c2, sumE, sS, rowG_int h1 he, decide_eq_true hne, decide_eq_false c3, hat]

theorem pick_spec (l : List Int) (d : Dice) (hd : DOK d) (h0 : 0 < l.length) (h1 : l.length ≤ 4294967296) :
    ∃ (r : Int) (d' : Dice), m73 ((l, ()), ((d, ()), ())) = some ((r, ()), ((d', ()), ())) ∧ DOK d' ∧ r ∈ l := by
  obtain ⟨n, d', e1, e2, e3, _⟩ := next_spec l.length d hd (by omega)
  obtain ⟨hn0, hn1⟩ := e3 (by omega)
  obtain ⟨r, hr⟩ := getD_some (l := l) (i := n.toNat) (by omega)
  refine ⟨r, d', ?_, e2, List.mem_of_getElem? hr⟩
  unfold m73
  simp only [e1, Option.bind_some, rowAt_G, rowG_int hn0 hr]

theorem bool_spec (n : Int) (d : Dice) (hd : DOK d) (hn : 1 ≤ n) (hn2 : n ≤ 9223372036854775807) : ∃ (b : Bool) (d' : Dice), m106 ((n, ()), ((d, ()), ())) = some ((b, ()), ((d', ()), ())) ∧ DOK d' := by
  obtain ⟨r, d', e1, e2, _⟩ := next_spec n d hd hn2
  refine ⟨(r == w64 (n - 1)), d', ?_, e2⟩
  unfold m106
  simp only [e1, Option.bind_some]

/-- The element of a row that is typed out. -/
theorem at_list {A B : Type} (l : List A) {n : Int} (h0 : 0 ≤ n) (h1 : n < l.length) (F : A → Option B) : ∃ e, e ∈ l ∧ (bif decide ((0 : Int) ≤ n ∧ (n : Int) < l.length) then (l[n.toNat]?).bind F else none) = F e := by
  obtain ⟨e, he⟩ := getD_some (l := l) (i := n.toNat) (by omega)
  exact ⟨e, List.mem_of_getElem? he, by rw [decide_eq_true (And.intro h0 h1), he]; rfl⟩

/-- A matcher that is right, and short. -/
def GoodM (m : MT) : Prop := rightM m = true ∧ m.1.size ≤ 64 ∧ m.2.2.1.size ≤ 64 ∧ 0 ≤ m.2.1 ∧ m.2.1 ≤ 3

theorem GoodM.p {m : MT} (h : GoodM m) : PSz m := by have := h.2.2.1; unfold PSz; omega

theorem GoodM.z {m : MT} (h : GoodM m) : MSz m := by have := h.2.1; have := h.2.2.1; unfold MSz; omega

theorem keys5 : ∀ k ∈ [(bs [97, 112, 112]), (bs [104, 111, 115, 116]), (bs [115, 101, 118]), (bs [116, 101, 97, 109]), (bs [122, 111, 110, 101])], keyS k = true ∧ k.size ≤ 64 := by decide +kernel

theorem vals8 : ∀ v ∈ [(bs [97]), (bs [98]), ByteArray.empty, (bs [42]), (bs [99, 114, 105, 116]), (bs [63]), (bs [119, 101, 98, 45, 42]), (bs [97, 34, 98, 92])], valS v = true ∧ v.size ≤ 64 := by decide +kernel

theorem matcher_spec (d : Dice) (hd : DOK d) : ∃ (m : MT) (d' : Dice), m86 ((), ((d, ()), ())) = some ((), ((d', ()), ((m, ()), ()))) ∧ DOK d' ∧ GoodM m := by
  obtain ⟨a, d1, e1, hd1, b1, _⟩ := next_spec 5 d hd (by omega)
  have b1 := b1 (by omega)
  obtain ⟨o, d2, e2, hd2, b2, _⟩ := next_spec 4 d1 hd1 (by omega)
  have b2 := b2 (by omega)
  obtain ⟨c, d3, e3, hd3, b3, _⟩ := next_spec 8 d2 hd2 (by omega)
  have b3 := b3 (by omega)
  unfold m86
  simp only [e1, Option.bind_some]
  obtain ⟨k, hk, ek⟩ := at_list [(bs [97, 112, 112]), (bs [104, 111, 115, 116]), (bs [115, 101, 118]), (bs [116, 101, 97, 109]), (bs [122, 111, 110, 101])] b1.1 b1.2 (fun e11 => (m39 ((4, ()), ((d1, ()), ()))).bind fun u12 =>
    (m39 ((8, ()), ((u12.2.1.1, ()), ()))).bind fun u13 =>
    bif (decide ((0 : Int) ≤ u13.1.1 ∧ (u13.1.1 : Int) < [(bs [97]), (bs [98]), ByteArray.empty, (bs [42]), (bs [99, 114, 105, 116]), (bs [63]), (bs [119, 101, 98, 45, 42]), (bs [97, 34, 98, 92])].length)) then
    ([(bs [97]), (bs [98]), ByteArray.empty, (bs [42]), (bs [99, 114, 105, 116]), (bs [63]), (bs [119, 101, 98, 45, 42]), (bs [97, 34, 98, 92])][u13.1.1.toNat]?).bind fun e14 =>
    some (((), ((u13.2.1.1, ()), (((e11, (u12.1.1, (e14, ()))), ()), ()))) : (Unit) × (Y11 × (Y12 × Unit) × Unit))
    else none)
  rw [ek]
  simp only [e2, e3, Option.bind_some]
  obtain ⟨v, hv, ev⟩ := at_list [(bs [97]), (bs [98]), ByteArray.empty, (bs [42]), (bs [99, 114, 105, 116]), (bs [63]), (bs [119, 101, 98, 45, 42]), (bs [97, 34, 98, 92])] b3.1 b3.2 (fun e14 => some (((), ((d3, ()), (((k, (o, (e14, ()))), ()), ()))) : (Unit) × (Y11 × (Y12 × Unit) × Unit)))
  rw [ev]
  have h1 := keys5 k hk
  have h2 := vals8 v hv
  refine ⟨(k, o, v, ()), d3, rfl, hd3, ?_, h1.2, h2.2, b2.1, by simp only; omega⟩
  unfold rightM
  simp only [h1.1, h2.1, decide_eq_true b2.1, decide_eq_true (show o ≤ 3 by omega), Bool.and_self]

theorem matchers_loop : ∀ (n : Nat) (i : Int) (d : Dice) (l : List MT), DOK d → i = n → l.length + n ≤ 1000 → (∀ m ∈ l, GoodM m) →
    ∃ (l' : List MT) (d' : Dice), loopT l21_0_3 ((i, ()), ((d, ()), (l, ()))) = some ((), ((d', ()), (l', ()))) ∧ DOK d' ∧ l'.length = l.length + n ∧ ∀ m ∈ l', GoodM m := by
  intro n
  induction n with
  | zero =>
    intro i d l hd hi hl hg
    refine ⟨l, d, loopT_inr ?_, hd, rfl, hg⟩
    have : decide (i > 0) = false := decide_eq_false (by omega)
    simp only [l21_0_3, this, sumE, sS]
  | succ n ih =>
    intro i d l hd hi hl hg
    obtain ⟨m, d1, e1, hd1, hm⟩ := matcher_spec d hd
    obtain ⟨l', d', e2, hd', hl', hg'⟩ := ih (i - 1) d1 (l ++ [m]) hd1 (by omega) (by simp; omega) (fun x hx => by
      rcases List.mem_append.1 hx with h | h
      · exact hg x h
      · simp at h; subst h; exact hm)
    refine ⟨l', d', ?_, hd', by rw [hl']; simp; omega, hg'⟩
    rw [← e2]
    refine loopT_inl ?_
    have h0 : decide (i > 0) = true := decide_eq_true (by omega)
    have h1 : decide (l.length + ([m] : List MT).length ≤ 4294967296) = true := decide_eq_true (by simp; omega)
    simp only [l21_0_3, h0, e1, sumE, sS, h1, w64_id (x := i - 1) (by omega) (by omega)]

theorem matchers_spec (n : Int) (d : Dice) (hd : DOK d) (h0 : 0 ≤ n) (hn : n ≤ 900) : ∃ (l : List MT) (d' : Dice), m21 ((n, ()), ((d, ()), ())) = some ((), ((d', ()), (l, ()))) ∧ DOK d' ∧ (l.length : Int) ≤ n ∧ ∀ m ∈ l, GoodM m := by
  obtain ⟨a, d1, e1, hd1, b1, _⟩ := next_spec (w64 (n + 1)) d hd (by rw [w64_id (by omega) (by omega)]; omega)
  rw [w64_id (x := n + 1) (by omega) (by omega)] at e1 b1
  have b1 := b1 (by omega)
  obtain ⟨l', d', e2, hd', hl', hg'⟩ := matchers_loop a.toNat a d1 [] hd1 (by omega) (by simp; omega) (fun m hm => by cases hm)
  refine ⟨l', d', ?_, hd', by rw [hl']; simp; omega, hg'⟩
  unfold m21
  simp only [w64_id (x := n + 1) (by omega) (by omega), e1, Option.bind_some, e2]

/-- Labels that are short. -/
def GoodL (l : List LT) : Prop := l.length ≤ 4 ∧ ∀ x ∈ l, x.1.size ≤ 64 ∧ x.2.1.size ≤ 64

theorem GoodL.z {l : List LT} (h : GoodL l) : LSz l := ⟨by have := h.1; omega, fun x hx => by have := (h.2 x hx).2; omega⟩

abbrev keys4 : List ByteArray := [(bs [97, 112, 112]), (bs [104, 111, 115, 116]), (bs [115, 101, 118]), (bs [116, 101, 97, 109])]

abbrev vals6 : List ByteArray := [ByteArray.empty, (bs [97]), (bs [98]), (bs [99, 114, 105, 116]), (bs [97, 34, 98, 92]), (bs [119, 101, 98, 45, 49])]

abbrev arr4 : ByteArray × ByteArray × ByteArray × ByteArray × Unit := ((bs [97, 112, 112]), ((bs [104, 111, 115, 116]), ((bs [115, 101, 118]), ((bs [116, 101, 97, 109]), ()))))

theorem vals6_ok : ∀ v ∈ vals6, valS v = true ∧ v.size ≤ 64 := by decide +kernel

theorem keys4_ok : ∀ k ∈ keys4, keyS k = true ∧ k.size ≤ 64 := by decide +kernel

/-- What the dice's labels are made of: keys in order, values of a few. -/
def FromKeys (ks : List ByteArray) (l : List LT) : Prop := (l.map (·.1)).Sublist ks ∧ ∀ x ∈ l, x.2.1 ∈ vals6 ∧ x.2.1 ≠ ByteArray.empty

theorem labels_loop : ∀ (n i : Nat) (d : Dice) (l : List LT), i + n = 4 → DOK d → FromKeys (keys4.take i) l →
    ∃ (l' : List LT) (d' : Dice), loopT l20_0_3 (((i : Int), arr4, ()), ((d, ()), (l, ()))) = some ((), ((d', ()), (l', ()))) ∧ DOK d' ∧ FromKeys keys4 l' := by
  intro n
  induction n with
  | zero =>
    intro i d l hi hd hl
    refine ⟨l, d, loopT_inr ?_, hd, by rw [show i = 4 by omega] at hl; exact hl⟩
    have : decide ((i : Int) < 4) = false := decide_eq_false (by omega)
    simp only [l20_0_3, this, sumE, sS]
  | succ n ih =>
    intro i d l hi hd hl
    obtain ⟨k, hk⟩ := getD_some (l := keys4) (i := i) (by show i < 4; omega)
    obtain ⟨a, d1, e1, hd1, b1, _⟩ := next_spec 6 d hd (by omega)
    have b1 := b1 (by omega)
    obtain ⟨v, hv⟩ := getD_some (l := vals6) (i := a.toNat) (by show a.toNat < 6; omega)
    have h0 : decide ((i : Int) < 4) = true := decide_eq_true (by omega)
    have hb : decide ((0 : Int) ≤ a ∧ (a : Int) < vals6.length) = true := decide_eq_true ⟨b1.1, b1.2⟩
    have htk : keys4.take (i + 1) = keys4.take i ++ [k] := by rw [List.take_add_one, hk]; rfl
    have hw : w64 ((i : Int) + 1) = ((i + 1 : Nat) : Int) := w64_nat (by omega)
    have hlen : l.length ≤ 4 := by
      have := hl.1.length_le
      rw [List.length_map, List.length_take] at this
      omega
    by_cases he : v = ByteArray.empty
    · obtain ⟨l', d', e2, hd', hl'⟩ := ih (i + 1) d1 l (by omega) hd1 ⟨by rw [htk]; exact hl.1.trans (List.sublist_append_left _ _), hl.2⟩
      refine ⟨l', d', ?_, hd', hl'⟩
      rw [← e2]
      refine loopT_inl ?_
      simp only [l20_0_3, h0, rowAt_G, rowG_nat hk, e1, hb, hv, toList_bl, beq_bl, decide_eq_true he, sumE, sS, hw]
    · obtain ⟨l', d', e2, hd', hl'⟩ := ih (i + 1) d1 (l ++ [(k, v, ())]) (by omega) hd1 ⟨by rw [htk, List.map_append]; exact hl.1.append (List.Sublist.refl _), fun x hx => by
        rcases List.mem_append.1 hx with h | h
        · exact hl.2 x h
        · simp only [List.mem_singleton] at h; subst h; exact ⟨List.mem_of_getElem? hv, he⟩⟩
      refine ⟨l', d', ?_, hd', hl'⟩
      rw [← e2]
      refine loopT_inl ?_
      have h1 : decide (l.length + ([(k, (v, ()))] : List Y15).length ≤ 4294967296) = true := decide_eq_true (by simp; omega)
      simp only [l20_0_3, h0, rowAt_G, rowG_nat hk, e1, hb, hv, toList_bl, beq_bl, decide_eq_false he, sumE, sS, h1, hw]

theorem labels_spec (d : Dice) (hd : DOK d) : ∃ (l : List LT) (d' : Dice), m20 ((), ((d, ()), ())) = some ((), ((d', ()), (l, ()))) ∧ DOK d' ∧ FromKeys keys4 l := by
  obtain ⟨l, d', h1, h2, h3⟩ := labels_loop 4 0 d [] (by omega) hd ⟨List.nil_sublist _, fun x hx => by cases hx⟩
  refine ⟨l, d', ?_, h2, h3⟩
  unfold m20
  refine bind_of _ h1 rfl

theorem from_good {l : List LT} (h : FromKeys keys4 l) : GoodL l := by
  refine ⟨by have := h.1.length_le; rw [List.length_map] at this; exact this, fun x hx => ⟨?_, (vals6_ok _ (h.2 x hx).1).2⟩⟩
  exact (keys4_ok _ (h.1.subset (List.mem_map_of_mem hx))).2

theorem keysD_loop : ∀ (n i : Nat) (d : Dice) (l : List ByteArray), i + n = 4 → DOK d → l.Sublist (keys4.take i) →
    ∃ (l' : List ByteArray) (d' : Dice), loopT l40_0_3 (((i : Int), arr4, ()), ((d, ()), (l, ()))) = some ((), ((d', ()), (l', ()))) ∧ DOK d' ∧ l'.Sublist keys4 := by
  intro n
  induction n with
  | zero =>
    intro i d l hi hd hl
    refine ⟨l, d, loopT_inr ?_, hd, by rw [show i = 4 by omega] at hl; exact hl⟩
    have : decide ((i : Int) < 4) = false := decide_eq_false (by omega)
    simp only [l40_0_3, this, sumE, sS]
  | succ n ih =>
    intro i d l hi hd hl
    obtain ⟨k, hk⟩ := getD_some (l := keys4) (i := i) (by show i < 4; omega)
    obtain ⟨b, d1, e1, hd1⟩ := bool_spec 3 d hd (by omega) (by omega)
    have h0 : decide ((i : Int) < 4) = true := decide_eq_true (by omega)
    have htk : keys4.take (i + 1) = keys4.take i ++ [k] := by rw [List.take_add_one, hk]; rfl
    have hw : w64 ((i : Int) + 1) = ((i + 1 : Nat) : Int) := w64_nat (by omega)
    have hlen : l.length ≤ 4 := by
      have := hl.length_le
      rw [List.length_take] at this
      omega
    cases b with
    | false =>
      obtain ⟨l', d', e2, hd', hl'⟩ := ih (i + 1) d1 l (by omega) hd1 (by rw [htk]; exact hl.trans (List.sublist_append_left _ _))
      refine ⟨l', d', ?_, hd', hl'⟩
      rw [← e2]
      refine loopT_inl ?_
      simp only [l40_0_3, h0, rowAt_G, rowG_nat hk, e1, sumE, sS, hw]
    | true =>
      obtain ⟨l', d', e2, hd', hl'⟩ := ih (i + 1) d1 (l ++ [k]) (by omega) hd1 (by rw [htk]; exact hl.append (List.Sublist.refl _))
      refine ⟨l', d', ?_, hd', hl'⟩
      rw [← e2]
      refine loopT_inl ?_
      have h1 : decide (l.length + [k].length ≤ 4294967296) = true := decide_eq_true (by simp; omega)
      simp only [l40_0_3, h0, rowAt_G, rowG_nat hk, e1, sumE, sS, h1, hw]

theorem keysD_spec (d : Dice) (hd : DOK d) : ∃ (l : List ByteArray) (d' : Dice), m40 ((), ((d, ()), ())) = some ((), ((d', ()), (l, ()))) ∧ DOK d' ∧ l.Sublist keys4 := by
  obtain ⟨l, d', h1, h2, h3⟩ := keysD_loop 4 0 d [] (by omega) hd (List.nil_sublist _)
  refine ⟨l, d', ?_, h2, h3⟩
  unfold m40
  refine bind_of _ h1 rfl

theorem light (l : List Int) : m17 ((l, ()), ()) = some ((decide (l.length ≤ 500), ()), ()) := by
  unfold m17
  rw [show decide ((l.length : Int) ≤ 500) = decide (l.length ≤ 500) from decide_eq_decide.2 (by omega)]

theorem roll (l : List Int) : m19 ((l, ()), ()) = some ((), (((l, 0, ()), ()), ())) := rfl

end Go.Proofs.YtcblbcpnfidndaaDoor

namespace Go.Proofs.YtcblbcpnfidndaaDoor
open Go Go.Abs Go.Lab
abbrev RuT : Type := List MT × List MT × List ByteArray × Unit

abbrev big : Nat := 9223372036854775807

/-- The sizes of a rule, of alerts. -/
def RSz (r : RuT) : Prop := PSs r.1 ∧ PSs r.2.1 ∧ r.2.2.1.length ≤ big

/-! ### The dice's rules -/
def GoodR (r : RuT) : Prop := r.1.length ≤ 8 ∧ r.2.1.length ≤ 8 ∧ (∀ m ∈ r.1, GoodM m) ∧ (∀ m ∈ r.2.1, GoodM m) ∧ r.2.2.1.Sublist keys4 ∧ r.1 ≠ [] ∧ r.2.1 ≠ []

theorem GoodR.z {r : RuT} (h : GoodR r) : RSz r := by
  obtain ⟨h1, h2, h3, h4, h5, _⟩ := h
  refine ⟨⟨by omega, fun m hm => (h3 m hm).p⟩, ⟨by omega, fun m hm => (h4 m hm).p⟩, ?_⟩
  have := h5.length_le
  rw [show keys4.length = 4 from rfl] at this
  unfold big; omega

end Go.Proofs.YtcblbcpnfidndaaDoor

namespace Go.Proofs.YtcblbcpnfidndaaDoor
open Go Go.Abs Go.Lab
/-! ### Loops over a row -/
def runL {S E B : Type} (step : Nat → S → E → S ⊕ B) (fin : S → B) : Nat → List E → S → B
  | _, [], s => fin s
  | i, e :: r, s => match step i s e with
    | .inl s' => runL step fin (i + 1) r s'
    | .inr b => b

theorem loop_list {A B S E : Type} {f : A → Option (A ⊕ B)} (l : List E) (st : Nat → S → A) (step : Nat → S → E → S ⊕ B) (fin : S → B) (I : Nat → S → Prop)
    (h1 : ∀ i e s, l[i]? = some e → i < l.length → I i s → f (st i s) = some (match step i s e with | .inl s' => .inl (st (i + 1) s') | .inr b => .inr b))
    (hI : ∀ i e s s', l[i]? = some e → I i s → step i s e = .inl s' → I (i + 1) s')
    (h2 : ∀ s, I l.length s → f (st l.length s) = some (.inr (fin s))) :
    ∀ (k i : Nat) (s : S), i + k = l.length → I i s → loopT f (st i s) = some (runL step fin i (l.drop i) s) := by
  intro k
  induction k with
  | zero =>
    intro i s h hi
    obtain rfl : i = l.length := by omega
    rw [List.drop_length]
    exact loopT_inr (h2 s hi)
  | succ k ih =>
    intro i s h hi
    obtain ⟨e, he, hd⟩ := drop_at (l := l) (i := i) (by omega)
    have q := h1 i e s he (by omega) hi
    rw [hd]
    unfold runL
    cases hs : step i s e with
    | inl s' =>
      rw [hs] at q
      simp only
      rw [← ih (i + 1) s' (by omega) (hI i e s s' he hi hs)]
      exact loopT_inl q
    | inr b =>
      rw [hs] at q
      exact loopT_inr q

theorem loop_list0 {A B S E : Type} {f : A → Option (A ⊕ B)} (l : List E) (st : Nat → S → A) (step : Nat → S → E → S ⊕ B) (fin : S → B)
    (h1 : ∀ i e s, l[i]? = some e → i < l.length → f (st i s) = some (match step i s e with | .inl s' => .inl (st (i + 1) s') | .inr b => .inr b))
    (h2 : ∀ s, f (st l.length s) = some (.inr (fin s))) (s : S) : loopT f (st 0 s) = some (runL step fin 0 l s) := by
  have := loop_list l st step fin (fun _ _ => True) (fun i e s he hl _ => h1 i e s he hl) (fun _ _ _ _ _ _ _ => trivial) (fun s _ => h2 s) l.length 0 s (by omega) trivial
  rwa [List.drop_zero] at this

theorem runL_fold {S E B : Type} (g : S → E → S) (fin : S → B) : ∀ (l : List E) (i : Nat) (s : S), runL (fun _ s e => .inl (g s e)) fin i l s = fin (l.foldl g s) := by
  intro l
  induction l with
  | nil => intro i s; rfl
  | cons e r ih => intro i s; exact ih (i + 1) (g s e)

/-- A loop that goes through the whole row. -/
theorem loop_thru {A B E : Type} {f : A → Option (A ⊕ B)} (l : List E) (st : Nat → A) (fin : B)
    (h1 : ∀ i e, l[i]? = some e → i < l.length → f (st i) = some (.inl (st (i + 1)))) (h2 : f (st l.length) = some (.inr fin)) : loopT f (st 0) = some fin := by
  have := loop_list0 (S := Unit) l (fun i _ => st i) (fun _ _ _ => .inl ()) (fun _ => fin) (fun i e _ he hi => h1 i e he hi) (fun _ => h2) ()
  exact this.trans (congrArg some (runL_fold (fun _ _ => ()) (fun _ => fin) l 0 ()))

/-- A loop of a known number of rounds. -/
theorem loop_ind {A B : Type} {f : A → Option (A ⊕ B)} {Q : B → Prop} (I : Nat → A → Prop) (n : Nat)
    (h1 : ∀ i a, i < n → I i a → ∃ a', f a = some (.inl a') ∧ I (i + 1) a') (h2 : ∀ a, I n a → ∃ b, f a = some (.inr b) ∧ Q b) : ∀ a, I 0 a → ∃ b, loopT f a = some b ∧ Q b := by
  have : ∀ (k i : Nat) a, i + k = n → I i a → ∃ b, loopT f a = some b ∧ Q b := by
    intro k
    induction k with
    | zero =>
      intro i a h hi
      obtain rfl : i = n := by omega
      obtain ⟨b, h, hq⟩ := h2 a hi
      exact ⟨b, loopT_inr h, hq⟩
    | succ k ih =>
      intro i a h hi
      obtain ⟨a', h, hi'⟩ := h1 i a (by omega) hi
      obtain ⟨b, hb, hq⟩ := ih (i + 1) a' (by omega) hi'
      exact ⟨b, by rw [← hb]; exact loopT_inl h, hq⟩
  exact fun a h => this n 0 a (by omega) h

theorem lt_t {i n : Nat} (h : i < n) : decide ((i : Int) < (n : Int)) = true := decide_eq_true (by omega)

theorem lt_f (n : Nat) : decide ((n : Int) < (n : Int)) = false := decide_eq_false (by omega)

/-! ### Silences -/
abbrev SiT : Type := Int × Int × Int × Int × List MT × Unit

def SSz (s : SiT) : Prop := s.2.2.2.2.1.length ≤ 4294967296 ∧ ∀ m ∈ s.2.2.2.2.1, PSz m ∧ MSz m

def SSs (l : List SiT) : Prop := l.length ≤ 1000 ∧ ∀ s ∈ l, SSz s

theorem SSz.p {s : SiT} (h : SSz s) : PSs s.2.2.2.2.1 := ⟨by have := h.1; omega, fun m hm => (h.2 m hm).1⟩

theorem SSs.at {l : List SiT} (h : SSs l) {i : Nat} {e : SiT} (he : l[i]? = some e) : SSz e := h.2 e (List.mem_of_getElem? he)

/-! ### Checks of silences -/
/-- A loop that ends at the first element of a kind. -/
theorem runL_any {E B : Type} (p : E → Bool) (b : Nat → B) (fin : B) : ∀ (l : List E) (i : Nat), ∃ j, i ≤ j ∧ runL (fun i (_ : Unit) e => bif p e then .inr (b i) else .inl ()) (fun _ => fin) i l () = bif l.any p then b j else fin := by
  intro l
  induction l with
  | nil => intro i; exact ⟨i, Nat.le_refl _, rfl⟩
  | cons e r ih =>
    intro i
    cases h : p e
    · obtain ⟨j, h1, h2⟩ := ih (i + 1)
      refine ⟨j, by omega, ?_⟩
      simp only [runL, h, cond_false, List.any_cons, Bool.false_or]
      exact h2
    · exact ⟨i, Nat.le_refl _, by simp only [runL, h, cond_true, List.any_cons, Bool.true_or]⟩

theorem any_not {E : Type} (p : E → Bool) (l : List E) : (l.any fun e => !p e) = !l.all p := by
  induction l with
  | nil => rfl
  | cons e r ih => rw [List.any_cons, List.all_cons, ih, Bool.not_and]

def chkS (last : Int) (s : SiT) : Int :=
  bif decide (s.1 < 1) || decide (s.1 ≤ last) then 6
  else bif decide (s.2.1 < 0) || (decide (s.2.1 ≥ s.2.2.1) || (decide (s.2.2.1 > 8589934592) || decide (s.2.2.2.1 < 0))) then 1
  else bif (s.2.2.2.2.1.length : Int) == 0 then 7
  else bif decide ((s.2.2.2.2.1.length : Int) > 8) then 5
  else bif s.2.2.2.2.1.all rightM then 0 else 8

def goS : Int → List SiT → Int
  | _, [] => 0
  | last, s :: r => bif chkS last s != 0 then chkS last s else goS s.1 r

/-- What is wrong with silences. -/
def chkE (l : List SiT) : Int := bif decide ((l.length : Int) > 24) then 5 else goS 0 l

end Go.Proofs.YtcblbcpnfidndaaDoor

namespace Go.Proofs.YtcblbcpnfidndaaDoor
open Go Go.Abs Go.Lab
def addE (l : List SiT) (s : SiT) : Int × List SiT := bif chkE (l ++ [s]) != 0 then (chkE (l ++ [s]), []) else (0, l ++ [s])

end Go.Proofs.YtcblbcpnfidndaaDoor

namespace Go.Proofs.YtcblbcpnfidndaaDoor
open Go Go.Abs Go.Lab
/-- A silence of the dice. -/
def GoodS (s : SiT) : Prop := 0 ≤ s.2.1 ∧ s.2.1 < s.2.2.1 ∧ s.2.2.1 ≤ 2000 ∧ 0 ≤ s.2.2.2.1 ∧ s.2.2.2.2.1 ≠ [] ∧ s.2.2.2.2.1.length ≤ 8 ∧ ∀ m ∈ s.2.2.2.2.1, GoodM m

theorem GoodS.z {s : SiT} (h : GoodS s) : SSz s := ⟨by have := h.2.2.2.2.2.1; omega, fun m hm => ⟨(h.2.2.2.2.2.2 m hm).p, (h.2.2.2.2.2.2 m hm).z⟩⟩

/-- Silences of the dice. -/
def GoodSs (l : List SiT) : Prop := l.length ≤ 3 ∧ goS 0 l = 0 ∧ ∀ s ∈ l, s.1 ≤ 2 * (l.length : Int) ∧ GoodS s

theorem GoodSs.chk {l : List SiT} (h : GoodSs l) : chkE l = 0 := by
  unfold chkE
  rw [decide_eq_false (by have := h.1; omega), cond_false, h.2.1]

theorem GoodSs.z {l : List SiT} (h : GoodSs l) : SSs l := ⟨by have := h.1; omega, fun s hs => (h.2.2 s hs).2.z⟩

end Go.Proofs.YtcblbcpnfidndaaDoor
