/- Lemmas for the statement of the last text of this claim. -/
import Derived.Test.YtcblbcpnfidndaaDoorChecked
import Derived.Shelf.Strings.OnBuilder
import Derived.Shelf.Strings.IndexAnyAll
import Derived.Shelf.Strings.Search1
import Derived.ProofKit
import Derived.Test.YtcblbcpnfidndaaDoorPxO
import Derived.WalkKit
import Derived.BigCall
import Derived.Test.YtcblbcpnfidndaaDoorPlD
import Derived.Deep.RegionLaw
import Derived.Deep.LoopGhost
import Derived.Lib.Walk
import Derived.Maps.Own
import Derived.Shelf.RegionOpenPlain
import Derived.Lib.LazyBuf
set_option linter.unusedSimpArgs false
set_option linter.unusedVariables false
namespace Go.Proofs.YtcblbcpnfidndaaDoor
open Go Go.Shelf Go.RowKit
def shr : Shelf.Ren :=
{ f := fun x => match x with
    | 153 => 135
    | 152 => 154
    | 226 => 155
    | 227 => 125
    | 228 => 148
    | 137 => 164
    | 119 => 165
    | 224 => 166
    | 225 => 167
    | 217 => 168
    | 266 => 170
    | 156 => 98
    | 165 => 133
    | 166 => 134
    | 167 => 131
    | 169 => 132
    | 240 => 152
    | 241 => 153
    | 276 => 162
    | 277 => 163
    | n => n
  t := fun x => match x with
    | 31 => 51
    | 9 => 9
    | 3 => 3
    | 4 => 4
    | 0 => 0
    | 20 => 20
    | 72 => 153
    | 76 => 159
    | 70 => 150
    | 37 => 151
    | 75 => 155
    | 127 => 168
    | 164 => 171
    | 5 => 5
    | 80 => 157
    | 21 => 21
    | 117 => 145
    | 116 => 144
    | 46 => 176
    | 124 => 148
    | n => n
  g := fun x => x }

set_option maxRecDepth 100000 in
theorem lays_n167 : Lays.n167 Tryd.prog shr :=
{ mixed := Eq.refl true,
  f167 := Eq.trans Tryd.func131 (congrArg some (Eq.refl (Body.n167 shr))),
  f240 := Eq.trans Tryd.func152 (congrArg some (Eq.refl (Body.n240 shr))),
  f276 := Eq.trans Tryd.func162 (congrArg some (Eq.refl (Body.n276 shr))),
  t0 := Tryd.underlying0,
  a0 := Tryd.isAgg0,
  z0 := Tryd.sizeOf0,
  v0 := Tryd.zeroValue0,
  t4 := Tryd.underlying4,
  a4 := Tryd.isAgg4,
  z4 := Tryd.sizeOf4,
  v4 := Tryd.zeroValue4,
  t5 := Tryd.underlying5,
  a5 := Tryd.isAgg5,
  z5 := Tryd.sizeOf5,
  v5 := Tryd.zeroValue5,
  t9 := Tryd.underlying9,
  a9 := Tryd.isAgg9,
  z9 := Tryd.sizeOf9,
  v9 := Tryd.zeroValue9,
  t20 := Tryd.underlying20,
  a20 := Tryd.isAgg20,
  z20 := Tryd.sizeOf20,
  v20 := Tryd.zeroValue20,
  t37 := Tryd.underlying151,
  a37 := Tryd.isAgg151,
  z37 := Tryd.sizeOf151,
  v37 := Tryd.zeroValue151,
  t70 := Tryd.underlying150,
  a70 := Tryd.isAgg150,
  z70 := Tryd.sizeOf150,
  v70 := Tryd.zeroValue150,
  t72 := Tryd.underlying153,
  a72 := Tryd.isAgg153,
  z72 := Tryd.sizeOf153,
  v72 := Tryd.zeroValue153,
  t75 := Tryd.underlying155,
  a75 := Tryd.isAgg155,
  z75 := Tryd.sizeOf155,
  v75 := Tryd.zeroValue155,
  t164 := Tryd.underlying171,
  a164 := Tryd.isAgg171,
  z164 := Tryd.sizeOf171,
  v164 := Tryd.zeroValue171 }

set_option maxRecDepth 100000 in
theorem lays_n169 : Lays.n169 Tryd.prog shr :=
{ mixed := Eq.refl true,
  f169 := Eq.trans Tryd.func132 (congrArg some (Eq.refl (Body.n169 shr))),
  t0 := Tryd.underlying0,
  a0 := Tryd.isAgg0,
  z0 := Tryd.sizeOf0,
  v0 := Tryd.zeroValue0,
  t3 := Tryd.underlying3,
  a3 := Tryd.isAgg3,
  z3 := Tryd.sizeOf3,
  v3 := Tryd.zeroValue3,
  t9 := Tryd.underlying9,
  a9 := Tryd.isAgg9,
  z9 := Tryd.sizeOf9,
  v9 := Tryd.zeroValue9,
  t37 := Tryd.underlying151,
  a37 := Tryd.isAgg151,
  z37 := Tryd.sizeOf151,
  v37 := Tryd.zeroValue151,
  t70 := Tryd.underlying150,
  a70 := Tryd.isAgg150,
  z70 := Tryd.sizeOf150,
  v70 := Tryd.zeroValue150,
  t72 := Tryd.underlying153,
  a72 := Tryd.isAgg153,
  z72 := Tryd.sizeOf153,
  v72 := Tryd.zeroValue153,
  t127 := Tryd.underlying168,
  a127 := Tryd.isAgg168,
  z127 := Tryd.sizeOf168,
  v127 := Tryd.zeroValue168 }

set_option maxRecDepth 100000 in
theorem lays_n156 : Lays.n156 Tryd.prog shr :=
{ mixed := Eq.refl true,
  f156 := Eq.trans Tryd.func98 (congrArg some (Eq.refl (Body.n156 shr))),
  f165 := Eq.trans Tryd.func133 (congrArg some (Eq.refl (Body.n165 shr))),
  f166 := Eq.trans Tryd.func134 (congrArg some (Eq.refl (Body.n166 shr))),
  f169 := Eq.trans Tryd.func132 (congrArg some (Eq.refl (Body.n169 shr))),
  f240 := Eq.trans Tryd.func152 (congrArg some (Eq.refl (Body.n240 shr))),
  f241 := Eq.trans Tryd.func153 (congrArg some (Eq.refl (Body.n241 shr))),
  f276 := Eq.trans Tryd.func162 (congrArg some (Eq.refl (Body.n276 shr))),
  f277 := Eq.trans Tryd.func163 (congrArg some (Eq.refl (Body.n277 shr))),
  t0 := Tryd.underlying0,
  a0 := Tryd.isAgg0,
  z0 := Tryd.sizeOf0,
  v0 := Tryd.zeroValue0,
  t3 := Tryd.underlying3,
  a3 := Tryd.isAgg3,
  z3 := Tryd.sizeOf3,
  v3 := Tryd.zeroValue3,
  t4 := Tryd.underlying4,
  a4 := Tryd.isAgg4,
  z4 := Tryd.sizeOf4,
  v4 := Tryd.zeroValue4,
  t9 := Tryd.underlying9,
  a9 := Tryd.isAgg9,
  z9 := Tryd.sizeOf9,
  v9 := Tryd.zeroValue9,
  t20 := Tryd.underlying20,
  a20 := Tryd.isAgg20,
  z20 := Tryd.sizeOf20,
  v20 := Tryd.zeroValue20,
  t31 := Tryd.underlying51,
  a31 := Tryd.isAgg51,
  z31 := Tryd.sizeOf51,
  v31 := Tryd.zeroValue51,
  t37 := Tryd.underlying151,
  a37 := Tryd.isAgg151,
  z37 := Tryd.sizeOf151,
  v37 := Tryd.zeroValue151,
  t70 := Tryd.underlying150,
  a70 := Tryd.isAgg150,
  z70 := Tryd.sizeOf150,
  v70 := Tryd.zeroValue150,
  t72 := Tryd.underlying153,
  a72 := Tryd.isAgg153,
  z72 := Tryd.sizeOf153,
  v72 := Tryd.zeroValue153,
  t75 := Tryd.underlying155,
  a75 := Tryd.isAgg155,
  z75 := Tryd.sizeOf155,
  v75 := Tryd.zeroValue155,
  t76 := Tryd.underlying159,
  a76 := Tryd.isAgg159,
  z76 := Tryd.sizeOf159,
  v76 := Tryd.zeroValue159,
  t127 := Tryd.underlying168,
  a127 := Tryd.isAgg168,
  z127 := Tryd.sizeOf168,
  v127 := Tryd.zeroValue168,
  t164 := Tryd.underlying171,
  a164 := Tryd.isAgg171,
  z164 := Tryd.sizeOf171,
  v164 := Tryd.zeroValue171 }

set_option maxRecDepth 100000 in
theorem lays_n217 : Lays.n217 Tryd.prog shr :=
{ mixed := Eq.refl true,
  f217 := Eq.trans Tryd.func168 (congrArg some (Eq.refl (Body.n217 shr))),
  f266 := Eq.trans Tryd.func170 (congrArg some (Eq.refl (Body.n266 shr))),
  t3 := Tryd.underlying3,
  a3 := Tryd.isAgg3,
  z3 := Tryd.sizeOf3,
  v3 := Tryd.zeroValue3,
  t5 := Tryd.underlying5,
  a5 := Tryd.isAgg5,
  z5 := Tryd.sizeOf5,
  v5 := Tryd.zeroValue5,
  t9 := Tryd.underlying9,
  a9 := Tryd.isAgg9,
  z9 := Tryd.sizeOf9,
  v9 := Tryd.zeroValue9 }

set_option maxRecDepth 100000 in
theorem lays_n153 : Lays.n153 Tryd.prog shr :=
{ mixed := Eq.refl true,
  f119 := Eq.trans Tryd.func165 (congrArg some (Eq.refl (Body.n119 shr))),
  f137 := Eq.trans Tryd.func164 (congrArg some (Eq.refl (Body.n137 shr))),
  f152 := Eq.trans Tryd.func154 (congrArg some (Eq.refl (Body.n152 shr))),
  f153 := Eq.trans Tryd.func135 (congrArg some (Eq.refl (Body.n153 shr))),
  f217 := Eq.trans Tryd.func168 (congrArg some (Eq.refl (Body.n217 shr))),
  f224 := Eq.trans Tryd.func166 (congrArg some (Eq.refl (Body.n224 shr))),
  f225 := Eq.trans Tryd.func167 (congrArg some (Eq.refl (Body.n225 shr))),
  f226 := Eq.trans Tryd.func155 (congrArg some (Eq.refl (Body.n226 shr))),
  f227 := Eq.trans Tryd.func125 (congrArg some (Eq.refl (Body.n227 shr))),
  f228 := Eq.trans Tryd.func148 (congrArg some (Eq.refl (Body.n228 shr))),
  f266 := Eq.trans Tryd.func170 (congrArg some (Eq.refl (Body.n266 shr))),
  t0 := Tryd.underlying0,
  a0 := Tryd.isAgg0,
  z0 := Tryd.sizeOf0,
  v0 := Tryd.zeroValue0,
  t3 := Tryd.underlying3,
  a3 := Tryd.isAgg3,
  z3 := Tryd.sizeOf3,
  v3 := Tryd.zeroValue3,
  t4 := Tryd.underlying4,
  a4 := Tryd.isAgg4,
  z4 := Tryd.sizeOf4,
  v4 := Tryd.zeroValue4,
  t5 := Tryd.underlying5,
  a5 := Tryd.isAgg5,
  z5 := Tryd.sizeOf5,
  v5 := Tryd.zeroValue5,
  t9 := Tryd.underlying9,
  a9 := Tryd.isAgg9,
  z9 := Tryd.sizeOf9,
  v9 := Tryd.zeroValue9,
  t21 := Tryd.underlying21,
  a21 := Tryd.isAgg21,
  z21 := Tryd.sizeOf21,
  v21 := Tryd.zeroValue21,
  t46 := Tryd.underlying176,
  a46 := Tryd.isAgg176,
  z46 := Tryd.sizeOf176,
  v46 := Tryd.zeroValue176,
  t116 := Tryd.underlying144,
  a116 := Tryd.isAgg144,
  z116 := Tryd.sizeOf144,
  t117 := Tryd.underlying145,
  a117 := Tryd.isAgg145,
  z117 := Tryd.sizeOf145,
  v117 := Tryd.zeroValue145,
  t124 := Tryd.underlying148,
  a124 := Tryd.isAgg148,
  z124 := Tryd.sizeOf148,
  v124 := Tryd.zeroValue148 }

set_option maxRecDepth 100000 in
theorem bextra : Builder.Extra Tryd.prog shr :=
{ sizeBuilder := Eq.refl (some 2), liesBuilder := Eq.refl true, t5 := Tryd.underlying5, a5 := Tryd.isAgg5, z5 := Tryd.sizeOf5, v5 := Tryd.zeroValue5,
  infoByte := Eq.refl (some (some (Value.int IntKind.u8 0), 1, 1)), cellsByte := Eq.refl 1, sizeByte := Eq.refl (some 1), neB5 := by decide }

end Go.Proofs.YtcblbcpnfidndaaDoor

namespace Go.Proofs.YtcblbcpnfidndaaDoor
open Go Go.Abs Go.RowKit
theorem kept_below {w w' : World} (h : Below w.heap.size w w') : Kept w w' := ⟨h.os, h.tape, h.output, h.size, h.block⟩

theorem hand168 : CallOK Tryd.prog 168 (pureC hfIdx) := pure_ok (entered Tryd.func168 rfl (by decide)) (by
  intro args v h
  unfold hfIdx at h
  split at h
  · rename_i s c
    have := Tr.mean_ret h
    subst this
    refine ⟨_, rfl, fun w X vals hsz hv => ?_⟩
    have h0 := PR.strInv (hv 0 _ rfl)
    have h1 := PR.int_inv (hv 1 _ rfl)
    have hvv := two_vals (vals := vals) (by simpa using hsz)
    rw [h0, h1] at hvv
    rw [hvv]
    refine (Any.stringslite_IndexByte (ρ := shr) lays_n217 s c w).mono ?_
    rintro e w' ⟨rfl, rfl⟩
    exact ⟨rfl, Kept.refl _⟩
  · exact (Tr.mean_fail h).elim)

set_option maxRecDepth 100000 in
theorem hand135 : CallOK Tryd.prog 135 (pureC hfAny) := pure_ok (entered Tryd.func135 rfl (by decide)) (by
  intro args v h
  unfold hfAny at h
  split at h
  · rename_i s c
    obtain ⟨hc, h⟩ := Tr.mean_need h
    have := Tr.mean_ret h
    subst this
    refine ⟨_, rfl, fun w X vals hsz hv => ?_⟩
    have h0 := PR.strInv (hv 0 _ rfl)
    have h1 := PR.strInv (hv 1 _ rfl)
    have hvv := two_vals (vals := vals) (by simpa using hsz)
    rw [h0, h1] at hvv
    rw [hvv]
    simp only [Bool.and_eq_true, decide_eq_true_eq, isAsc, List.all_eq_true] at hc
    refine (Any.strings_IndexAny (ρ := shr) lays_n153 Tryd.zeroValue144 (by kernel_rfl) s c w hc.2.1 hc.2.2 (fun j b hb => hc.1.1 b (List.mem_of_getElem? hb)) (fun j b hb => hc.1.2 b (List.mem_of_getElem? hb))).mono ?_
    rintro e w' ⟨rfl, hb⟩
    exact ⟨rfl, kept_below hb⟩
  · exact (Tr.mean_fail h).elim)

theorem row_str {w : World} {X : XT} {v : Value} {l : List ByteArray} {tg : Bool} {ℓ : Lens} (h : PR w X v (d1 ℓ (.row .str l tg))) :
    (l = [] ∧ ∃ a cap, v = .slice a 0 cap) ∨ ∃ b o cap, v = .slice (some ⟨b, o, none⟩) l.length cap ∧ l.length ≤ cap ∧ ∀ (j : Nat) (x : ByteArray), l[j]? = some x → w.cell? ⟨b, o + j, none⟩ = some (.string x) := by
  have e : d1 ℓ (.row .str l tg) = .lst (lsz 1 (l.map fun x => AV.str x)) (l.map fun x => AV.str x) tg := rfl
  rw [e] at h
  cases hl : l with
  | nil =>
    left
    rw [hl] at h
    refine ⟨rfl, ?_⟩
    simp only [List.map_nil] at h
    cases h with
    | lst0 a cap sz t ht => exact ⟨a, cap, rfl⟩
    | lst b o n cap sz t xs f hn hc ht hsz hx hr => simp at hn; subst hn; exact ⟨_, cap, rfl⟩
  | cons y r =>
    right
    rw [← hl]
    have hz : lsz 1 (l.map fun x => AV.str x) = 1 := by rw [hl]; rfl
    rw [hz] at h
    generalize hxs : (l.map fun x => AV.str x) = xs at h
    have hlen : xs.length = l.length := by rw [← hxs]; simp
    cases h with
    | lst0 a cap sz t ht => rw [hl] at hlen; simp at hlen
    | lst b o n cap sz t xs f hn hc ht hsz hx hr =>
      refine ⟨b, o, cap, by rw [← hlen, hn], by omega, fun j x hj => ?_⟩
      have hxj : xs[j]? = some (.str x) := by rw [← hxs, List.getElem?_map, hj]; rfl
      obtain ⟨_, h2, _⟩ := hx j _ hxj 0 (.str x) rfl
      have h3 := hr j _ hxj 0 (.str x) rfl
      have h4 : f j 0 = .string x := PR.strInv h3
      rw [h4] at h2
      simpa using h2

set_option maxRecDepth 100000 in
theorem hand98 : CallOK Tryd.prog 98 (pureC hfJoin) := pure_ok (entered Tryd.func98 rfl (by decide)) (by
  intro args v h
  unfold hfJoin at h
  split at h
  · rename_i l tg sep
    obtain ⟨hc, h⟩ := Tr.mean_need h
    have hc := of_decide_eq_true hc
    have := Tr.mean_ret h
    subst this
    refine ⟨_, rfl, fun w X vals hsz hv => ?_⟩
    have h0 := row_str (hv 0 _ rfl)
    have h1 := PR.strInv (hv 1 _ rfl)
    have hvv := two_vals (vals := vals) (by simpa using hsz)
    rw [h1] at hvv
    have hsz2 : (Lib.join (List.map (fun x => x.data.toList) (show List ByteArray from l)) sep.data.toList).length ≤ 140737488355328 := by
      have := hc.2
      rwa [show (hJoin (show List ByteArray from l) sep).size = (Lib.join (List.map (fun x => x.data.toList) (show List ByteArray from l)) sep.data.toList).length from by simp [hJoin, mkB, ByteArray.size]] at this
    rcases h0 with ⟨hl, a, cap, e⟩ | ⟨b, o, cap, e, hle, hcell⟩
    · rw [hvv, e]
      refine (Any.strings_Join_none (ρ := shr) lays_n156 bextra a cap sep w).mono ?_
      rintro e w' ⟨rfl, rfl⟩
      refine ⟨?_, Kept.refl _⟩
      have hl : (show List ByteArray from l) = [] := hl
      show Ending.returned _ = Ending.returned (.string (hJoin (show List ByteArray from l) sep))
      rw [hl]; rfl
    · rw [hvv, e]
      have hb : l ≠ [] → b < w.heap.size := fun hne => by
        cases hl : (show List ByteArray from l) with
        | nil => exact absurd hl hne
        | cons y r =>
          have := hcell 0 y (by show (show List ByteArray from l)[0]? = _; rw [hl]; rfl)
          rcases Nat.lt_or_ge b w.heap.size with h' | h'
          · exact h'
          · simp [World.cell?, Array.getElem?_eq_none h'] at this
      by_cases hne : l = []
      · have hl : (show List ByteArray from l) = [] := hne
        have e0 : List.length (show List ByteArray from l) = 0 := by rw [hl]; rfl
        show Calls Tryd.prog 98 #[.slice (some ⟨b, o, none⟩) (List.length (show List ByteArray from l)) cap, .string sep] w _
        rw [e0]
        refine (Any.strings_Join_none (ρ := shr) lays_n156 bextra (some ⟨b, o, none⟩) cap sep w).mono ?_
        rintro e w' ⟨rfl, rfl⟩
        refine ⟨?_, Kept.refl _⟩
        show Ending.returned _ = Ending.returned (.string (hJoin (show List ByteArray from l) sep))
        rw [hl]; rfl
      · refine (Any.strings_Join (ρ := shr) lays_n156 bextra b o cap (show List ByteArray from l) sep w hcell (hb hne) (Nat.le_trans hc.1 (by decide)) hle hsz2).mono ?_
        rintro e w' ⟨rfl, hbw⟩
        exact ⟨rfl, kept_below hbw⟩
  · exact (Tr.mean_fail h).elim)

end Go.Proofs.YtcblbcpnfidndaaDoor

namespace Go.Proofs.YtcblbcpnfidndaaDoor
open Go Go.Abs Go.RowKit
theorem wByte (B b : Nat) (bs : List Value) (c : Int) (w : World) (h : Lib.IsBuilder 153 5 B b bs w) (hlen : bs.length + 1 ≤ 140737488355328) (hBw : B ≤ w.heap.size) :
    Calls Tryd.prog 131 #[.pointer (some ⟨b, 0, none⟩), .int .u8 c] w fun e w' => e = .returned .nilIface ∧ (Lib.BuilderAt 153 5 B b (.pointer (some ⟨b, 0, none⟩)) (bs ++ [.int .u8 c]) w' ∧ Below B w w') :=
  Any.Builder_WriteByte (ρ := shr) lays_n167 bextra B b bs c w h hlen hBw

theorem bString (B b : Nat) (l : List UInt8) (w : World) (h : Lib.IsBuilder 153 5 B b (Lib.byteCells l) w) (hBw : B ≤ w.heap.size) :
    Calls Tryd.prog 132 #[.pointer (some ⟨b, 0, none⟩)] w fun e w' => e = .returned (.string ⟨l.toArray⟩) ∧ Below B w w' :=
  Any.Builder_String_any (ρ := shr) lays_n169 bextra B b l w h hBw

theorem esc_snoc : ∀ (l : List UInt8) (c : UInt8), Lab.esc (l ++ [c]) = Lab.esc l ++ (if c = 34 ∨ c = 92 then [92, c] else [c])
  | [], c => by simp only [List.nil_append, Lab.esc]
  | d :: l, c => by
    simp only [List.cons_append, Lab.esc, esc_snoc l c]
    split <;> simp

theorem take_snoc (s : ByteArray) (k : Nat) (h : k < s.size) : s.data.toList.take (k + 1) = s.data.toList.take k ++ [s[k]] := by
  have h' : k < s.data.toList.length := by rw [Array.length_toList]; exact h
  rw [List.take_add_one, List.getElem?_eq_getElem h']
  rfl

set_option maxHeartbeats 4000000 in
set_option maxRecDepth 1000000 in
theorem quoted_calls (s : ByteArray) (w : World) (hs : s.size ≤ 4294967296) :
    Calls Tryd.prog 97 #[.string s] w fun e w' => e = .returned (.string (hQuote s)) ∧ Below w.heap.size w w' := by
  go_enter Tryd.func97, Tryd.ntmps97
  go_wp2_with (go_at_call 131; refine (wByte w.heap.size w.heap.size [] 34 _ (Lib.fresh_isBuilder 153 5 w) (by simp) (by simp)).mono ?_)
  rintro e w1 ⟨rfl, h1, b1⟩
  have b1 : Below w.heap.size w w1 := ((Below.refl _ w).alloc (Nat.le_refl _) _).trans b1
  go_wp2
  go_loopw [8] (fun v wr => ∃ k : Nat, k ≤ s.size ∧ v = .int .i64 k ∧ Lib.BuilderAt 153 5 w.heap.size w.heap.size (.pointer (some ⟨w.heap.size, 0, none⟩)) (Lib.byteCells (34 :: Lab.esc (s.data.toList.take k))) wr ∧ Below w.heap.size w wr) (fun v wr => s.size - (intOf v).toNat)
  case atStart => exact ⟨0, Nat.zero_le _, rfl, by simpa [Lab.esc, Lib.byteCells] using h1, b1⟩
  case round =>
    obtain ⟨k, hk, rfl, hI, hbw⟩ := hrel
    by_cases hp : k < s.size
    · have hsn := take_snoc s k hp
      have hlen : (Lib.byteCells (34 :: Lab.esc (s.data.toList.take k))).length ≤ 2 * k + 1 := by
        have := Lab.esc_len (s.data.toList.take k)
        rw [Lib.byteCells_length]
        simp only [List.length_cons, List.length_take] at this ⊢
        omega
      have hle : w.heap.size ≤ wr.heap.size := hbw.size
      have two : ∀ (w2 w3 : World), s[k] = 34 ∨ s[k] = 92 → Lib.BuilderAt 153 5 w.heap.size w.heap.size (.pointer (some ⟨w.heap.size, 0, none⟩)) (Lib.byteCells (34 :: Lab.esc (s.data.toList.take k)) ++ [Value.int .u8 92] ++ [Value.int .u8 s[k].toNat]) w3 →
          Lib.BuilderAt 153 5 w.heap.size w.heap.size (.pointer (some ⟨w.heap.size, 0, none⟩)) (Lib.byteCells (34 :: Lab.esc (s.data.toList.take (k + 1)))) w3 := by
        intro w2 w3 hq h
        rw [hsn, esc_snoc, if_pos hq]
        simpa [Lib.byteCells] using h
      have one : ∀ (w3 : World), ¬ (s[k] = 34 ∨ s[k] = 92) → Lib.BuilderAt 153 5 w.heap.size w.heap.size (.pointer (some ⟨w.heap.size, 0, none⟩)) (Lib.byteCells (34 :: Lab.esc (s.data.toList.take k)) ++ [Value.int .u8 s[k].toNat]) w3 →
          Lib.BuilderAt 153 5 w.heap.size w.heap.size (.pointer (some ⟨w.heap.size, 0, none⟩)) (Lib.byteCells (34 :: Lab.esc (s.data.toList.take (k + 1)))) w3 := by
        intro w3 hq h
        rw [hsn, esc_snoc, if_neg hq]
        simpa [Lib.byteCells] using h
      have byte34 : ((s[k].toNat : Int) = 34) → s[k] = 34 := fun h => UInt8.toNat_inj.1 (by show s[k].toNat = 34; omega)
      have byte92 : ((s[k].toNat : Int) = 92) → s[k] = 92 := fun h => UInt8.toNat_inj.1 (by show s[k].toNat = 92; omega)
      have both : ((s[k].toNat : Int) == 34) = true ∨ ((s[k].toNat : Int) == 92) = true → s[k] = 34 ∨ s[k] = 92 := by
        rintro (h | h)
        · exact .inl (byte34 (by simpa using h))
        · exact .inr (byte92 (by simpa using h))
      have neither : ((s[k].toNat : Int) == 34) = false ∧ ((s[k].toNat : Int) == 92) = false → ¬ (s[k] = 34 ∨ s[k] = 92) := by
        intro h h2
        rcases h2 with h2 | h2 <;> rw [h2] at h
        · cases h.1
        · cases h.2
      go_wp2_with (go_at_call 131; fail)
      · have hq : s[k] = 34 ∨ s[k] = 92 := .inl (byte34 (by assumption))
        refine (wByte w.heap.size w.heap.size _ 92 wr (Or.inr hI) (by omega) hle).mono ?_
        rintro e w2 ⟨rfl, h2, b2⟩
        go_wp2_with (go_at_call 131; fail)
        refine (wByte w.heap.size w.heap.size _ _ w2 (Or.inr h2) (by simp only [List.length_append, List.length_singleton]; omega) (by have := b2.size; omega)).mono ?_
        rintro e w3 ⟨rfl, h3, b3⟩
        go_wp2
        go_roundw
        case rel => exact ⟨k + 1, by omega, by simp, two w2 w3 hq (by rw [show (s[k].toNat : Int) = 34 from by assumption]; exact h3), (hbw.trans b2).trans b3⟩
        case measure => simp [intOf]; omega
      · have hq : s[k] = 34 ∨ s[k] = 92 := both (by assumption)
        refine (wByte w.heap.size w.heap.size _ 92 wr (Or.inr hI) (by omega) hle).mono ?_
        rintro e w2 ⟨rfl, h2, b2⟩
        go_wp2_with (go_at_call 131; fail)
        refine (wByte w.heap.size w.heap.size _ _ w2 (Or.inr h2) (by simp only [List.length_append, List.length_singleton]; omega) (by have := b2.size; omega)).mono ?_
        rintro e w3 ⟨rfl, h3, b3⟩
        go_wp2
        go_roundw
        case rel => exact ⟨k + 1, by omega, by simp, two w2 w3 hq h3, (hbw.trans b2).trans b3⟩
        case measure => simp [intOf]; omega
      · have hq : ¬ (s[k] = 34 ∨ s[k] = 92) := neither (by assumption)
        refine (wByte w.heap.size w.heap.size _ _ wr (Or.inr hI) (by omega) hle).mono ?_
        rintro e w3 ⟨rfl, h3, b3⟩
        go_wp2
        go_roundw
        case rel => exact ⟨k + 1, by omega, by simp, one w3 hq h3, hbw.trans b3⟩
        case measure => simp [intOf]; omega
    · have hk2 : k = s.size := by omega
      subst hk2
      have hI2 : Lib.BuilderAt 153 5 w.heap.size w.heap.size (.pointer (some ⟨w.heap.size, 0, none⟩)) (Lib.byteCells (34 :: Lab.esc s.data.toList)) wr := by
        have e : s.data.toList.take s.size = s.data.toList := List.take_of_length_le (by rw [Array.length_toList]; exact Nat.le_refl _)
        rw [e] at hI; exact hI
      have hlen : (Lib.byteCells (34 :: Lab.esc s.data.toList)).length ≤ 2 * s.size + 1 := by
        have := Lab.esc_len s.data.toList
        have e : s.data.toList.length = s.size := Array.length_toList
        rw [e] at this
        rw [Lib.byteCells_length, List.length_cons]
        omega
      have hle : w.heap.size ≤ wr.heap.size := hbw.size
      go_wp2_with (go_at_call 131; fail)
      refine (wByte w.heap.size w.heap.size _ 34 wr (Or.inr hI2) (by omega) hle).mono ?_
      rintro e w2 ⟨rfl, h2, b2⟩
      go_wp2_with (go_at_call 132; fail)
      have h2' : Lib.BuilderAt 153 5 w.heap.size w.heap.size (.pointer (some ⟨w.heap.size, 0, none⟩)) (Lib.byteCells (34 :: (Lab.esc s.data.toList ++ [34]))) w2 := by
        simpa [Lib.byteCells] using h2
      refine (bString w.heap.size w.heap.size _ w2 (Or.inr h2') (by have := b2.size; omega)).mono ?_
      rintro e w3 ⟨rfl, b3⟩
      go_wp2
      go_ret
      exact ⟨rfl, (hbw.trans b2).trans b3⟩

theorem hand97 : CallOK Tryd.prog 97 (pureC hfQuote) := pure_ok (entered Tryd.func97 rfl (by decide)) (by
  intro args v h
  unfold hfQuote at h
  split at h
  · rename_i s
    obtain ⟨hc, h⟩ := Tr.mean_need h
    have hc := of_decide_eq_true hc
    have := Tr.mean_ret h
    subst this
    refine ⟨_, rfl, fun w X vals hsz hv => ?_⟩
    have h0 := PR.strInv (hv 0 _ rfl)
    have hvv := one_val (vals := vals) (by simpa using hsz)
    rw [h0] at hvv
    rw [hvv]
    refine (quoted_calls s w hc).mono ?_
    rintro e w' ⟨rfl, hb⟩
    exact ⟨rfl, kept_below hb⟩
  · exact (Tr.mean_fail h).elim)

theorem drop_atB (s : ByteArray) (k : Nat) (h : k < s.size) : s.data.toList.drop k = s[k] :: s.data.toList.drop (k + 1) := by
  have h' : k < s.data.toList.length := by rw [Array.length_toList]; exact h
  rw [List.drop_eq_getElem_cons h']
  rfl

theorem drop_end (s : ByteArray) : s.data.toList.drop s.size = [] := List.drop_eq_nil_of_le (by rw [Array.length_toList]; exact Nat.le_refl _)

theorem extract_drop (s : ByteArray) (k : Nat) : s.extract k s.size = mkB (s.data.toList.drop k) := Lib.extract_from s k

set_option maxHeartbeats 4000000 in
set_option maxRecDepth 1000000 in
theorem unquoted_calls (s : ByteArray) (w : World) (hs : s.size ≤ 4294967296) :
    Calls Tryd.prog 105 #[.string s] w fun e w' => e = .returned (.tuple #[.string (hUnq s).1, .string (hUnq s).2.1, .bool (hUnq s).2.2]) ∧ Below w.heap.size w w' := by
  by_cases he : s.size = 0
  · have hs0 : s = ⟨#[]⟩ := ByteArray.ext (Array.eq_empty_of_size_eq_zero he)
    subst hs0
    go_enter Tryd.func105, Tryd.ntmps105
    go_wp2
    go_ret3
    exact ⟨rfl, Below.refl _ _⟩
  · have hdat := drop_atB s 0 (by omega)
    rw [List.drop_zero] at hdat
    have hne : s.toList.isEmpty = false := by rw [ByteArray.toList_eq, hdat]; rfl
    by_cases h34 : s[0]'(by omega) = 34
    · have hU : hUnq s = match Lab.unq (s.data.toList.drop 1) with | some (v, q) => (mkB v, mkB q, true) | none => (ByteArray.empty, ByteArray.empty, false) := by
        unfold hUnq
        rw [hdat, h34]
        rfl
      go_enter Tryd.func105, Tryd.ntmps105
      go_wp2
      go_loopw [6] (fun v wr => ∃ (k : Nat) (acc : List UInt8), 1 ≤ k ∧ k ≤ s.size ∧ v = .int .i64 k ∧ Lib.IsBuilder 153 5 w.heap.size w.heap.size (Lib.byteCells acc) wr ∧ Below w.heap.size w wr ∧ acc.length ≤ k ∧ Lib.Kept (Lab.unq (s.data.toList.drop 1) = (Lab.unq (s.data.toList.drop k)).map fun p => (acc ++ p.1, p.2))) (fun v wr => s.size - (intOf v).toNat)
      case atStart =>
        refine ⟨1, [], Nat.le_refl _, by omega, rfl, Lib.fresh_isBuilder 153 5 w, (Below.refl _ w).alloc (Nat.le_refl _) _, Nat.zero_le _, ?_⟩
        show _ = _
        cases Lab.unq (s.data.toList.drop 1) <;> rfl
      case round =>
        obtain ⟨k, acc, hk1, hk, rfl, hI, hbw, hacc, hun⟩ := hrel
        have hle : w.heap.size ≤ wr.heap.size := hbw.size
        by_cases hp : k < s.size
        · have hdk := drop_atB s k hp
          by_cases c34 : s[k] = 34
          · have e34 : ((s[k].toNat : Int) == 34) = true := by rw [c34]; rfl
            have hun' : Lab.unq (s.data.toList.drop 1) = (Lab.unq (s.data.toList.drop k)).map fun p => (acc ++ p.1, p.2) := hun
            rw [hdk, c34, Lab.unq_end, Option.map_some, List.append_nil] at hun'
            have hwr : IntKind.i64.wrap ((k : Int) + 1) = (k : Int) + 1 := w64_id (x := (k : Int) + 1) (by omega) (by omega)
            have ha : (0 : Int) ≤ (k : Int) + 1 := by omega
            have hb : (k : Int) + 1 ≤ (s.size : Int) := by omega
            go_wp2_with fail
            go_region_with (go_at_call 132; refine (bString w.heap.size w.heap.size acc wr.drew hI hle).mono ?_; rintro e w3 ⟨rfl, b3⟩)
            all_goals go_wp2
            all_goals go_ret3
            all_goals exact ⟨by rw [hU, hun', extract_drop]; rfl, hbw.trans ⟨b3.os, b3.tape, b3.output, b3.size, b3.block⟩⟩
          · have e34 : ((s[k].toNat : Int) == 34) = false := by
              have hn : (s[k].toNat : Int) ≠ 34 := fun h => c34 (UInt8.toNat_inj.1 (by show s[k].toNat = 34; omega))
              simpa using hn
            go_wp2_with (go_at_call 131; fail)
            · have hun' : Lab.unq (s.data.toList.drop 1) = (Lab.unq (s.data.toList.drop k)).map fun p => (acc ++ p.1, p.2) := hun
              rw [hdk] at hun'
              have h92 : s[k] = 92 := UInt8.toNat_inj.1 (by have : (s[k].toNat : Int) = 92 := by assumption
                                                            show s[k].toNat = 92; omega)
              have hlt : k + 1 < s.size := by have : (k : Int) + 1 < (s.size : Int) := by assumption
                                              omega
              rw [h92, drop_atB s (k + 1) hlt, Lab.unq_esc2] at hun'
              refine (wByte w.heap.size w.heap.size _ _ wr hI (by rw [Lib.byteCells_length]; omega) hle).mono ?_
              rintro e w3 ⟨rfl, h3, b3⟩
              go_wp2
              go_roundw
              case rel =>
                refine ⟨k + 2, acc ++ [s[k + 1]], by omega, by omega, by simp; omega, Or.inr (by simpa [Lib.byteCells] using h3), hbw.trans b3, by simp; omega, ?_⟩
                show _ = _
                rw [hun', Option.map_map]
                congr 1
                funext p
                simp
              case measure => simp [intOf]; omega
            · have hle2 : s.size ≤ k + 1 := by have : (s.size : Int) ≤ (k : Int) + 1 := by assumption
                                               omega
              have h92 : s[k] = 92 := UInt8.toNat_inj.1 (by have : (s[k].toNat : Int) = 92 := by assumption
                                                            show s[k].toNat = 92; omega)
              have hk3 : s.size = k + 1 := by omega
              have hdr : s.data.toList.drop (k + 1) = [] := by rw [← hk3]; exact drop_end s
              have hun' : Lab.unq (s.data.toList.drop 1) = (Lab.unq (s.data.toList.drop k)).map fun p => (acc ++ p.1, p.2) := hun
              rw [hdk, h92, hdr, Lab.unq_last] at hun'
              refine (wByte w.heap.size w.heap.size _ _ wr hI (by rw [Lib.byteCells_length]; omega) hle).mono ?_
              rintro e w3 ⟨rfl, h3, b3⟩
              go_wp2
              go_roundw
              case rel =>
                refine ⟨k + 1, acc ++ [92], by omega, by omega, by simp, Or.inr (by simpa [Lib.byteCells] using h3), hbw.trans b3, by simp; omega, ?_⟩
                show _ = _
                rw [hun', hdr]
                rfl
              case measure => simp [intOf]; omega
            · have h92 : s[k] ≠ 92 := fun h => by
                have : ¬ (s[k].toNat : Int) = 92 := by assumption
                exact this (by rw [h]; rfl)
              have hun' : Lab.unq (s.data.toList.drop 1) = (Lab.unq (s.data.toList.drop k)).map fun p => (acc ++ p.1, p.2) := hun
              rw [hdk, Lab.unq_byte c34 h92] at hun'
              refine (wByte w.heap.size w.heap.size _ _ wr hI (by rw [Lib.byteCells_length]; omega) hle).mono ?_
              rintro e w3 ⟨rfl, h3, b3⟩
              go_wp2
              go_roundw
              case rel =>
                refine ⟨k + 1, acc ++ [s[k]], by omega, by omega, by simp, Or.inr (by simpa [Lib.byteCells] using h3), hbw.trans b3, by simp; omega, ?_⟩
                show _ = _
                rw [hun', Option.map_map]
                congr 1
                funext p
                simp
              case measure => simp [intOf]; omega
        · have hk2 : k = s.size := by omega
          subst hk2
          go_wp2
          go_ret3
          refine ⟨?_, hbw⟩
          have hun' : Lab.unq (s.data.toList.drop 1) = (Lab.unq (s.data.toList.drop s.size)).map fun p => (acc ++ p.1, p.2) := hun
          rw [drop_end, show Lab.unq [] = none from rfl, Option.map_none] at hun'
          rw [hU, hun']
          rfl
    · have hU : hUnq s = (ByteArray.empty, ByteArray.empty, false) := by
        unfold hUnq
        rw [hdat]
        unfold hUnqL
        split
        · rename_i e; exact absurd (List.cons.inj e).1 h34
        · rfl
      have hn : ((s[0]'(by omega)).toNat : Int) ≠ 34 := fun h => h34 (UInt8.toNat_inj.1 (by show (s[0]'(by omega)).toNat = 34; omega))
      go_enter Tryd.func105, Tryd.ntmps105
      go_wp2
      go_ret3
      exact ⟨by rw [hU]; rfl, Below.refl _ _⟩

theorem hand105 : CallOK Tryd.prog 105 (pureC hfUnq) := pure_ok (entered Tryd.func105 rfl (by decide)) (by
  intro args v h
  unfold hfUnq at h
  split at h
  · rename_i s
    obtain ⟨hc, h⟩ := Tr.mean_need h
    have hc := of_decide_eq_true hc
    have := Tr.mean_ret h
    subst this
    refine ⟨_, rfl, fun w X vals hsz hv => ?_⟩
    have h0 := PR.strInv (hv 0 _ rfl)
    have hvv := one_val (vals := vals) (by simpa using hsz)
    rw [h0] at hvv
    rw [hvv]
    refine (unquoted_calls s w hc).mono ?_
    rintro e w' ⟨rfl, hb⟩
    exact ⟨rfl, kept_below hb⟩
  · exact (Tr.mean_fail h).elim)

end Go.Proofs.YtcblbcpnfidndaaDoor

namespace Go.Proofs.YtcblbcpnfidndaaDoor
open Go Go.Abs Go.RowKit
/-! ### slices.Delete -/

theorem run_clear_cells {P : Program} (w : World) (t e ty : TypeId) (z : Value) (ht : P.underlying t = some (.slice e)) (hv : ∀ w, (zeroValue e).run P w = .ok z w) (b o n c : Nat) (hn : 0 < n) (vs : List Value) (hvs : (Builtin.zeroCells z.cells n).toList = vs)
    (h1 : ∀ v ∈ vs, v.oneCell' = true) (hc : ∀ j, j < vs.length → (w.cell? ⟨b, o + j, none⟩).isSome = true) (hf : ∀ j, j < vs.length → w.frozen? ⟨b, o + j, none⟩ = false) :
    (Builtin.clear_ #[t] ty #[.slice (some ⟨b, o, none⟩) n c]).run P w = .ok (.tuple #[]) (w.setCells b o vs) := by
  have hst := run_storeCells_cells (P := P) b o vs 0 w (by simpa using hc) (by simpa using hf) h1
  simp only [Nat.add_zero] at hst
  obtain ⟨m, rfl⟩ : ∃ m, n = m + 1 := ⟨n - 1, by omega⟩
  simp [Builtin.clear_, run_underlying ht, hv, hvs, hst]

theorem setCells_frame (b : Nat) : ∀ (vs : List Value) (o : Nat) (w : World), (w.setCells b o vs).os = w.os ∧ (w.setCells b o vs).tape = w.tape ∧ (w.setCells b o vs).output = w.output ∧ (w.setCells b o vs).heap.size = w.heap.size ∧ ∀ k, k ≠ b → (w.setCells b o vs).heap[k]? = w.heap[k]?
  | [], _, _ => ⟨rfl, rfl, rfl, rfl, fun _ _ => rfl⟩
  | v :: r, o, w => by
    obtain ⟨h1, h2, h3, h4, h5⟩ := setCells_frame b r (o + 1) (w.setCell ⟨b, o, none⟩ v)
    rw [World.setCells]
    refine ⟨h1, h2, h3, h4.trans (by simp [World.setCell]), fun k hk => (h5 k hk).trans ?_⟩
    simp only [World.setCell]
    rw [Array.getElem?_modify, if_neg (fun e => hk e.symm)]

theorem cell_row {w : World} {b : Nat} {cs : Array Value} {T : TypeId} (h : w.heap[b]? = some (.cells cs T (0, 0))) {o : Nat} (ho : o < cs.size) : w.cell? ⟨b, o, none⟩ = some (cs.getD o undef) ∧ w.frozen? ⟨b, o, none⟩ = false := by
  constructor
  · simp [World.cell?, h, Array.getD, ho]
  · simp [World.frozen?, h]

theorem row_of {w : World} {b : Nat} {cs : Array Value} {T : TypeId} (h : w.heap[b]? = some (.cells cs T (0, 0))) : w.rowIs b T cs.size (fun k => cs.getD k undef) :=
  ⟨cs, h, rfl, fun i hi => by simp [Array.getD, hi]⟩

set_option maxHeartbeats 4000000 in
set_option maxRecDepth 1000000 in
theorem del_calls (w : World) (b n cap i j : Nat) (cs : Array Value) (T : TypeId) (hh : w.heap[b]? = some (.cells cs T (0, 0))) (hk : cap * 5 ≤ cs.size) (hone : ∀ k, k < n * 5 → (cs.getD k undef).oneCell' = true) (hij : i < j) (hj : j ≤ n) (hn : n ≤ cap) (hm : n ≤ 4294967296) :
    Calls Tryd.prog 117 #[.slice (some ⟨b, 0, none⟩) n cap, .int .i64 i, .int .i64 j] w (MakesDel 5 b n cap i j w cs T) := by
  have hic : i ≤ cap := by omega
  have hjc : j ≤ cap := by omega
  obtain ⟨i0, hi0, hz0, hz1, _⟩ := info_parts (P := Tryd.prog) (e := 81) (z := .agg #[.int .i64 0, .int .i64 0, .int .i64 0, .int .i64 0, .slice none 0 0]) (size := 5) (bytes := 56) (by kernel_rfl)
  have hv81 : ∀ w, (zeroValue 81).run Tryd.prog w = .ok (.agg #[.int .i64 0, .int .i64 0, .int .i64 0, .int .i64 0, .slice none 0 0]) w := fun w => by simp [zeroValue, typeInfo, hi0, hz0]
  -- the cells that are moved
  obtain ⟨news, hnews⟩ : ∃ news : List Value, news = (List.range ((n - j) * 5)).map (fun k => cs.getD (j * 5 + k) undef) := ⟨_, rfl⟩
  have hlen : news.length = (n - j) * 5 := by rw [hnews]; simp
  have hget : ∀ k, k < (n - j) * 5 → news[k]? = some (cs.getD (j * 5 + k) undef) := by intro k hk'; rw [hnews]; simp [hk']
  have hin : ∀ k, k < cap * 5 → k < cs.size := fun k hk' => by omega
  have hdrew : w.drew.heap[b]? = some (.cells cs T (0, 0)) := hh
  obtain ⟨A, hA, hsrc⟩ : ∃ A : Addr, (if cap = j then (some (⟨b, 0, none⟩ : Addr)) else some ⟨b, j * 5, none⟩) = some A ∧ Hid (∀ k u, news[k]? = some u → w.drew.cell? (A.add k) = some u) := by
    by_cases h : cap = j
    · refine ⟨⟨b, 0, none⟩, by simp [h], fun k u hu => ?_⟩
      have h0 : news.length = 0 := by rw [hlen]; omega
      rw [List.length_eq_zero_iff.1 h0] at hu
      simp at hu
    · refine ⟨⟨b, j * 5, none⟩, by simp [h], fun k u hu => ?_⟩
      have hk' := (List.getElem?_eq_some_iff.1 hu).1
      rw [hlen] at hk'
      rw [hget k hk'] at hu
      rw [addr_add]
      rw [← hu]
      exact (cell_row hdrew (hin _ (by omega))).1
  have s2 : Hid (∀ u ∈ news, u.oneCell' = true) := by
    intro u hu
    rw [hnews] at hu
    simp only [List.mem_map, List.mem_range] at hu
    obtain ⟨k, hk', rfl⟩ := hu
    exact hone _ (by omega)
  have s3 : Hid (∀ k, k < news.length → (w.drew.cell? ⟨b, 0 + i * 5 + k, none⟩).isSome = true ∧ w.drew.frozen? ⟨b, 0 + i * 5 + k, none⟩ = false) := by
    intro k hk'
    rw [hlen] at hk'
    rw [Nat.zero_add]
    obtain ⟨c1, c2⟩ := cell_row hdrew (o := i * 5 + k) (hin _ (by omega))
    exact ⟨by rw [c1]; rfl, c2⟩
  have s1 : Hid (news.length = (n - j) * 5) := hlen
  obtain ⟨W1, hW1⟩ : ∃ W1, W1 = w.drew.setCells b (0 + i * 5) news := ⟨_, rfl⟩
  have hW : Hid (W1 = w.drew.setCells b (0 + i * 5) news) := hW1
  have hrow1 : W1.rowIs b T cs.size (fun k => if 0 + i * 5 ≤ k ∧ k < 0 + i * 5 + news.length then news[k - (0 + i * 5)]?.getD default else cs.getD k undef) := by
    rw [hW1]; exact rowIs_setCells news (0 + i * 5) w.drew _ (row_of hdrew)
  have hfrm1 := setCells_frame b news (0 + i * 5) w.drew
  rw [← hW1] at hfrm1
  -- what is cleared
  obtain ⟨zs, hzs⟩ : ∃ zs, zs = (Builtin.zeroCells (Value.agg #[.int .i64 0, .int .i64 0, .int .i64 0, .int .i64 0, .slice none 0 0]).cells (n - (i + (n - j)))).toList := ⟨_, rfl⟩
  have hzl : zs.length = (n - (i + (n - j))) * 5 := by rw [hzs]; simp [Builtin.zeroCells, Value.cells]
  have hz1' : ∀ v ∈ zs, v.oneCell' = true := by
    intro v hv
    rw [hzs] at hv
    simp only [Builtin.zeroCells, Value.cells, Array.toList_map, List.mem_map] at hv
    obtain ⟨k, _, rfl⟩ := hv
    have hk5 : k % 5 < 5 := Nat.mod_lt _ (by omega)
    simp only [List.size_toArray, List.length_cons, List.length_nil]
    generalize k % 5 = q at hk5
    match q, hk5 with
    | 0, _ => rfl
    | 1, _ => rfl
    | 2, _ => rfl
    | 3, _ => rfl
    | 4, _ => rfl
  obtain ⟨c1, hc1, hc1s, hc1g⟩ := hrow1
  have hcl : ∀ ty, (Builtin.clear_ #[77] ty #[.slice (some ⟨b, (i + (n - j)) * 5, none⟩) (n - (i + (n - j))) (cap - (i + (n - j)))]).run Tryd.prog W1 = .ok (.tuple #[]) (W1.setCells b ((i + (n - j)) * 5) zs) :=
    fun ty => run_clear_cells W1 77 81 ty _ Tryd.underlying77 hv81 b _ _ _ (by omega) zs hzs.symm hz1' (fun q hq => by rw [(cell_row hc1 (by omega)).1]; rfl) (fun q hq => (cell_row hc1 (by omega)).2)
  have hrow2 := rowIs_setCells zs ((i + (n - j)) * 5) W1 _ ⟨c1, hc1, hc1s, hc1g⟩
  have hfrm2 := setCells_frame b zs ((i + (n - j)) * 5) W1
  obtain ⟨c2, hc2, hc2s, hc2g⟩ := hrow2
  have fin : Aside (MakesDel 5 b n cap i j w cs T (.returned (.slice (some ⟨b, 0, none⟩) (i + (n - j)) cap)) (W1.setCells b ((i + (n - j)) * 5) zs)) := by
    refine ⟨c2, by rw [show n - (j - i) = i + (n - j) by omega], hc2, hc2s, fun k hk' => ?_, fun k hk' hk2 => ?_, hfrm2.1.trans hfrm1.1, hfrm2.2.1.trans hfrm1.2.1, hfrm2.2.2.1.trans hfrm1.2.2.1, hfrm2.2.2.2.1.trans hfrm1.2.2.2.1, fun k hk' => (hfrm2.2.2.2.2 k hk').trans (hfrm1.2.2.2.2 k hk')⟩
    · have := hc2g k (by omega)
      simp only at this
      rw [if_neg (by omega), if_neg (by omega)] at this
      rw [Array.getD_eq_getD_getElem?, this]
      rfl
    · have := hc2g k (by omega)
      simp only at this
      rw [if_neg (by omega), if_pos (by omega), hget _ (by omega)] at this
      rw [Array.getD_eq_getD_getElem?, this]
      simp only [Option.getD_some]
      congr 1
      omega
  have mixed : Tryd.prog.follows .mixedOrders = true := by kernel_rfl
  clear hh hk hone hnews hget hlen hin hdrew hfrm1 hfrm2 hc1 hc1s hc1g hc2 hc2s hc2g hzs hzl hz1' hW1
  go_enter Tryd.func117, Tryd.ntmps117
  go_wp2_with fail
  go_region_law_o (refine step_append_room rfl (.tmp 22) (.tmp 25) 77 rfl 81 i0 5 Tryd.underlying77 hi0 hz1 b 0 i cap (by simp [Act.eval, Act.put]) A (n - j) (cap - j) news (by simp [Act.eval, Act.put, hA]) s1.out hsrc.out s2.out (by omega) s3.out ?_; rw [← hW.out])
  go_wp2
  go_ret
  exact fin.out

theorem hand117 (t : Ty) (ht : t.size = 5) : CallOK Tryd.prog 117 (delS t) :=
  del_ok (entered Tryd.func117 rfl (by decide)) (fun w b n cap i j cs T h1 h2 h3 h4 h5 h6 h7 => by
    rw [ht] at h2 h3 ⊢
    exact del_calls w b n cap i j cs T h1 h2 h3 h4 h5 h6 h7)

end Go.Proofs.YtcblbcpnfidndaaDoor

namespace Go.Proofs.YtcblbcpnfidndaaDoor
open Go Go.Abs
noncomputable section
abbrev Z5 : Abs.Ty := (.cons .str (.cons (.int .i64) (.cons .str .unit)))

abbrev Z1 : Abs.Ty := (.cons (.int .i64) (.cons (.int .i64) (.cons (.int .i64) (.cons (.int .i64) (.cons (.row Z5) .unit)))))

abbrev Z2 : Abs.Ty := (.cons (.int .i64) (.cons (.row Z5) (.cons (.int .i64) (.cons (.row .str) (.cons (.int .i64) (.cons (.int .i64) (.cons (.int .i64) (.cons .bool .unit))))))))

abbrev Z7 : Abs.Ty := (.cons .str (.cons .str .unit))

abbrev Y12 : Type := (ByteArray × Int × ByteArray × Unit)

abbrev Y3 : Type := (List Y12)

abbrev Y6 : Type := (Int × Y3 × Int × (List ByteArray) × Int × Int × Int × Bool × Unit)

abbrev Y13 : Type := ((Bool × Unit) × (Unit))

abbrev Y15 : Type := (ByteArray × ByteArray × Unit)

abbrev Y4 : Type := (List Y15)

abbrev Y16 : Type := ((List Int) × (List Int) × Unit)

abbrev Y18 : Type := ((ByteArray × Unit) × (Unit))

abbrev Y19 : Type := ((Unit) × ((List Int) × Unit))

def note : FuncId → Abs.Note
  | 2 => ⟨true, [], false, fun _ => []⟩
  | 3 => ⟨true, [0, 1, 2, 3, 4, 6, 10, 11, 12, 13, 15, 17, 18, 20, 21, 22, 23, 24, 48, 60, 61, 62, 63, 99, 109, 110, 111, 127, 135, 136, 137, 157], false, fun | 6 => [(1, 2), (1, 3)] | 9 => [(1, 2), (8, 9), (17, 18), (27, 29)] | 12 => [(1, 4), (2, 4), (2, 5), (4, 5), (1, 6), (2, 6), (4, 6), (1, 7), (2, 7)] | _ => []⟩
  | 4 => ⟨true, [0, 2, 3, 4, 5, 6, 7, 8, 9, 10, 13], false, fun _ => []⟩
  | 5 => ⟨true, [0, 1, 2, 6, 7, 8, 9, 10, 23, 28, 67, 71, 118], false, fun _ => []⟩
  | 6 => ⟨true, [0, 2, 3, 4, 5, 6, 8, 9, 10, 13, 21, 22, 23, 24, 38], false, fun | 12 => [(2, 3)] | _ => []⟩
  | 7 => ⟨true, [0, 1, 2, 3, 8, 9, 10, 11, 13, 14, 15, 17, 18, 19, 20, 21, 34, 58, 59, 60, 105, 116, 117, 118, 138], false, fun | 5 => [(1, 2), (2, 4), (1, 7), (2, 7), (4, 7), (6, 7), (2, 9), (6, 9), (7, 9), (2, 11)] | _ => []⟩
  | 8 => ⟨true, [0, 2, 3, 4, 5, 6, 7, 8, 9, 10, 11, 13], true, fun | 11 => [(1, 4), (1, 5)] | _ => []⟩
  | 9 => ⟨true, [0, 1, 2, 3, 8, 9, 10, 12, 14, 16, 29, 40, 41, 42, 48, 54, 55, 56, 89, 95, 96, 97, 116], true, fun | 13 => [(20, 26)] | _ => []⟩
  | 10 => ⟨true, [0, 2, 3, 4, 5, 6, 7, 9, 10, 11, 13, 15, 18, 31, 33, 34, 35, 36, 51, 75, 77, 78, 79, 91, 93, 100, 101, 102, 103, 128, 133, 134, 135, 136, 145], true, fun _ => []⟩
  | 11 => ⟨true, [0, 2, 3, 4, 5, 6, 7, 8, 9, 10, 11, 13, 14, 16, 19, 32, 33, 34, 54, 55, 56, 57, 60, 61, 62, 63, 74], true, fun _ => []⟩
  | 12 => ⟨true, [0, 2, 3, 4, 5, 6, 7, 9, 10, 11, 14, 25, 26, 27, 28], true, fun | 12 => [(13, 14)] | _ => []⟩
  | 13 => ⟨true, [0, 2, 3, 4, 5, 6, 8, 10, 11, 12, 13, 14, 15, 16, 18, 20, 46], false, fun _ => []⟩
  | 14 => ⟨true, [0, 2, 3, 4, 5, 6, 7, 8, 9, 11, 14, 34, 35, 36, 38, 39, 40, 41, 50, 63], false, fun _ => []⟩
  | 15 => ⟨true, [0, 1, 4, 5, 6, 7, 8, 9, 11, 13, 14, 15, 16, 17, 18, 19, 21, 23, 24, 25, 27, 30, 40, 41, 42, 43, 75, 78, 106, 110, 111, 112, 121, 151, 152, 153, 154, 170, 174], false, fun | 19 => [(1, 8)] | _ => []⟩
  | 16 => ⟨true, [0, 1, 2, 3, 4, 5, 6, 14, 15, 16, 17, 18, 19, 20, 22, 24, 26, 28, 29, 30, 31, 32, 33, 34, 35, 36, 37, 39, 40, 41, 42, 43, 44, 45, 46, 47, 48, 71, 108, 109, 110, 116, 123, 124, 125, 161, 167, 168, 169, 175, 181, 182, 183, 230, 234, 235, 236, 260, 280, 313], false, fun | 13 => [(1, 4)] | _ => []⟩
  | 17 => ⟨true, [0, 2], false, fun _ => []⟩
  | 18 => ⟨true, [0, 1, 2, 3, 4, 5, 6], false, fun _ => []⟩
  | 19 => ⟨true, [0, 2], false, fun _ => []⟩
  | 20 => ⟨true, [0, 2, 3, 5, 6, 7, 8, 9, 17], false, fun _ => []⟩
  | 21 => ⟨true, [0, 1, 4, 5, 6, 12], false, fun _ => []⟩
  | 22 => ⟨true, [0, 1, 2], false, fun _ => []⟩
  | 23 => ⟨true, [0, 1, 2], false, fun _ => []⟩
  | 24 => ⟨true, [0, 1, 2, 4, 5, 11, 12, 18, 24, 30], false, fun _ => []⟩
  | 25 => ⟨true, [0, 1, 2, 4, 5, 11, 12, 18, 24, 30], false, fun _ => []⟩
  | 26 => ⟨true, [0, 1, 4, 5, 6, 7, 8, 12, 13, 28, 52], false, fun _ => []⟩
  | 27 => ⟨true, [0, 1, 4, 5, 6, 7, 8, 18, 28, 34, 54], false, fun _ => []⟩
  | 28 => ⟨true, [0, 2, 3, 4, 7, 11, 19, 21], false, fun | 11 => [(5, 6), (6, 11), (6, 19), (5, 20), (11, 20), (13, 20)] | _ => []⟩
  | 29 => ⟨true, [0, 2, 3, 5, 12, 13, 14, 15, 16], false, fun | 7 => [(2, 3), (3, 5), (3, 9), (2, 10), (5, 10)] | _ => []⟩
  | 30 => ⟨true, [0, 1, 3, 4], false, fun _ => []⟩
  | 31 => ⟨true, [0, 1, 4, 5, 9, 18], false, fun _ => []⟩
  | 32 => ⟨true, [0, 2, 3, 4, 5, 6, 7, 13, 32], false, fun _ => []⟩
  | 33 => ⟨true, [0, 2, 3, 4, 5, 7, 20], false, fun _ => []⟩
  | 34 => ⟨true, [0, 1, 4, 5, 10, 12, 13, 14, 24], false, fun _ => []⟩
  | 35 => ⟨true, [0, 2, 3, 4, 5, 6, 7, 21, 30, 53], false, fun _ => []⟩
  | 36 => ⟨true, [0, 2, 3, 5, 8, 9, 10, 11, 12], false, fun | 7 => [(2, 6)] | _ => []⟩
  | 37 => ⟨true, [0, 1, 4, 5, 10, 12, 13, 14, 24], false, fun _ => []⟩
  | 38 => ⟨true, [0, 1, 4, 6, 7, 8, 9, 10, 16], false, fun _ => []⟩
  | 39 => ⟨true, [0, 1, 4, 5, 19, 40], false, fun _ => []⟩
  | 40 => ⟨true, [0, 2, 3, 5, 6, 7, 8, 11], false, fun _ => []⟩
  | 41 => ⟨true, [0, 2, 3, 4, 7, 11, 15], false, fun | 9 => [(5, 12)] | _ => []⟩
  | 42 => ⟨true, [0, 2, 3, 4, 7, 8, 9, 10, 11, 44], false, fun _ => []⟩
  | 43 => ⟨true, [0, 2, 3, 6, 10, 54], false, fun _ => []⟩
  | 44 => ⟨true, [0, 1, 4, 5, 9, 18], false, fun _ => []⟩
  | 45 => ⟨true, [0, 1, 4, 5, 7, 8, 9, 10, 11, 17], false, fun _ => []⟩
  | 46 => ⟨true, [0, 1, 4, 5, 6, 7, 11, 17, 29], false, fun _ => []⟩
  | 47 => ⟨true, [0, 2, 3, 4, 5, 6, 7, 9, 25, 36, 40, 60], false, fun _ => []⟩
  | 48 => ⟨true, [0, 1, 4, 12], false, fun _ => []⟩
  | 49 => ⟨true, [0, 2, 3, 4, 5, 6, 10, 14, 15, 16, 17, 25, 33], false, fun _ => []⟩
  | 50 => ⟨true, [0, 1, 4, 5, 10, 12, 13, 14, 24], true, fun _ => []⟩
  | 51 => ⟨true, [0, 1, 4, 5, 18, 20], false, fun _ => []⟩
  | 52 => ⟨true, [0, 1, 2, 3, 4], true, fun _ => []⟩
  | 53 => ⟨true, [0, 1, 4, 5, 6, 7, 16], false, fun _ => []⟩
  | 54 => ⟨true, [0, 1, 4, 5, 6, 16, 19, 29, 39, 53, 70, 87], true, fun _ => []⟩
  | 55 => ⟨true, [0, 2, 3, 4, 7, 10, 14, 47, 54, 61], true, fun _ => []⟩
  | 56 => ⟨true, [0, 1, 4, 12], true, fun _ => []⟩
  | 57 => ⟨true, [0, 1, 2, 4, 7], false, fun _ => []⟩
  | 58 => ⟨true, [0, 1, 2, 4, 7], true, fun _ => []⟩
  | 59 => ⟨true, [0, 1, 4, 17, 19], true, fun _ => []⟩
  | 60 => ⟨true, [0, 1, 4, 5, 6, 7, 8, 9, 10, 11, 18], false, fun _ => []⟩
  | 61 => ⟨true, [0, 1, 4, 5, 6, 10, 19], true, fun _ => []⟩
  | 62 => ⟨true, [0, 2, 3, 4], false, fun _ => []⟩
  | 63 => ⟨true, [0, 1, 3, 4, 5, 6, 7, 17], false, fun | 1 => [(1, 2), (1, 3)] | _ => []⟩
  | 64 => ⟨true, [0, 1, 2, 6, 7, 9, 10, 11, 12, 13, 41], false, fun _ => []⟩
  | 65 => ⟨true, [0, 1, 4, 5, 6, 7, 9, 10, 11, 12, 13, 29], false, fun _ => []⟩
  | 66 => ⟨true, [0, 1, 2, 3, 4, 5, 6, 7, 9, 10, 11, 12, 13], false, fun _ => []⟩
  | 67 => ⟨true, [0, 2, 3, 4, 5, 9], false, fun _ => []⟩
  | 68 => ⟨true, [0, 1, 2, 6, 8, 10, 11, 12, 13, 14, 21, 22, 23, 24, 25, 45], false, fun _ => []⟩
  | 69 => ⟨true, [0, 2, 3, 4, 8], false, fun _ => []⟩
  | 70 => ⟨true, [0, 1, 4], false, fun _ => []⟩
  | 71 => ⟨true, [0, 1, 2, 4, 6, 7, 8, 9, 10, 14, 19, 22, 38], false, fun _ => []⟩
  | 72 => ⟨true, [0, 1, 4, 5], false, fun _ => []⟩
  | 73 => ⟨true, [0, 1, 4], false, fun _ => []⟩
  | 74 => ⟨true, [0, 2, 4, 5, 8, 9, 10, 11, 12, 18], false, fun _ => []⟩
  | 75 => ⟨true, [0, 2, 3, 4, 7, 11, 18, 29, 46], false, fun _ => []⟩
  | 76 => ⟨true, [0, 1, 2, 6, 7, 8, 12, 22, 26, 64], false, fun _ => []⟩
  | 77 => ⟨true, [0, 1, 2, 3, 4, 10, 12], false, fun _ => []⟩
  | 78 => ⟨true, [0, 1, 2, 3, 4, 10, 12], false, fun _ => []⟩
  | 79 => ⟨true, [0, 2, 3, 5, 6, 9, 10, 11, 12, 13, 20], false, fun _ => []⟩
  | 80 => ⟨true, [0, 2, 3, 4, 7, 11, 18, 37, 58, 63, 68], false, fun _ => []⟩
  | 81 => ⟨true, [0, 1, 2, 6, 7, 8, 9, 10, 11, 15, 47], false, fun _ => []⟩
  | 82 => ⟨true, [0, 1, 4, 5, 6, 7, 8, 9, 13, 32], false, fun _ => []⟩
  | 83 => ⟨true, [0, 1, 2, 6, 7, 8, 9, 10, 11, 12, 16, 21, 31, 35, 39, 47], false, fun _ => []⟩
  | 84 => ⟨true, [0, 1, 4, 5, 6, 7, 8, 13, 17, 62, 67, 80], false, fun | 6 => [(3, 8), (7, 8), (3, 9), (7, 9), (8, 9), (7, 10)] | _ => []⟩
  | 85 => ⟨true, [0, 1, 3, 4, 5, 6, 7, 16], false, fun | 1 => [(1, 2), (1, 3)] | _ => []⟩
  | 86 => ⟨true, [0, 2], false, fun | 1 => [(0, 2), (0, 6), (4, 6), (0, 7), (2, 7), (4, 7), (6, 7), (0, 9), (4, 9), (7, 9), (0, 11)] | _ => []⟩
  | 87 => ⟨true, [0, 2, 3, 4, 21, 23, 24, 25, 47], false, fun _ => []⟩
  | 88 => ⟨true, [0, 2, 3, 5, 6, 7, 18], false, fun _ => []⟩
  | 89 => ⟨true, [0, 2, 3, 21, 25, 55], false, fun _ => []⟩
  | 90 => ⟨true, [0, 2, 3, 6, 10, 22], false, fun _ => []⟩
  | 91 => ⟨true, [0, 1, 4, 5, 6, 12, 21, 34], false, fun _ => []⟩
  | 92 => ⟨true, [0], false, fun _ => []⟩
  | 93 => ⟨true, [0, 2, 3, 4, 8, 20], false, fun _ => []⟩
  | 94 => ⟨true, [0, 1, 4], false, fun _ => []⟩
  | 95 => ⟨true, [0, 1, 2], true, fun _ => []⟩
  | 96 => ⟨true, [0], false, fun _ => []⟩
  | 97 => ⟨true, [0, 2, 3, 4, 7, 8, 9, 20], false, fun _ => []⟩
  | 98 => ⟨true, [0, 1, 4, 5, 7, 8, 10, 12, 13, 15, 22, 29, 39, 40, 41, 42, 49, 63, 64, 65, 66], false, fun _ => []⟩
  | 99 => ⟨true, [0, 1, 2, 3], true, fun _ => []⟩
  | 100 => ⟨true, [0, 2, 3, 4, 5, 6, 7, 8, 9, 10, 11, 12, 13, 17, 26, 27, 28, 37], false, fun _ => []⟩
  | 101 => ⟨true, [0, 1, 4], false, fun _ => []⟩
  | 102 => ⟨true, [0, 2, 3, 4, 5, 6, 7, 20, 26, 30], false, fun _ => []⟩
  | 103 => ⟨true, [0, 1, 4, 5], false, fun _ => []⟩
  | 104 => ⟨true, [0, 1, 4, 5, 6], false, fun _ => []⟩
  | 105 => ⟨true, [0, 2, 3, 4, 5, 6, 13, 17, 20, 30], false, fun _ => []⟩
  | 106 => ⟨true, [0, 1, 4], false, fun _ => []⟩
  | 107 => ⟨true, [0, 1, 4], false, fun _ => []⟩
  | 108 => ⟨true, [0, 1, 2, 6, 7, 9, 12, 13, 14, 15, 25, 37, 41], false, fun _ => []⟩
  | 109 => ⟨true, [0, 1, 2, 4, 5, 28, 39, 49], false, fun _ => []⟩
  | 110 => ⟨true, [0, 2, 3, 9], true, fun _ => []⟩
  | 111 => ⟨true, [0, 1, 2, 3, 13, 18, 27, 28, 33], true, fun _ => []⟩
  | 112 => ⟨true, [0, 1, 2, 6, 7, 8, 9, 16, 29, 47, 50], true, fun _ => []⟩
  | 113 => ⟨true, [0, 2, 3, 4, 8, 9, 10], false, fun _ => []⟩
  | 114 => ⟨true, [0, 1, 2, 3, 4, 6], false, fun _ => []⟩
  | 115 => ⟨true, [0, 1, 4, 5, 7, 8, 9, 16], false, fun _ => []⟩
  | 116 => ⟨true, [0, 1, 2, 3], true, fun _ => []⟩
  | 117 => ⟨true, [0, 1, 2, 6, 7, 16], true, fun _ => []⟩
  | 118 => ⟨true, [0, 1, 2, 3, 14, 31], false, fun _ => []⟩
  | 119 => ⟨true, [0, 2, 3, 7, 15], false, fun _ => []⟩
  | 120 => ⟨true, [0, 2, 3, 7, 31], false, fun _ => []⟩
  | 121 => ⟨true, [0, 1, 2, 6, 7, 11, 26], false, fun | 4 => [(5, 10)] | _ => []⟩
  | 122 => ⟨true, [0, 1, 2, 4, 5, 15, 36, 41, 46], false, fun _ => []⟩
  | 123 => ⟨true, [0, 1, 4, 13], false, fun _ => []⟩
  | 124 => ⟨true, [0, 1, 4, 16], false, fun _ => []⟩
  | 125 => ⟨true, [0, 2, 3, 4, 5, 9, 16], false, fun _ => []⟩
  | 126 => ⟨true, [0, 1, 4, 7, 12], false, fun _ => []⟩
  | 127 => ⟨true, [0, 1, 4, 7, 15], false, fun _ => []⟩
  | 128 => ⟨true, [0, 1, 4, 5, 6, 9, 18], false, fun _ => []⟩
  | 129 => ⟨true, [0, 1, 4, 5, 6, 9, 17, 26], false, fun _ => []⟩
  | 130 => ⟨true, [0, 1, 4, 5, 7, 8, 9, 16], false, fun _ => []⟩
  | 131 => ⟨true, [0, 1, 4], false, fun _ => []⟩
  | 132 => ⟨true, [0, 2], false, fun _ => []⟩
  | 133 => ⟨true, [0, 1, 7, 21], false, fun _ => []⟩
  | 134 => ⟨true, [0, 1, 4, 5], false, fun _ => []⟩
  | 135 => ⟨true, [0, 1, 4, 5, 6, 7, 8, 9, 10, 12, 15, 20, 26, 32, 36, 42, 45, 46, 47, 53], false, fun _ => []⟩
  | 136 => ⟨true, [0, 1, 4, 7], false, fun _ => []⟩
  | 137 => ⟨true, [0, 2, 3, 4, 5, 6, 7, 8, 9, 10, 11, 33, 47, 74, 83, 88, 94, 112], false, fun _ => []⟩
  | 138 => ⟨true, [0, 1, 4, 5, 9], false, fun _ => []⟩
  | 139 => ⟨true, [0, 1, 4, 5, 6, 7, 12], false, fun _ => []⟩
  | 140 => ⟨true, [0, 1, 4, 5, 7, 8, 9, 16], false, fun _ => []⟩
  | 141 => ⟨true, [0, 1, 2], false, fun _ => []⟩
  | 142 => ⟨true, [0, 2, 3, 4, 5, 6, 7, 8, 27], false, fun _ => []⟩
  | 143 => ⟨true, [0, 2, 4], false, fun _ => []⟩
  | 144 => ⟨true, [0, 2, 4], false, fun _ => []⟩
  | 145 => ⟨true, [0, 1, 4], false, fun _ => []⟩
  | 146 => ⟨true, [0, 1, 2, 4], true, fun | 1 => [(2, 3)] | _ => []⟩
  | 147 => ⟨true, [0, 1, 2], false, fun _ => []⟩
  | 148 => ⟨true, [0, 1, 4], false, fun _ => []⟩
  | 149 => ⟨true, [0, 2, 3, 10], false, fun _ => []⟩
  | 150 => ⟨true, [0, 1, 4], false, fun _ => []⟩
  | 151 => ⟨true, [0, 2, 3, 4, 5, 6, 10, 18, 27, 33, 35, 48], false, fun _ => []⟩
  | 152 => ⟨true, [0, 6, 19], false, fun _ => []⟩
  | 153 => ⟨true, [0, 1, 4], false, fun | 0 => [(8, 12)] | _ => []⟩
  | 154 => ⟨true, [0, 1, 4, 5, 6, 7, 8, 9, 10, 11, 12, 13, 14, 15, 16, 26, 33, 43, 51, 64, 98, 108, 124, 139, 143, 156, 160, 171, 175, 176, 177, 181, 183], false, fun _ => []⟩
  | 155 => ⟨true, [0, 2], false, fun _ => []⟩
  | 156 => ⟨true, [0, 1, 4], false, fun _ => []⟩
  | 157 => ⟨true, [0, 1, 4, 5, 6, 7, 8, 9, 10, 11, 12, 13, 16, 24, 31, 36, 59, 64, 73, 93, 107, 114, 132, 139], false, fun _ => []⟩
  | 158 => ⟨true, [0, 2], false, fun _ => []⟩
  | 159 => ⟨true, [0, 1, 4, 5, 7, 8, 9, 16], false, fun _ => []⟩
  | 160 => ⟨true, [0, 2, 3, 4, 5, 6, 7, 8, 9, 10, 11, 12, 16, 23, 45, 57, 59, 75, 77, 98], false, fun _ => []⟩
  | 161 => ⟨true, [0, 2], false, fun _ => []⟩
  | 164 => ⟨true, [0, 1, 4], false, fun _ => []⟩
  | 165 => ⟨true, [0, 2, 3, 10], false, fun _ => []⟩
  | 166 => ⟨true, [0, 2], false, fun _ => []⟩
  | 168 => ⟨true, [0, 1, 4], false, fun _ => []⟩
  | 169 => ⟨true, [0, 1, 4, 5, 6, 7, 8, 9, 10, 20, 39, 44, 77], false, fun _ => []⟩
  | 171 => ⟨true, [0, 2, 3, 4, 5, 6, 7, 8, 12, 25, 30], false, fun _ => []⟩
  | 194 => ⟨true, [], false, fun _ => []⟩
  | _ => ⟨false, [], false, fun _ => []⟩

theorem good : Abs.Good Tryd.prog note := Abs.good_of (by kernel_rfl)

theorem foll : (Tryd.prog).follows .mixedOrders = true := by kernel_rfl

def mvtab (f : FuncId) : Bool := [].contains f

def ctab : FuncId → Option Abs.SCall := Abs.ctabOf [(97, Abs.pureC Abs.hfQuote), (98, Abs.pureC Abs.hfJoin), (168, Abs.pureC Abs.hfIdx), (166, Abs.hfLeft), (169, Abs.hfLeft), (105, Abs.pureC Abs.hfUnq), (135, Abs.pureC Abs.hfAny), (125, Abs.hfLeft), (127, Abs.hfLeft), (126, Abs.hfLeft), (129, Abs.hfLeft), (128, Abs.hfLeft), (117, Abs.delS Z1)]

theorem ctab_ok : ∀ f q, ctab f = some q → Abs.CallOK Tryd.prog f q := Abs.ctabOf_ok _ (by
  intro p hp
  simp only [List.mem_cons, List.not_mem_nil, or_false] at hp
  rcases hp with rfl | rfl | rfl | rfl | rfl | rfl | rfl | rfl | rfl | rfl | rfl | rfl | rfl
  · exact hand97
  · exact hand98
  · exact hand168
  · exact Abs.hfLeft_ok
  · exact Abs.hfLeft_ok
  · exact hand105
  · exact hand135
  · exact Abs.hfLeft_ok
  · exact Abs.hfLeft_ok
  · exact Abs.hfLeft_ok
  · exact Abs.hfLeft_ok
  · exact Abs.hfLeft_ok
  · exact hand117 Z1 rfl
)

def l87_0_4 (v : ((Int × ByteArray × Int × Unit) × (Unit))) : Option (((Int × ByteArray × Int × Unit) × (Unit)) ⊕ (Y13 ⊕ ((Unit) × (Unit)))) :=
bif (decide ((v.1.1 : Int) < v.1.2.2.1)) then (bif (decide ((0 : Int) ≤ v.1.1 ∧ (v.1.1 : Int) < v.1.2.1.size)) then
((let x86 := (decide (((((v.1.2.1[v.1.1.toNat]?.getD 0).toNat : Nat) : Int) : Int) < 97))
bif x86 then (let x87 := (decide (((((v.1.2.1[v.1.1.toNat]?.getD 0).toNat : Nat) : Int) : Int) < 48))
bif x87 then (let x88 := (((((v.1.2.1[v.1.1.toNat]?.getD 0).toNat : Nat) : Int) : Int) != 95)
some ((x88, (v.1.2.1, (v.1.2.2.1, (v.1.1, ())))), ()))
else (let x89 := (decide (((((v.1.2.1[v.1.1.toNat]?.getD 0).toNat : Nat) : Int) : Int) > 57))
bif x89 then (let x90 := (((((v.1.2.1[v.1.1.toNat]?.getD 0).toNat : Nat) : Int) : Int) != 95)
some ((x90, (v.1.2.1, (v.1.2.2.1, (v.1.1, ())))), ()))
else (some ((false, (v.1.2.1, (v.1.2.2.1, (v.1.1, ())))), ()))))
else (let x91 := (decide (((((v.1.2.1[v.1.1.toNat]?.getD 0).toNat : Nat) : Int) : Int) > 122))
bif x91 then (let x92 := (decide (((((v.1.2.1[v.1.1.toNat]?.getD 0).toNat : Nat) : Int) : Int) < 48))
bif x92 then (let x93 := (((((v.1.2.1[v.1.1.toNat]?.getD 0).toNat : Nat) : Int) : Int) != 95)
some ((x93, (v.1.2.1, (v.1.2.2.1, (v.1.1, ())))), ()))
else (let x94 := (decide (((((v.1.2.1[v.1.1.toNat]?.getD 0).toNat : Nat) : Int) : Int) > 57))
bif x94 then (let x95 := (((((v.1.2.1[v.1.1.toNat]?.getD 0).toNat : Nat) : Int) : Int) != 95)
some ((x95, (v.1.2.1, (v.1.2.2.1, (v.1.1, ())))), ()))
else (some ((false, (v.1.2.1, (v.1.2.2.1, (v.1.1, ())))), ()))))
else (some ((false, (v.1.2.1, (v.1.2.2.1, (v.1.1, ())))), ())))) : Option ((Bool × ByteArray × Int × Int × Unit) × (Unit))).bind fun v96 =>
bif v96.1.1 then (some (.inr (.inl ((false, ()), ()))))
else (some (.inl (((w64 (v96.1.2.2.2.1 + 1)), (v96.1.2.1, (v96.1.2.2.1, ()))), ())))
else none)
else (some (.inr (.inr ((), ()))))

/- pagewatch/label.key -/
def i87 : Abs.Sg := ⟨[0], (.dat .str .nil), .nil⟩

def o87 : Abs.Sg := ⟨[2], (.dat .bool .nil), .nil⟩

def m87 (v : Y18) : Option Y13 :=
((bif (v.1.1.toList == ByteArray.empty.toList) then (some ((true, (v.1.1, ())), ()))
else (bif (decide (((v.1.1.size : Int) : Int) > 24)) then (some ((true, (v.1.1, ())), ()))
else (bif (decide ((0 : Int) ≤ 0 ∧ (0 : Int) < v.1.1.size)) then
let x83 := (decide (((((v.1.1[0]?.getD 0).toNat : Nat) : Int) : Int) < 97))
bif x83 then (some ((true, (v.1.1, ())), ()))
else (bif (decide ((0 : Int) ≤ 0 ∧ (0 : Int) < v.1.1.size)) then
let x84 := (decide (((((v.1.1[0]?.getD 0).toNat : Nat) : Int) : Int) > 122))
some ((x84, (v.1.1, ())), ())
else none)
else none))) : Option ((Bool × ByteArray × Unit) × (Unit))).bind fun v85 =>
bif v85.1.1 then (some ((false, ()), ()))
else ((loopT l87_0_4 ((0, (v85.1.2.1, ((v85.1.2.1.size : Int), ()))), ())).bind fun d97 =>
sumE d97 (fun d98 => (some ((d98.1.1, ()), ()))) (fun d99 => (some ((true, ()), ()))))

def sp87 : Abs.Spec := ⟨0, i87, o87, m87⟩

def an87 : Nat → Abs.FAn
  | 0 => Abs.FAn.mk (fun
    | 7 => some ⟨[47, 0, 23, 24], (.dat .bool (.dat .str (.dat (.int .i64) (.dat (.int .i64) .nil)))), .nil⟩
    | 1 => some ⟨[21, 0], (.dat .bool (.dat .str .nil)), .nil⟩
    | _ => none) (fun _ => none) (fun
    | 4 => some ⟨⟨[24, 0, 23], (.dat (.int .i64) (.dat .str (.dat (.int .i64) .nil))), .nil⟩, (.more .ret ⟨[2], (.dat .bool .nil), .nil⟩ (.one (.exit 0) ⟨[], .nil, .nil⟩))⟩
    | _ => none) (fun _ _ => 0)
  | _ => {}

theorem ok87 : Abs.SpecOK Tryd.prog 87 sp87 :=
  Abs.specOC_of (C := ctab) (mv := mvtab) ctab_ok (n := 12) (an := an87) (T := Abs.tabOf []) good foll (Abs.tabOf_ok _ (fun _ h => by cases h)) rfl (by intro v; kernel_rfl)

def l88_0_2 (v : ((Int × ByteArray × Int × Unit) × (Unit))) : Option (((Int × ByteArray × Int × Unit) × (Unit)) ⊕ (Y13 ⊕ Y18)) :=
bif (decide ((v.1.1 : Int) < v.1.2.2.1)) then (((bif (decide ((0 : Int) ≤ v.1.1 ∧ (v.1.1 : Int) < v.1.2.1.size)) then
let x24 := (decide (((((v.1.2.1[v.1.1.toNat]?.getD 0).toNat : Nat) : Int) : Int) < 32))
bif x24 then (some ((true, (v.1.2.1, (v.1.2.2.1, (v.1.1, ())))), ()))
else (bif (decide ((0 : Int) ≤ v.1.1 ∧ (v.1.1 : Int) < v.1.2.1.size)) then
let x25 := (decide (((((v.1.2.1[v.1.1.toNat]?.getD 0).toNat : Nat) : Int) : Int) > 126))
some ((x25, (v.1.2.1, (v.1.2.2.1, (v.1.1, ())))), ())
else none)
else none) : Option ((Bool × ByteArray × Int × Int × Unit) × (Unit))).bind fun v26 =>
bif v26.1.1 then (some (.inr (.inl ((false, ()), ()))))
else (some (.inl (((w64 (v26.1.2.2.2.1 + 1)), (v26.1.2.1, (v26.1.2.2.1, ()))), ()))))
else (some (.inr (.inr ((v.1.2.1, ()), ()))))

/- pagewatch/label.value -/
def i88 : Abs.Sg := ⟨[0], (.dat .str .nil), .nil⟩

def o88 : Abs.Sg := ⟨[2], (.dat .bool .nil), .nil⟩

def m88 (v : Y18) : Option Y13 :=
(loopT l88_0_2 ((0, (v.1.1, ((v.1.1.size : Int), ()))), ())).bind fun d27 =>
sumE d27 (fun d28 => (some ((d28.1.1, ()), ()))) (fun d29 => (some (((decide (((d29.1.1.size : Int) : Int) ≤ 64)), ()), ())))

def sp88 : Abs.Spec := ⟨0, i88, o88, m88⟩

def an88 : Nat → Abs.FAn
  | 0 => Abs.FAn.mk (fun
    | 4 => some ⟨[18, 0, 5, 6], (.dat .bool (.dat .str (.dat (.int .i64) (.dat (.int .i64) .nil)))), .nil⟩
    | _ => none) (fun _ => none) (fun
    | 2 => some ⟨⟨[6, 0, 5], (.dat (.int .i64) (.dat .str (.dat (.int .i64) .nil))), .nil⟩, (.more .ret ⟨[2], (.dat .bool .nil), .nil⟩ (.one (.exit 0) ⟨[0], (.dat .str .nil), .nil⟩))⟩
    | _ => none) (fun _ _ => 0)
  | _ => {}

theorem ok88 : Abs.SpecOK Tryd.prog 88 sp88 :=
  Abs.specOC_of (C := ctab) (mv := mvtab) ctab_ok (n := 12) (an := an88) (T := Abs.tabOf []) good foll (Abs.tabOf_ok _ (fun _ h => by cases h)) rfl (by intro v; kernel_rfl)

def l42_0_4 (v : ((Int × Y4 × Y4 × Int × Unit) × (Unit))) : Option (((Int × Y4 × Y4 × Int × Unit) × (Unit)) ⊕ (Y13 ⊕ ((Unit) × (Unit)))) :=
bif (decide ((v.1.1 : Int) < v.1.2.2.2.1)) then (Abs.rowAt v.1.2.2.1 v.1.1 fun e36 _ =>
(((m87 ((e36.1, ()), ())).bind fun u37 =>
bif (!u37.1.1) then (some ((true, (v.1.2.1, (v.1.2.2.1, (v.1.2.2.2.1, (v.1.1, ()))))), ()))
else ((m88 ((e36.2.1, ()), ())).bind fun u38 =>
bif (!u38.1.1) then (some ((true, (v.1.2.1, (v.1.2.2.1, (v.1.2.2.2.1, (v.1.1, ()))))), ()))
else (bif (e36.2.1.toList == ByteArray.empty.toList) then (some ((true, (v.1.2.1, (v.1.2.2.1, (v.1.2.2.2.1, (v.1.1, ()))))), ()))
else (bif (decide ((v.1.1 : Int) > 0)) then (Abs.rowAt v.1.2.1 (w64 (v.1.1 - 1)) fun e39 _ =>
some (((Op.bytesLess e36.1.toList e39.1.toList || e36.1.toList == e39.1.toList), (v.1.2.1, (v.1.2.2.1, (v.1.2.2.2.1, (v.1.1, ()))))), ()))
else (some ((false, (v.1.2.1, (v.1.2.2.1, (v.1.2.2.2.1, (v.1.1, ()))))), ())))))) : Option ((Bool × Y4 × Y4 × Int × Int × Unit) × (Unit))).bind fun v40 =>
bif v40.1.1 then (some (.inr (.inl ((false, ()), ()))))
else (some (.inl (((w64 (v40.1.2.2.2.2.1 + 1)), (v40.1.2.1, (v40.1.2.2.1, (v40.1.2.2.2.1, ())))), ()))))
else (some (.inr (.inr ((), ()))))

/- pagewatch/label.Valid -/
def i42 : Abs.Sg := ⟨[0], (.dat (.row Z7) .nil), .nil⟩

def o42 : Abs.Sg := ⟨[2], (.dat .bool .nil), .nil⟩

def m42 (v : ((Y4 × Unit) × (Unit))) : Option Y13 :=
bif (decide (((v.1.1.length : Int) : Int) > 12)) then (some ((false, ()), ()))
else ((loopT l42_0_4 ((0, (v.1.1, (v.1.1, ((v.1.1.length : Int), ())))), ())).bind fun d41 =>
sumE d41 (fun d42 => (some ((d42.1.1, ()), ()))) (fun d43 => (some ((true, ()), ()))))

def sp42 : Abs.Spec := ⟨0, i42, o42, m42⟩

def an42 : Nat → Abs.FAn
  | 0 => Abs.FAn.mk (fun
    | 6 => some ⟨[44, 0, 8, 9, 10], (.dat .bool (.dat (.row Z7) (.dat (.row Z7) (.dat (.int .i64) (.dat (.int .i64) .nil))))), .nil⟩
    | _ => none) (fun _ => none) (fun
    | 4 => some ⟨⟨[10, 0, 8, 9], (.dat (.int .i64) (.dat (.row Z7) (.dat (.row Z7) (.dat (.int .i64) .nil)))), .nil⟩, (.more .ret ⟨[2], (.dat .bool .nil), .nil⟩ (.one (.exit 0) ⟨[], .nil, .nil⟩))⟩
    | _ => none) (fun _ _ => 0)
  | _ => {}

theorem ok42 : Abs.SpecOK Tryd.prog 42 sp42 :=
  Abs.specOC_of (C := ctab) (mv := mvtab) ctab_ok (n := 12) (an := an42) (T := Abs.tabOf [(87, sp87), (88, sp88)]) good foll (Abs.tabOf_ok _ (by simp only [List.forall_mem_cons]; exact ⟨ok87, ok88, fun _ h => by cases h⟩)) rfl (by intro v; kernel_rfl)

/- 97 pagewatch/label.quoted: not told by a law: run where it is called -/

/- 98 strings.Join: not told by a law: run where it is called -/

def l36_0_5 (v : ((Int × Y4 × Int × Unit) × ((List ByteArray) × Unit))) : Option (((Int × Y4 × Int × Unit) × ((List ByteArray) × Unit)) ⊕ ((Unit) × ((List ByteArray) × Unit))) :=
bif (decide ((v.1.1 : Int) < v.1.2.2.1)) then (Abs.rowAt v.1.2.1 v.1.1 fun e21 _ =>
bif (decide (e21.1.size + 1 ≤ 4294967296)) then
bif (decide (e21.2.1.size ≤ 4294967296)) then
bif (decide ((e21.1 ++ (bs [61])).size + (hQuote e21.2.1).size ≤ 4294967296)) then
bif (decide (v.2.1.length + [((e21.1 ++ (bs [61])) ++ (hQuote e21.2.1))].length ≤ 4294967296)) then
let x22 := (v.2.1 ++ [((e21.1 ++ (bs [61])) ++ (hQuote e21.2.1))])
some (.inl (((w64 (v.1.1 + 1)), (v.1.2.1, (v.1.2.2.1, ()))), (x22, ())))
else none
else none
else none
else none)
else (some (.inr ((), (v.2.1, ()))))

/- pagewatch/label.Text -/
def i36 : Abs.Sg := ⟨[0], (.dat (.row Z7) .nil), .nil⟩

def o36 : Abs.Sg := ⟨[2], (.dat .str .nil), .nil⟩

def m36 (v : ((Y4 × Unit) × (Unit))) : Option Y18 :=
(m42 ((v.1.1, ()), ())).bind fun u20 =>
bif (!u20.1.1) then (some ((ByteArray.empty, ()), ()))
else ((loopT l36_0_5 ((0, (v.1.1, ((v.1.1.length : Int), ()))), ([], ()))).bind fun d23 =>
bif (decide (List.length d23.2.1 ≤ 4294967296 ∧ (hJoin d23.2.1 (bs [44])).size ≤ 140737488355328)) then
bif (decide (1 + (hJoin d23.2.1 (bs [44])).size ≤ 4294967296)) then
bif (decide (((bs [123]) ++ (hJoin d23.2.1 (bs [44]))).size + 1 ≤ 4294967296)) then
let x24 := (((bs [123]) ++ (hJoin d23.2.1 (bs [44]))) ++ (bs [125]))
some ((x24, ()), ())
else none
else none
else none)

def sp36 : Abs.Spec := ⟨0, i36, o36, m36⟩

def an36 : Nat → Abs.FAn
  | 0 => Abs.FAn.mk (fun _ => none) (fun _ => none) (fun
    | 5 => some ⟨⟨[11, 3, 9, 10], (.dat (.int .i64) (.st (.own .str (0, 0)) (.dat (.row Z7) (.dat (.int .i64) .nil)))), (.arr .str false .nil)⟩, (.one (.exit 0) ⟨[3], (.st (.own .str (0, 0)) .nil), (.arr .str false .nil)⟩)⟩
    | _ => none) (fun _ _ => 0)
  | _ => {}

theorem ok36 : Abs.SpecOK Tryd.prog 36 sp36 :=
  Abs.specOC_of (C := ctab) (mv := mvtab) ctab_ok (n := 12) (an := an36) (T := Abs.tabOf [(42, sp42)]) good foll (Abs.tabOf_ok _ (by simp only [List.forall_mem_cons]; exact ⟨ok42, fun _ h => by cases h⟩)) rfl (by intro v; kernel_rfl)

/- 168 internal/stringslite.IndexByte: not told by a law: run where it is called -/

/- 166 internal/bytealg.Cutover: not told by a law: run where it is called -/

/- 169 internal/bytealg.IndexRabinKarp[string]: not told by a law: run where it is called -/

/- warnings: load: pointer ? -/

/- 105 pagewatch/label.unquoted: not told by a law: run where it is called -/

/- 135 strings.IndexAny: not told by a law: run where it is called -/

/- 130 slices.IndexFunc[[]pagewatch/api.Matcher,pagewatch/api.Matcher]: not told by a law: a parameter -/

/- 94 slices.ContainsFunc[[]pagewatch/api.Matcher,pagewatch/api.Matcher]: not told by a law: a parameter -/

/- pagewatch/label.Right -/
def i22 : Abs.Sg := ⟨[0], (.dat Z5 .nil), .nil⟩

def o22 : Abs.Sg := ⟨[2], (.dat .bool .nil), .nil⟩

def m22 (v : ((Y12 × Unit) × (Unit))) : Option Y13 :=
(((m87 ((v.1.1.1, ()), ())).bind fun u5 =>
bif u5.1.1 then (bif (decide ((v.1.1.2.1 : Int) ≥ 0)) then (bif (decide ((v.1.1.2.1 : Int) ≤ 3)) then ((m88 ((v.1.1.2.2.1, ()), ())).bind fun u6 =>
some ((u6.1.1, ()), ()))
else (some ((false, ()), ())))
else (some ((false, ()), ())))
else (some ((false, ()), ()))) : Option Y13).bind fun v7 =>
some ((v7.1.1, ()), ())

def sp22 : Abs.Spec := ⟨0, i22, o22, m22⟩

def an22 : Nat → Abs.FAn
  | 0 => Abs.FAn.mk (fun
    | 1 => some ⟨[2], (.dat .bool .nil), .nil⟩
    | _ => none) (fun _ => none) (fun _ => none) (fun _ _ => 0)
  | _ => {}

theorem ok22 : Abs.SpecOK Tryd.prog 22 sp22 :=
  Abs.specOC_of (C := ctab) (mv := mvtab) ctab_ok (n := 12) (an := an22) (T := Abs.tabOf [(87, sp87), (88, sp88)]) good foll (Abs.tabOf_ok _ (by simp only [List.forall_mem_cons]; exact ⟨ok87, ok88, fun _ h => by cases h⟩)) rfl (by intro v; kernel_rfl)

def l124_0_1 (v : ((ByteArray × Int × Unit) × (Unit))) : Option (((ByteArray × Int × Unit) × (Unit)) ⊕ Y18) :=
((bif (decide (((v.1.1.size : Int) : Int) > 0)) then (bif (decide ((0 : Int) ≤ (w64 ((v.1.1.size : Int) - 1)) ∧ ((w64 ((v.1.1.size : Int) - 1)) : Int) < v.1.1.size)) then
let x16 := (((((v.1.1[(w64 ((v.1.1.size : Int) - 1)).toNat]?.getD 0).toNat : Nat) : Int) : Int) == v.1.2.1)
some ((x16, (v.1.2.1, (v.1.1, ()))), ())
else none)
else (some ((false, (v.1.2.1, (v.1.1, ()))), ()))) : Option ((Bool × Int × ByteArray × Unit) × (Unit))).bind fun v17 =>
bif v17.1.1 then (bif (decide ((0 : Int) ≤ (w64 ((v17.1.2.2.1.size : Int) - 1)))) then
bif (decide (0 ≤ (w64 ((v17.1.2.2.1.size : Int) - 1)).toNat ∧ (w64 ((v17.1.2.2.1.size : Int) - 1)).toNat ≤ v17.1.2.2.1.size)) then
let x18 := (v17.1.2.2.1.extract 0 (w64 ((v17.1.2.2.1.size : Int) - 1)).toNat)
some (.inl ((x18, (v17.1.2.1, ())), ()))
else none
else none)
else (some (.inr ((v17.1.2.2.1, ()), ())))

/- strings.trimRightByte -/
def i124 : Abs.Sg := ⟨[0, 1], (.dat .str (.dat (.int .u8) .nil)), .nil⟩

def o124 : Abs.Sg := ⟨[4], (.dat .str .nil), .nil⟩

def m124 (v : ((ByteArray × Int × Unit) × (Unit))) : Option Y18 :=
(loopT l124_0_1 ((v.1.1, (v.1.2.1, ())), ())).bind fun d19 =>
some ((d19.1.1, ()), ())

def sp124 : Abs.Spec := ⟨0, i124, o124, m124⟩

def an124 : Nat → Abs.FAn
  | 0 => Abs.FAn.mk (fun
    | 1 => some ⟨[16, 1, 0], (.dat .bool (.dat (.int .u8) (.dat .str .nil))), .nil⟩
    | _ => none) (fun _ => none) (fun
    | 1 => some ⟨⟨[0, 1], (.dat .str (.dat (.int .u8) .nil)), .nil⟩, (.one (.exit 0) ⟨[0], (.dat .str .nil), .nil⟩)⟩
    | _ => none) (fun _ _ => 0)
  | _ => {}

theorem ok124 : Abs.SpecOK Tryd.prog 124 sp124 :=
  Abs.specOC_of (C := ctab) (mv := mvtab) ctab_ok (n := 12) (an := an124) (T := Abs.tabOf []) good foll (Abs.tabOf_ok _ (fun _ h => by cases h)) rfl (by intro v; kernel_rfl)

def l123_0_1 (v : ((ByteArray × Int × Unit) × (Unit))) : Option (((ByteArray × Int × Unit) × (Unit)) ⊕ Y18) :=
((bif (decide (((v.1.1.size : Int) : Int) > 0)) then (bif (decide ((0 : Int) ≤ 0 ∧ (0 : Int) < v.1.1.size)) then
let x12 := (((((v.1.1[0]?.getD 0).toNat : Nat) : Int) : Int) == v.1.2.1)
some ((x12, (v.1.2.1, (v.1.1, ()))), ())
else none)
else (some ((false, (v.1.2.1, (v.1.1, ()))), ()))) : Option ((Bool × Int × ByteArray × Unit) × (Unit))).bind fun v13 =>
bif v13.1.1 then (bif (decide (1 ≤ v13.1.2.2.1.size ∧ v13.1.2.2.1.size ≤ v13.1.2.2.1.size)) then
some (.inl (((v13.1.2.2.1.extract 1 v13.1.2.2.1.size), (v13.1.2.1, ())), ()))
else none)
else (some (.inr ((v13.1.2.2.1, ()), ())))

/- strings.trimLeftByte -/
def i123 : Abs.Sg := ⟨[0, 1], (.dat .str (.dat (.int .u8) .nil)), .nil⟩

def o123 : Abs.Sg := ⟨[4], (.dat .str .nil), .nil⟩

def m123 (v : ((ByteArray × Int × Unit) × (Unit))) : Option Y18 :=
(loopT l123_0_1 ((v.1.1, (v.1.2.1, ())), ())).bind fun d14 =>
some ((d14.1.1, ()), ())

def sp123 : Abs.Spec := ⟨0, i123, o123, m123⟩

def an123 : Nat → Abs.FAn
  | 0 => Abs.FAn.mk (fun
    | 1 => some ⟨[13, 1, 0], (.dat .bool (.dat (.int .u8) (.dat .str .nil))), .nil⟩
    | _ => none) (fun _ => none) (fun
    | 1 => some ⟨⟨[0, 1], (.dat .str (.dat (.int .u8) .nil)), .nil⟩, (.one (.exit 0) ⟨[0], (.dat .str .nil), .nil⟩)⟩
    | _ => none) (fun _ _ => 0)
  | _ => {}

theorem ok123 : Abs.SpecOK Tryd.prog 123 sp123 :=
  Abs.specOC_of (C := ctab) (mv := mvtab) ctab_ok (n := 12) (an := an123) (T := Abs.tabOf []) good foll (Abs.tabOf_ok _ (fun _ h => by cases h)) rfl (by intro v; kernel_rfl)

/- 125 strings.makeASCIISet: not told by a law: run where it is called -/

/- 127 strings.trimRightASCII: not told by a law: run where it is called -/

/- 126 strings.trimLeftASCII: not told by a law: run where it is called -/

/- 129 strings.trimRightUnicode: not told by a law: run where it is called -/

/- 128 strings.trimLeftUnicode: not told by a law: run where it is called -/

/- strings.Trim -/
def i91 : Abs.Sg := ⟨[0, 1], (.dat .str (.dat .str .nil)), .nil⟩

def o91 : Abs.Sg := ⟨[4], (.dat .str .nil), .nil⟩

def m91 (v : (Y15 × (Unit))) : Option Y18 :=
((bif (v.1.1.toList == ByteArray.empty.toList) then (some ((true, (v.1.1, (v.1.2.1, ()))), ()))
else (some (((v.1.2.1.toList == ByteArray.empty.toList), (v.1.1, (v.1.2.1, ()))), ()))) : Option ((Bool × ByteArray × ByteArray × Unit) × (Unit))).bind fun v16 =>
bif v16.1.1 then (some ((v16.1.2.1, ()), ()))
else (((bif (((v16.1.2.2.1.size : Int) : Int) == 1) then (bif (decide ((0 : Int) ≤ 0 ∧ (0 : Int) < v16.1.2.2.1.size)) then
let x17 := (decide (((((v16.1.2.2.1[0]?.getD 0).toNat : Nat) : Int) : Int) < 128))
some ((x17, (v16.1.2.2.1, (v16.1.2.1, ()))), ())
else none)
else (some ((false, (v16.1.2.2.1, (v16.1.2.1, ()))), ()))) : Option ((Bool × ByteArray × ByteArray × Unit) × (Unit))).bind fun v18 =>
bif v18.1.1 then (bif (decide ((0 : Int) ≤ 0 ∧ (0 : Int) < v18.1.2.1.size)) then
(m124 ((v18.1.2.2.1, ((((v18.1.2.1[0]?.getD 0).toNat : Nat) : Int), ())), ())).bind fun u19 =>
bif (decide ((0 : Int) ≤ 0 ∧ (0 : Int) < v18.1.2.1.size)) then
(m123 ((u19.1.1, ((((v18.1.2.1[0]?.getD 0).toNat : Nat) : Int), ())), ())).bind fun u20 =>
some ((u20.1.1, ()), ())
else none
else none)
else (none))

def sp91 : Abs.Spec := ⟨0, i91, o91, m91⟩

def an91 : Nat → Abs.FAn
  | 0 => Abs.FAn.mk (fun
    | 3 => some ⟨[21, 1, 0], (.dat .bool (.dat .str (.dat .str .nil))), .nil⟩
    | 1 => some ⟨[12, 0, 1], (.dat .bool (.dat .str (.dat .str .nil))), .nil⟩
    | _ => none) (fun _ => none) (fun _ => none) (fun _ _ => 0)
  | _ => {}

theorem ok91 : Abs.SpecOK Tryd.prog 91 sp91 :=
  Abs.specOC_of (C := ctab) (mv := mvtab) ctab_ok (n := 12) (an := an91) (T := Abs.tabOf [(124, sp124), (123, sp123)]) good foll (Abs.tabOf_ok _ (by simp only [List.forall_mem_cons]; exact ⟨ok124, ok123, fun _ h => by cases h⟩)) rfl (by intro v; kernel_rfl)

/- warnings: left out -/

def l26_0_2 (v : ((Int × Int × Int × Int × ByteArray × ByteArray × Unit) × (Unit))) : Option (((Int × Int × Int × Int × ByteArray × ByteArray × Unit) × (Unit)) ⊕ (Y13 ⊕ ((Int × ByteArray × Unit) × (Unit)))) :=
let x47 := (decide ((v.1.2.1 : Int) < (v.1.2.2.2.2.1.size : Int)))
bif x47 then (((let x48 := (decide ((v.1.1 : Int) < (v.1.2.2.2.2.2.1.size : Int)))
bif x48 then (bif (decide ((0 : Int) ≤ v.1.1 ∧ (v.1.1 : Int) < v.1.2.2.2.2.2.1.size)) then
let x49 := (((((v.1.2.2.2.2.2.1[v.1.1.toNat]?.getD 0).toNat : Nat) : Int) : Int) == 42)
some ((x49, (v.1.2.1, (v.1.2.2.2.2.1, (v.1.2.2.2.2.2.1, (v.1.1, (v.1.2.2.1, (v.1.2.2.2.1, ()))))))), ())
else none)
else (some ((false, (v.1.2.1, (v.1.2.2.2.2.1, (v.1.2.2.2.2.2.1, (v.1.1, (v.1.2.2.1, (v.1.2.2.2.1, ()))))))), ()))) : Option ((Bool × Int × ByteArray × ByteArray × Int × Int × Int × Unit) × (Unit))).bind fun v50 =>
bif v50.1.1 then (some (.inl (((w64 (v50.1.2.2.2.2.1 + 1)), (v50.1.2.1, (v50.1.2.2.2.2.1, (v50.1.2.1, (v50.1.2.2.1, (v50.1.2.2.2.1, ())))))), ())))
else (((let x51 := (decide ((v50.1.2.2.2.2.1 : Int) < (v50.1.2.2.2.1.size : Int)))
bif x51 then (bif (decide ((0 : Int) ≤ v50.1.2.2.2.2.1 ∧ (v50.1.2.2.2.2.1 : Int) < v50.1.2.2.2.1.size)) then
let x52 := (((((v50.1.2.2.2.1[v50.1.2.2.2.2.1.toNat]?.getD 0).toNat : Nat) : Int) : Int) == 63)
bif x52 then (some ((true, (v50.1.2.2.2.2.2.1, (v50.1.2.2.2.2.2.2.1, (v50.1.2.2.1, (v50.1.2.2.2.1, (v50.1.2.1, (v50.1.2.2.2.2.1, ()))))))), ()))
else (bif (decide ((0 : Int) ≤ v50.1.2.2.2.2.1 ∧ (v50.1.2.2.2.2.1 : Int) < v50.1.2.2.2.1.size)) then
bif (decide ((0 : Int) ≤ v50.1.2.1 ∧ (v50.1.2.1 : Int) < v50.1.2.2.1.size)) then
let x53 := (((((v50.1.2.2.2.1[v50.1.2.2.2.2.1.toNat]?.getD 0).toNat : Nat) : Int) : Int) == (((v50.1.2.2.1[v50.1.2.1.toNat]?.getD 0).toNat : Nat) : Int))
some ((x53, (v50.1.2.2.2.2.2.1, (v50.1.2.2.2.2.2.2.1, (v50.1.2.2.1, (v50.1.2.2.2.1, (v50.1.2.1, (v50.1.2.2.2.2.1, ()))))))), ())
else none
else none)
else none)
else (some ((false, (v50.1.2.2.2.2.2.1, (v50.1.2.2.2.2.2.2.1, (v50.1.2.2.1, (v50.1.2.2.2.1, (v50.1.2.1, (v50.1.2.2.2.2.1, ()))))))), ()))) : Option ((Bool × Int × Int × ByteArray × ByteArray × Int × Int × Unit) × (Unit))).bind fun v54 =>
bif v54.1.1 then (some (.inl (((w64 (v54.1.2.2.2.2.2.2.1 + 1)), ((w64 (v54.1.2.2.2.2.2.1 + 1)), (v54.1.2.1, (v54.1.2.2.1, (v54.1.2.2.2.1, (v54.1.2.2.2.2.1, ())))))), ())))
else (bif (decide ((v54.1.2.1 : Int) ≥ 0)) then (some (.inl (((w64 (v54.1.2.1 + 1)), ((w64 (v54.1.2.2.1 + 1)), (v54.1.2.1, ((w64 (v54.1.2.2.1 + 1)), (v54.1.2.2.2.1, (v54.1.2.2.2.2.1, ())))))), ())))
else (some (.inr (.inl ((false, ()), ())))))))
else (some (.inr (.inr ((v.1.1, (v.1.2.2.2.2.2.1, ())), ()))))

/- pagewatch/label.Like -/
def i26 : Abs.Sg := ⟨[0, 1], (.dat .str (.dat .str .nil)), .nil⟩

def o26 : Abs.Sg := ⟨[4], (.dat .bool .nil), .nil⟩

def m26 (v : (Y15 × (Unit))) : Option Y13 :=
(loopT l26_0_2 ((0, (0, ((-1), (0, (v.1.2.1, (v.1.1, ())))))), ())).bind fun d55 =>
sumE d55 (fun d56 => (some ((d56.1.1, ()), ()))) (fun d57 => (bif (decide ((0 : Int) ≤ d57.1.1)) then
bif (decide (d57.1.1.toNat ≤ d57.1.2.1.size ∧ d57.1.2.1.size ≤ d57.1.2.1.size)) then
(m91 (((d57.1.2.1.extract d57.1.1.toNat d57.1.2.1.size), ((bs [42]), ())), ())).bind fun u58 =>
some (((u58.1.1.toList == ByteArray.empty.toList), ()), ())
else none
else none))

def sp26 : Abs.Spec := ⟨0, i26, o26, m26⟩

def an26 : Nat → Abs.FAn
  | 0 => Abs.FAn.mk (fun
    | 7 => some ⟨[28, 7, 8, 1, 0, 6, 5], (.dat .bool (.dat (.int .i64) (.dat (.int .i64) (.dat .str (.dat .str (.dat (.int .i64) (.dat (.int .i64) .nil))))))), .nil⟩
    | 4 => some ⟨[13, 6, 1, 0, 5, 7, 8], (.dat .bool (.dat (.int .i64) (.dat .str (.dat .str (.dat (.int .i64) (.dat (.int .i64) (.dat (.int .i64) .nil))))))), .nil⟩
    | _ => none) (fun _ => none) (fun
    | 2 => some ⟨⟨[5, 6, 7, 8, 1, 0], (.dat (.int .i64) (.dat (.int .i64) (.dat (.int .i64) (.dat (.int .i64) (.dat .str (.dat .str .nil)))))), .nil⟩, (.more .ret ⟨[4], (.dat .bool .nil), .nil⟩ (.one (.exit 0) ⟨[5, 0], (.dat (.int .i64) (.dat .str .nil)), .nil⟩))⟩
    | _ => none) (fun _ _ => 0)
  | _ => {}

theorem ok26 : Abs.SpecOK Tryd.prog 26 sp26 :=
  Abs.specOC_of (C := ctab) (mv := mvtab) ctab_ok (n := 12) (an := an26) (T := Abs.tabOf [(91, sp91)]) good foll (Abs.tabOf_ok _ (by simp only [List.forall_mem_cons]; exact ⟨ok91, fun _ h => by cases h⟩)) rfl (by intro v; kernel_rfl)

def l38_0_2 (v : ((Int × ByteArray × Y4 × Int × Unit) × (Unit))) : Option (((Int × ByteArray × Y4 × Int × Unit) × (Unit)) ⊕ (Y18 ⊕ ((Unit) × (Unit)))) :=
bif (decide ((v.1.1 : Int) < v.1.2.2.2.1)) then (Abs.rowAt v.1.2.2.1 v.1.1 fun e13 _ =>
bif (e13.1.toList == v.1.2.1.toList) then (some (.inr (.inl ((e13.2.1, ()), ()))))
else (some (.inl (((w64 (v.1.1 + 1)), (v.1.2.1, (v.1.2.2.1, (v.1.2.2.2.1, ())))), ()))))
else (some (.inr (.inr ((), ()))))

/- pagewatch/label.Get -/
def i38 : Abs.Sg := ⟨[0, 1], (.dat (.row Z7) (.dat .str .nil)), .nil⟩

def o38 : Abs.Sg := ⟨[4], (.dat .str .nil), .nil⟩

def m38 (v : ((Y4 × ByteArray × Unit) × (Unit))) : Option Y18 :=
(loopT l38_0_2 ((0, (v.1.2.1, (v.1.1, ((v.1.1.length : Int), ())))), ())).bind fun d14 =>
sumE d14 (fun d15 => (some ((d15.1.1, ()), ()))) (fun d16 => (some ((ByteArray.empty, ()), ())))

def sp38 : Abs.Spec := ⟨0, i38, o38, m38⟩

def an38 : Nat → Abs.FAn
  | 0 => Abs.FAn.mk (fun _ => none) (fun _ => none) (fun
    | 2 => some ⟨⟨[9, 1, 7, 8], (.dat (.int .i64) (.dat .str (.dat (.row Z7) (.dat (.int .i64) .nil)))), .nil⟩, (.more .ret ⟨[4], (.dat .str .nil), .nil⟩ (.one (.exit 0) ⟨[], .nil, .nil⟩))⟩
    | _ => none) (fun _ _ => 0)
  | _ => {}

theorem ok38 : Abs.SpecOK Tryd.prog 38 sp38 :=
  Abs.specOC_of (C := ctab) (mv := mvtab) ctab_ok (n := 12) (an := an38) (T := Abs.tabOf []) good foll (Abs.tabOf_ok _ (fun _ h => by cases h)) rfl (by intro v; kernel_rfl)

/- pagewatch/label.Match -/
def i24 : Abs.Sg := ⟨[0, 1], (.dat Z5 (.dat (.row Z7) .nil)), .nil⟩

def o24 : Abs.Sg := ⟨[4], (.dat .bool .nil), .nil⟩

def m24 (v : ((Y12 × Y4 × Unit) × (Unit))) : Option Y13 :=
(m38 ((v.1.2.1, (v.1.1.1, ())), ())).bind fun u9 =>
bif ((v.1.1.2.1 : Int) == 0) then (some (((u9.1.1.toList == v.1.1.2.2.1.toList), ()), ()))
else (bif ((v.1.1.2.1 : Int) == 1) then (some (((!(u9.1.1.toList == v.1.1.2.2.1.toList)), ()), ()))
else (bif ((v.1.1.2.1 : Int) == 2) then ((m26 ((v.1.1.2.2.1, (u9.1.1, ())), ())).bind fun u10 =>
some ((u10.1.1, ()), ()))
else (bif ((v.1.1.2.1 : Int) == 3) then ((m26 ((v.1.1.2.2.1, (u9.1.1, ())), ())).bind fun u11 =>
some (((!u11.1.1), ()), ()))
else (some ((false, ()), ())))))

def sp24 : Abs.Spec := ⟨0, i24, o24, m24⟩

def an24 : Nat → Abs.FAn
  | _ => {}

theorem ok24 : Abs.SpecOK Tryd.prog 24 sp24 :=
  Abs.specOC_of (C := ctab) (mv := mvtab) ctab_ok (n := 12) (an := an24) (T := Abs.tabOf [(38, sp38), (26, sp26)]) good foll (Abs.tabOf_ok _ (by simp only [List.forall_mem_cons]; exact ⟨ok38, ok26, fun _ h => by cases h⟩)) rfl (by intro v; kernel_rfl)

/- 99 pagewatch/label.All$1: not told by a law: a closure -/

def l30_2_2 (v : ((Int × Y3 × Int × Unit) × ((Y4 × Unit) × Unit))) : Option (((Int × Y3 × Int × Unit) × ((Y4 × Unit) × Unit)) ⊕ (((Int × Unit) × ((Y4 × Unit) × Unit)) ⊕ ((Unit) × ((Y4 × Unit) × Unit)))) :=
bif (decide ((v.1.1 : Int) < v.1.2.2.1)) then (Abs.rowAt v.1.2.1 v.1.1 fun e32 _ =>
(m24 ((e32, (v.2.1.1, ())), ())).bind fun u33 =>
bif (!u33.1.1) then (some (.inr (.inl ((v.1.1, ()), ((v.2.1.1, ()), ())))))
else (some (.inl (((w64 (v.1.1 + 1)), (v.1.2.1, (v.1.2.2.1, ()))), ((v.2.1.1, ()), ())))))
else (some (.inr (.inr ((), ((v.2.1.1, ()), ())))))

/- pagewatch/label.All -/
def i30 : Abs.Sg := ⟨[0, 1], (.dat (.row Z5) (.dat (.row Z7) .nil)), .nil⟩

def o30 : Abs.Sg := ⟨[4], (.dat .bool .nil), .nil⟩

def m30 (v : ((Y3 × Y4 × Unit) × (Unit))) : Option Y13 :=
(((loopT l30_2_2 ((0, (v.1.1, ((v.1.1.length : Int), ()))), ((v.1.2.1, ()), ()))).bind fun d34 =>
sumE d34 (fun d35 => (some (((decide ((d35.1.1 : Int) ≥ 0)), ()), ((d35.2.1.1, ()), ())))) (fun d36 => (some ((false, ()), ((d36.2.1.1, ()), ()))))) : Option ((Bool × Unit) × ((Y4 × Unit) × Unit))).bind fun v37 =>
some (((!v37.1.1), ()), ())

def sp30 : Abs.Spec := ⟨0, i30, o30, m30⟩

def an30 : Nat → Abs.FAn
  | 0 => Abs.FAn.mk (fun _ => none) (fun _ => none) (fun _ => none) (fun
    | 1, 2 => 1
    | _, _ => 0)
  | 1 => Abs.FAn.mk (fun
    | 1 => some ⟨[4], (.dat .bool .nil), (.box 1 (.dat (.row Z7) .nil) .nil)⟩
    | _ => none) (fun _ => none) (fun _ => none) (fun
    | 1, 2 => 2
    | _, _ => 0)
  | 2 => Abs.FAn.mk (fun _ => none) (fun _ => none) (fun
    | 2 => some ⟨⟨[8, 0, 1, 7], (.dat (.int .i64) (.dat (.row Z5) (.st (.clo 99 [((0, 0), 1, 0, 0)]) (.dat (.int .i64) .nil)))), (.box 1 (.dat (.row Z7) .nil) .nil)⟩, (.more .ret ⟨[4], (.dat (.int .i64) .nil), (.box 1 (.dat (.row Z7) .nil) .nil)⟩ (.one (.exit 0) ⟨[], .nil, (.box 1 (.dat (.row Z7) .nil) .nil)⟩))⟩
    | _ => none) (fun
    | 4, 5 => 3
    | _, _ => 0)
  | _ => {}

theorem ok30 : Abs.SpecOK Tryd.prog 30 sp30 :=
  Abs.specOC_of (C := ctab) (mv := mvtab) ctab_ok (n := 12) (an := an30) (T := Abs.tabOf [(24, sp24)]) good foll (Abs.tabOf_ok _ (by simp only [List.forall_mem_cons]; exact ⟨ok24, fun _ h => by cases h⟩)) rfl (by intro v; kernel_rfl)

def l140_0_2 (v : ((Int × (List ByteArray) × ByteArray × Int × Unit) × (Unit))) : Option (((Int × (List ByteArray) × ByteArray × Int × Unit) × (Unit)) ⊕ (((Int × Unit) × (Unit)) ⊕ ((Unit) × (Unit)))) :=
bif (decide ((v.1.1 : Int) < v.1.2.2.2.1)) then (Abs.rowAt v.1.2.1 v.1.1 fun e13 _ =>
bif (v.1.2.2.1.toList == e13.toList) then (some (.inr (.inl ((v.1.1, ()), ()))))
else (some (.inl (((w64 (v.1.1 + 1)), (v.1.2.1, (v.1.2.2.1, (v.1.2.2.2.1, ())))), ()))))
else (some (.inr (.inr ((), ()))))

/- slices.Index[[]string,string] -/
def i140 : Abs.Sg := ⟨[0, 1], (.dat (.row .str) (.dat .str .nil)), .nil⟩

def o140 : Abs.Sg := ⟨[4], (.dat (.int .i64) .nil), .nil⟩

def m140 (v : (((List ByteArray) × ByteArray × Unit) × (Unit))) : Option ((Int × Unit) × (Unit)) :=
(loopT l140_0_2 ((0, (v.1.1, (v.1.2.1, ((v.1.1.length : Int), ())))), ())).bind fun d14 =>
sumE d14 (fun d15 => (some ((d15.1.1, ()), ()))) (fun d16 => (some (((-1), ()), ())))

def sp140 : Abs.Spec := ⟨0, i140, o140, m140⟩

def an140 : Nat → Abs.FAn
  | 0 => Abs.FAn.mk (fun _ => none) (fun _ => none) (fun
    | 2 => some ⟨⟨[8, 0, 1, 7], (.dat (.int .i64) (.dat (.row .str) (.dat .str (.dat (.int .i64) .nil)))), .nil⟩, (.more .ret ⟨[4], (.dat (.int .i64) .nil), .nil⟩ (.one (.exit 0) ⟨[], .nil, .nil⟩))⟩
    | _ => none) (fun _ _ => 0)
  | _ => {}

theorem ok140 : Abs.SpecOK Tryd.prog 140 sp140 :=
  Abs.specOC_of (C := ctab) (mv := mvtab) ctab_ok (n := 12) (an := an140) (T := Abs.tabOf []) good foll (Abs.tabOf_ok _ (fun _ h => by cases h)) rfl (by intro v; kernel_rfl)

/- slices.Contains[[]string,string] -/
def i107 : Abs.Sg := ⟨[0, 1], (.dat (.row .str) (.dat .str .nil)), .nil⟩

def o107 : Abs.Sg := ⟨[4], (.dat .bool .nil), .nil⟩

def m107 (v : (((List ByteArray) × ByteArray × Unit) × (Unit))) : Option Y13 :=
(m140 ((v.1.1, (v.1.2.1, ())), ())).bind fun u2 =>
some (((decide ((u2.1.1 : Int) ≥ 0)), ()), ())

def sp107 : Abs.Spec := ⟨0, i107, o107, m107⟩

def an107 : Nat → Abs.FAn
  | _ => {}

theorem ok107 : Abs.SpecOK Tryd.prog 107 sp107 :=
  Abs.specOC_of (C := ctab) (mv := mvtab) ctab_ok (n := 12) (an := an107) (T := Abs.tabOf [(140, sp140)]) good foll (Abs.tabOf_ok _ (by simp only [List.forall_mem_cons]; exact ⟨ok140, fun _ h => by cases h⟩)) rfl (by intro v; kernel_rfl)

def l45_0_3 (v : ((Int × (List ByteArray) × Y4 × Int × Unit) × (Y4 × Unit))) : Option (((Int × (List ByteArray) × Y4 × Int × Unit) × (Y4 × Unit)) ⊕ ((Unit) × (Y4 × Unit))) :=
bif (decide ((v.1.1 : Int) < v.1.2.2.2.1)) then (((Abs.rowAt v.1.2.2.1 v.1.1 fun e23 _ =>
(m107 ((v.1.2.1, (e23.1, ())), ())).bind fun u24 =>
bif u24.1.1 then (bif (decide (v.2.1.length + ([e23] : List Y15).length ≤ 4294967296)) then
let x25 := (v.2.1 ++ ([e23] : List Y15))
some ((v.1.2.1, (v.1.2.2.1, (v.1.2.2.2.1, (v.1.1, ())))), (x25, ()))
else none)
else (some ((v.1.2.1, (v.1.2.2.1, (v.1.2.2.2.1, (v.1.1, ())))), (v.2.1, ())))) : Option (((List ByteArray) × Y4 × Int × Int × Unit) × (Y4 × Unit))).bind fun v26 =>
some (.inl (((w64 (v26.1.2.2.2.1 + 1)), (v26.1.1, (v26.1.2.1, (v26.1.2.2.1, ())))), (v26.2.1, ()))))
else (some (.inr ((), (v.2.1, ()))))

/- pagewatch/label.Pick -/
def i45 : Abs.Sg := ⟨[0, 1], (.dat (.row Z7) (.dat (.row .str) .nil)), .nil⟩

def o45 : Abs.Sg := ⟨[4], (.st (.own Z7 (0, 0)) .nil), (.arr Z7 false .nil)⟩

def m45 (v : ((Y4 × (List ByteArray) × Unit) × (Unit))) : Option ((Unit) × (Y4 × Unit)) :=
(loopT l45_0_3 ((0, (v.1.2.1, (v.1.1, ((v.1.1.length : Int), ())))), ([], ()))).bind fun d27 =>
some ((), (d27.2.1, ()))

def sp45 : Abs.Spec := ⟨0, i45, o45, m45⟩

def an45 : Nat → Abs.FAn
  | 0 => Abs.FAn.mk (fun _ => none) (fun
    | 7 => some (⟨[5, 1, 8, 9, 10], (.st (.own Z7 (0, 0)) (.dat (.row .str) (.dat (.row Z7) (.dat (.int .i64) (.dat (.int .i64) .nil))))), (.arr Z7 false .nil)⟩, none)
    | _ => none) (fun
    | 3 => some ⟨⟨[10, 5, 1, 8, 9], (.dat (.int .i64) (.st (.own Z7 (0, 0)) (.dat (.row .str) (.dat (.row Z7) (.dat (.int .i64) .nil))))), (.arr Z7 false .nil)⟩, (.one (.exit 0) ⟨[5], (.st (.own Z7 (0, 0)) .nil), (.arr Z7 false .nil)⟩)⟩
    | _ => none) (fun _ _ => 0)
  | _ => {}

theorem ok45 : Abs.SpecOK Tryd.prog 45 sp45 :=
  Abs.specOC_of (C := ctab) (mv := mvtab) ctab_ok (n := 12) (an := an45) (T := Abs.tabOf [(107, sp107)]) good foll (Abs.tabOf_ok _ (by simp only [List.forall_mem_cons]; exact ⟨ok107, fun _ h => by cases h⟩)) rfl (by intro v; kernel_rfl)

/- pagewatch/route.wrong -/
def i141 : Abs.Sg := ⟨[0], (.dat Z5 .nil), .nil⟩

def o141 : Abs.Sg := ⟨[2], (.dat .bool .nil), .nil⟩

def m141 (v : ((Y12 × Unit) × (Unit))) : Option Y13 :=
(m22 ((v.1.1, ()), ())).bind fun u2 =>
some (((!u2.1.1), ()), ())

def sp141 : Abs.Spec := ⟨0, i141, o141, m141⟩

def an141 : Nat → Abs.FAn
  | _ => {}

theorem ok141 : Abs.SpecOK Tryd.prog 141 sp141 :=
  Abs.specOC_of (C := ctab) (mv := mvtab) ctab_ok (n := 12) (an := an141) (T := Abs.tabOf [(22, sp22)]) good foll (Abs.tabOf_ok _ (by simp only [List.forall_mem_cons]; exact ⟨ok22, fun _ h => by cases h⟩)) rfl (by intro v; kernel_rfl)

/- pagewatch/label.KeyIs -/
def i158 : Abs.Sg := ⟨[0], (.dat .str .nil), .nil⟩

def o158 : Abs.Sg := ⟨[2], (.dat .bool .nil), .nil⟩

def m158 (v : Y18) : Option Y13 :=
(m87 ((v.1.1, ()), ())).bind fun u2 =>
some ((u2.1.1, ()), ())

def sp158 : Abs.Spec := ⟨0, i158, o158, m158⟩

def an158 : Nat → Abs.FAn
  | _ => {}

theorem ok158 : Abs.SpecOK Tryd.prog 158 sp158 :=
  Abs.specOC_of (C := ctab) (mv := mvtab) ctab_ok (n := 12) (an := an158) (T := Abs.tabOf [(87, sp87)]) good foll (Abs.tabOf_ok _ (by simp only [List.forall_mem_cons]; exact ⟨ok87, fun _ h => by cases h⟩)) rfl (by intro v; kernel_rfl)

def l142_0_2 (v : ((Int × (List ByteArray) × (List ByteArray) × Int × Unit) × (Unit))) : Option (((Int × (List ByteArray) × (List ByteArray) × Int × Unit) × (Unit)) ⊕ (Y13 ⊕ ((Unit) × (Unit)))) :=
bif (decide ((v.1.1 : Int) < v.1.2.2.2.1)) then (Abs.rowAt v.1.2.2.1 v.1.1 fun e30 _ =>
(((m158 ((e30, ()), ())).bind fun u31 =>
bif (!u31.1.1) then (some ((true, (v.1.2.1, (v.1.2.2.1, (v.1.2.2.2.1, (v.1.1, ()))))), ()))
else (bif (decide ((v.1.1 : Int) > 0)) then (Abs.rowAt v.1.2.1 (w64 (v.1.1 - 1)) fun e32 _ =>
some (((Op.bytesLess e30.toList e32.toList || e30.toList == e32.toList), (v.1.2.1, (v.1.2.2.1, (v.1.2.2.2.1, (v.1.1, ()))))), ()))
else (some ((false, (v.1.2.1, (v.1.2.2.1, (v.1.2.2.2.1, (v.1.1, ()))))), ())))) : Option ((Bool × (List ByteArray) × (List ByteArray) × Int × Int × Unit) × (Unit))).bind fun v33 =>
bif v33.1.1 then (some (.inr (.inl ((false, ()), ()))))
else (some (.inl (((w64 (v33.1.2.2.2.2.1 + 1)), (v33.1.2.1, (v33.1.2.2.1, (v33.1.2.2.2.1, ())))), ()))))
else (some (.inr (.inr ((), ()))))

/- pagewatch/route.Keys -/
def i142 : Abs.Sg := ⟨[0], (.dat (.row .str) .nil), .nil⟩

def o142 : Abs.Sg := ⟨[2], (.dat .bool .nil), .nil⟩

def m142 (v : (((List ByteArray) × Unit) × (Unit))) : Option Y13 :=
(loopT l142_0_2 ((0, (v.1.1, (v.1.1, ((v.1.1.length : Int), ())))), ())).bind fun d34 =>
sumE d34 (fun d35 => (some ((d35.1.1, ()), ()))) (fun d36 => (some ((true, ()), ())))

def sp142 : Abs.Spec := ⟨0, i142, o142, m142⟩

def an142 : Nat → Abs.FAn
  | 0 => Abs.FAn.mk (fun
    | 4 => some ⟨[27, 0, 5, 6, 7], (.dat .bool (.dat (.row .str) (.dat (.row .str) (.dat (.int .i64) (.dat (.int .i64) .nil))))), .nil⟩
    | _ => none) (fun _ => none) (fun
    | 2 => some ⟨⟨[7, 0, 5, 6], (.dat (.int .i64) (.dat (.row .str) (.dat (.row .str) (.dat (.int .i64) .nil)))), .nil⟩, (.more .ret ⟨[2], (.dat .bool .nil), .nil⟩ (.one (.exit 0) ⟨[], .nil, .nil⟩))⟩
    | _ => none) (fun _ _ => 0)
  | _ => {}

theorem ok142 : Abs.SpecOK Tryd.prog 142 sp142 :=
  Abs.specOC_of (C := ctab) (mv := mvtab) ctab_ok (n := 12) (an := an142) (T := Abs.tabOf [(158, sp158)]) good foll (Abs.tabOf_ok _ (by simp only [List.forall_mem_cons]; exact ⟨ok158, fun _ h => by cases h⟩)) rfl (by intro v; kernel_rfl)

def l109_2_2 (v : ((Int × Y3 × Int × Unit) × (Unit))) : Option (((Int × Y3 × Int × Unit) × (Unit)) ⊕ (((Int × Unit) × (Unit)) ⊕ ((Unit) × (Unit)))) :=
bif (decide ((v.1.1 : Int) < v.1.2.2.1)) then (Abs.rowAt v.1.2.1 v.1.1 fun e83 _ =>
(m141 ((e83, ()), ())).bind fun u84 =>
bif u84.1.1 then (some (.inr (.inl ((v.1.1, ()), ()))))
else (some (.inl (((w64 (v.1.1 + 1)), (v.1.2.1, (v.1.2.2.1, ()))), ()))))
else (some (.inr (.inr ((), ()))))

/- pagewatch/route.check -/
def i109 : Abs.Sg := ⟨[0, 1], (.dat Z2 (.dat (.int .i64) .nil)), .nil⟩

def o109 : Abs.Sg := ⟨[4], (.dat (.int .i64) .nil), .nil⟩

def m109 (v : ((Y6 × Int × Unit) × (Unit))) : Option ((Int × Unit) × (Unit)) :=
((bif ((v.1.2.1 : Int) == 0) then (bif ((v.1.1.1 : Int) != (-1)) then (some ((true, ()), ((v.1.1, ()), ())))
else (bif (decide ((v.1.2.1 : Int) > 0)) then (bif (decide ((v.1.1.1 : Int) < 0)) then (some ((true, ()), ((v.1.1, ()), ())))
else (some (((decide ((v.1.1.1 : Int) ≥ v.1.2.1)), ()), ((v.1.1, ()), ()))))
else (some ((false, ()), ((v.1.1, ()), ())))))
else (bif (decide ((v.1.2.1 : Int) > 0)) then (bif (decide ((v.1.1.1 : Int) < 0)) then (some ((true, ()), ((v.1.1, ()), ())))
else (some (((decide ((v.1.1.1 : Int) ≥ v.1.2.1)), ()), ((v.1.1, ()), ()))))
else (some ((false, ()), ((v.1.1, ()), ()))))) : Option ((Bool × Unit) × ((Y6 × Unit) × Unit))).bind fun v79 =>
bif v79.1.1 then (some ((3, ()), ()))
else (((let x80 := (decide (((v79.2.1.1.2.1.length : Int) : Int) > 8))
bif x80 then (some ((true, ()), ((v79.2.1.1, ()), ())))
else (let x81 := (decide (((v79.2.1.1.2.2.2.1.length : Int) : Int) > 12))
some ((x81, ()), ((v79.2.1.1, ()), ())))) : Option ((Bool × Unit) × ((Y6 × Unit) × Unit))).bind fun v82 =>
bif v82.1.1 then (some ((5, ()), ()))
else ((((((loopT l109_2_2 ((0, (v82.2.1.1.2.1, ((v82.2.1.1.2.1.length : Int), ()))), ())).bind fun d85 =>
sumE d85 (fun d86 => (some (((decide ((d86.1.1 : Int) ≥ 0)), ()), ()))) (fun d87 => (some ((false, ()), ())))) : Option Y13).bind fun v88 =>
bif v88.1.1 then (some ((true, ()), ((v82.2.1.1, ()), ())))
else ((m142 ((v82.2.1.1.2.2.2.1, ()), ())).bind fun u89 =>
some (((!u89.1.1), ()), ((v82.2.1.1, ()), ())))) : Option ((Bool × Unit) × ((Y6 × Unit) × Unit))).bind fun v90 =>
bif v90.1.1 then (some ((8, ()), ()))
else (((bif (decide ((v90.2.1.1.2.2.1 : Int) < 0)) then (some ((true, ()), ()))
else (bif (decide ((v90.2.1.1.2.2.2.2.1 : Int) < 0)) then (some ((true, ()), ()))
else (let x91 := (decide ((v90.2.1.1.2.2.2.2.1 : Int) > v90.2.1.1.2.2.2.2.2.1))
bif x91 then (some ((true, ()), ()))
else (let x92 := (decide ((v90.2.1.1.2.2.2.2.2.1 : Int) > v90.2.1.1.2.2.2.2.2.2.1))
bif x92 then (some ((true, ()), ()))
else (let x93 := (decide ((v90.2.1.1.2.2.2.2.2.2.1 : Int) > 604800))
bif x93 then (some ((true, ()), ()))
else (some ((((v90.2.1.1.2.2.2.2.2.2.1 : Int) == 0), ()), ()))))))) : Option Y13).bind fun v94 =>
bif v94.1.1 then (some ((1, ()), ()))
else (some ((0, ()), ())))))

def sp109 : Abs.Spec := ⟨0, i109, o109, m109⟩

def an109 : Nat → Abs.FAn
  | 0 => Abs.FAn.mk (fun
    | 7 => some ⟨[49], (.dat .bool .nil), .nil⟩
    | 5 => some ⟨[39, 2], (.dat .bool (.st (.ptr (0, 0) 8 0 0) .nil)), (.box 8 (.dat Z2 .nil) .nil)⟩
    | 3 => some ⟨[28, 2], (.dat .bool (.st (.ptr (0, 0) 8 0 0) .nil)), (.box 8 (.dat Z2 .nil) .nil)⟩
    | 1 => some ⟨[5, 2], (.dat .bool (.st (.ptr (0, 0) 8 0 0) .nil)), (.box 8 (.dat Z2 .nil) .nil)⟩
    | _ => none) (fun _ => none) (fun _ => none) (fun
    | 5, 2 => 1
    | _, _ => 0)
  | 1 => Abs.FAn.mk (fun
    | 1 => some ⟨[4], (.dat .bool .nil), .nil⟩
    | _ => none) (fun _ => none) (fun _ => none) (fun
    | 1, 2 => 2
    | _, _ => 0)
  | 2 => Abs.FAn.mk (fun _ => none) (fun _ => none) (fun
    | 2 => some ⟨⟨[8, 0, 1, 7], (.dat (.int .i64) (.dat (.row Z5) (.st (.clo 141 []) (.dat (.int .i64) .nil)))), .nil⟩, (.more .ret ⟨[4], (.dat (.int .i64) .nil), .nil⟩ (.one (.exit 0) ⟨[], .nil, .nil⟩))⟩
    | _ => none) (fun _ _ => 0)
  | _ => {}

theorem ok109 : Abs.SpecOK Tryd.prog 109 sp109 :=
  Abs.specOC_of (C := ctab) (mv := mvtab) ctab_ok (n := 12) (an := an109) (T := Abs.tabOf [(141, sp141), (142, sp142)]) good foll (Abs.tabOf_ok _ (by simp only [List.forall_mem_cons]; exact ⟨ok141, ok142, fun _ h => by cases h⟩)) rfl (by intro v; kernel_rfl)

def l49_0_6 (v : ((Int × (List Y6) × (List Y6) × Int × Unit) × (Unit))) : Option (((Int × (List Y6) × (List Y6) × Int × Unit) × (Unit)) ⊕ (((Int × Unit) × (Unit)) ⊕ (((List Y6) × Unit) × (Unit)))) :=
bif (decide ((v.1.1 : Int) < v.1.2.2.2.1)) then (Abs.rowAt v.1.2.1 v.1.1 fun e23 _ =>
(m109 ((e23, (v.1.1, ())), ())).bind fun u24 =>
bif ((u24.1.1 : Int) != 0) then (some (.inr (.inl ((u24.1.1, ()), ()))))
else (some (.inl (((w64 (v.1.1 + 1)), (v.1.2.1, (v.1.2.2.1, (v.1.2.2.2.1, ())))), ()))))
else (some (.inr (.inr ((v.1.2.2.1, ()), ()))))

/- pagewatch/route.Check -/
def i49 : Abs.Sg := ⟨[0], (.dat (.row Z2) .nil), .nil⟩

def o49 : Abs.Sg := ⟨[2], (.dat (.int .i64) .nil), .nil⟩

def m49 (v : (((List Y6) × Unit) × (Unit))) : Option ((Int × Unit) × (Unit)) :=
bif (((v.1.1.length : Int) : Int) == 0) then (some ((7, ()), ()))
else (bif (decide (((v.1.1.length : Int) : Int) > 24)) then (some ((5, ()), ()))
else ((loopT l49_0_6 ((0, (v.1.1, (v.1.1, ((v.1.1.length : Int), ())))), ())).bind fun d25 =>
sumE d25 (fun d26 => (some ((d26.1.1, ()), ()))) (fun d27 => (Abs.rowAt d27.1.1 0 fun e28 _ =>
bif (decide (((e28.2.1.length : Int) : Int) > 0)) then (some ((8, ()), ()))
else (some ((0, ()), ()))))))

def sp49 : Abs.Spec := ⟨0, i49, o49, m49⟩

def an49 : Nat → Abs.FAn
  | 0 => Abs.FAn.mk (fun _ => none) (fun _ => none) (fun
    | 6 => some ⟨⟨[16, 14, 0, 15], (.dat (.int .i64) (.dat (.row Z2) (.dat (.row Z2) (.dat (.int .i64) .nil)))), .nil⟩, (.more .ret ⟨[2], (.dat (.int .i64) .nil), .nil⟩ (.one (.exit 1) ⟨[0], (.dat (.row Z2) .nil), .nil⟩))⟩
    | _ => none) (fun _ _ => 0)
  | _ => {}

theorem ok49 : Abs.SpecOK Tryd.prog 49 sp49 :=
  Abs.specOC_of (C := ctab) (mv := mvtab) ctab_ok (n := 12) (an := an49) (T := Abs.tabOf [(109, sp109)]) good foll (Abs.tabOf_ok _ (by simp only [List.forall_mem_cons]; exact ⟨ok109, fun _ h => by cases h⟩)) rfl (by intro v; kernel_rfl)

def l60_0_3 (v : ((Int × Int × (List Y6) × Int × Unit) × ((List Int) × Unit))) : Option (((Int × Int × (List Y6) × Int × Unit) × ((List Int) × Unit)) ⊕ Y19) :=
bif (decide ((v.1.1 : Int) < v.1.2.2.2.1)) then (((Abs.rowAt v.1.2.2.1 v.1.1 fun e12 _ =>
bif ((e12.1 : Int) == v.1.2.1) then (bif (decide (v.2.1.length + [v.1.1].length ≤ 4294967296)) then
some ((v.1.2.1, (v.1.2.2.1, (v.1.2.2.2.1, (v.1.1, ())))), ((v.2.1 ++ [v.1.1]), ()))
else none)
else (some ((v.1.2.1, (v.1.2.2.1, (v.1.2.2.2.1, (v.1.1, ())))), (v.2.1, ())))) : Option ((Int × (List Y6) × Int × Int × Unit) × ((List Int) × Unit))).bind fun v13 =>
some (.inl (((w64 (v13.1.2.2.2.1 + 1)), (v13.1.1, (v13.1.2.1, (v13.1.2.2.1, ())))), (v13.2.1, ()))))
else (some (.inr ((), (v.2.1, ()))))

/- pagewatch/route.Children -/
def i60 : Abs.Sg := ⟨[0, 1], (.dat (.row Z2) (.dat (.int .i64) .nil)), .nil⟩

def o60 : Abs.Sg := ⟨[4], (.st (.own (.int .i64) (0, 0)) .nil), (.arr (.int .i64) false .nil)⟩

def m60 (v : (((List Y6) × Int × Unit) × (Unit))) : Option Y19 :=
(loopT l60_0_3 ((0, (v.1.2.1, (v.1.1, ((v.1.1.length : Int), ())))), ([], ()))).bind fun d14 =>
some ((), (d14.2.1, ()))

def sp60 : Abs.Spec := ⟨0, i60, o60, m60⟩

def an60 : Nat → Abs.FAn
  | 0 => Abs.FAn.mk (fun _ => none) (fun
    | 7 => some (⟨[5, 1, 8, 9, 10], (.st (.own (.int .i64) (0, 0)) (.dat (.int .i64) (.dat (.row Z2) (.dat (.int .i64) (.dat (.int .i64) .nil))))), (.arr (.int .i64) false .nil)⟩, none)
    | _ => none) (fun
    | 3 => some ⟨⟨[10, 5, 1, 8, 9], (.dat (.int .i64) (.st (.own (.int .i64) (0, 0)) (.dat (.int .i64) (.dat (.row Z2) (.dat (.int .i64) .nil))))), (.arr (.int .i64) false .nil)⟩, (.one (.exit 0) ⟨[5], (.st (.own (.int .i64) (0, 0)) .nil), (.arr (.int .i64) false .nil)⟩)⟩
    | _ => none) (fun _ _ => 0)
  | _ => {}

theorem ok60 : Abs.SpecOK Tryd.prog 60 sp60 :=
  Abs.specOC_of (C := ctab) (mv := mvtab) ctab_ok (n := 12) (an := an60) (T := Abs.tabOf []) good foll (Abs.tabOf_ok _ (fun _ h => by cases h)) rfl (by intro v; kernel_rfl)

def l108_0_3 (rc : (((List Y6) × Int × Y4 × Unit) × (Unit)) → Option Y19) (v : ((Int × Int × (List Y6) × Y4 × Int × Unit) × Y16)) : Option (((Int × Int × (List Y6) × Y4 × Int × Unit) × Y16) ⊕ ((Int × Unit) × ((List Int) × Unit))) :=
bif (decide ((v.1.1 : Int) < v.1.2.2.2.2.1)) then (((bif (decide ((0 : Int) ≤ v.1.1 ∧ (v.1.1 : Int) < v.2.2.1.length)) then
(v.2.2.1[v.1.1.toNat]?).bind fun e47 =>
Abs.rowAt v.1.2.2.1 e47 fun e48 _ =>
(m30 ((e48.2.1, (v.1.2.2.2.1, ())), ())).bind fun u49 =>
bif (!u49.1.1) then (some (.inl ((v.1.2.1, (v.1.2.2.1, (v.1.2.2.2.1, (v.1.2.2.2.2.1, (v.1.1, ()))))), (v.2.1, (v.2.2.1, ())))))
else ((rc ((v.1.2.2.1, (e47, (v.1.2.2.2.1, ()))), ())).bind fun u50 =>
bif (decide (v.2.1.length + u50.2.1.length ≤ 4294967296)) then
Abs.rowAt v.1.2.2.1 e47 fun e51 _ =>
bif (!e51.2.2.2.2.2.2.2.1) then (some (.inr ((v.1.2.1, ()), ((v.2.1 ++ u50.2.1), ()))))
else (some (.inl ((v.1.2.1, (v.1.2.2.1, (v.1.2.2.2.1, (v.1.2.2.2.2.1, (v.1.1, ()))))), ((v.2.1 ++ u50.2.1), (v.2.2.1, ())))))
else none)
else none) : Option (((Int × (List Y6) × Y4 × Int × Int × Unit) × Y16) ⊕ ((Int × Unit) × ((List Int) × Unit)))).bind fun r54 =>
sumE r54 (fun v52 => (some (.inl (((w64 (v52.1.2.2.2.2.1 + 1)), (v52.1.1, (v52.1.2.1, (v52.1.2.2.1, (v52.1.2.2.2.1, ()))))), (v52.2.1, (v52.2.2.1, ())))))) (fun d53 => (some (.inr ((d53.1.1, ()), (d53.2.1, ()))))))
else (some (.inr ((v.1.2.1, ()), (v.2.1, ()))))

/- pagewatch/route.find -/
def i108 : Abs.Sg := ⟨[0, 1, 2], (.dat (.row Z2) (.dat (.int .i64) (.dat (.row Z7) .nil))), .nil⟩

def o108 : Abs.Sg := ⟨[6], (.st (.own (.int .i64) (0, 0)) .nil), (.arr (.int .i64) false .nil)⟩

def mb108 (rc : (((List Y6) × Int × Y4 × Unit) × (Unit)) → Option Y19) (v : (((List Y6) × Int × Y4 × Unit) × (Unit))) : Option Y19 :=
(m60 ((v.1.1, (v.1.2.1, ())), ())).bind fun u46 =>
(loopT (l108_0_3 rc) ((0, (v.1.2.1, (v.1.1, (v.1.2.2.1, (((u46.2.1.length : Nat) : Int), ()))))), ([], (u46.2.1, ())))).bind fun d55 =>
bif ((((d55.2.1.length : Nat) : Int) : Int) == 0) then (some ((), ([d55.1.1], ())))
else (some ((), (d55.2.1, ())))

def mr108 (n : Nat) : (((List Y6) × Int × Y4 × Unit) × (Unit)) → Option Y19 := Nat.rec (motive := fun _ => (((List Y6) × Int × Y4 × Unit) × (Unit)) → Option Y19) (fun _ => none) (fun _ rc => mb108 rc) n

def m108 : (((List Y6) × Int × Y4 × Unit) × (Unit)) → Option Y19 := mr108 400

def spr108 (n : Nat) : Abs.Spec := ⟨0, i108, o108, mr108 n⟩

def sp108 : Abs.Spec := ⟨0, i108, o108, m108⟩

def an108 : Nat → Abs.FAn
  | 0 => Abs.FAn.mk (fun _ => none) (fun
    | 8 => some (⟨[1, 0, 2, 7, 12, 13, 14], (.dat (.int .i64) (.dat (.row Z2) (.dat (.row Z7) (.st (.own (.int .i64) (0, 0)) (.st (.own (.int .i64) (1, 0)) (.dat (.int .i64) (.dat (.int .i64) .nil))))))), (.arr (.int .i64) false (.arr (.int .i64) false .nil))⟩, some (.one (.exit 0) ⟨[1, 7], (.dat (.int .i64) (.st (.own (.int .i64) (0, 0)) .nil)), (.arr (.int .i64) false .nil)⟩))
    | _ => none) (fun
    | 3 => some ⟨⟨[14, 1, 0, 2, 7, 12, 13], (.dat (.int .i64) (.dat (.int .i64) (.dat (.row Z2) (.dat (.row Z7) (.st (.own (.int .i64) (0, 0)) (.st (.own (.int .i64) (1, 0)) (.dat (.int .i64) .nil))))))), (.arr (.int .i64) false (.arr (.int .i64) false .nil))⟩, (.one (.exit 0) ⟨[1, 7], (.dat (.int .i64) (.st (.own (.int .i64) (0, 0)) .nil)), (.arr (.int .i64) false .nil)⟩)⟩
    | _ => none) (fun _ _ => 0)
  | _ => {}

theorem okr108 : ∀ n, Abs.SpecOK Tryd.prog 108 (spr108 n)
  | 0 => fun _ _ _ _ _ _ h => by cases h
  | n + 1 => Abs.specOC_of (C := ctab) (mv := mvtab) ctab_ok (n := 12) (an := an108) (T := Abs.tabOf [(108, spr108 n), (60, sp60), (30, sp30)]) good foll (Abs.tabOf_ok _ (by simp only [List.forall_mem_cons]; exact ⟨okr108 n, ok60, ok30, fun _ h => by cases h⟩)) rfl (by intro v; kernel_rfl)

theorem ok108 : Abs.SpecOK Tryd.prog 108 sp108 := okr108 400

/- pagewatch/route.Find -/
def i48 : Abs.Sg := ⟨[0, 1], (.dat (.row Z2) (.dat (.row Z7) .nil)), .nil⟩

def o48 : Abs.Sg := ⟨[4], (.st (.own (.int .i64) (0, 0)) .nil), (.arr (.int .i64) false .nil)⟩

def m48 (v : (((List Y6) × Y4 × Unit) × (Unit))) : Option Y19 :=
(((m49 ((v.1.1, ()), ())).bind fun u13 =>
bif ((u13.1.1 : Int) != 0) then (some ((true, (v.1.2.1, (v.1.1, ()))), ()))
else ((m42 ((v.1.2.1, ()), ())).bind fun u14 =>
some (((!u14.1.1), (v.1.2.1, (v.1.1, ()))), ()))) : Option ((Bool × Y4 × (List Y6) × Unit) × (Unit))).bind fun v15 =>
bif v15.1.1 then (some ((), ([], ())))
else ((m108 ((v15.1.2.2.1, (0, (v15.1.2.1, ()))), ())).bind fun u16 =>
some ((), (u16.2.1, ())))

def sp48 : Abs.Spec := ⟨0, i48, o48, m48⟩

def an48 : Nat → Abs.FAn
  | 0 => Abs.FAn.mk (fun
    | 1 => some ⟨[12, 1, 0], (.dat .bool (.dat (.row Z7) (.dat (.row Z2) .nil))), .nil⟩
    | _ => none) (fun _ => none) (fun _ => none) (fun _ _ => 0)
  | _ => {}

theorem ok48 : Abs.SpecOK Tryd.prog 48 sp48 :=
  Abs.specOC_of (C := ctab) (mv := mvtab) ctab_ok (n := 12) (an := an48) (T := Abs.tabOf [(49, sp49), (42, sp42), (108, sp108)]) good foll (Abs.tabOf_ok _ (by simp only [List.forall_mem_cons]; exact ⟨ok49, ok42, ok108, fun _ h => by cases h⟩)) rfl (by intro v; kernel_rfl)

/- warnings: store: pointer &e16.0 -/

def l51_0_4 (v : ((Int × (List Y6) × Unit) × ((List Int) × Unit))) : Option (((Int × (List Y6) × Unit) × ((List Int) × Unit)) ⊕ Y19) :=
bif (decide ((v.1.1 : Int) ≥ 0)) then (bif (decide (v.2.1.length + [v.1.1].length ≤ 4294967296)) then
Abs.rowAt v.1.2.1 v.1.1 fun e37 _ =>
some (.inl ((e37.1, (v.1.2.1, ())), ((v.2.1 ++ [v.1.1]), ())))
else none)
else (some (.inr ((), (v.2.1, ()))))

def l51_1_1 (v : ((Int × Int × Unit) × ((List Int) × Unit))) : Option (((Int × Int × Unit) × ((List Int) × Unit)) ⊕ Y19) :=
bif (decide ((v.1.2.1 : Int) < v.1.1)) then (bif (decide ((0 : Int) ≤ v.1.1 ∧ (v.1.1 : Int) < v.2.1.length)) then
(v.2.1[v.1.1.toNat]?).bind fun e39 =>
bif (decide ((0 : Int) ≤ v.1.2.1 ∧ (v.1.2.1 : Int) < v.2.1.length)) then
(v.2.1[v.1.2.1.toNat]?).bind fun e40 =>
bif (decide ((0 : Int) ≤ v.1.2.1 ∧ (v.1.2.1 : Int) < v.2.1.length)) then
bif (decide (v.1.2.1.toNat < v.2.1.length)) then
bif (decide ((0 : Int) ≤ v.1.1 ∧ (v.1.1 : Int) < (v.2.1.set v.1.2.1.toNat e39).length)) then
bif (decide (v.1.1.toNat < (v.2.1.set v.1.2.1.toNat e39).length)) then
some (.inl (((w64 (v.1.1 - 1)), ((w64 (v.1.2.1 + 1)), ())), (((v.2.1.set v.1.2.1.toNat e39).set v.1.1.toNat e40), ())))
else none
else none
else none
else none
else none
else none)
else (some (.inr ((), (v.2.1, ()))))

/- pagewatch/route.Path -/
def i51 : Abs.Sg := ⟨[0, 1], (.dat (.row Z2) (.dat (.int .i64) .nil)), .nil⟩

def o51 : Abs.Sg := ⟨[4], (.st (.own (.int .i64) (0, 0)) .nil), (.arr (.int .i64) false .nil)⟩

def m51 (v : (((List Y6) × Int × Unit) × (Unit))) : Option Y19 :=
((bif (decide ((v.1.2.1 : Int) < 0)) then (some ((true, (v.1.2.1, (v.1.1, ()))), ()))
else (let x34 := (decide ((v.1.2.1 : Int) ≥ (v.1.1.length : Int)))
bif x34 then (some ((true, (v.1.2.1, (v.1.1, ()))), ()))
else ((m49 ((v.1.1, ()), ())).bind fun u35 =>
some ((((u35.1.1 : Int) != 0), (v.1.2.1, (v.1.1, ()))), ())))) : Option ((Bool × Int × (List Y6) × Unit) × (Unit))).bind fun v36 =>
bif v36.1.1 then (some ((), ([], ())))
else ((loopT l51_0_4 ((v36.1.2.1, (v36.1.2.2.1, ())), ([], ()))).bind fun d38 =>
(loopT l51_1_1 (((w64 (((d38.2.1.length : Nat) : Int) - 1)), (0, ())), (d38.2.1, ()))).bind fun d41 =>
bif (decide (d41.2.1.length = d38.2.1.length) && true) then
some ((), (d41.2.1, ()))
else none)

def sp51 : Abs.Spec := ⟨0, i51, o51, m51⟩

def an51 : Nat → Abs.FAn
  | 0 => Abs.FAn.mk (fun
    | 1 => some ⟨[18, 1, 0], (.dat .bool (.dat (.int .i64) (.dat (.row Z2) .nil))), .nil⟩
    | _ => none) (fun _ => none) (fun
    | 4 => some ⟨⟨[1, 0, 5], (.dat (.int .i64) (.dat (.row Z2) (.st (.own (.int .i64) (0, 0)) .nil))), (.arr (.int .i64) false .nil)⟩, (.one (.exit 0) ⟨[5], (.st (.own (.int .i64) (0, 0)) .nil), (.arr (.int .i64) false .nil)⟩)⟩
    | _ => none) (fun
    | 7, 1 => 1
    | _, _ => 0)
  | 1 => Abs.FAn.mk (fun _ => none) (fun _ => none) (fun
    | 1 => some ⟨⟨[3, 2, 0], (.dat (.int .i64) (.dat (.int .i64) (.st (.own (.int .i64) (0, 0)) .nil))), (.arr (.int .i64) false .nil)⟩, (.one (.exit 0) ⟨[], .nil, (.arr (.int .i64) false .nil)⟩)⟩
    | _ => none) (fun _ _ => 0)
  | _ => {}

theorem ok51 : Abs.SpecOK Tryd.prog 51 sp51 :=
  Abs.specOC_of (C := ctab) (mv := mvtab) ctab_ok (n := 12) (an := an51) (T := Abs.tabOf [(49, sp49)]) good foll (Abs.tabOf_ok _ (by simp only [List.forall_mem_cons]; exact ⟨ok49, fun _ h => by cases h⟩)) rfl (by intro v; kernel_rfl)

/- pagewatch/route.Key -/
def i57 : Abs.Sg := ⟨[0, 1], (.dat Z2 (.dat (.row Z7) .nil)), .nil⟩

def o57 : Abs.Sg := ⟨[4], (.dat .str .nil), .nil⟩

def m57 (v : ((Y6 × Y4 × Unit) × (Unit))) : Option Y18 :=
(m42 ((v.1.2.1, ()), ())).bind fun u8 =>
bif (!u8.1.1) then (some ((ByteArray.empty, ()), ()))
else ((m45 ((v.1.2.1, (v.1.1.2.2.2.1, ())), ())).bind fun u9 =>
(m36 ((u9.2.1, ()), ())).bind fun u10 =>
some ((u10.1.1, ()), ()))

def sp57 : Abs.Spec := ⟨0, i57, o57, m57⟩

def an57 : Nat → Abs.FAn
  | _ => {}

theorem ok57 : Abs.SpecOK Tryd.prog 57 sp57 :=
  Abs.specOC_of (C := ctab) (mv := mvtab) ctab_ok (n := 12) (an := an57) (T := Abs.tabOf [(42, sp42), (45, sp45), (36, sp36)]) good foll (Abs.tabOf_ok _ (by simp only [List.forall_mem_cons]; exact ⟨ok42, ok45, ok36, fun _ h => by cases h⟩)) rfl (by intro v; kernel_rfl)

/- pagewatch/pagewatchlaw21.sane -/
def i52 : Abs.Sg := ⟨[], .nil, .nil⟩

def o52 : Abs.Sg := ⟨[0], (.dat .bool .nil), .nil⟩

def m52 (v : ((Unit) × (Unit))) : Option Y13 :=
(m48 ((([((-1), ([], (0, ([], (0, (0, (1, (false, ())))))))), (0, (([((bs [116, 101, 97, 109]), (0, ((bs [97]), ())))] : List Y12), (0, ([(bs [116, 101, 97, 109])], (0, (0, (1, (false, ())))))))), (0, (([((bs [116, 101, 97, 109]), (0, ((bs [98]), ())))] : List Y12), (0, ([], (0, (0, (1, (false, ()))))))))] : List Y6), (([((bs [104, 111, 115, 116]), ((bs [120]), ())), ((bs [116, 101, 97, 109]), ((bs [97]), ()))] : List Y15), ())), ())).bind fun u21 =>
bif (decide (0 ≤ 1 ∧ 1 ≤ ([((bs [104, 111, 115, 116]), ((bs [120]), ())), ((bs [116, 101, 97, 109]), ((bs [97]), ()))] : List Y15).length)) then
bif (decide (0 + 1 ≤ ([((bs [104, 111, 115, 116]), ((bs [120]), ())), ((bs [116, 101, 97, 109]), ((bs [97]), ()))] : List Y15).length)) then
(m48 ((([((-1), ([], (0, ([], (0, (0, (1, (false, ())))))))), (0, (([((bs [116, 101, 97, 109]), (0, ((bs [97]), ())))] : List Y12), (0, ([(bs [116, 101, 97, 109])], (0, (0, (1, (false, ())))))))), (0, (([((bs [116, 101, 97, 109]), (0, ((bs [98]), ())))] : List Y12), (0, ([], (0, (0, (1, (false, ()))))))))] : List Y6), (((([((bs [104, 111, 115, 116]), ((bs [120]), ())), ((bs [116, 101, 97, 109]), ((bs [97]), ()))] : List Y15).drop 0).take 1), ())), ())).bind fun u22 =>
(((m49 ((([((-1), ([], (0, ([], (0, (0, (1, (false, ())))))))), (0, (([((bs [116, 101, 97, 109]), (0, ((bs [97]), ())))] : List Y12), (0, ([(bs [116, 101, 97, 109])], (0, (0, (1, (false, ())))))))), (0, (([((bs [116, 101, 97, 109]), (0, ((bs [98]), ())))] : List Y12), (0, ([], (0, (0, (1, (false, ()))))))))] : List Y6), ()), ())).bind fun u23 =>
bif ((u23.1.1 : Int) == 0) then (bif ((((u21.2.1.length : Nat) : Int) : Int) == 1) then (bif (decide ((0 : Int) ≤ 0 ∧ (0 : Int) < u21.2.1.length)) then
(u21.2.1[0]?).bind fun e24 =>
bif ((e24 : Int) == 1) then (bif ((((u22.2.1.length : Nat) : Int) : Int) == 1) then (bif (decide ((0 : Int) ≤ 0 ∧ (0 : Int) < u22.2.1.length)) then
(u22.2.1[0]?).bind fun e25 =>
bif ((e25 : Int) == 0) then (bif (decide ((0 : Int) ≤ 1 ∧ (1 : Int) < ([((-1), ([], (0, ([], (0, (0, (1, (false, ())))))))), (0, (([((bs [116, 101, 97, 109]), (0, ((bs [97]), ())))] : List Y12), (0, ([(bs [116, 101, 97, 109])], (0, (0, (1, (false, ())))))))), (0, (([((bs [116, 101, 97, 109]), (0, ((bs [98]), ())))] : List Y12), (0, ([], (0, (0, (1, (false, ()))))))))] : List Y6).length)) then
(([((-1), ([], (0, ([], (0, (0, (1, (false, ())))))))), (0, (([((bs [116, 101, 97, 109]), (0, ((bs [97]), ())))] : List Y12), (0, ([(bs [116, 101, 97, 109])], (0, (0, (1, (false, ())))))))), (0, (([((bs [116, 101, 97, 109]), (0, ((bs [98]), ())))] : List Y12), (0, ([], (0, (0, (1, (false, ()))))))))] : List Y6)[1]?).bind fun e26 =>
(m57 ((e26, (([((bs [104, 111, 115, 116]), ((bs [120]), ())), ((bs [116, 101, 97, 109]), ((bs [97]), ()))] : List Y15), ())), ())).bind fun u27 =>
bif (u27.1.1.toList == (bs [123, 116, 101, 97, 109, 61, 34, 97, 34, 125]).toList) then ((m51 ((([((-1), ([], (0, ([], (0, (0, (1, (false, ())))))))), (0, (([((bs [116, 101, 97, 109]), (0, ((bs [97]), ())))] : List Y12), (0, ([(bs [116, 101, 97, 109])], (0, (0, (1, (false, ())))))))), (0, (([((bs [116, 101, 97, 109]), (0, ((bs [98]), ())))] : List Y12), (0, ([], (0, (0, (1, (false, ()))))))))] : List Y6), (2, ())), ())).bind fun u28 =>
bif ((((u28.2.1.length : Nat) : Int) : Int) == 2) then ((m60 ((([((-1), ([], (0, ([], (0, (0, (1, (false, ())))))))), (0, (([((bs [116, 101, 97, 109]), (0, ((bs [97]), ())))] : List Y12), (0, ([(bs [116, 101, 97, 109])], (0, (0, (1, (false, ())))))))), (0, (([((bs [116, 101, 97, 109]), (0, ((bs [98]), ())))] : List Y12), (0, ([], (0, (0, (1, (false, ()))))))))] : List Y6), (0, ())), ())).bind fun u29 =>
some ((((((u29.2.1.length : Nat) : Int) : Int) == 2), ()), ()))
else (some ((false, ()), ())))
else (some ((false, ()), ()))
else none)
else (some ((false, ()), ()))
else none)
else (some ((false, ()), ())))
else (some ((false, ()), ()))
else none)
else (some ((false, ()), ())))
else (some ((false, ()), ()))) : Option Y13).bind fun v30 =>
some ((v30.1.1, ()), ())
else none
else none

def sp52 : Abs.Spec := ⟨0, i52, o52, m52⟩

def an52 : Nat → Abs.FAn
  | 0 => Abs.FAn.mk (fun
    | 4 => some ⟨[0], (.dat .bool .nil), .nil⟩
    | _ => none) (fun _ => none) (fun _ => none) (fun _ _ => 0)
  | _ => {}

theorem ok52 : Abs.SpecOK Tryd.prog 52 sp52 :=
  Abs.specOC_of (C := ctab) (mv := mvtab) ctab_ok (n := 12) (an := an52) (T := Abs.tabOf [(48, sp48), (49, sp49), (57, sp57), (51, sp51), (60, sp60)]) good foll (Abs.tabOf_ok _ (by simp only [List.forall_mem_cons]; exact ⟨ok48, ok49, ok57, ok51, ok60, fun _ h => by cases h⟩)) rfl (by intro v; kernel_rfl)

def l8_0_3 (v : ((Int × Int × Unit) × ((List Y6) × Unit))) : Option (((Int × Int × Unit) × ((List Y6) × Unit)) ⊕ ((Int × Unit) × ((List Y6) × Unit))) :=
bif (decide ((v.1.1 : Int) < 24)) then (bif (decide (v.2.1.length + ([((w64 (v.1.1 - 1)), ([], (0, ([], (0, (604800, (604800, (((((v.1.1 : Int).tmod 2) : Int) == 0), ()))))))))] : List Y6).length ≤ 4294967296)) then
let x254 := (v.2.1 ++ ([((w64 (v.1.1 - 1)), ([], (0, ([], (0, (604800, (604800, (((((v.1.1 : Int).tmod 2) : Int) == 0), ()))))))))] : List Y6))
some (.inl (((w64 (v.1.1 + 1)), (v.1.2.1, ())), (x254, ())))
else none)
else (some (.inr ((v.1.2.1, ()), (v.2.1, ()))))

def l8_1_4 (v : ((Int × Int × Unit) × Y16)) : Option (((Int × Int × Unit) × Y16) ⊕ (((Bool × Unit) × Y16) ⊕ ((Unit) × Y16))) :=
bif (decide ((v.1.1 : Int) < v.1.2.1)) then (bif (decide ((0 : Int) ≤ v.1.1 ∧ (v.1.1 : Int) < v.2.1.length)) then
(v.2.1[v.1.1.toNat]?).bind fun e266 =>
bif (decide ((0 : Int) ≤ v.1.1 ∧ (v.1.1 : Int) < v.2.2.1.length)) then
(v.2.2.1[v.1.1.toNat]?).bind fun e267 =>
bif ((e266 : Int) != e267) then (some (.inr (.inl ((false, ()), (v.2.1, (v.2.2.1, ()))))))
else (some (.inl (((w64 (v.1.1 + 1)), (v.1.2.1, ())), (v.2.1, (v.2.2.1, ())))))
else none
else none)
else (some (.inr (.inr ((), (v.2.1, (v.2.2.1, ()))))))

def l8_2_4 (v : ((Int × Int × Unit) × Y16)) : Option (((Int × Int × Unit) × Y16) ⊕ (((Bool × Unit) × Y16) ⊕ ((Unit) × Y16))) :=
bif (decide ((v.1.1 : Int) < v.1.2.1)) then (bif (decide ((0 : Int) ≤ v.1.1 ∧ (v.1.1 : Int) < v.2.1.length)) then
(v.2.1[v.1.1.toNat]?).bind fun e273 =>
bif (decide ((0 : Int) ≤ v.1.1 ∧ (v.1.1 : Int) < v.2.2.1.length)) then
(v.2.2.1[v.1.1.toNat]?).bind fun e274 =>
bif ((e273 : Int) != e274) then (some (.inr (.inl ((false, ()), (v.2.1, (v.2.2.1, ()))))))
else (some (.inl (((w64 (v.1.1 + 1)), (v.1.2.1, ())), (v.2.1, (v.2.2.1, ())))))
else none
else none)
else (some (.inr (.inr ((), (v.2.1, (v.2.2.1, ()))))))

def l8_3_4 (v : ((Int × Int × Unit) × Y16)) : Option (((Int × Int × Unit) × Y16) ⊕ (((Bool × Unit) × Y16) ⊕ ((Unit) × Y16))) :=
bif (decide ((v.1.1 : Int) < v.1.2.1)) then (bif (decide ((0 : Int) ≤ v.1.1 ∧ (v.1.1 : Int) < v.2.1.length)) then
(v.2.1[v.1.1.toNat]?).bind fun e279 =>
bif (decide ((0 : Int) ≤ v.1.1 ∧ (v.1.1 : Int) < v.2.2.1.length)) then
(v.2.2.1[v.1.1.toNat]?).bind fun e280 =>
bif ((e279 : Int) != e280) then (some (.inr (.inl ((false, ()), (v.2.1, (v.2.2.1, ()))))))
else (some (.inl (((w64 (v.1.1 + 1)), (v.1.2.1, ())), (v.2.1, (v.2.2.1, ())))))
else none
else none)
else (some (.inr (.inr ((), (v.2.1, (v.2.2.1, ()))))))

/- pagewatch/pagewatchlaw21.RouteLimits -/
def i8 : Abs.Sg := ⟨[0], (.dat (.int .u8) .nil), .nil⟩

def o8 : Abs.Sg := ⟨[2], (.dat .bool .nil), .nil⟩

def m8 (v : ((Int × Unit) × (Unit))) : Option Y13 :=
(loopT l8_0_3 ((0, (v.1.1, ())), ([], ()))).bind fun d255 =>
bif (decide (0 + d255.2.1.length ≤ 4294967296)) then
bif (decide ((0 : Int) ≤ (w64 (1 + (((w64 (d255.1.1)) : Int).tmod 23))) ∧ ((w64 (1 + (((w64 (d255.1.1)) : Int).tmod 23))) : Int) < d255.2.1.length)) then
(d255.2.1[(w64 (1 + (((w64 (d255.1.1)) : Int).tmod 23))).toNat]?).bind fun e256 =>
(m48 ((d255.2.1, ([], ())), ())).bind fun u257 =>
(m48 (((d255.2.1.set (w64 (1 + (((w64 (d255.1.1)) : Int).tmod 23))).toNat (e256.1, (([((bs [97]), (0, ((bs [120]), ())))] : List Y12), e256.2.2))), ([], ())), ())).bind fun u258 =>
(m48 (((d255.2.1.set (w64 (1 + (((w64 (d255.1.1)) : Int).tmod 23))).toNat (e256.1, (([((bs [97]), (0, ((bs [120]), ())))] : List Y12), e256.2.2))), (([((bs [97]), ((bs [120]), ()))] : List Y15), ())), ())).bind fun u259 =>
bif (decide (0 + d255.2.1.length ≤ 4294967296)) then
bif (decide ((0 : Int) ≤ 1 ∧ (1 : Int) < d255.2.1.length)) then
(d255.2.1[1]?).bind fun e260 =>
bif (decide (d255.2.1.length + ([e260] : List Y6).length ≤ 4294967296)) then
let x261 := (d255.2.1 ++ ([e260] : List Y6))
bif (decide (0 + d255.2.1.length ≤ 4294967296)) then
bif (decide ((0 : Int) ≤ (w64 (1 + (((w64 (d255.1.1)) : Int).tmod 23))) ∧ ((w64 (1 + (((w64 (d255.1.1)) : Int).tmod 23))) : Int) < d255.2.1.length)) then
(d255.2.1[(w64 (1 + (((w64 (d255.1.1)) : Int).tmod 23))).toNat]?).bind fun e262 =>
bif (decide ((0 : Int) ≤ (w64 (1 + (((w64 (d255.1.1)) : Int).tmod 23))) ∧ ((w64 (1 + (((w64 (d255.1.1)) : Int).tmod 23))) : Int) < d255.2.1.length)) then
(d255.2.1[(w64 (1 + (((w64 (d255.1.1)) : Int).tmod 23))).toNat]?).bind fun e263 =>
(((m49 ((d255.2.1, ()), ())).bind fun u264 =>
bif ((u264.1.1 : Int) == 0) then (let x265 := ((((u257.2.1.length : Nat) : Int) : Int) != (([23].length : Nat) : Int))
bif x265 then (bif (decide (u257.2.1.length = u257.2.1.length) && (decide ([23].length = [23].length) && true)) then
some ((false, ()), ())
else none)
else ((loopT l8_1_4 ((0, (((u257.2.1.length : Nat) : Int), ())), (u257.2.1, ([23], ())))).bind fun d268 =>
sumE d268 (fun d269 => (bif (decide (d269.2.1.length = u257.2.1.length) && (decide (d269.2.2.1.length = [23].length) && true)) then
bif d269.1.1 then (let x271 := (w64 ((w64 (1 + (((w64 (d255.1.1)) : Int).tmod 23))) - 1))
let x272 := ((((u258.2.1.length : Nat) : Int) : Int) != (([x271].length : Nat) : Int))
bif x272 then (bif (decide (u258.2.1.length = u258.2.1.length) && (decide ([x271].length = [x271].length) && true)) then
some ((false, ()), ())
else none)
else ((loopT l8_2_4 ((0, (((u258.2.1.length : Nat) : Int), ())), (u258.2.1, ([x271], ())))).bind fun d275 =>
sumE d275 (fun d276 => (bif (decide (d276.2.1.length = u258.2.1.length) && (decide (d276.2.2.1.length = [x271].length) && true)) then
bif d276.1.1 then (let x278 := ((((u259.2.1.length : Nat) : Int) : Int) != ((d269.2.1.length : Nat) : Int))
bif x278 then (bif (decide (u259.2.1.length = u259.2.1.length) && (decide (d269.2.1.length = d269.2.1.length) && true)) then
some ((false, ()), ())
else none)
else ((loopT l8_3_4 ((0, (((u259.2.1.length : Nat) : Int), ())), (u259.2.1, (d269.2.1, ())))).bind fun d281 =>
sumE d281 (fun d282 => (bif (decide (d282.2.1.length = u259.2.1.length) && (decide (d282.2.2.1.length = d269.2.1.length) && true)) then
bif d282.1.1 then ((m51 ((d255.2.1, ((w64 (1 + (((w64 (d255.1.1)) : Int).tmod 23))), ())), ())).bind fun u284 =>
let x285 := (w64 ((w64 (1 + (((w64 (d255.1.1)) : Int).tmod 23))) + 1))
let x286 := ((((u284.2.1.length : Nat) : Int) : Int) == x285)
bif x286 then ((m49 ((x261, ()), ())).bind fun u287 =>
bif ((u287.1.1 : Int) == 5) then ((m49 (((d255.2.1.set (w64 (1 + (((w64 (d255.1.1)) : Int).tmod 23))).toNat (e263.1, (e263.2.1, (e263.2.2.1, (e263.2.2.2.1, (e263.2.2.2.2.1, (e263.2.2.2.2.2.1, ((w64 (e262.2.2.2.2.2.2.1 + 1)), e263.2.2.2.2.2.2.2)))))))), ()), ())).bind fun u288 =>
bif ((u288.1.1 : Int) == 1) then ((m52 ((), ())).bind fun u289 =>
some ((u289.1.1, ()), ()))
else (some ((false, ()), ())))
else (some ((false, ()), ())))
else (some ((false, ()), ())))
else (some ((false, ()), ()))
else none)) (fun d283 => (bif (decide (d283.2.1.length = u259.2.1.length) && (decide (d283.2.2.1.length = d269.2.1.length) && true)) then
(m51 ((d255.2.1, ((w64 (1 + (((w64 (d255.1.1)) : Int).tmod 23))), ())), ())).bind fun u290 =>
let x291 := (w64 ((w64 (1 + (((w64 (d255.1.1)) : Int).tmod 23))) + 1))
let x292 := ((((u290.2.1.length : Nat) : Int) : Int) == x291)
bif x292 then ((m49 ((x261, ()), ())).bind fun u293 =>
bif ((u293.1.1 : Int) == 5) then ((m49 (((d255.2.1.set (w64 (1 + (((w64 (d255.1.1)) : Int).tmod 23))).toNat (e263.1, (e263.2.1, (e263.2.2.1, (e263.2.2.2.1, (e263.2.2.2.2.1, (e263.2.2.2.2.2.1, ((w64 (e262.2.2.2.2.2.2.1 + 1)), e263.2.2.2.2.2.2.2)))))))), ()), ())).bind fun u294 =>
bif ((u294.1.1 : Int) == 1) then ((m52 ((), ())).bind fun u295 =>
some ((u295.1.1, ()), ()))
else (some ((false, ()), ())))
else (some ((false, ()), ())))
else (some ((false, ()), ()))
else none))))
else (some ((false, ()), ()))
else none)) (fun d277 => (bif (decide (d277.2.1.length = u258.2.1.length) && (decide (d277.2.2.1.length = [x271].length) && true)) then
let x296 := ((((u259.2.1.length : Nat) : Int) : Int) != ((d269.2.1.length : Nat) : Int))
bif x296 then (bif (decide (u259.2.1.length = u259.2.1.length) && (decide (d269.2.1.length = d269.2.1.length) && true)) then
some ((false, ()), ())
else none)
else ((loopT l8_3_4 ((0, (((u259.2.1.length : Nat) : Int), ())), (u259.2.1, (d269.2.1, ())))).bind fun d297 =>
sumE d297 (fun d298 => (bif (decide (d298.2.1.length = u259.2.1.length) && (decide (d298.2.2.1.length = d269.2.1.length) && true)) then
bif d298.1.1 then ((m51 ((d255.2.1, ((w64 (1 + (((w64 (d255.1.1)) : Int).tmod 23))), ())), ())).bind fun u300 =>
let x301 := (w64 ((w64 (1 + (((w64 (d255.1.1)) : Int).tmod 23))) + 1))
let x302 := ((((u300.2.1.length : Nat) : Int) : Int) == x301)
bif x302 then ((m49 ((x261, ()), ())).bind fun u303 =>
bif ((u303.1.1 : Int) == 5) then ((m49 (((d255.2.1.set (w64 (1 + (((w64 (d255.1.1)) : Int).tmod 23))).toNat (e263.1, (e263.2.1, (e263.2.2.1, (e263.2.2.2.1, (e263.2.2.2.2.1, (e263.2.2.2.2.2.1, ((w64 (e262.2.2.2.2.2.2.1 + 1)), e263.2.2.2.2.2.2.2)))))))), ()), ())).bind fun u304 =>
bif ((u304.1.1 : Int) == 1) then ((m52 ((), ())).bind fun u305 =>
some ((u305.1.1, ()), ()))
else (some ((false, ()), ())))
else (some ((false, ()), ())))
else (some ((false, ()), ())))
else (some ((false, ()), ()))
else none)) (fun d299 => (bif (decide (d299.2.1.length = u259.2.1.length) && (decide (d299.2.2.1.length = d269.2.1.length) && true)) then
(m51 ((d255.2.1, ((w64 (1 + (((w64 (d255.1.1)) : Int).tmod 23))), ())), ())).bind fun u306 =>
let x307 := (w64 ((w64 (1 + (((w64 (d255.1.1)) : Int).tmod 23))) + 1))
let x308 := ((((u306.2.1.length : Nat) : Int) : Int) == x307)
bif x308 then ((m49 ((x261, ()), ())).bind fun u309 =>
bif ((u309.1.1 : Int) == 5) then ((m49 (((d255.2.1.set (w64 (1 + (((w64 (d255.1.1)) : Int).tmod 23))).toNat (e263.1, (e263.2.1, (e263.2.2.1, (e263.2.2.2.1, (e263.2.2.2.2.1, (e263.2.2.2.2.2.1, ((w64 (e262.2.2.2.2.2.2.1 + 1)), e263.2.2.2.2.2.2.2)))))))), ()), ())).bind fun u310 =>
bif ((u310.1.1 : Int) == 1) then ((m52 ((), ())).bind fun u311 =>
some ((u311.1.1, ()), ()))
else (some ((false, ()), ())))
else (some ((false, ()), ())))
else (some ((false, ()), ()))
else none)))
else none))))
else (some ((false, ()), ()))
else none)) (fun d270 => (bif (decide (d270.2.1.length = u257.2.1.length) && (decide (d270.2.2.1.length = [23].length) && true)) then
let x312 := (w64 ((w64 (1 + (((w64 (d255.1.1)) : Int).tmod 23))) - 1))
let x313 := ((((u258.2.1.length : Nat) : Int) : Int) != (([x312].length : Nat) : Int))
bif x313 then (bif (decide (u258.2.1.length = u258.2.1.length) && (decide ([x312].length = [x312].length) && true)) then
some ((false, ()), ())
else none)
else ((loopT l8_2_4 ((0, (((u258.2.1.length : Nat) : Int), ())), (u258.2.1, ([x312], ())))).bind fun d314 =>
sumE d314 (fun d315 => (bif (decide (d315.2.1.length = u258.2.1.length) && (decide (d315.2.2.1.length = [x312].length) && true)) then
bif d315.1.1 then (let x317 := ((((u259.2.1.length : Nat) : Int) : Int) != ((d270.2.1.length : Nat) : Int))
bif x317 then (bif (decide (u259.2.1.length = u259.2.1.length) && (decide (d270.2.1.length = d270.2.1.length) && true)) then
some ((false, ()), ())
else none)
else ((loopT l8_3_4 ((0, (((u259.2.1.length : Nat) : Int), ())), (u259.2.1, (d270.2.1, ())))).bind fun d318 =>
sumE d318 (fun d319 => (bif (decide (d319.2.1.length = u259.2.1.length) && (decide (d319.2.2.1.length = d270.2.1.length) && true)) then
bif d319.1.1 then ((m51 ((d255.2.1, ((w64 (1 + (((w64 (d255.1.1)) : Int).tmod 23))), ())), ())).bind fun u321 =>
let x322 := (w64 ((w64 (1 + (((w64 (d255.1.1)) : Int).tmod 23))) + 1))
let x323 := ((((u321.2.1.length : Nat) : Int) : Int) == x322)
bif x323 then ((m49 ((x261, ()), ())).bind fun u324 =>
bif ((u324.1.1 : Int) == 5) then ((m49 (((d255.2.1.set (w64 (1 + (((w64 (d255.1.1)) : Int).tmod 23))).toNat (e263.1, (e263.2.1, (e263.2.2.1, (e263.2.2.2.1, (e263.2.2.2.2.1, (e263.2.2.2.2.2.1, ((w64 (e262.2.2.2.2.2.2.1 + 1)), e263.2.2.2.2.2.2.2)))))))), ()), ())).bind fun u325 =>
bif ((u325.1.1 : Int) == 1) then ((m52 ((), ())).bind fun u326 =>
some ((u326.1.1, ()), ()))
else (some ((false, ()), ())))
else (some ((false, ()), ())))
else (some ((false, ()), ())))
else (some ((false, ()), ()))
else none)) (fun d320 => (bif (decide (d320.2.1.length = u259.2.1.length) && (decide (d320.2.2.1.length = d270.2.1.length) && true)) then
(m51 ((d255.2.1, ((w64 (1 + (((w64 (d255.1.1)) : Int).tmod 23))), ())), ())).bind fun u327 =>
let x328 := (w64 ((w64 (1 + (((w64 (d255.1.1)) : Int).tmod 23))) + 1))
let x329 := ((((u327.2.1.length : Nat) : Int) : Int) == x328)
bif x329 then ((m49 ((x261, ()), ())).bind fun u330 =>
bif ((u330.1.1 : Int) == 5) then ((m49 (((d255.2.1.set (w64 (1 + (((w64 (d255.1.1)) : Int).tmod 23))).toNat (e263.1, (e263.2.1, (e263.2.2.1, (e263.2.2.2.1, (e263.2.2.2.2.1, (e263.2.2.2.2.2.1, ((w64 (e262.2.2.2.2.2.2.1 + 1)), e263.2.2.2.2.2.2.2)))))))), ()), ())).bind fun u331 =>
bif ((u331.1.1 : Int) == 1) then ((m52 ((), ())).bind fun u332 =>
some ((u332.1.1, ()), ()))
else (some ((false, ()), ())))
else (some ((false, ()), ())))
else (some ((false, ()), ()))
else none))))
else (some ((false, ()), ()))
else none)) (fun d316 => (bif (decide (d316.2.1.length = u258.2.1.length) && (decide (d316.2.2.1.length = [x312].length) && true)) then
let x333 := ((((u259.2.1.length : Nat) : Int) : Int) != ((d270.2.1.length : Nat) : Int))
bif x333 then (bif (decide (u259.2.1.length = u259.2.1.length) && (decide (d270.2.1.length = d270.2.1.length) && true)) then
some ((false, ()), ())
else none)
else ((loopT l8_3_4 ((0, (((u259.2.1.length : Nat) : Int), ())), (u259.2.1, (d270.2.1, ())))).bind fun d334 =>
sumE d334 (fun d335 => (bif (decide (d335.2.1.length = u259.2.1.length) && (decide (d335.2.2.1.length = d270.2.1.length) && true)) then
bif d335.1.1 then ((m51 ((d255.2.1, ((w64 (1 + (((w64 (d255.1.1)) : Int).tmod 23))), ())), ())).bind fun u337 =>
let x338 := (w64 ((w64 (1 + (((w64 (d255.1.1)) : Int).tmod 23))) + 1))
let x339 := ((((u337.2.1.length : Nat) : Int) : Int) == x338)
bif x339 then ((m49 ((x261, ()), ())).bind fun u340 =>
bif ((u340.1.1 : Int) == 5) then ((m49 (((d255.2.1.set (w64 (1 + (((w64 (d255.1.1)) : Int).tmod 23))).toNat (e263.1, (e263.2.1, (e263.2.2.1, (e263.2.2.2.1, (e263.2.2.2.2.1, (e263.2.2.2.2.2.1, ((w64 (e262.2.2.2.2.2.2.1 + 1)), e263.2.2.2.2.2.2.2)))))))), ()), ())).bind fun u341 =>
bif ((u341.1.1 : Int) == 1) then ((m52 ((), ())).bind fun u342 =>
some ((u342.1.1, ()), ()))
else (some ((false, ()), ())))
else (some ((false, ()), ())))
else (some ((false, ()), ())))
else (some ((false, ()), ()))
else none)) (fun d336 => (bif (decide (d336.2.1.length = u259.2.1.length) && (decide (d336.2.2.1.length = d270.2.1.length) && true)) then
(m51 ((d255.2.1, ((w64 (1 + (((w64 (d255.1.1)) : Int).tmod 23))), ())), ())).bind fun u343 =>
let x344 := (w64 ((w64 (1 + (((w64 (d255.1.1)) : Int).tmod 23))) + 1))
let x345 := ((((u343.2.1.length : Nat) : Int) : Int) == x344)
bif x345 then ((m49 ((x261, ()), ())).bind fun u346 =>
bif ((u346.1.1 : Int) == 5) then ((m49 (((d255.2.1.set (w64 (1 + (((w64 (d255.1.1)) : Int).tmod 23))).toNat (e263.1, (e263.2.1, (e263.2.2.1, (e263.2.2.2.1, (e263.2.2.2.2.1, (e263.2.2.2.2.2.1, ((w64 (e262.2.2.2.2.2.2.1 + 1)), e263.2.2.2.2.2.2.2)))))))), ()), ())).bind fun u347 =>
bif ((u347.1.1 : Int) == 1) then ((m52 ((), ())).bind fun u348 =>
some ((u348.1.1, ()), ()))
else (some ((false, ()), ())))
else (some ((false, ()), ())))
else (some ((false, ()), ()))
else none)))
else none)))
else none))))
else (some ((false, ()), ()))) : Option Y13).bind fun v349 =>
some ((v349.1.1, ()), ())
else none
else none
else none
else none
else none
else none
else none
else none

def sp8 : Abs.Spec := ⟨0, i8, o8, m8⟩

def an8 : Nat → Abs.FAn
  | 0 => Abs.FAn.mk (fun
    | 14 => some ⟨[2], (.dat .bool .nil), .nil⟩
    | _ => none) (fun _ => none) (fun
    | 3 => some ⟨⟨[4, 3, 0], (.dat (.int .i64) (.st (.own Z2 (0, 0)) (.dat (.int .u8) .nil))), (.arr Z2 false .nil)⟩, (.one (.exit 0) ⟨[3, 0], (.st (.own Z2 (0, 0)) (.dat (.int .u8) .nil)), (.arr Z2 false .nil)⟩)⟩
    | _ => none) (fun
    | 14, 18 => 3
    | 14, 13 => 2
    | 14, 6 => 1
    | _, _ => 0)
  | 1 => Abs.FAn.mk (fun _ => none) (fun _ => none) (fun
    | 4 => some ⟨⟨[13, 1, 0, 12], (.dat (.int .i64) (.st (.own (.int .i64) (1, 0)) (.st (.own (.int .i64) (0, 0)) (.dat (.int .i64) .nil)))), (.arr (.int .i64) false (.arr (.int .i64) false .nil))⟩, (.more .ret ⟨[4], (.dat .bool .nil), (.arr (.int .i64) false (.arr (.int .i64) false .nil))⟩ (.one (.exit 0) ⟨[], .nil, (.arr (.int .i64) false (.arr (.int .i64) false .nil))⟩))⟩
    | _ => none) (fun _ _ => 0)
  | 2 => Abs.FAn.mk (fun _ => none) (fun _ => none) (fun
    | 4 => some ⟨⟨[13, 1, 0, 12], (.dat (.int .i64) (.st (.own (.int .i64) (1, 0)) (.st (.own (.int .i64) (0, 0)) (.dat (.int .i64) .nil)))), (.arr (.int .i64) false (.arr (.int .i64) false .nil))⟩, (.more .ret ⟨[4], (.dat .bool .nil), (.arr (.int .i64) false (.arr (.int .i64) false .nil))⟩ (.one (.exit 0) ⟨[], .nil, (.arr (.int .i64) false (.arr (.int .i64) false .nil))⟩))⟩
    | _ => none) (fun _ _ => 0)
  | 3 => Abs.FAn.mk (fun _ => none) (fun _ => none) (fun
    | 4 => some ⟨⟨[13, 1, 0, 12], (.dat (.int .i64) (.st (.own (.int .i64) (1, 0)) (.st (.own (.int .i64) (0, 0)) (.dat (.int .i64) .nil)))), (.arr (.int .i64) false (.arr (.int .i64) false .nil))⟩, (.more .ret ⟨[4], (.dat .bool .nil), (.arr (.int .i64) false (.arr (.int .i64) false .nil))⟩ (.one (.exit 0) ⟨[], .nil, (.arr (.int .i64) false (.arr (.int .i64) false .nil))⟩))⟩
    | _ => none) (fun _ _ => 0)
  | _ => {}

theorem ok8 : Abs.SpecOK Tryd.prog 8 sp8 :=
  Abs.specOC_of (C := ctab) (mv := mvtab) ctab_ok (n := 12) (an := an8) (T := Abs.tabOf [(48, sp48), (49, sp49), (51, sp51), (52, sp52)]) good foll (Abs.tabOf_ok _ (by simp only [List.forall_mem_cons]; exact ⟨ok48, ok49, ok51, ok52, fun _ h => by cases h⟩)) rfl (by intro v; kernel_rfl)

/- pagewatch/pagewatchlaw21.RouteExact -/

end
end Go.Proofs.YtcblbcpnfidndaaDoor

namespace Go.Proofs.YtcblbcpnfidndaaDoor
open Go Go.Abs
noncomputable section
/- pagewatch/mute.Silenced -/
def i64 : Abs.Sg := ⟨[0, 1, 2], (.dat (.row Z1) (.dat (.row Z7) (.dat (.int .i64) .nil))), .nil⟩

/- 116 pagewatch/mute.End$1: not told by a law: a closure -/

/- 115 slices.IndexFunc[[]pagewatch/api.Silence,pagewatch/api.Silence]: not told by a law: a parameter -/

/- 117 slices.Delete[[]pagewatch/api.Silence,pagewatch/api.Silence]: not told by a law: run where it is called -/

/- 146 pagewatch/mute.equal$1: not told by a law: a closure -/

/- 159 slices.IndexFunc[[]string,string]: not told by a law: a parameter -/

/- 145 slices.ContainsFunc[[]string,string]: not told by a law: a parameter -/

end
end Go.Proofs.YtcblbcpnfidndaaDoor

namespace Go.Proofs.YtcblbcpnfidndaaDoor
open Go Go.Abs Go.Lab
theorem getD_some {A : Type} {l : List A} {i : Nat} (h : i < l.length) : ∃ e, l[i]? = some e := ⟨_, List.getElem?_eq_getElem h⟩

/-! ### Bytes -/
abbrev bl (s : ByteArray) : List UInt8 := s.data.toList

abbrev LT : Type := ByteArray × ByteArray × Unit

abbrev MT : Type := ByteArray × Int × ByteArray × Unit

def u8 (c : UInt8) : Int := ((c.toNat : Nat) : Int)

abbrev keyS (s : ByteArray) : Bool := keyL (bl s)

abbrev valS (s : ByteArray) : Bool := valL (bl s)

/-- Whether a matcher is right. -/
def rightM (m : MT) : Bool := keyS m.1 && (decide (m.2.1 ≥ 0) && (decide (m.2.1 ≤ 3) && valS m.2.2.1))

def MSz (m : MT) : Prop := m.1.size ≤ 9223372036854775807 ∧ m.2.2.1.size ≤ 9223372036854775807

end Go.Proofs.YtcblbcpnfidndaaDoor

namespace Go.Proofs.YtcblbcpnfidndaaDoor
open Go Go.Abs Go.Lab
end Go.Proofs.YtcblbcpnfidndaaDoor

namespace Go.Proofs.YtcblbcpnfidndaaDoor
open Go Go.Abs Go.Lab
def starOK : Option (Nat × Nat) → Int → Int → Prop
  | none, s, _ => s = -1
  | some q, s, f => s = ((q.1 : Nat) : Int) ∧ f = ((q.2 : Nat) : Int)

/-- The state of the program's loop. -/
structure LS (P V : ByteArray) (p v : Nat) (star : Option (Nat × Nat)) (a : (Int × Int × Int × Int × ByteArray × ByteArray × Unit) × Unit) : Prop where
  inv : LInv (bl P) (bl V) p v star
  st : ∃ (s f : Int), a = (((p : Int), (v : Int), s, f, V, P, ()), ()) ∧ starOK star s f

/-- No value is long. -/
def LSz (l : List LT) : Prop := l.length ≤ 9223372036854775807 ∧ ∀ x ∈ l, x.2.1.size ≤ 4294967294

def PSz (m : MT) : Prop := m.2.2.1.size ≤ 4294967295

def PSs (ms : List MT) : Prop := ms.length ≤ 9223372036854775807 ∧ ∀ m ∈ ms, PSz m

end Go.Proofs.YtcblbcpnfidndaaDoor

namespace Go.Proofs.YtcblbcpnfidndaaDoor
open Go Go.Abs Go.Lab
end Go.Proofs.YtcblbcpnfidndaaDoor

namespace Go.Proofs.YtcblbcpnfidndaaDoor
open Go Go.Abs Go.Lab
/-- A matcher that is right, and short. -/
def GoodM (m : MT) : Prop := rightM m = true ∧ m.1.size ≤ 64 ∧ m.2.2.1.size ≤ 64 ∧ 0 ≤ m.2.1 ∧ m.2.1 ≤ 3

theorem GoodM.p {m : MT} (h : GoodM m) : PSz m := by have := h.2.2.1; unfold PSz; omega

theorem GoodM.z {m : MT} (h : GoodM m) : MSz m := by have := h.2.1; have := h.2.2.1; unfold MSz; omega

/-- Labels that are short. -/
def GoodL (l : List LT) : Prop := l.length ≤ 4 ∧ ∀ x ∈ l, x.1.size ≤ 64 ∧ x.2.1.size ≤ 64

theorem GoodL.z {l : List LT} (h : GoodL l) : LSz l := ⟨by have := h.1; omega, fun x hx => by have := (h.2 x hx).2; omega⟩

abbrev keys4 : List ByteArray := [(bs [97, 112, 112]), (bs [104, 111, 115, 116]), (bs [115, 101, 118]), (bs [116, 101, 97, 109])]

end Go.Proofs.YtcblbcpnfidndaaDoor

namespace Go.Proofs.YtcblbcpnfidndaaDoor
open Go Go.Abs Go.Lab
abbrev RuT : Type := List MT × List MT × List ByteArray × Unit

abbrev big : Nat := 9223372036854775807

/-- The sizes of a rule, of alerts. -/
def RSz (r : RuT) : Prop := PSs r.1 ∧ PSs r.2.1 ∧ r.2.2.1.length ≤ big

/-! ### The dice's rules -/
def GoodR (r : RuT) : Prop := r.1.length ≤ 8 ∧ r.2.1.length ≤ 8 ∧ (∀ m ∈ r.1, GoodM m) ∧ (∀ m ∈ r.2.1, GoodM m) ∧ r.2.2.1.Sublist keys4 ∧ r.1 ≠ [] ∧ r.2.1 ≠ []

theorem GoodR.z {r : RuT} (h : GoodR r) : RSz r := by
  obtain ⟨h1, h2, h3, h4, h5, _⟩ := h
  refine ⟨⟨by omega, fun m hm => (h3 m hm).p⟩, ⟨by omega, fun m hm => (h4 m hm).p⟩, ?_⟩
  have := h5.length_le
  rw [show keys4.length = 4 from rfl] at this
  unfold big; omega

end Go.Proofs.YtcblbcpnfidndaaDoor

namespace Go.Proofs.YtcblbcpnfidndaaDoor
open Go Go.Abs Go.Lab
/-! ### Silences -/
abbrev SiT : Type := Int × Int × Int × Int × List MT × Unit

def SSz (s : SiT) : Prop := s.2.2.2.2.1.length ≤ 4294967296 ∧ ∀ m ∈ s.2.2.2.2.1, PSz m ∧ MSz m

def SSs (l : List SiT) : Prop := l.length ≤ 1000 ∧ ∀ s ∈ l, SSz s

theorem SSz.p {s : SiT} (h : SSz s) : PSs s.2.2.2.2.1 := ⟨by have := h.1; omega, fun m hm => (h.2 m hm).1⟩

theorem SSs.at {l : List SiT} (h : SSs l) {i : Nat} {e : SiT} (he : l[i]? = some e) : SSz e := h.2 e (List.mem_of_getElem? he)

def chkS (last : Int) (s : SiT) : Int :=
  bif decide (s.1 < 1) || decide (s.1 ≤ last) then 6
  else bif decide (s.2.1 < 0) || (decide (s.2.1 ≥ s.2.2.1) || (decide (s.2.2.1 > 8589934592) || decide (s.2.2.2.1 < 0))) then 1
  else bif (s.2.2.2.2.1.length : Int) == 0 then 7
  else bif decide ((s.2.2.2.2.1.length : Int) > 8) then 5
  else bif s.2.2.2.2.1.all rightM then 0 else 8

def goS : Int → List SiT → Int
  | _, [] => 0
  | last, s :: r => bif chkS last s != 0 then chkS last s else goS s.1 r

/-- What is wrong with silences. -/
def chkE (l : List SiT) : Int := bif decide ((l.length : Int) > 24) then 5 else goS 0 l

end Go.Proofs.YtcblbcpnfidndaaDoor

namespace Go.Proofs.YtcblbcpnfidndaaDoor
open Go Go.Abs Go.Lab
def addE (l : List SiT) (s : SiT) : Int × List SiT := bif chkE (l ++ [s]) != 0 then (chkE (l ++ [s]), []) else (0, l ++ [s])

end Go.Proofs.YtcblbcpnfidndaaDoor

namespace Go.Proofs.YtcblbcpnfidndaaDoor
open Go Go.Abs Go.Lab
/-- A silence of the dice. -/
def GoodS (s : SiT) : Prop := 0 ≤ s.2.1 ∧ s.2.1 < s.2.2.1 ∧ s.2.2.1 ≤ 2000 ∧ 0 ≤ s.2.2.2.1 ∧ s.2.2.2.2.1 ≠ [] ∧ s.2.2.2.2.1.length ≤ 8 ∧ ∀ m ∈ s.2.2.2.2.1, GoodM m

theorem GoodS.z {s : SiT} (h : GoodS s) : SSz s := ⟨by have := h.2.2.2.2.2.1; omega, fun m hm => ⟨(h.2.2.2.2.2.2 m hm).p, (h.2.2.2.2.2.2 m hm).z⟩⟩

/-- Silences of the dice. -/
def GoodSs (l : List SiT) : Prop := l.length ≤ 3 ∧ goS 0 l = 0 ∧ ∀ s ∈ l, s.1 ≤ 2 * (l.length : Int) ∧ GoodS s

theorem GoodSs.z {l : List SiT} (h : GoodSs l) : SSs l := ⟨by have := h.1; omega, fun s hs => (h.2.2 s hs).2.z⟩

end Go.Proofs.YtcblbcpnfidndaaDoor

namespace Go.Proofs.YtcblbcpnfidndaaDoor
open Go Go.Abs Go.Lab
theorem add_zero {l : List SiT} {s : SiT} (h : (addE l s).1 = 0) : (addE l s).2 = l ++ [s] ∧ chkE (l ++ [s]) = 0 := by
  unfold addE at h ⊢
  cases hc : (chkE (l ++ [s]) != 0)
  · exact ⟨rfl, by simpa using hc⟩
  · rw [hc] at h
    rw [show chkE (l ++ [s]) = 0 from h] at hc
    cases hc

end Go.Proofs.YtcblbcpnfidndaaDoor

namespace Go.Proofs.YtcblbcpnfidndaaDoor
open Go Go.Abs Go.Lab
noncomputable def chain8 : List (Int × List MT × Int × List ByteArray × Int × Int × Int × Bool × Unit) := match loopT l8_0_3 ((0, 0, ()), ([], ())) with | some (_, l, _) => l | none => []

set_option maxRecDepth 100000 in
theorem loop8 (n : Int) : loopT l8_0_3 ((0, n, ()), ([], ())) = some ((n, ()), (chain8, ())) := by kernel_rfl

theorem same8 (n k : Int) (h : (w64 n).tmod 23 = (w64 k).tmod 23) : m8 ((n, ()), ()) = m8 ((k, ()), ()) := by
  unfold m8
  simp only [loop8, Option.bind_some, h]

noncomputable def try8 (k : Nat) : Bool := match m8 (((k : Int), ()), ()) with | some ((b, ()), ()) => b | none => false

set_option maxRecDepth 100000 in
theorem all8 : (List.range 23).all try8 = true := by kernel_rfl

theorem law8 : ∀ x, Abs.InRs [.int .u8] x → m8 (x, ()) = some ((true, ()), ()) := by
  intro x h
  have h0 : 0 ≤ (show Int from x.1) := h.1.1
  have h1 : (show Int from x.1) ≤ 255 := h.1.2
  have e : x = ((show Int from x.1), ()) := rfl
  rw [e]
  generalize (show Int from x.1) = n at h0 h1
  rw [same8 n (((n.toNat % 23 : Nat) : Nat) : Int) (by
    rw [w64_id (by omega) (by omega), w64_id (by omega) (by omega), Int.tmod_eq_emod_of_nonneg (by omega), Int.tmod_eq_emod_of_nonneg (by omega)]
    omega)]
  have := (List.all_eq_true.1 all8) (n.toNat % 23) (List.mem_range.2 (by omega))
  unfold try8 at this
  split at this
  · rename_i b hb
    rw [hb, this]
  · cases this

end Go.Proofs.YtcblbcpnfidndaaDoor
