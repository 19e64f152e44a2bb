/- Lemmas for the statement of the last text of this claim. -/
import Derived.Test.YtcblbcpnfidndaaDoorChecked
import Derived.Shelf.Strings.OnBuilder
import Derived.Shelf.Strings.IndexAnyAll
import Derived.Shelf.Strings.Search1
import Derived.ProofKit
import Derived.Shelf.Strings.Runes
import Derived.Shelf.Small.Utf8
import Derived.Lib.OthersKept
import Derived.Laws.RangeAny
import Derived.Laws.Runes
import Derived.WalkKit
import Derived.BigCall
import Derived.BigQuiet
import Derived.WalkMore
import Derived.Deep.DeepBigQuietO
import Derived.Deep.CutRange
import Derived.Test.YtcblbcpnfidndaaDoorPxO
import Derived.Test.YtcblbcpnfidndaaDoorPlD
import Derived.Deep.RegionLaw
import Derived.Deep.LoopGhost
import Derived.Lib.Walk
import Derived.Maps.Own
import Derived.Shelf.RegionOpenPlain
import Derived.Lib.LazyBuf
import Derived.Test.YtcblbcpnfidndaaDoorPxP
set_option linter.unusedSimpArgs false
set_option linter.unusedVariables false
namespace Go.Proofs.YtcblbcpnfidndaaDoor
open Go Go.Shelf Go.RowKit
def shr : Shelf.Ren :=
{ f := fun x => match x with
    | 153 => 135
    | 152 => 154
    | 226 => 155
    | 227 => 125
    | 228 => 148
    | 137 => 164
    | 119 => 165
    | 224 => 166
    | 225 => 167
    | 217 => 168
    | 266 => 170
    | 156 => 98
    | 165 => 133
    | 166 => 134
    | 167 => 131
    | 169 => 132
    | 240 => 152
    | 241 => 153
    | 276 => 162
    | 277 => 163
    | n => n
  t := fun x => match x with
    | 31 => 51
    | 9 => 9
    | 3 => 3
    | 4 => 4
    | 0 => 0
    | 20 => 20
    | 72 => 153
    | 76 => 159
    | 70 => 150
    | 37 => 151
    | 75 => 155
    | 127 => 168
    | 164 => 171
    | 5 => 5
    | 80 => 157
    | 21 => 21
    | 117 => 145
    | 116 => 144
    | 46 => 176
    | 124 => 148
    | n => n
  g := fun x => x }

set_option maxRecDepth 100000 in
theorem lays_n167 : Lays.n167 Tryd.prog shr :=
{ mixed := Eq.refl true,
  f167 := Eq.trans Tryd.func131 (congrArg some (Eq.refl (Body.n167 shr))),
  f240 := Eq.trans Tryd.func152 (congrArg some (Eq.refl (Body.n240 shr))),
  f276 := Eq.trans Tryd.func162 (congrArg some (Eq.refl (Body.n276 shr))),
  t0 := Tryd.underlying0,
  a0 := Tryd.isAgg0,
  z0 := Tryd.sizeOf0,
  v0 := Tryd.zeroValue0,
  t4 := Tryd.underlying4,
  a4 := Tryd.isAgg4,
  z4 := Tryd.sizeOf4,
  v4 := Tryd.zeroValue4,
  t5 := Tryd.underlying5,
  a5 := Tryd.isAgg5,
  z5 := Tryd.sizeOf5,
  v5 := Tryd.zeroValue5,
  t9 := Tryd.underlying9,
  a9 := Tryd.isAgg9,
  z9 := Tryd.sizeOf9,
  v9 := Tryd.zeroValue9,
  t20 := Tryd.underlying20,
  a20 := Tryd.isAgg20,
  z20 := Tryd.sizeOf20,
  v20 := Tryd.zeroValue20,
  t37 := Tryd.underlying151,
  a37 := Tryd.isAgg151,
  z37 := Tryd.sizeOf151,
  v37 := Tryd.zeroValue151,
  t70 := Tryd.underlying150,
  a70 := Tryd.isAgg150,
  z70 := Tryd.sizeOf150,
  v70 := Tryd.zeroValue150,
  t72 := Tryd.underlying153,
  a72 := Tryd.isAgg153,
  z72 := Tryd.sizeOf153,
  v72 := Tryd.zeroValue153,
  t75 := Tryd.underlying155,
  a75 := Tryd.isAgg155,
  z75 := Tryd.sizeOf155,
  v75 := Tryd.zeroValue155,
  t164 := Tryd.underlying171,
  a164 := Tryd.isAgg171,
  z164 := Tryd.sizeOf171,
  v164 := Tryd.zeroValue171 }

set_option maxRecDepth 100000 in
theorem lays_n169 : Lays.n169 Tryd.prog shr :=
{ mixed := Eq.refl true,
  f169 := Eq.trans Tryd.func132 (congrArg some (Eq.refl (Body.n169 shr))),
  t0 := Tryd.underlying0,
  a0 := Tryd.isAgg0,
  z0 := Tryd.sizeOf0,
  v0 := Tryd.zeroValue0,
  t3 := Tryd.underlying3,
  a3 := Tryd.isAgg3,
  z3 := Tryd.sizeOf3,
  v3 := Tryd.zeroValue3,
  t9 := Tryd.underlying9,
  a9 := Tryd.isAgg9,
  z9 := Tryd.sizeOf9,
  v9 := Tryd.zeroValue9,
  t37 := Tryd.underlying151,
  a37 := Tryd.isAgg151,
  z37 := Tryd.sizeOf151,
  v37 := Tryd.zeroValue151,
  t70 := Tryd.underlying150,
  a70 := Tryd.isAgg150,
  z70 := Tryd.sizeOf150,
  v70 := Tryd.zeroValue150,
  t72 := Tryd.underlying153,
  a72 := Tryd.isAgg153,
  z72 := Tryd.sizeOf153,
  v72 := Tryd.zeroValue153,
  t127 := Tryd.underlying168,
  a127 := Tryd.isAgg168,
  z127 := Tryd.sizeOf168,
  v127 := Tryd.zeroValue168 }

set_option maxRecDepth 100000 in
theorem lays_n156 : Lays.n156 Tryd.prog shr :=
{ mixed := Eq.refl true,
  f156 := Eq.trans Tryd.func98 (congrArg some (Eq.refl (Body.n156 shr))),
  f165 := Eq.trans Tryd.func133 (congrArg some (Eq.refl (Body.n165 shr))),
  f166 := Eq.trans Tryd.func134 (congrArg some (Eq.refl (Body.n166 shr))),
  f169 := Eq.trans Tryd.func132 (congrArg some (Eq.refl (Body.n169 shr))),
  f240 := Eq.trans Tryd.func152 (congrArg some (Eq.refl (Body.n240 shr))),
  f241 := Eq.trans Tryd.func153 (congrArg some (Eq.refl (Body.n241 shr))),
  f276 := Eq.trans Tryd.func162 (congrArg some (Eq.refl (Body.n276 shr))),
  f277 := Eq.trans Tryd.func163 (congrArg some (Eq.refl (Body.n277 shr))),
  t0 := Tryd.underlying0,
  a0 := Tryd.isAgg0,
  z0 := Tryd.sizeOf0,
  v0 := Tryd.zeroValue0,
  t3 := Tryd.underlying3,
  a3 := Tryd.isAgg3,
  z3 := Tryd.sizeOf3,
  v3 := Tryd.zeroValue3,
  t4 := Tryd.underlying4,
  a4 := Tryd.isAgg4,
  z4 := Tryd.sizeOf4,
  v4 := Tryd.zeroValue4,
  t9 := Tryd.underlying9,
  a9 := Tryd.isAgg9,
  z9 := Tryd.sizeOf9,
  v9 := Tryd.zeroValue9,
  t20 := Tryd.underlying20,
  a20 := Tryd.isAgg20,
  z20 := Tryd.sizeOf20,
  v20 := Tryd.zeroValue20,
  t31 := Tryd.underlying51,
  a31 := Tryd.isAgg51,
  z31 := Tryd.sizeOf51,
  v31 := Tryd.zeroValue51,
  t37 := Tryd.underlying151,
  a37 := Tryd.isAgg151,
  z37 := Tryd.sizeOf151,
  v37 := Tryd.zeroValue151,
  t70 := Tryd.underlying150,
  a70 := Tryd.isAgg150,
  z70 := Tryd.sizeOf150,
  v70 := Tryd.zeroValue150,
  t72 := Tryd.underlying153,
  a72 := Tryd.isAgg153,
  z72 := Tryd.sizeOf153,
  v72 := Tryd.zeroValue153,
  t75 := Tryd.underlying155,
  a75 := Tryd.isAgg155,
  z75 := Tryd.sizeOf155,
  v75 := Tryd.zeroValue155,
  t76 := Tryd.underlying159,
  a76 := Tryd.isAgg159,
  z76 := Tryd.sizeOf159,
  v76 := Tryd.zeroValue159,
  t127 := Tryd.underlying168,
  a127 := Tryd.isAgg168,
  z127 := Tryd.sizeOf168,
  v127 := Tryd.zeroValue168,
  t164 := Tryd.underlying171,
  a164 := Tryd.isAgg171,
  z164 := Tryd.sizeOf171,
  v164 := Tryd.zeroValue171 }

set_option maxRecDepth 100000 in
theorem lays_n217 : Lays.n217 Tryd.prog shr :=
{ mixed := Eq.refl true,
  f217 := Eq.trans Tryd.func168 (congrArg some (Eq.refl (Body.n217 shr))),
  f266 := Eq.trans Tryd.func170 (congrArg some (Eq.refl (Body.n266 shr))),
  t3 := Tryd.underlying3,
  a3 := Tryd.isAgg3,
  z3 := Tryd.sizeOf3,
  v3 := Tryd.zeroValue3,
  t5 := Tryd.underlying5,
  a5 := Tryd.isAgg5,
  z5 := Tryd.sizeOf5,
  v5 := Tryd.zeroValue5,
  t9 := Tryd.underlying9,
  a9 := Tryd.isAgg9,
  z9 := Tryd.sizeOf9,
  v9 := Tryd.zeroValue9 }

set_option maxRecDepth 100000 in
theorem lays_n153 : Lays.n153 Tryd.prog shr :=
{ mixed := Eq.refl true,
  f119 := Eq.trans Tryd.func165 (congrArg some (Eq.refl (Body.n119 shr))),
  f137 := Eq.trans Tryd.func164 (congrArg some (Eq.refl (Body.n137 shr))),
  f152 := Eq.trans Tryd.func154 (congrArg some (Eq.refl (Body.n152 shr))),
  f153 := Eq.trans Tryd.func135 (congrArg some (Eq.refl (Body.n153 shr))),
  f217 := Eq.trans Tryd.func168 (congrArg some (Eq.refl (Body.n217 shr))),
  f224 := Eq.trans Tryd.func166 (congrArg some (Eq.refl (Body.n224 shr))),
  f225 := Eq.trans Tryd.func167 (congrArg some (Eq.refl (Body.n225 shr))),
  f226 := Eq.trans Tryd.func155 (congrArg some (Eq.refl (Body.n226 shr))),
  f227 := Eq.trans Tryd.func125 (congrArg some (Eq.refl (Body.n227 shr))),
  f228 := Eq.trans Tryd.func148 (congrArg some (Eq.refl (Body.n228 shr))),
  f266 := Eq.trans Tryd.func170 (congrArg some (Eq.refl (Body.n266 shr))),
  t0 := Tryd.underlying0,
  a0 := Tryd.isAgg0,
  z0 := Tryd.sizeOf0,
  v0 := Tryd.zeroValue0,
  t3 := Tryd.underlying3,
  a3 := Tryd.isAgg3,
  z3 := Tryd.sizeOf3,
  v3 := Tryd.zeroValue3,
  t4 := Tryd.underlying4,
  a4 := Tryd.isAgg4,
  z4 := Tryd.sizeOf4,
  v4 := Tryd.zeroValue4,
  t5 := Tryd.underlying5,
  a5 := Tryd.isAgg5,
  z5 := Tryd.sizeOf5,
  v5 := Tryd.zeroValue5,
  t9 := Tryd.underlying9,
  a9 := Tryd.isAgg9,
  z9 := Tryd.sizeOf9,
  v9 := Tryd.zeroValue9,
  t21 := Tryd.underlying21,
  a21 := Tryd.isAgg21,
  z21 := Tryd.sizeOf21,
  v21 := Tryd.zeroValue21,
  t46 := Tryd.underlying176,
  a46 := Tryd.isAgg176,
  z46 := Tryd.sizeOf176,
  v46 := Tryd.zeroValue176,
  t116 := Tryd.underlying144,
  a116 := Tryd.isAgg144,
  z116 := Tryd.sizeOf144,
  t117 := Tryd.underlying145,
  a117 := Tryd.isAgg145,
  z117 := Tryd.sizeOf145,
  v117 := Tryd.zeroValue145,
  t124 := Tryd.underlying148,
  a124 := Tryd.isAgg148,
  z124 := Tryd.sizeOf148,
  v124 := Tryd.zeroValue148 }

set_option maxRecDepth 100000 in
theorem bextra : Builder.Extra Tryd.prog shr :=
{ sizeBuilder := Eq.refl (some 2), liesBuilder := Eq.refl true, t5 := Tryd.underlying5, a5 := Tryd.isAgg5, z5 := Tryd.sizeOf5, v5 := Tryd.zeroValue5,
  infoByte := Eq.refl (some (some (Value.int IntKind.u8 0), 1, 1)), cellsByte := Eq.refl 1, sizeByte := Eq.refl (some 1), neB5 := by decide }

end Go.Proofs.YtcblbcpnfidndaaDoor

namespace Go.Proofs.YtcblbcpnfidndaaDoor
open Go Go.Shelf Go.RowKit Go.Lib Go.Proofs
variable {P : Program} {ρ : Ren}
theorem below_drewNv {B : Nat} {a w : World} (h : Below B a w) (q : Nat) : Below B a (w.drewN q) := ⟨h.os, h.tape, h.output, h.size, h.block⟩

theorem indexByte_no {l : List UInt8} {c : UInt8} : (∀ b ∈ l, b ≠ c) → Lib.indexByte l c = -1 := by
  induction l with
  | nil => intro _; rfl
  | cons b l ih =>
    intro h
    have hb : (b == c) = false := by simpa using h b (List.mem_cons_self)
    rw [Lib.indexByte, ih fun x hx => h x (List.mem_cons_of_mem _ hx), hb]
    rfl

theorem validRune_of (r : Int) : Lib.validRune r = Utf8.valid r := by
  unfold Lib.validRune Utf8.valid
  by_cases h : (0 ≤ r ∧ r < 55296) ∨ (57343 < r ∧ r ≤ 1114111)
  · rw [decide_eq_true h]; rcases h with h | h <;> simp <;> omega
  · rw [decide_eq_false h]; simp; omega

set_option maxHeartbeats 8000000 in
set_option maxRecDepth 1000000 in
/-- A rune that is no ASCII is in no ASCII text. -/
theorem strings_IndexRune_high (L : Lays.n152 P ρ) (s : ByteArray) (r : Int) (w : World) (h0 : 128 ≤ r) (h1 : r ≤ 2147483647) (hz : s.size < 4294967296) (hs : ∀ b ∈ s.data.toList, b.toNat < 128) :
    Calls P (ρ.f 152) #[.string s, .int .i32 r] w fun e w' => e = .returned (.int .i64 (-1)) ∧ Below w.heap.size w w' := by
  have HS : Aside (∀ b ∈ s.data.toList, b.toNat < 128) := hs
  clear hs
  have mixed := L.mixed
  have t3 := L.t3; have a3 := L.a3; have z3 := L.z3; have v3 := L.v3
  have t4 := L.t4; have a4 := L.a4; have z4 := L.z4; have v4 := L.v4
  have t5 := L.t5; have a5 := L.a5; have z5 := L.z5; have v5 := L.v5
  have t9 := L.t9; have a9 := L.a9; have z9 := L.z9; have v9 := L.v9
  have t21 := L.t21; have a21 := L.a21; have z21 := L.z21; have v21 := L.v21
  have e137 : ∀ args w, (callFunc (ρ.f 137) args).run P w = .ok (.enter (ρ.f 137) args) w := enters_of L.f137 (by kernel_rfl) rfl
  have e119 : ∀ args w, (callFunc (ρ.f 119) args).run P w = .ok (.enter (ρ.f 119) args) w := enters_of L.f119 (by kernel_rfl) rfl
  by_cases hr : r = 65533
  · subst hr
    go_enter L.f152, Body.n152_ntmps ρ
    go_wp2
    go_loopg [5, 6] s.size (fun g _ _ wx => ∃ i : Nat, i + g = s.size ∧ wx = w.iter s i)
    case atStart => exact ⟨0, by omega, rfl⟩
    case round =>
      obtain ⟨i, hig, rfl⟩ := hrel
      cases gk with
      | zero =>
        obtain rfl : i = s.size := by omega
        have hnx := run_next_end (P := P) w s s.size
        go_wp2
        go_ret
        exact ⟨rfl, (Below.refl _ _).alloc (Nat.le_refl _) _⟩
      | succ g =>
        have hi : i < s.size := by omega
        obtain ⟨x, hx⟩ : ∃ x : UInt8, s[i]'hi = x := ⟨_, rfl⟩
        have hx128 : x.toNat < 128 := by
          have := Lib.data_getElem? s i hi
          rw [hx] at this
          exact HS.out x (List.mem_of_getElem? this)
        have hnx := fun ty => run_next_ascii (P := P) w s i ty hi (by rw [hx]; exact hx128)
        rw [hx] at hnx
        have hne : ((x.toNat : Int) == 65533) = false := beq_eq_false_iff_ne.2 (by omega)
        go_wp2
        go_roundg g
        case measure => omega
        case rel => exact ⟨i + 1, by omega, rfl⟩
  · have hr1 : (r == 65533) = false := beq_eq_false_iff_ne.2 hr
    have hrl : ¬ r < 128 := by omega
    cases hv : Lib.validRune r with
    | false =>
      go_enter L.f152, Body.n152_ntmps ρ
      go_wp2_with (go_at_fn (ρ.f 119); refine (Any.utf8_ValidRune { L with } _ _).mono ?_; rintro e w' ⟨rfl, hw⟩; rw [hw, hv])
      go_ret
      exact ⟨rfl, Below.refl _ _⟩
    | true =>
      have hvu : Utf8.valid r = true := by rw [← validRune_of]; exact hv
      obtain ⟨e1, e2, e3⟩ := encode_facts r hvu h0
      obtain ⟨rs, hrs⟩ : ∃ rs, Utf8.encode r = rs := ⟨_, rfl⟩
      rw [hrs] at e1 e2
      simp only [hrs] at e3
      obtain ⟨n, hn⟩ : ∃ n, rs.size = n + 1 := ⟨rs.size - 1, by omega⟩
      have hlt : n < rs.size := by omega
      obtain ⟨c, hc⟩ : ∃ c : UInt8, rs[n]'hlt = c := ⟨_, rfl⟩
      have hc128 : 128 ≤ c.toNat := by
        have := e3 (by omega)
        simp only [show rs.size - 1 = n by omega] at this
        rw [hc] at this
        exact this
      have hcv : ∀ w, (convert (ρ.t 21) (ρ.t 9) (.int .i32 r)).run P w = .ok (.string rs) w := fun w => by rw [run_convert_int_string w _ _ _ _ (by rw [L.t21]; rfl) L.t9, hrs]
      clear e3
      by_cases hin : n < s.size
      · obtain ⟨x, hx⟩ : ∃ x : UInt8, s[n]'hin = x := ⟨_, rfl⟩
        have hx128 : x.toNat < 128 := by
          have := Lib.data_getElem? s n hin
          rw [hx] at this
          exact HS.out x (List.mem_of_getElem? this)
        have hxc : ((x.toNat : Int) == c.toNat) = false := beq_eq_false_iff_ne.2 (by omega)
        have hib : Lib.indexByte (s.extract (n + 1) s.size).data.toList c = -1 := indexByte_no fun b hb e => by
          have := HS.out b (mem_extract hb)
          rw [e] at this
          omega
        have hz : decide ((128:Int) ≤ r) = true := decide_eq_true h0
        go_enter L.f152, Body.n152_ntmps ρ
        go_wp2_with (go_at_fn (ρ.f 119); refine (Any.utf8_ValidRune { L with } _ _).mono ?_; rintro e w' ⟨rfl, hw⟩; rw [hw, hv])
        go_step3
        go_wp2
        go_loopg [9, 10] 0 (fun _ s9 _ wx => s9 = .int .i64 n ∧ wx = w)
        case atStart => exact ⟨rfl, rfl⟩
        case round =>
          obtain ⟨rfl, rfl⟩ := hrel
          have hix1 : ∀ w, (Instr.index (ρ.t 9) (.string s) (.int .i64 n)).run P w = .ok (.int .u8 x.toNat) w := fun w => by
            rw [run_index_string w _ _ _ _ L.t9, dif_pos (by omega)]
            simp [hx]
          have hix2 : ∀ w, (Instr.index (ρ.t 9) (.string rs) (.int .i64 n)).run P w = .ok (.int .u8 c.toNat) w := fun w => by
            rw [run_index_string w _ _ _ _ L.t9, dif_pos (by omega)]
            simp [hc]
          go_wp2
          go_step3
          go_wp2
          go_big_quiet_o (fail)
          have hb1 : Below wr.heap.size wr (wr.drewN nq) := below_drewNv (Below.refl _ _) nq
          generalize wr.drewN nq = wq at hb1 ⊢
          go_wp2
          have cB : ∀ W, Calls P (ρ.f 137) #[.string (s.extract (n + 1) s.size), .int .u8 c.toNat] W fun e w' => e = .returned (.int .i64 (-1)) ∧ ∃ q, w' = W.drewN q := fun W => by
            refine (Any.strings_IndexByte { L with } _ _ _).mono ?_
            rintro e w' ⟨rfl, hw⟩
            exact ⟨by rw [show ((c.toNat : Int)).toNat.toUInt8 = c by simp, hib], 0, hw⟩
          go_big_quiet_o (first | (go_at_fn (ρ.f 137); refine Calls.quiet_of (cB _)))
          go_wp2
          rw [Exit.noGoto_ret]
          go_wp2
          rw [Exit.noGoto_ret]
          go_ret
          exact ⟨rfl, below_drewNv hb1 _⟩
      · go_enter L.f152, Body.n152_ntmps ρ
        go_wp2_with (go_at_fn (ρ.f 119); refine (Any.utf8_ValidRune { L with } _ _).mono ?_; rintro e w' ⟨rfl, hw⟩; rw [hw, hv])
        go_step3
        go_wp2
        go_loopg [9, 10] 0 (fun _ s9 _ wx => s9 = .int .i64 n ∧ wx = w)
        case atStart => exact ⟨rfl, rfl⟩
        case round =>
          obtain ⟨rfl, rfl⟩ := hrel
          go_wp2
          rw [Exit.noGoto_ret]
          go_ret
          exact ⟨rfl, Below.refl _ _⟩

theorem width_pos (s : ByteArray) (pos : Nat) (h : pos < s.size) : 1 ≤ (Utf8.decode s pos).2 := by
  by_cases ha : (s[pos]'h).toNat < 128
  · rw [decode_ascii s pos h ha]
    exact Nat.le_refl _
  · exact (decode_high s pos h (by omega)).2

/-- A rune that begins with a byte of 128 or more has no ASCII byte in it. -/
theorem decode_span (s : ByteArray) (pos : Nat) (h : pos < s.size) (ha : 128 ≤ (s[pos]'h).toNat) : pos + (Utf8.decode s pos).2 ≤ s.size ∧ ∀ (j : Nat) (b : UInt8), pos ≤ j → j < pos + (Utf8.decode s pos).2 → s.data.toList[j]? = some b → 128 ≤ b.toNat := by
  have hget : ∀ (j : Nat) (b : UInt8), s.data.toList[j]? = some b → (s.get! j).toNat = b.toNat := fun j b hb => by
    have hj : j < s.size := by
      rw [Lib.size_eq]
      exact (List.getElem?_eq_some_iff.1 hb).1
    have e1 := Lib.data_getElem? s j hj
    rw [hb] at e1
    have e2 : s.get! j = s[j]'hj := by
      simp [ByteArray.get!, getElem!_pos, hj]
      rfl
    rw [e2, ← Option.some.inj e1]
  have h0 : 128 ≤ (s.get! pos).toNat := by
    have e1 := Lib.data_getElem? s pos h
    rw [hget pos _ e1]
    exact ha
  have key : ∀ n : Nat, pos + n ≤ s.size → (∀ k, k < n → 128 ≤ (s.get! (pos + k)).toNat) → pos + n ≤ s.size ∧ ∀ (j : Nat) (b : UInt8), pos ≤ j → j < pos + n → s.data.toList[j]? = some b → 128 ≤ b.toNat := fun n h1 h2 => ⟨h1, fun j b ja jb hb => by
    have := h2 (j - pos) (by omega)
    rw [show pos + (j - pos) = j by omega, hget j b hb] at this
    exact this⟩
  have k1 : (1 : Nat) = 1 → pos + 1 ≤ s.size ∧ ∀ (j : Nat) (b : UInt8), pos ≤ j → j < pos + 1 → s.data.toList[j]? = some b → 128 ≤ b.toNat := fun _ => key 1 (by omega) fun k hk => by
    obtain rfl : k = 0 := by omega
    exact h0
  simp only [Utf8.decode, Nat.add_zero]
  rw [if_neg (by omega)]
  split
  · rename_i c1
    simp only [Bool.and_eq_true, decide_eq_true_eq, beq_iff_eq] at c1
    split
    · refine key 2 (by omega) fun k hk => ?_
      match k with
      | 0 => exact h0
      | 1 => omega
    · exact k1 rfl
  · split
    · rename_i _ c1
      simp only [Bool.and_eq_true, decide_eq_true_eq, beq_iff_eq] at c1
      split
      · refine key 3 (by omega) fun k hk => ?_
        match k with
        | 0 => exact h0
        | 1 => omega
        | 2 => omega
      · exact k1 rfl
    · split
      · rename_i _ _ c1
        simp only [Bool.and_eq_true, decide_eq_true_eq, beq_iff_eq] at c1
        split
        · refine key 4 (by omega) fun k hk => ?_
          match k with
          | 0 => exact h0
          | 1 => omega
          | 2 => omega
          | 3 => omega
        · exact k1 rfl
      · exact k1 rfl

theorem NoAny.skip {s : ByteArray} {chars : List UInt8} {i k : Nat} (hc : ∀ b ∈ chars, b.toNat < 128) (h : Lib.NoAny s.data.toList chars i) (hk : ∀ (j : Nat) (b : UInt8), i ≤ j → j < k → s.data.toList[j]? = some b → 128 ≤ b.toNat) : Lib.NoAny s.data.toList chars k := fun j b hj hb => by
  by_cases hji : j < i
  · exact h j b hji hb
  · have := hk j b (by omega) hj hb
    cases hcon : chars.contains b
    · rfl
    · have := hc b (by simpa using hcon)
      omega

set_option maxHeartbeats 8000000 in
set_option maxRecDepth 1000000 in
/-- s of at most 8 bytes, whichever they are; chars of two or more, all ASCII. -/
theorem strings_IndexAny_short (L : Lays.n153 P ρ) (s chars : ByteArray) (w : World) (h2 : 2 ≤ chars.size) (h8 : s.size ≤ 8) (hcs : chars.size < 4294967281) (hac : ∀ b ∈ chars.data.toList, b.toNat < 128) :
    Calls P (ρ.f 153) #[.string s, .string chars] w fun e w' => e = .returned (.int .i64 (Lib.indexAny s.data.toList chars.data.toList)) ∧ Below w.heap.size w w' := by
  have HA : Aside (∀ b ∈ chars.data.toList, b.toNat < 128) := hac
  clear hac
  have hemp : chars.toList.isEmpty = false := by
    rw [Lib.toList_data]
    cases h : chars.data.toList with
    | nil => have := Lib.size_eq chars; rw [h, List.length_nil] at this; omega
    | cons _ _ => rfl
  have hn1 : ((chars.size : Int) == 1) = false := beq_eq_false_iff_ne.2 (by omega)
  have h8z : decide ((8 : Int) < (s.size : Int)) = false := decide_eq_false (by omega)
  have t3 := L.t3; have a3 := L.a3; have z3 := L.z3; have v3 := L.v3
  have t4 := L.t4; have a4 := L.a4; have z4 := L.z4; have v4 := L.v4
  have t5 := L.t5; have a5 := L.a5; have z5 := L.z5; have v5 := L.v5
  have t9 := L.t9; have a9 := L.a9; have z9 := L.z9; have v9 := L.v9
  have t21 := L.t21; have a21 := L.a21; have z21 := L.z21; have v21 := L.v21
  have e152 : ∀ args w, (callFunc (ρ.f 152) args).run P w = .ok (.enter (ρ.f 152) args) w := enters_of L.f152 (by kernel_rfl) rfl
  have e226 : ∀ args w, (callFunc (ρ.f 226) args).run P w = .ok (.enter (ρ.f 226) args) w := enters_of L.f226 (by kernel_rfl) rfl
  go_enter L.f153, Body.n153_ntmps ρ
  go_wp2_with (go_at_fn (ρ.f 226); refine (Any.strings_shouldUseASCIISet { L with } _ _).mono ?_; rintro e w' ⟨rfl, hw⟩; rw [hw, h8z])
  go_loopg [9, 10] s.size (fun g _ _ wx => ∃ i : Nat, i ≤ s.size ∧ s.size ≤ i + g ∧ wx.heap[w.heap.size]? = some (.stringIter s i) ∧ Below w.heap.size w wx ∧ Lib.NoAny s.data.toList chars.data.toList i)
  case atStart => exact ⟨0, by omega, by omega, World.iter_heap w s 0, (Below.refl _ _).alloc (Nat.le_refl _) _, Lib.NoAny.zero _ _⟩
  case round =>
    obtain ⟨i, hig, hi2, hit, hbw, hno⟩ := hrel
    have HN : Aside (Lib.NoAny s.data.toList chars.data.toList i) := hno
    clear hno
    by_cases hi : i < s.size
    · have hnx : ∀ ty, (Instr.next (.pointer (some ⟨w.heap.size, 0, none⟩)) true ty).run P wr = _ := fun ty => Lib.run_next_any_at wr w.heap.size s i ty hit hi
      obtain ⟨x, hx⟩ : ∃ x : UInt8, s[i]'hi = x := ⟨_, rfl⟩
      have hxl : s.data.toList[i]? = some x := by rw [← hx]; exact Lib.data_getElem? s i hi
      have Hx : Aside (s.data.toList[i]? = some x) := hxl
      clear hxl
      have hwd := width_pos s i hi
      have hd1 := decode_le s i
      have hit2 := Lib.iterAt_heap wr w.heap.size s i (i + (Utf8.decode s i).2) hit
      have hbw2 := Lib.below_iterAt hbw (k := w.heap.size) (by omega) s (i + (Utf8.decode s i).2)
      have hsz : w.heap.size < wr.heap.size := (Array.getElem?_eq_some_iff.1 hit).1
      have hsz2 : w.heap.size < (wr.iterAt w.heap.size s (i + (Utf8.decode s i).2)).heap.size := by rw [Lib.iterAt_size]; omega
      by_cases ha : x.toNat < 128
      · have hde := decode_ascii s i hi (by rw [hx]; exact ha)
        rw [hx] at hde
        simp only [hde] at hnx hit2 hbw2 hsz2
        generalize wr.iterAt w.heap.size s (i + 1) = W1 at hnx hit2 hbw2 hsz2
        have hcon := Lib.contains_iff_indexByte chars.data.toList x
        have hback : ((x.toNat : Int)).toNat.toUInt8 = x := by simp
        clear hbw hit hde hd1 hwd hx
        cases hin : chars.data.toList.contains x
        · rw [hin] at hcon
          have hlt : ¬ ((0 : Int) ≤ Lib.indexByte chars.data.toList x) := of_decide_eq_false hcon.symm
          clear hcon
          go_wp2_with (go_at_fn (ρ.f 152); refine (Any.strings_IndexRune_ascii { L with } _ _ _ (by omega) (by omega)).mono ?_; rintro e w' ⟨rfl, hw⟩; rw [hw, hback])
          go_roundg (s.size - (i + 1))
          case measure => omega
          case rel => exact ⟨i + 1, by omega, by omega, hit2, hbw2, HN.out.succ Hx.out hin⟩
        · rw [hin] at hcon
          have hge : (0 : Int) ≤ Lib.indexByte chars.data.toList x := of_decide_eq_true hcon.symm
          clear hcon
          go_wp2_with (go_at_fn (ρ.f 152); refine (Any.strings_IndexRune_ascii { L with } _ _ _ (by omega) (by omega)).mono ?_; rintro e w' ⟨rfl, hw⟩; rw [hw, hback])
          go_ret
          exact ⟨by rw [Lib.indexAny_hit HN.out Hx.out hin]; rfl, hbw2⟩
      · have hdh := decode_high s i hi (by rw [hx]; omega)
        have Hsp : Aside _ := decode_span s i hi (by rw [hx]; omega)
        generalize wr.iterAt w.heap.size s (i + (Utf8.decode s i).2) = W1 at hnx hit2 hbw2 hsz2
        generalize (Utf8.decode s i).2 = k at hnx hit2 hwd Hsp hdh
        generalize (Utf8.decode s i).1 = r at hnx hd1 hdh
        clear hbw hit hx
        go_wp2_with (go_at_fn (ρ.f 152); refine (strings_IndexRune_high { L with } _ _ _ (by omega) (by omega) (by omega) HA.out).mono ?_; rintro e W2 ⟨rfl, hW2⟩)
        go_roundg (s.size - (i + k))
        case measure => omega
        case rel => exact ⟨i + k, Hsp.out.1, by omega, by rw [hW2.block _ hsz2]; exact hit2, ⟨hW2.os.trans hbw2.os, hW2.tape.trans hbw2.tape, hW2.output.trans hbw2.output, Nat.le_trans hbw2.size hW2.size, fun b hb => by rw [hW2.block b (by omega)]; exact hbw2.block b hb⟩, NoAny.skip HA.out HN.out Hsp.out.2⟩
    · obtain rfl : i = s.size := by omega
      have hnx : ∀ ty, (Instr.next (.pointer (some ⟨w.heap.size, 0, none⟩)) true ty).run P wr = _ := fun ty => Lib.run_next_end_at wr w.heap.size s s.size ty hit hi
      go_wp2
      go_ret
      exact ⟨by rw [Lib.indexAny_none (by rw [← Lib.size_eq]; exact HN.out)]; rfl, hbw⟩

/-- strings.IndexAny where chars is ASCII, of at least two bytes: at every text. -/
theorem strings_IndexAny (L : Lays.n153 P ρ) (hv116 : ∀ w, (zeroValue (ρ.t 116)).run P w = .ok (.agg (Array.replicate 256 (.bool false))) w) (hi116 : (P.info? (ρ.t 116)).map (·.size) = some 256) (s chars : ByteArray) (w : World) (h2 : 2 ≤ chars.size) (hs : s.size < 4294967281) (hcs : chars.size < 4294967281) (hac : ∀ b ∈ chars.data.toList, b.toNat < 128) :
    Calls P (ρ.f 153) #[.string s, .string chars] w fun e w' => e = .returned (.int .i64 (Lib.indexAny s.data.toList chars.data.toList)) ∧ Below w.heap.size w w' := by
  by_cases h8 : s.size ≤ 8
  · exact strings_IndexAny_short L s chars w h2 h8 hcs hac
  · refine (Any.strings_IndexAny_long L hv116 hi116 s chars w h2 (by omega) hs hcs (fun j b hb => hac b (List.mem_of_getElem? hb))).mono fun e w' ⟨h1, h2⟩ => ⟨h1, ?_⟩
    rw [h2]
    exact ((Below.refl _ _).alloc (Nat.le_refl _) _).alloc (by simp) _

end Go.Proofs.YtcblbcpnfidndaaDoor

namespace Go.Proofs.YtcblbcpnfidndaaDoor
open Go Go.Abs Go.RowKit
theorem kept_below {w w' : World} (h : Below w.heap.size w w') : Kept w w' := ⟨h.os, h.tape, h.output, h.size, h.block⟩

theorem hand168 : CallOK Tryd.prog 168 (pureC hfIdx) := pure_ok (entered Tryd.func168 rfl (by decide)) (by
  intro args v h
  unfold hfIdx at h
  split at h
  · rename_i s c
    have := Tr.mean_ret h
    subst this
    refine ⟨_, rfl, fun w X vals hsz hv => ?_⟩
    have h0 := PR.strInv (hv 0 _ rfl)
    have h1 := PR.int_inv (hv 1 _ rfl)
    have hvv := two_vals (vals := vals) (by simpa using hsz)
    rw [h0, h1] at hvv
    rw [hvv]
    refine (Any.stringslite_IndexByte (ρ := shr) lays_n217 s c w).mono ?_
    rintro e w' ⟨rfl, rfl⟩
    exact ⟨rfl, Kept.refl _⟩
  · exact (Tr.mean_fail h).elim)

set_option maxRecDepth 100000 in
theorem hand135 : CallOK Tryd.prog 135 (pureC hfAny) := pure_ok (entered Tryd.func135 rfl (by decide)) (by
  intro args v h
  unfold hfAny at h
  split at h
  · rename_i s c
    obtain ⟨hc, h⟩ := Tr.mean_need h
    have := Tr.mean_ret h
    subst this
    refine ⟨_, rfl, fun w X vals hsz hv => ?_⟩
    have h0 := PR.strInv (hv 0 _ rfl)
    have h1 := PR.strInv (hv 1 _ rfl)
    have hvv := two_vals (vals := vals) (by simpa using hsz)
    rw [h0, h1] at hvv
    rw [hvv]
    simp only [Bool.and_eq_true, decide_eq_true_eq, isAsc, List.all_eq_true] at hc
    refine (strings_IndexAny (ρ := shr) lays_n153 Tryd.zeroValue144 (by kernel_rfl) s c w hc.1.1 hc.2.1 hc.2.2 hc.1.2).mono ?_
    rintro e w' ⟨rfl, hb⟩
    exact ⟨rfl, kept_below hb⟩
  · exact (Tr.mean_fail h).elim)

theorem row_str {w : World} {X : XT} {v : Value} {l : List ByteArray} {tg : Bool} {ℓ : Lens} (h : PR w X v (d1 ℓ (.row .str l tg))) :
    (l = [] ∧ ∃ a cap, v = .slice a 0 cap) ∨ ∃ b o cap, v = .slice (some ⟨b, o, none⟩) l.length cap ∧ l.length ≤ cap ∧ ∀ (j : Nat) (x : ByteArray), l[j]? = some x → w.cell? ⟨b, o + j, none⟩ = some (.string x) := by
  have e : d1 ℓ (.row .str l tg) = .lst (lsz 1 (l.map fun x => AV.str x)) (l.map fun x => AV.str x) tg := rfl
  rw [e] at h
  cases hl : l with
  | nil =>
    left
    rw [hl] at h
    refine ⟨rfl, ?_⟩
    simp only [List.map_nil] at h
    cases h with
    | lst0 a cap sz t ht => exact ⟨a, cap, rfl⟩
    | lst b o n cap sz t xs f hn hc ht hsz hx hr => simp at hn; subst hn; exact ⟨_, cap, rfl⟩
  | cons y r =>
    right
    rw [← hl]
    have hz : lsz 1 (l.map fun x => AV.str x) = 1 := by rw [hl]; rfl
    rw [hz] at h
    generalize hxs : (l.map fun x => AV.str x) = xs at h
    have hlen : xs.length = l.length := by rw [← hxs]; simp
    cases h with
    | lst0 a cap sz t ht => rw [hl] at hlen; simp at hlen
    | lst b o n cap sz t xs f hn hc ht hsz hx hr =>
      refine ⟨b, o, cap, by rw [← hlen, hn], by omega, fun j x hj => ?_⟩
      have hxj : xs[j]? = some (.str x) := by rw [← hxs, List.getElem?_map, hj]; rfl
      obtain ⟨_, h2, _⟩ := hx j _ hxj 0 (.str x) rfl
      have h3 := hr j _ hxj 0 (.str x) rfl
      have h4 : f j 0 = .string x := PR.strInv h3
      rw [h4] at h2
      simpa using h2

set_option maxRecDepth 100000 in
theorem hand98 : CallOK Tryd.prog 98 (pureC hfJoin) := pure_ok (entered Tryd.func98 rfl (by decide)) (by
  intro args v h
  unfold hfJoin at h
  split at h
  · rename_i l tg sep
    obtain ⟨hc, h⟩ := Tr.mean_need h
    have hc := of_decide_eq_true hc
    have := Tr.mean_ret h
    subst this
    refine ⟨_, rfl, fun w X vals hsz hv => ?_⟩
    have h0 := row_str (hv 0 _ rfl)
    have h1 := PR.strInv (hv 1 _ rfl)
    have hvv := two_vals (vals := vals) (by simpa using hsz)
    rw [h1] at hvv
    have hsz2 : (Lib.join (List.map (fun x => x.data.toList) (show List ByteArray from l)) sep.data.toList).length ≤ 140737488355328 := by
      have := hc.2
      rwa [show (hJoin (show List ByteArray from l) sep).size = (Lib.join (List.map (fun x => x.data.toList) (show List ByteArray from l)) sep.data.toList).length from by simp [hJoin, mkB, ByteArray.size]] at this
    rcases h0 with ⟨hl, a, cap, e⟩ | ⟨b, o, cap, e, hle, hcell⟩
    · rw [hvv, e]
      refine (Any.strings_Join_none (ρ := shr) lays_n156 bextra a cap sep w).mono ?_
      rintro e w' ⟨rfl, rfl⟩
      refine ⟨?_, Kept.refl _⟩
      have hl : (show List ByteArray from l) = [] := hl
      show Ending.returned _ = Ending.returned (.string (hJoin (show List ByteArray from l) sep))
      rw [hl]; rfl
    · rw [hvv, e]
      have hb : l ≠ [] → b < w.heap.size := fun hne => by
        cases hl : (show List ByteArray from l) with
        | nil => exact absurd hl hne
        | cons y r =>
          have := hcell 0 y (by show (show List ByteArray from l)[0]? = _; rw [hl]; rfl)
          rcases Nat.lt_or_ge b w.heap.size with h' | h'
          · exact h'
          · simp [World.cell?, Array.getElem?_eq_none h'] at this
      by_cases hne : l = []
      · have hl : (show List ByteArray from l) = [] := hne
        have e0 : List.length (show List ByteArray from l) = 0 := by rw [hl]; rfl
        show Calls Tryd.prog 98 #[.slice (some ⟨b, o, none⟩) (List.length (show List ByteArray from l)) cap, .string sep] w _
        rw [e0]
        refine (Any.strings_Join_none (ρ := shr) lays_n156 bextra (some ⟨b, o, none⟩) cap sep w).mono ?_
        rintro e w' ⟨rfl, rfl⟩
        refine ⟨?_, Kept.refl _⟩
        show Ending.returned _ = Ending.returned (.string (hJoin (show List ByteArray from l) sep))
        rw [hl]; rfl
      · refine (Any.strings_Join (ρ := shr) lays_n156 bextra b o cap (show List ByteArray from l) sep w hcell (hb hne) (Nat.le_trans hc.1 (by decide)) hle hsz2).mono ?_
        rintro e w' ⟨rfl, hbw⟩
        exact ⟨rfl, kept_below hbw⟩
  · exact (Tr.mean_fail h).elim)

end Go.Proofs.YtcblbcpnfidndaaDoor

namespace Go.Proofs.YtcblbcpnfidndaaDoor
open Go Go.Abs Go.RowKit
theorem wByte (B b : Nat) (bs : List Value) (c : Int) (w : World) (h : Lib.IsBuilder 153 5 B b bs w) (hlen : bs.length + 1 ≤ 140737488355328) (hBw : B ≤ w.heap.size) :
    Calls Tryd.prog 131 #[.pointer (some ⟨b, 0, none⟩), .int .u8 c] w fun e w' => e = .returned .nilIface ∧ (Lib.BuilderAt 153 5 B b (.pointer (some ⟨b, 0, none⟩)) (bs ++ [.int .u8 c]) w' ∧ Below B w w') :=
  Any.Builder_WriteByte (ρ := shr) lays_n167 bextra B b bs c w h hlen hBw

theorem bString (B b : Nat) (l : List UInt8) (w : World) (h : Lib.IsBuilder 153 5 B b (Lib.byteCells l) w) (hBw : B ≤ w.heap.size) :
    Calls Tryd.prog 132 #[.pointer (some ⟨b, 0, none⟩)] w fun e w' => e = .returned (.string ⟨l.toArray⟩) ∧ Below B w w' :=
  Any.Builder_String_any (ρ := shr) lays_n169 bextra B b l w h hBw

theorem esc_snoc : ∀ (l : List UInt8) (c : UInt8), Lab.esc (l ++ [c]) = Lab.esc l ++ (if c = 34 ∨ c = 92 then [92, c] else [c])
  | [], c => by simp only [List.nil_append, Lab.esc]
  | d :: l, c => by
    simp only [List.cons_append, Lab.esc, esc_snoc l c]
    split <;> simp

theorem take_snoc (s : ByteArray) (k : Nat) (h : k < s.size) : s.data.toList.take (k + 1) = s.data.toList.take k ++ [s[k]] := by
  have h' : k < s.data.toList.length := by rw [Array.length_toList]; exact h
  rw [List.take_add_one, List.getElem?_eq_getElem h']
  rfl

set_option maxHeartbeats 4000000 in
set_option maxRecDepth 1000000 in
theorem quoted_calls (s : ByteArray) (w : World) (hs : s.size ≤ 4294967296) :
    Calls Tryd.prog 97 #[.string s] w fun e w' => e = .returned (.string (hQuote s)) ∧ Below w.heap.size w w' := by
  go_enter Tryd.func97, Tryd.ntmps97
  go_wp2_with (go_at_call 131; refine (wByte w.heap.size w.heap.size [] 34 _ (Lib.fresh_isBuilder 153 5 w) (by simp) (by simp)).mono ?_)
  rintro e w1 ⟨rfl, h1, b1⟩
  have b1 : Below w.heap.size w w1 := ((Below.refl _ w).alloc (Nat.le_refl _) _).trans b1
  go_wp2
  go_loopw [8] (fun v wr => ∃ k : Nat, k ≤ s.size ∧ v = .int .i64 k ∧ Lib.BuilderAt 153 5 w.heap.size w.heap.size (.pointer (some ⟨w.heap.size, 0, none⟩)) (Lib.byteCells (34 :: Lab.esc (s.data.toList.take k))) wr ∧ Below w.heap.size w wr) (fun v wr => s.size - (intOf v).toNat)
  case atStart => exact ⟨0, Nat.zero_le _, rfl, by simpa [Lab.esc, Lib.byteCells] using h1, b1⟩
  case round =>
    obtain ⟨k, hk, rfl, hI, hbw⟩ := hrel
    by_cases hp : k < s.size
    · have hsn := take_snoc s k hp
      have hlen : (Lib.byteCells (34 :: Lab.esc (s.data.toList.take k))).length ≤ 2 * k + 1 := by
        have := Lab.esc_len (s.data.toList.take k)
        rw [Lib.byteCells_length]
        simp only [List.length_cons, List.length_take] at this ⊢
        omega
      have hle : w.heap.size ≤ wr.heap.size := hbw.size
      have two : ∀ (w2 w3 : World), s[k] = 34 ∨ s[k] = 92 → Lib.BuilderAt 153 5 w.heap.size w.heap.size (.pointer (some ⟨w.heap.size, 0, none⟩)) (Lib.byteCells (34 :: Lab.esc (s.data.toList.take k)) ++ [Value.int .u8 92] ++ [Value.int .u8 s[k].toNat]) w3 →
          Lib.BuilderAt 153 5 w.heap.size w.heap.size (.pointer (some ⟨w.heap.size, 0, none⟩)) (Lib.byteCells (34 :: Lab.esc (s.data.toList.take (k + 1)))) w3 := by
        intro w2 w3 hq h
        rw [hsn, esc_snoc, if_pos hq]
        simpa [Lib.byteCells] using h
      have one : ∀ (w3 : World), ¬ (s[k] = 34 ∨ s[k] = 92) → Lib.BuilderAt 153 5 w.heap.size w.heap.size (.pointer (some ⟨w.heap.size, 0, none⟩)) (Lib.byteCells (34 :: Lab.esc (s.data.toList.take k)) ++ [Value.int .u8 s[k].toNat]) w3 →
          Lib.BuilderAt 153 5 w.heap.size w.heap.size (.pointer (some ⟨w.heap.size, 0, none⟩)) (Lib.byteCells (34 :: Lab.esc (s.data.toList.take (k + 1)))) w3 := by
        intro w3 hq h
        rw [hsn, esc_snoc, if_neg hq]
        simpa [Lib.byteCells] using h
      have byte34 : ((s[k].toNat : Int) = 34) → s[k] = 34 := fun h => UInt8.toNat_inj.1 (by show s[k].toNat = 34; omega)
      have byte92 : ((s[k].toNat : Int) = 92) → s[k] = 92 := fun h => UInt8.toNat_inj.1 (by show s[k].toNat = 92; omega)
      have both : ((s[k].toNat : Int) == 34) = true ∨ ((s[k].toNat : Int) == 92) = true → s[k] = 34 ∨ s[k] = 92 := by
        rintro (h | h)
        · exact .inl (byte34 (by simpa using h))
        · exact .inr (byte92 (by simpa using h))
      have neither : ((s[k].toNat : Int) == 34) = false ∧ ((s[k].toNat : Int) == 92) = false → ¬ (s[k] = 34 ∨ s[k] = 92) := by
        intro h h2
        rcases h2 with h2 | h2 <;> rw [h2] at h
        · cases h.1
        · cases h.2
      go_wp2_with (go_at_call 131; fail)
      · have hq : s[k] = 34 ∨ s[k] = 92 := .inl (byte34 (by assumption))
        refine (wByte w.heap.size w.heap.size _ 92 wr (Or.inr hI) (by omega) hle).mono ?_
        rintro e w2 ⟨rfl, h2, b2⟩
        go_wp2_with (go_at_call 131; fail)
        refine (wByte w.heap.size w.heap.size _ _ w2 (Or.inr h2) (by simp only [List.length_append, List.length_singleton]; omega) (by have := b2.size; omega)).mono ?_
        rintro e w3 ⟨rfl, h3, b3⟩
        go_wp2
        go_roundw
        case rel => exact ⟨k + 1, by omega, by simp, two w2 w3 hq (by rw [show (s[k].toNat : Int) = 34 from by assumption]; exact h3), (hbw.trans b2).trans b3⟩
        case measure => simp [intOf]; omega
      · have hq : s[k] = 34 ∨ s[k] = 92 := both (by assumption)
        refine (wByte w.heap.size w.heap.size _ 92 wr (Or.inr hI) (by omega) hle).mono ?_
        rintro e w2 ⟨rfl, h2, b2⟩
        go_wp2_with (go_at_call 131; fail)
        refine (wByte w.heap.size w.heap.size _ _ w2 (Or.inr h2) (by simp only [List.length_append, List.length_singleton]; omega) (by have := b2.size; omega)).mono ?_
        rintro e w3 ⟨rfl, h3, b3⟩
        go_wp2
        go_roundw
        case rel => exact ⟨k + 1, by omega, by simp, two w2 w3 hq h3, (hbw.trans b2).trans b3⟩
        case measure => simp [intOf]; omega
      · have hq : ¬ (s[k] = 34 ∨ s[k] = 92) := neither (by assumption)
        refine (wByte w.heap.size w.heap.size _ _ wr (Or.inr hI) (by omega) hle).mono ?_
        rintro e w3 ⟨rfl, h3, b3⟩
        go_wp2
        go_roundw
        case rel => exact ⟨k + 1, by omega, by simp, one w3 hq h3, hbw.trans b3⟩
        case measure => simp [intOf]; omega
    · have hk2 : k = s.size := by omega
      subst hk2
      have hI2 : Lib.BuilderAt 153 5 w.heap.size w.heap.size (.pointer (some ⟨w.heap.size, 0, none⟩)) (Lib.byteCells (34 :: Lab.esc s.data.toList)) wr := by
        have e : s.data.toList.take s.size = s.data.toList := List.take_of_length_le (by rw [Array.length_toList]; exact Nat.le_refl _)
        rw [e] at hI; exact hI
      have hlen : (Lib.byteCells (34 :: Lab.esc s.data.toList)).length ≤ 2 * s.size + 1 := by
        have := Lab.esc_len s.data.toList
        have e : s.data.toList.length = s.size := Array.length_toList
        rw [e] at this
        rw [Lib.byteCells_length, List.length_cons]
        omega
      have hle : w.heap.size ≤ wr.heap.size := hbw.size
      go_wp2_with (go_at_call 131; fail)
      refine (wByte w.heap.size w.heap.size _ 34 wr (Or.inr hI2) (by omega) hle).mono ?_
      rintro e w2 ⟨rfl, h2, b2⟩
      go_wp2_with (go_at_call 132; fail)
      have h2' : Lib.BuilderAt 153 5 w.heap.size w.heap.size (.pointer (some ⟨w.heap.size, 0, none⟩)) (Lib.byteCells (34 :: (Lab.esc s.data.toList ++ [34]))) w2 := by
        simpa [Lib.byteCells] using h2
      refine (bString w.heap.size w.heap.size _ w2 (Or.inr h2') (by have := b2.size; omega)).mono ?_
      rintro e w3 ⟨rfl, b3⟩
      go_wp2
      go_ret
      exact ⟨rfl, (hbw.trans b2).trans b3⟩

theorem hand97 : CallOK Tryd.prog 97 (pureC hfQuote) := pure_ok (entered Tryd.func97 rfl (by decide)) (by
  intro args v h
  unfold hfQuote at h
  split at h
  · rename_i s
    obtain ⟨hc, h⟩ := Tr.mean_need h
    have hc := of_decide_eq_true hc
    have := Tr.mean_ret h
    subst this
    refine ⟨_, rfl, fun w X vals hsz hv => ?_⟩
    have h0 := PR.strInv (hv 0 _ rfl)
    have hvv := one_val (vals := vals) (by simpa using hsz)
    rw [h0] at hvv
    rw [hvv]
    refine (quoted_calls s w hc).mono ?_
    rintro e w' ⟨rfl, hb⟩
    exact ⟨rfl, kept_below hb⟩
  · exact (Tr.mean_fail h).elim)

theorem drop_atB (s : ByteArray) (k : Nat) (h : k < s.size) : s.data.toList.drop k = s[k] :: s.data.toList.drop (k + 1) := by
  have h' : k < s.data.toList.length := by rw [Array.length_toList]; exact h
  rw [List.drop_eq_getElem_cons h']
  rfl

theorem drop_end (s : ByteArray) : s.data.toList.drop s.size = [] := List.drop_eq_nil_of_le (by rw [Array.length_toList]; exact Nat.le_refl _)

theorem extract_drop (s : ByteArray) (k : Nat) : s.extract k s.size = mkB (s.data.toList.drop k) := Lib.extract_from s k

set_option maxHeartbeats 4000000 in
set_option maxRecDepth 1000000 in
theorem unquoted_calls (s : ByteArray) (w : World) (hs : s.size ≤ 4294967296) :
    Calls Tryd.prog 105 #[.string s] w fun e w' => e = .returned (.tuple #[.string (hUnq s).1, .string (hUnq s).2.1, .bool (hUnq s).2.2]) ∧ Below w.heap.size w w' := by
  by_cases he : s.size = 0
  · have hs0 : s = ⟨#[]⟩ := ByteArray.ext (Array.eq_empty_of_size_eq_zero he)
    subst hs0
    go_enter Tryd.func105, Tryd.ntmps105
    go_wp2
    go_ret3
    exact ⟨rfl, Below.refl _ _⟩
  · have hdat := drop_atB s 0 (by omega)
    rw [List.drop_zero] at hdat
    have hne : s.toList.isEmpty = false := by rw [ByteArray.toList_eq, hdat]; rfl
    by_cases h34 : s[0]'(by omega) = 34
    · have hU : hUnq s = match Lab.unq (s.data.toList.drop 1) with | some (v, q) => (mkB v, mkB q, true) | none => (ByteArray.empty, ByteArray.empty, false) := by
        unfold hUnq
        rw [hdat, h34]
        rfl
      go_enter Tryd.func105, Tryd.ntmps105
      go_wp2
      go_loopw [6] (fun v wr => ∃ (k : Nat) (acc : List UInt8), 1 ≤ k ∧ k ≤ s.size ∧ v = .int .i64 k ∧ Lib.IsBuilder 153 5 w.heap.size w.heap.size (Lib.byteCells acc) wr ∧ Below w.heap.size w wr ∧ acc.length ≤ k ∧ Lib.Kept (Lab.unq (s.data.toList.drop 1) = (Lab.unq (s.data.toList.drop k)).map fun p => (acc ++ p.1, p.2))) (fun v wr => s.size - (intOf v).toNat)
      case atStart =>
        refine ⟨1, [], Nat.le_refl _, by omega, rfl, Lib.fresh_isBuilder 153 5 w, (Below.refl _ w).alloc (Nat.le_refl _) _, Nat.zero_le _, ?_⟩
        show _ = _
        cases Lab.unq (s.data.toList.drop 1) <;> rfl
      case round =>
        obtain ⟨k, acc, hk1, hk, rfl, hI, hbw, hacc, hun⟩ := hrel
        have hle : w.heap.size ≤ wr.heap.size := hbw.size
        by_cases hp : k < s.size
        · have hdk := drop_atB s k hp
          by_cases c34 : s[k] = 34
          · have e34 : ((s[k].toNat : Int) == 34) = true := by rw [c34]; rfl
            have hun' : Lab.unq (s.data.toList.drop 1) = (Lab.unq (s.data.toList.drop k)).map fun p => (acc ++ p.1, p.2) := hun
            rw [hdk, c34, Lab.unq_end, Option.map_some, List.append_nil] at hun'
            have hwr : IntKind.i64.wrap ((k : Int) + 1) = (k : Int) + 1 := w64_id (x := (k : Int) + 1) (by omega) (by omega)
            have ha : (0 : Int) ≤ (k : Int) + 1 := by omega
            have hb : (k : Int) + 1 ≤ (s.size : Int) := by omega
            go_wp2_with fail
            go_region_with (go_at_call 132; refine (bString w.heap.size w.heap.size acc wr.drew hI hle).mono ?_; rintro e w3 ⟨rfl, b3⟩)
            all_goals go_wp2
            all_goals go_ret3
            all_goals exact ⟨by rw [hU, hun', extract_drop]; rfl, hbw.trans ⟨b3.os, b3.tape, b3.output, b3.size, b3.block⟩⟩
          · have e34 : ((s[k].toNat : Int) == 34) = false := by
              have hn : (s[k].toNat : Int) ≠ 34 := fun h => c34 (UInt8.toNat_inj.1 (by show s[k].toNat = 34; omega))
              simpa using hn
            go_wp2_with (go_at_call 131; fail)
            · have hun' : Lab.unq (s.data.toList.drop 1) = (Lab.unq (s.data.toList.drop k)).map fun p => (acc ++ p.1, p.2) := hun
              rw [hdk] at hun'
              have h92 : s[k] = 92 := UInt8.toNat_inj.1 (by have : (s[k].toNat : Int) = 92 := by assumption
                                                            show s[k].toNat = 92; omega)
              have hlt : k + 1 < s.size := by have : (k : Int) + 1 < (s.size : Int) := by assumption
                                              omega
              rw [h92, drop_atB s (k + 1) hlt, Lab.unq_esc2] at hun'
              refine (wByte w.heap.size w.heap.size _ _ wr hI (by rw [Lib.byteCells_length]; omega) hle).mono ?_
              rintro e w3 ⟨rfl, h3, b3⟩
              go_wp2
              go_roundw
              case rel =>
                refine ⟨k + 2, acc ++ [s[k + 1]], by omega, by omega, by simp; omega, Or.inr (by simpa [Lib.byteCells] using h3), hbw.trans b3, by simp; omega, ?_⟩
                show _ = _
                rw [hun', Option.map_map]
                congr 1
                funext p
                simp
              case measure => simp [intOf]; omega
            · have hle2 : s.size ≤ k + 1 := by have : (s.size : Int) ≤ (k : Int) + 1 := by assumption
                                               omega
              have h92 : s[k] = 92 := UInt8.toNat_inj.1 (by have : (s[k].toNat : Int) = 92 := by assumption
                                                            show s[k].toNat = 92; omega)
              have hk3 : s.size = k + 1 := by omega
              have hdr : s.data.toList.drop (k + 1) = [] := by rw [← hk3]; exact drop_end s
              have hun' : Lab.unq (s.data.toList.drop 1) = (Lab.unq (s.data.toList.drop k)).map fun p => (acc ++ p.1, p.2) := hun
              rw [hdk, h92, hdr, Lab.unq_last] at hun'
              refine (wByte w.heap.size w.heap.size _ _ wr hI (by rw [Lib.byteCells_length]; omega) hle).mono ?_
              rintro e w3 ⟨rfl, h3, b3⟩
              go_wp2
              go_roundw
              case rel =>
                refine ⟨k + 1, acc ++ [92], by omega, by omega, by simp, Or.inr (by simpa [Lib.byteCells] using h3), hbw.trans b3, by simp; omega, ?_⟩
                show _ = _
                rw [hun', hdr]
                rfl
              case measure => simp [intOf]; omega
            · have h92 : s[k] ≠ 92 := fun h => by
                have : ¬ (s[k].toNat : Int) = 92 := by assumption
                exact this (by rw [h]; rfl)
              have hun' : Lab.unq (s.data.toList.drop 1) = (Lab.unq (s.data.toList.drop k)).map fun p => (acc ++ p.1, p.2) := hun
              rw [hdk, Lab.unq_byte c34 h92] at hun'
              refine (wByte w.heap.size w.heap.size _ _ wr hI (by rw [Lib.byteCells_length]; omega) hle).mono ?_
              rintro e w3 ⟨rfl, h3, b3⟩
              go_wp2
              go_roundw
              case rel =>
                refine ⟨k + 1, acc ++ [s[k]], by omega, by omega, by simp, Or.inr (by simpa [Lib.byteCells] using h3), hbw.trans b3, by simp; omega, ?_⟩
                show _ = _
                rw [hun', Option.map_map]
                congr 1
                funext p
                simp
              case measure => simp [intOf]; omega
        · have hk2 : k = s.size := by omega
          subst hk2
          go_wp2
          go_ret3
          refine ⟨?_, hbw⟩
          have hun' : Lab.unq (s.data.toList.drop 1) = (Lab.unq (s.data.toList.drop s.size)).map fun p => (acc ++ p.1, p.2) := hun
          rw [drop_end, show Lab.unq [] = none from rfl, Option.map_none] at hun'
          rw [hU, hun']
          rfl
    · have hU : hUnq s = (ByteArray.empty, ByteArray.empty, false) := by
        unfold hUnq
        rw [hdat]
        unfold hUnqL
        split
        · rename_i e; exact absurd (List.cons.inj e).1 h34
        · rfl
      have hn : ((s[0]'(by omega)).toNat : Int) ≠ 34 := fun h => h34 (UInt8.toNat_inj.1 (by show (s[0]'(by omega)).toNat = 34; omega))
      go_enter Tryd.func105, Tryd.ntmps105
      go_wp2
      go_ret3
      exact ⟨by rw [hU]; rfl, Below.refl _ _⟩

theorem hand105 : CallOK Tryd.prog 105 (pureC hfUnq) := pure_ok (entered Tryd.func105 rfl (by decide)) (by
  intro args v h
  unfold hfUnq at h
  split at h
  · rename_i s
    obtain ⟨hc, h⟩ := Tr.mean_need h
    have hc := of_decide_eq_true hc
    have := Tr.mean_ret h
    subst this
    refine ⟨_, rfl, fun w X vals hsz hv => ?_⟩
    have h0 := PR.strInv (hv 0 _ rfl)
    have hvv := one_val (vals := vals) (by simpa using hsz)
    rw [h0] at hvv
    rw [hvv]
    refine (unquoted_calls s w hc).mono ?_
    rintro e w' ⟨rfl, hb⟩
    exact ⟨rfl, kept_below hb⟩
  · exact (Tr.mean_fail h).elim)

end Go.Proofs.YtcblbcpnfidndaaDoor

namespace Go.Proofs.YtcblbcpnfidndaaDoor
open Go Go.Abs Go.RowKit
/-! ### slices.Delete -/

theorem run_clear_cells {P : Program} (w : World) (t e ty : TypeId) (z : Value) (ht : P.underlying t = some (.slice e)) (hv : ∀ w, (zeroValue e).run P w = .ok z w) (b o n c : Nat) (hn : 0 < n) (vs : List Value) (hvs : (Builtin.zeroCells z.cells n).toList = vs)
    (h1 : ∀ v ∈ vs, v.oneCell' = true) (hc : ∀ j, j < vs.length → (w.cell? ⟨b, o + j, none⟩).isSome = true) (hf : ∀ j, j < vs.length → w.frozen? ⟨b, o + j, none⟩ = false) :
    (Builtin.clear_ #[t] ty #[.slice (some ⟨b, o, none⟩) n c]).run P w = .ok (.tuple #[]) (w.setCells b o vs) := by
  have hst := run_storeCells_cells (P := P) b o vs 0 w (by simpa using hc) (by simpa using hf) h1
  simp only [Nat.add_zero] at hst
  obtain ⟨m, rfl⟩ : ∃ m, n = m + 1 := ⟨n - 1, by omega⟩
  simp [Builtin.clear_, run_underlying ht, hv, hvs, hst]

theorem setCells_frame (b : Nat) : ∀ (vs : List Value) (o : Nat) (w : World), (w.setCells b o vs).os = w.os ∧ (w.setCells b o vs).tape = w.tape ∧ (w.setCells b o vs).output = w.output ∧ (w.setCells b o vs).heap.size = w.heap.size ∧ ∀ k, k ≠ b → (w.setCells b o vs).heap[k]? = w.heap[k]?
  | [], _, _ => ⟨rfl, rfl, rfl, rfl, fun _ _ => rfl⟩
  | v :: r, o, w => by
    obtain ⟨h1, h2, h3, h4, h5⟩ := setCells_frame b r (o + 1) (w.setCell ⟨b, o, none⟩ v)
    rw [World.setCells]
    refine ⟨h1, h2, h3, h4.trans (by simp [World.setCell]), fun k hk => (h5 k hk).trans ?_⟩
    simp only [World.setCell]
    rw [Array.getElem?_modify, if_neg (fun e => hk e.symm)]

theorem cell_row {w : World} {b : Nat} {cs : Array Value} {T : TypeId} (h : w.heap[b]? = some (.cells cs T (0, 0))) {o : Nat} (ho : o < cs.size) : w.cell? ⟨b, o, none⟩ = some (cs.getD o undef) ∧ w.frozen? ⟨b, o, none⟩ = false := by
  constructor
  · simp [World.cell?, h, Array.getD, ho]
  · simp [World.frozen?, h]

theorem row_of {w : World} {b : Nat} {cs : Array Value} {T : TypeId} (h : w.heap[b]? = some (.cells cs T (0, 0))) : w.rowIs b T cs.size (fun k => cs.getD k undef) :=
  ⟨cs, h, rfl, fun i hi => by simp [Array.getD, hi]⟩

set_option maxHeartbeats 4000000 in
set_option maxRecDepth 1000000 in
theorem del_calls (w : World) (b n cap i j : Nat) (cs : Array Value) (T : TypeId) (hh : w.heap[b]? = some (.cells cs T (0, 0))) (hk : cap * 5 ≤ cs.size) (hone : ∀ k, k < n * 5 → (cs.getD k undef).oneCell' = true) (hij : i < j) (hj : j ≤ n) (hn : n ≤ cap) (hm : n ≤ 4294967296) :
    Calls Tryd.prog 117 #[.slice (some ⟨b, 0, none⟩) n cap, .int .i64 i, .int .i64 j] w (MakesDel 5 b n cap i j w cs T) := by
  have hic : i ≤ cap := by omega
  have hjc : j ≤ cap := by omega
  obtain ⟨i0, hi0, hz0, hz1, _⟩ := info_parts (P := Tryd.prog) (e := 81) (z := .agg #[.int .i64 0, .int .i64 0, .int .i64 0, .int .i64 0, .slice none 0 0]) (size := 5) (bytes := 56) (by kernel_rfl)
  have hv81 : ∀ w, (zeroValue 81).run Tryd.prog w = .ok (.agg #[.int .i64 0, .int .i64 0, .int .i64 0, .int .i64 0, .slice none 0 0]) w := fun w => by simp [zeroValue, typeInfo, hi0, hz0]
  -- the cells that are moved
  obtain ⟨news, hnews⟩ : ∃ news : List Value, news = (List.range ((n - j) * 5)).map (fun k => cs.getD (j * 5 + k) undef) := ⟨_, rfl⟩
  have hlen : news.length = (n - j) * 5 := by rw [hnews]; simp
  have hget : ∀ k, k < (n - j) * 5 → news[k]? = some (cs.getD (j * 5 + k) undef) := by intro k hk'; rw [hnews]; simp [hk']
  have hin : ∀ k, k < cap * 5 → k < cs.size := fun k hk' => by omega
  have hdrew : w.drew.heap[b]? = some (.cells cs T (0, 0)) := hh
  obtain ⟨A, hA, hsrc⟩ : ∃ A : Addr, (if cap = j then (some (⟨b, 0, none⟩ : Addr)) else some ⟨b, j * 5, none⟩) = some A ∧ Hid (∀ k u, news[k]? = some u → w.drew.cell? (A.add k) = some u) := by
    by_cases h : cap = j
    · refine ⟨⟨b, 0, none⟩, by simp [h], fun k u hu => ?_⟩
      have h0 : news.length = 0 := by rw [hlen]; omega
      rw [List.length_eq_zero_iff.1 h0] at hu
      simp at hu
    · refine ⟨⟨b, j * 5, none⟩, by simp [h], fun k u hu => ?_⟩
      have hk' := (List.getElem?_eq_some_iff.1 hu).1
      rw [hlen] at hk'
      rw [hget k hk'] at hu
      rw [addr_add]
      rw [← hu]
      exact (cell_row hdrew (hin _ (by omega))).1
  have s2 : Hid (∀ u ∈ news, u.oneCell' = true) := by
    intro u hu
    rw [hnews] at hu
    simp only [List.mem_map, List.mem_range] at hu
    obtain ⟨k, hk', rfl⟩ := hu
    exact hone _ (by omega)
  have s3 : Hid (∀ k, k < news.length → (w.drew.cell? ⟨b, 0 + i * 5 + k, none⟩).isSome = true ∧ w.drew.frozen? ⟨b, 0 + i * 5 + k, none⟩ = false) := by
    intro k hk'
    rw [hlen] at hk'
    rw [Nat.zero_add]
    obtain ⟨c1, c2⟩ := cell_row hdrew (o := i * 5 + k) (hin _ (by omega))
    exact ⟨by rw [c1]; rfl, c2⟩
  have s1 : Hid (news.length = (n - j) * 5) := hlen
  obtain ⟨W1, hW1⟩ : ∃ W1, W1 = w.drew.setCells b (0 + i * 5) news := ⟨_, rfl⟩
  have hW : Hid (W1 = w.drew.setCells b (0 + i * 5) news) := hW1
  have hrow1 : W1.rowIs b T cs.size (fun k => if 0 + i * 5 ≤ k ∧ k < 0 + i * 5 + news.length then news[k - (0 + i * 5)]?.getD default else cs.getD k undef) := by
    rw [hW1]; exact rowIs_setCells news (0 + i * 5) w.drew _ (row_of hdrew)
  have hfrm1 := setCells_frame b news (0 + i * 5) w.drew
  rw [← hW1] at hfrm1
  -- what is cleared
  obtain ⟨zs, hzs⟩ : ∃ zs, zs = (Builtin.zeroCells (Value.agg #[.int .i64 0, .int .i64 0, .int .i64 0, .int .i64 0, .slice none 0 0]).cells (n - (i + (n - j)))).toList := ⟨_, rfl⟩
  have hzl : zs.length = (n - (i + (n - j))) * 5 := by rw [hzs]; simp [Builtin.zeroCells, Value.cells]
  have hz1' : ∀ v ∈ zs, v.oneCell' = true := by
    intro v hv
    rw [hzs] at hv
    simp only [Builtin.zeroCells, Value.cells, Array.toList_map, List.mem_map] at hv
    obtain ⟨k, _, rfl⟩ := hv
    have hk5 : k % 5 < 5 := Nat.mod_lt _ (by omega)
    simp only [List.size_toArray, List.length_cons, List.length_nil]
    generalize k % 5 = q at hk5
    match q, hk5 with
    | 0, _ => rfl
    | 1, _ => rfl
    | 2, _ => rfl
    | 3, _ => rfl
    | 4, _ => rfl
  obtain ⟨c1, hc1, hc1s, hc1g⟩ := hrow1
  have hcl : ∀ ty, (Builtin.clear_ #[77] ty #[.slice (some ⟨b, (i + (n - j)) * 5, none⟩) (n - (i + (n - j))) (cap - (i + (n - j)))]).run Tryd.prog W1 = .ok (.tuple #[]) (W1.setCells b ((i + (n - j)) * 5) zs) :=
    fun ty => run_clear_cells W1 77 81 ty _ Tryd.underlying77 hv81 b _ _ _ (by omega) zs hzs.symm hz1' (fun q hq => by rw [(cell_row hc1 (by omega)).1]; rfl) (fun q hq => (cell_row hc1 (by omega)).2)
  have hrow2 := rowIs_setCells zs ((i + (n - j)) * 5) W1 _ ⟨c1, hc1, hc1s, hc1g⟩
  have hfrm2 := setCells_frame b zs ((i + (n - j)) * 5) W1
  obtain ⟨c2, hc2, hc2s, hc2g⟩ := hrow2
  have fin : Aside (MakesDel 5 b n cap i j w cs T (.returned (.slice (some ⟨b, 0, none⟩) (i + (n - j)) cap)) (W1.setCells b ((i + (n - j)) * 5) zs)) := by
    refine ⟨c2, by rw [show n - (j - i) = i + (n - j) by omega], hc2, hc2s, fun k hk' => ?_, fun k hk' hk2 => ?_, hfrm2.1.trans hfrm1.1, hfrm2.2.1.trans hfrm1.2.1, hfrm2.2.2.1.trans hfrm1.2.2.1, hfrm2.2.2.2.1.trans hfrm1.2.2.2.1, fun k hk' => (hfrm2.2.2.2.2 k hk').trans (hfrm1.2.2.2.2 k hk')⟩
    · have := hc2g k (by omega)
      simp only at this
      rw [if_neg (by omega), if_neg (by omega)] at this
      rw [Array.getD_eq_getD_getElem?, this]
      rfl
    · have := hc2g k (by omega)
      simp only at this
      rw [if_neg (by omega), if_pos (by omega), hget _ (by omega)] at this
      rw [Array.getD_eq_getD_getElem?, this]
      simp only [Option.getD_some]
      congr 1
      omega
  have mixed : Tryd.prog.follows .mixedOrders = true := by kernel_rfl
  clear hh hk hone hnews hget hlen hin hdrew hfrm1 hfrm2 hc1 hc1s hc1g hc2 hc2s hc2g hzs hzl hz1' hW1
  go_enter Tryd.func117, Tryd.ntmps117
  go_wp2_with fail
  go_region_law_o (refine step_append_room rfl (.tmp 22) (.tmp 25) 77 rfl 81 i0 5 Tryd.underlying77 hi0 hz1 b 0 i cap (by simp [Act.eval, Act.put]) A (n - j) (cap - j) news (by simp [Act.eval, Act.put, hA]) s1.out hsrc.out s2.out (by omega) s3.out ?_; rw [← hW.out])
  go_wp2
  go_ret
  exact fin.out

theorem hand117 (t : Ty) (ht : t.size = 5) : CallOK Tryd.prog 117 (delS t) :=
  del_ok (entered Tryd.func117 rfl (by decide)) (fun w b n cap i j cs T h1 h2 h3 h4 h5 h6 h7 => by
    rw [ht] at h2 h3 ⊢
    exact del_calls w b n cap i j cs T h1 h2 h3 h4 h5 h6 h7)

end Go.Proofs.YtcblbcpnfidndaaDoor

namespace Go.Proofs.YtcblbcpnfidndaaDoor
open Go Go.Abs
noncomputable section
abbrev Z4 : Abs.Ty := (.cons .str (.cons (.int .i64) (.cons .str .unit)))

abbrev Z1 : Abs.Ty := (.cons (.int .i64) (.cons (.int .i64) (.cons (.int .i64) (.cons (.int .i64) (.cons (.row Z4) .unit)))))

abbrev Z7 : Abs.Ty := (.cons .str (.cons .str .unit))

abbrev Z9 : Abs.Ty := (.cons (.row (.int .i64)) (.cons (.int .i64) .unit))

abbrev Y11 : Type := (ByteArray × Int × ByteArray × Unit)

abbrev Y3 : Type := (List Y11)

abbrev Y12 : Type := (((List Int) × Int × Unit) × Unit)

abbrev Y13 : Type := ((Bool × Unit) × (Unit))

abbrev Y15 : Type := (ByteArray × ByteArray × Unit)

abbrev Y5 : Type := (List Y15)

abbrev Y16 : Type := ((ByteArray × Unit) × (Unit))

abbrev Y20 : Type := (ByteArray × ByteArray × ByteArray × ByteArray × Unit)

def note : FuncId → Abs.Note
  | 2 => ⟨true, [], false, fun _ => []⟩
  | 3 => ⟨true, [0, 1, 2, 3, 4, 6, 10, 11, 12, 13, 15, 17, 18, 20, 21, 22, 23, 24, 48, 60, 61, 62, 63, 99, 109, 110, 111, 127, 135, 136, 137, 157], false, fun | 6 => [(1, 2), (1, 3)] | 9 => [(1, 2), (8, 9), (17, 18), (27, 29)] | 12 => [(1, 4), (2, 4), (2, 5), (4, 5), (1, 6), (2, 6), (4, 6), (1, 7), (2, 7)] | _ => []⟩
  | 4 => ⟨true, [0, 2, 3, 4, 5, 6, 7, 8, 9, 10, 13], false, fun _ => []⟩
  | 5 => ⟨true, [0, 1, 2, 6, 7, 8, 9, 10, 23, 28, 67, 71, 118], false, fun _ => []⟩
  | 6 => ⟨true, [0, 2, 3, 4, 5, 6, 8, 9, 10, 13, 21, 22, 23, 24, 38], false, fun | 12 => [(2, 3)] | _ => []⟩
  | 7 => ⟨true, [0, 1, 2, 3, 8, 9, 10, 11, 13, 14, 15, 17, 18, 19, 20, 21, 34, 58, 59, 60, 105, 116, 117, 118, 138], false, fun | 5 => [(1, 2), (2, 4), (1, 7), (2, 7), (4, 7), (6, 7), (2, 9), (6, 9), (7, 9), (2, 11)] | _ => []⟩
  | 8 => ⟨true, [0, 2, 3, 4, 5, 6, 7, 8, 9, 10, 11, 13], true, fun | 11 => [(1, 4), (1, 5)] | _ => []⟩
  | 9 => ⟨true, [0, 1, 2, 3, 8, 9, 10, 12, 14, 16, 29, 40, 41, 42, 48, 54, 55, 56, 89, 95, 96, 97, 116], true, fun | 13 => [(20, 26)] | _ => []⟩
  | 10 => ⟨true, [0, 2, 3, 4, 5, 6, 7, 9, 10, 11, 13, 15, 18, 31, 33, 34, 35, 36, 51, 75, 77, 78, 79, 91, 93, 100, 101, 102, 103, 128, 133, 134, 135, 136, 145], true, fun _ => []⟩
  | 11 => ⟨true, [0, 2, 3, 4, 5, 6, 7, 8, 9, 10, 11, 13, 14, 16, 19, 32, 33, 34, 54, 55, 56, 57, 60, 61, 62, 63, 74], true, fun _ => []⟩
  | 12 => ⟨true, [0, 2, 3, 4, 5, 6, 7, 9, 10, 11, 14, 25, 26, 27, 28], true, fun | 12 => [(13, 14)] | _ => []⟩
  | 13 => ⟨true, [0, 2, 3, 4, 5, 6, 8, 10, 11, 12, 13, 14, 15, 16, 18, 20, 46], false, fun _ => []⟩
  | 14 => ⟨true, [0, 2, 3, 4, 5, 6, 7, 8, 9, 11, 14, 34, 35, 36, 38, 39, 40, 41, 50, 63], false, fun _ => []⟩
  | 15 => ⟨true, [0, 1, 4, 5, 6, 7, 8, 9, 11, 13, 14, 15, 16, 17, 18, 19, 21, 23, 24, 25, 27, 30, 40, 41, 42, 43, 75, 78, 106, 110, 111, 112, 121, 151, 152, 153, 154, 170, 174], false, fun | 19 => [(1, 8)] | _ => []⟩
  | 16 => ⟨true, [0, 1, 2, 3, 4, 5, 6, 14, 15, 16, 17, 18, 19, 20, 22, 24, 26, 28, 29, 30, 31, 32, 33, 34, 35, 36, 37, 39, 40, 41, 42, 43, 44, 45, 46, 47, 48, 71, 108, 109, 110, 116, 123, 124, 125, 161, 167, 168, 169, 175, 181, 182, 183, 230, 234, 235, 236, 260, 280, 313], false, fun | 13 => [(1, 4)] | _ => []⟩
  | 17 => ⟨true, [0, 2], false, fun _ => []⟩
  | 18 => ⟨true, [0, 1, 2, 3, 4, 5, 6], false, fun _ => []⟩
  | 19 => ⟨true, [0, 2], false, fun _ => []⟩
  | 20 => ⟨true, [0, 2, 3, 5, 6, 7, 8, 9, 17], false, fun _ => []⟩
  | 21 => ⟨true, [0, 1, 4, 5, 6, 12], false, fun _ => []⟩
  | 22 => ⟨true, [0, 1, 2], false, fun _ => []⟩
  | 23 => ⟨true, [0, 1, 2], false, fun _ => []⟩
  | 24 => ⟨true, [0, 1, 2, 4, 5, 11, 12, 18, 24, 30], false, fun _ => []⟩
  | 25 => ⟨true, [0, 1, 2, 4, 5, 11, 12, 18, 24, 30], false, fun _ => []⟩
  | 26 => ⟨true, [0, 1, 4, 5, 6, 7, 8, 12, 13, 28, 52], false, fun _ => []⟩
  | 27 => ⟨true, [0, 1, 4, 5, 6, 7, 8, 18, 28, 34, 54], false, fun _ => []⟩
  | 28 => ⟨true, [0, 2, 3, 4, 7, 11, 19, 21], false, fun | 11 => [(5, 6), (6, 11), (6, 19), (5, 20), (11, 20), (13, 20)] | _ => []⟩
  | 29 => ⟨true, [0, 2, 3, 5, 12, 13, 14, 15, 16], false, fun | 7 => [(2, 3), (3, 5), (3, 9), (2, 10), (5, 10)] | _ => []⟩
  | 30 => ⟨true, [0, 1, 3, 4], false, fun _ => []⟩
  | 31 => ⟨true, [0, 1, 4, 5, 9, 18], false, fun _ => []⟩
  | 32 => ⟨true, [0, 2, 3, 4, 5, 6, 7, 13, 32], false, fun _ => []⟩
  | 33 => ⟨true, [0, 2, 3, 4, 5, 7, 20], false, fun _ => []⟩
  | 34 => ⟨true, [0, 1, 4, 5, 10, 12, 13, 14, 24], false, fun _ => []⟩
  | 35 => ⟨true, [0, 2, 3, 4, 5, 6, 7, 21, 30, 53], false, fun _ => []⟩
  | 36 => ⟨true, [0, 2, 3, 5, 8, 9, 10, 11, 12], false, fun | 7 => [(2, 6)] | _ => []⟩
  | 37 => ⟨true, [0, 1, 4, 5, 10, 12, 13, 14, 24], false, fun _ => []⟩
  | 38 => ⟨true, [0, 1, 4, 6, 7, 8, 9, 10, 16], false, fun _ => []⟩
  | 39 => ⟨true, [0, 1, 4, 5, 19, 40], false, fun _ => []⟩
  | 40 => ⟨true, [0, 2, 3, 5, 6, 7, 8, 11], false, fun _ => []⟩
  | 41 => ⟨true, [0, 2, 3, 4, 7, 11, 15], false, fun | 9 => [(5, 12)] | _ => []⟩
  | 42 => ⟨true, [0, 2, 3, 4, 7, 8, 9, 10, 11, 44], false, fun _ => []⟩
  | 43 => ⟨true, [0, 2, 3, 6, 10, 54], false, fun _ => []⟩
  | 44 => ⟨true, [0, 1, 4, 5, 9, 18], false, fun _ => []⟩
  | 45 => ⟨true, [0, 1, 4, 5, 7, 8, 9, 10, 11, 17], false, fun _ => []⟩
  | 46 => ⟨true, [0, 1, 4, 5, 6, 7, 11, 17, 29], false, fun _ => []⟩
  | 47 => ⟨true, [0, 2, 3, 4, 5, 6, 7, 9, 25, 36, 40, 60], false, fun _ => []⟩
  | 48 => ⟨true, [0, 1, 4, 12], false, fun _ => []⟩
  | 49 => ⟨true, [0, 2, 3, 4, 5, 6, 10, 14, 15, 16, 17, 25, 33], false, fun _ => []⟩
  | 50 => ⟨true, [0, 1, 4, 5, 10, 12, 13, 14, 24], true, fun _ => []⟩
  | 51 => ⟨true, [0, 1, 4, 5, 18, 20], false, fun _ => []⟩
  | 52 => ⟨true, [0, 1, 2, 3, 4], true, fun _ => []⟩
  | 53 => ⟨true, [0, 1, 4, 5, 6, 7, 16], false, fun _ => []⟩
  | 54 => ⟨true, [0, 1, 4, 5, 6, 16, 19, 29, 39, 53, 70, 87], true, fun _ => []⟩
  | 55 => ⟨true, [0, 2, 3, 4, 7, 10, 14, 47, 54, 61], true, fun _ => []⟩
  | 56 => ⟨true, [0, 1, 4, 12], true, fun _ => []⟩
  | 57 => ⟨true, [0, 1, 2, 4, 7], false, fun _ => []⟩
  | 58 => ⟨true, [0, 1, 2, 4, 7], true, fun _ => []⟩
  | 59 => ⟨true, [0, 1, 4, 17, 19], true, fun _ => []⟩
  | 60 => ⟨true, [0, 1, 4, 5, 6, 7, 8, 9, 10, 11, 18], false, fun _ => []⟩
  | 61 => ⟨true, [0, 1, 4, 5, 6, 10, 19], true, fun _ => []⟩
  | 62 => ⟨true, [0, 2, 3, 4], false, fun _ => []⟩
  | 63 => ⟨true, [0, 1, 3, 4, 5, 6, 7, 17], false, fun | 1 => [(1, 2), (1, 3)] | _ => []⟩
  | 64 => ⟨true, [0, 1, 2, 6, 7, 9, 10, 11, 12, 13, 41], false, fun _ => []⟩
  | 65 => ⟨true, [0, 1, 4, 5, 6, 7, 9, 10, 11, 12, 13, 29], false, fun _ => []⟩
  | 66 => ⟨true, [0, 1, 2, 3, 4, 5, 6, 7, 9, 10, 11, 12, 13], false, fun _ => []⟩
  | 67 => ⟨true, [0, 2, 3, 4, 5, 9], false, fun _ => []⟩
  | 68 => ⟨true, [0, 1, 2, 6, 8, 10, 11, 12, 13, 14, 21, 22, 23, 24, 25, 45], false, fun _ => []⟩
  | 69 => ⟨true, [0, 2, 3, 4, 8], false, fun _ => []⟩
  | 70 => ⟨true, [0, 1, 4], false, fun _ => []⟩
  | 71 => ⟨true, [0, 1, 2, 4, 6, 7, 8, 9, 10, 14, 19, 22, 38], false, fun _ => []⟩
  | 72 => ⟨true, [0, 1, 4, 5], false, fun _ => []⟩
  | 73 => ⟨true, [0, 1, 4], false, fun _ => []⟩
  | 74 => ⟨true, [0, 2, 4, 5, 8, 9, 10, 11, 12, 18], false, fun _ => []⟩
  | 75 => ⟨true, [0, 2, 3, 4, 7, 11, 18, 29, 46], false, fun _ => []⟩
  | 76 => ⟨true, [0, 1, 2, 6, 7, 8, 12, 22, 26, 64], false, fun _ => []⟩
  | 77 => ⟨true, [0, 1, 2, 3, 4, 10, 12], false, fun _ => []⟩
  | 78 => ⟨true, [0, 1, 2, 3, 4, 10, 12], false, fun _ => []⟩
  | 79 => ⟨true, [0, 2, 3, 5, 6, 9, 10, 11, 12, 13, 20], false, fun _ => []⟩
  | 80 => ⟨true, [0, 2, 3, 4, 7, 11, 18, 37, 58, 63, 68], false, fun _ => []⟩
  | 81 => ⟨true, [0, 1, 2, 6, 7, 8, 9, 10, 11, 15, 47], false, fun _ => []⟩
  | 82 => ⟨true, [0, 1, 4, 5, 6, 7, 8, 9, 13, 32], false, fun _ => []⟩
  | 83 => ⟨true, [0, 1, 2, 6, 7, 8, 9, 10, 11, 12, 16, 21, 31, 35, 39, 47], false, fun _ => []⟩
  | 84 => ⟨true, [0, 1, 4, 5, 6, 7, 8, 13, 17, 62, 67, 80], false, fun | 6 => [(3, 8), (7, 8), (3, 9), (7, 9), (8, 9), (7, 10)] | _ => []⟩
  | 85 => ⟨true, [0, 1, 3, 4, 5, 6, 7, 16], false, fun | 1 => [(1, 2), (1, 3)] | _ => []⟩
  | 86 => ⟨true, [0, 2], false, fun | 1 => [(0, 2), (0, 6), (4, 6), (0, 7), (2, 7), (4, 7), (6, 7), (0, 9), (4, 9), (7, 9), (0, 11)] | _ => []⟩
  | 87 => ⟨true, [0, 2, 3, 4, 21, 23, 24, 25, 47], false, fun _ => []⟩
  | 88 => ⟨true, [0, 2, 3, 5, 6, 7, 18], false, fun _ => []⟩
  | 89 => ⟨true, [0, 2, 3, 21, 25, 55], false, fun _ => []⟩
  | 90 => ⟨true, [0, 2, 3, 6, 10, 22], false, fun _ => []⟩
  | 91 => ⟨true, [0, 1, 4, 5, 6, 12, 21, 34], false, fun _ => []⟩
  | 92 => ⟨true, [0], false, fun _ => []⟩
  | 93 => ⟨true, [0, 2, 3, 4, 8, 20], false, fun _ => []⟩
  | 94 => ⟨true, [0, 1, 4], false, fun _ => []⟩
  | 95 => ⟨true, [0, 1, 2], true, fun _ => []⟩
  | 96 => ⟨true, [0], false, fun _ => []⟩
  | 97 => ⟨true, [0, 2, 3, 4, 7, 8, 9, 20], false, fun _ => []⟩
  | 98 => ⟨true, [0, 1, 4, 5, 7, 8, 10, 12, 13, 15, 22, 29, 39, 40, 41, 42, 49, 63, 64, 65, 66], false, fun _ => []⟩
  | 99 => ⟨true, [0, 1, 2, 3], true, fun _ => []⟩
  | 100 => ⟨true, [0, 2, 3, 4, 5, 6, 7, 8, 9, 10, 11, 12, 13, 17, 26, 27, 28, 37], false, fun _ => []⟩
  | 101 => ⟨true, [0, 1, 4], false, fun _ => []⟩
  | 102 => ⟨true, [0, 2, 3, 4, 5, 6, 7, 20, 26, 30], false, fun _ => []⟩
  | 103 => ⟨true, [0, 1, 4, 5], false, fun _ => []⟩
  | 104 => ⟨true, [0, 1, 4, 5, 6], false, fun _ => []⟩
  | 105 => ⟨true, [0, 2, 3, 4, 5, 6, 13, 17, 20, 30], false, fun _ => []⟩
  | 106 => ⟨true, [0, 1, 4], false, fun _ => []⟩
  | 107 => ⟨true, [0, 1, 4], false, fun _ => []⟩
  | 108 => ⟨true, [0, 1, 2, 6, 7, 9, 12, 13, 14, 15, 25, 37, 41], false, fun _ => []⟩
  | 109 => ⟨true, [0, 1, 2, 4, 5, 28, 39, 49], false, fun _ => []⟩
  | 110 => ⟨true, [0, 2, 3, 9], true, fun _ => []⟩
  | 111 => ⟨true, [0, 1, 2, 3, 13, 18, 27, 28, 33], true, fun _ => []⟩
  | 112 => ⟨true, [0, 1, 2, 6, 7, 8, 9, 16, 29, 47, 50], true, fun _ => []⟩
  | 113 => ⟨true, [0, 2, 3, 4, 8, 9, 10], false, fun _ => []⟩
  | 114 => ⟨true, [0, 1, 2, 3, 4, 6], false, fun _ => []⟩
  | 115 => ⟨true, [0, 1, 4, 5, 7, 8, 9, 16], false, fun _ => []⟩
  | 116 => ⟨true, [0, 1, 2, 3], true, fun _ => []⟩
  | 117 => ⟨true, [0, 1, 2, 6, 7, 16], true, fun _ => []⟩
  | 118 => ⟨true, [0, 1, 2, 3, 14, 31], false, fun _ => []⟩
  | 119 => ⟨true, [0, 2, 3, 7, 15], false, fun _ => []⟩
  | 120 => ⟨true, [0, 2, 3, 7, 31], false, fun _ => []⟩
  | 121 => ⟨true, [0, 1, 2, 6, 7, 11, 26], false, fun | 4 => [(5, 10)] | _ => []⟩
  | 122 => ⟨true, [0, 1, 2, 4, 5, 15, 36, 41, 46], false, fun _ => []⟩
  | 123 => ⟨true, [0, 1, 4, 13], false, fun _ => []⟩
  | 124 => ⟨true, [0, 1, 4, 16], false, fun _ => []⟩
  | 125 => ⟨true, [0, 2, 3, 4, 5, 9, 16], false, fun _ => []⟩
  | 126 => ⟨true, [0, 1, 4, 7, 12], false, fun _ => []⟩
  | 127 => ⟨true, [0, 1, 4, 7, 15], false, fun _ => []⟩
  | 128 => ⟨true, [0, 1, 4, 5, 6, 9, 18], false, fun _ => []⟩
  | 129 => ⟨true, [0, 1, 4, 5, 6, 9, 17, 26], false, fun _ => []⟩
  | 130 => ⟨true, [0, 1, 4, 5, 7, 8, 9, 16], false, fun _ => []⟩
  | 131 => ⟨true, [0, 1, 4], false, fun _ => []⟩
  | 132 => ⟨true, [0, 2], false, fun _ => []⟩
  | 133 => ⟨true, [0, 1, 7, 21], false, fun _ => []⟩
  | 134 => ⟨true, [0, 1, 4, 5], false, fun _ => []⟩
  | 135 => ⟨true, [0, 1, 4, 5, 6, 7, 8, 9, 10, 12, 15, 20, 26, 32, 36, 42, 45, 46, 47, 53], false, fun _ => []⟩
  | 136 => ⟨true, [0, 1, 4, 7], false, fun _ => []⟩
  | 137 => ⟨true, [0, 2, 3, 4, 5, 6, 7, 8, 9, 10, 11, 33, 47, 74, 83, 88, 94, 112], false, fun _ => []⟩
  | 138 => ⟨true, [0, 1, 4, 5, 9], false, fun _ => []⟩
  | 139 => ⟨true, [0, 1, 4, 5, 6, 7, 12], false, fun _ => []⟩
  | 140 => ⟨true, [0, 1, 4, 5, 7, 8, 9, 16], false, fun _ => []⟩
  | 141 => ⟨true, [0, 1, 2], false, fun _ => []⟩
  | 142 => ⟨true, [0, 2, 3, 4, 5, 6, 7, 8, 27], false, fun _ => []⟩
  | 143 => ⟨true, [0, 2, 4], false, fun _ => []⟩
  | 144 => ⟨true, [0, 2, 4], false, fun _ => []⟩
  | 145 => ⟨true, [0, 1, 4], false, fun _ => []⟩
  | 146 => ⟨true, [0, 1, 2, 4], true, fun | 1 => [(2, 3)] | _ => []⟩
  | 147 => ⟨true, [0, 1, 2], false, fun _ => []⟩
  | 148 => ⟨true, [0, 1, 4], false, fun _ => []⟩
  | 149 => ⟨true, [0, 2, 3, 10], false, fun _ => []⟩
  | 150 => ⟨true, [0, 1, 4], false, fun _ => []⟩
  | 151 => ⟨true, [0, 2, 3, 4, 5, 6, 10, 18, 27, 33, 35, 48], false, fun _ => []⟩
  | 152 => ⟨true, [0, 6, 19], false, fun _ => []⟩
  | 153 => ⟨true, [0, 1, 4], false, fun | 0 => [(8, 12)] | _ => []⟩
  | 154 => ⟨true, [0, 1, 4, 5, 6, 7, 8, 9, 10, 11, 12, 13, 14, 15, 16, 26, 33, 43, 51, 64, 98, 108, 124, 139, 143, 156, 160, 171, 175, 176, 177, 181, 183], false, fun _ => []⟩
  | 155 => ⟨true, [0, 2], false, fun _ => []⟩
  | 156 => ⟨true, [0, 1, 4], false, fun _ => []⟩
  | 157 => ⟨true, [0, 1, 4, 5, 6, 7, 8, 9, 10, 11, 12, 13, 16, 24, 31, 36, 59, 64, 73, 93, 107, 114, 132, 139], false, fun _ => []⟩
  | 158 => ⟨true, [0, 2], false, fun _ => []⟩
  | 159 => ⟨true, [0, 1, 4, 5, 7, 8, 9, 16], false, fun _ => []⟩
  | 160 => ⟨true, [0, 2, 3, 4, 5, 6, 7, 8, 9, 10, 11, 12, 16, 23, 45, 57, 59, 75, 77, 98], false, fun _ => []⟩
  | 161 => ⟨true, [0, 2], false, fun _ => []⟩
  | 164 => ⟨true, [0, 1, 4], false, fun _ => []⟩
  | 165 => ⟨true, [0, 2, 3, 10], false, fun _ => []⟩
  | 166 => ⟨true, [0, 2], false, fun _ => []⟩
  | 168 => ⟨true, [0, 1, 4], false, fun _ => []⟩
  | 169 => ⟨true, [0, 1, 4, 5, 6, 7, 8, 9, 10, 20, 39, 44, 77], false, fun _ => []⟩
  | 171 => ⟨true, [0, 2, 3, 4, 5, 6, 7, 8, 12, 25, 30], false, fun _ => []⟩
  | 194 => ⟨true, [], false, fun _ => []⟩
  | _ => ⟨false, [], false, fun _ => []⟩

theorem good : Abs.Good Tryd.prog note := Abs.good_of (by kernel_rfl)

theorem foll : (Tryd.prog).follows .mixedOrders = true := by kernel_rfl

def mvtab (f : FuncId) : Bool := [].contains f

def ctab : FuncId → Option Abs.SCall := Abs.ctabOf [(97, Abs.pureC Abs.hfQuote), (98, Abs.pureC Abs.hfJoin), (168, Abs.pureC Abs.hfIdx), (166, Abs.hfLeft), (169, Abs.hfLeft), (105, Abs.pureC Abs.hfUnq), (135, Abs.pureC Abs.hfAny), (125, Abs.hfLeft), (127, Abs.hfLeft), (126, Abs.hfLeft), (129, Abs.hfLeft), (128, Abs.hfLeft), (117, Abs.delS Z1)]

theorem ctab_ok : ∀ f q, ctab f = some q → Abs.CallOK Tryd.prog f q := Abs.ctabOf_ok _ (by
  intro p hp
  simp only [List.mem_cons, List.not_mem_nil, or_false] at hp
  rcases hp with rfl | rfl | rfl | rfl | rfl | rfl | rfl | rfl | rfl | rfl | rfl | rfl | rfl
  · exact hand97
  · exact hand98
  · exact hand168
  · exact Abs.hfLeft_ok
  · exact Abs.hfLeft_ok
  · exact hand105
  · exact hand135
  · exact Abs.hfLeft_ok
  · exact Abs.hfLeft_ok
  · exact Abs.hfLeft_ok
  · exact Abs.hfLeft_ok
  · exact Abs.hfLeft_ok
  · exact hand117 Z1 rfl
)

/- pagewatch/pagewatchmade.Light -/
def i17 : Abs.Sg := ⟨[0], (.dat (.row (.int .i64)) .nil), .nil⟩

def o17 : Abs.Sg := ⟨[2], (.dat .bool .nil), .nil⟩

def m17 (v : (((List Int) × Unit) × (Unit))) : Option Y13 :=
some (((decide (((v.1.1.length : Int) : Int) ≤ 500)), ()), ())

def sp17 : Abs.Spec := ⟨0, i17, o17, m17⟩

def an17 : Nat → Abs.FAn
  | _ => {}

theorem ok17 : Abs.SpecOK Tryd.prog 17 sp17 :=
  Abs.specOC_of (C := ctab) (mv := mvtab) ctab_ok (n := 12) (an := an17) (T := Abs.tabOf []) good foll (Abs.tabOf_ok _ (fun _ h => by cases h)) rfl (by intro v; kernel_rfl)

def l87_0_4 (v : ((Int × ByteArray × Int × Unit) × (Unit))) : Option (((Int × ByteArray × Int × Unit) × (Unit)) ⊕ (Y13 ⊕ ((Unit) × (Unit)))) :=
bif (decide ((v.1.1 : Int) < v.1.2.2.1)) then (bif (decide ((0 : Int) ≤ v.1.1 ∧ (v.1.1 : Int) < v.1.2.1.size)) then
((let x86 := (decide (((((v.1.2.1[v.1.1.toNat]?.getD 0).toNat : Nat) : Int) : Int) < 97))
bif x86 then (let x87 := (decide (((((v.1.2.1[v.1.1.toNat]?.getD 0).toNat : Nat) : Int) : Int) < 48))
bif x87 then (let x88 := (((((v.1.2.1[v.1.1.toNat]?.getD 0).toNat : Nat) : Int) : Int) != 95)
some ((x88, (v.1.2.1, (v.1.2.2.1, (v.1.1, ())))), ()))
else (let x89 := (decide (((((v.1.2.1[v.1.1.toNat]?.getD 0).toNat : Nat) : Int) : Int) > 57))
bif x89 then (let x90 := (((((v.1.2.1[v.1.1.toNat]?.getD 0).toNat : Nat) : Int) : Int) != 95)
some ((x90, (v.1.2.1, (v.1.2.2.1, (v.1.1, ())))), ()))
else (some ((false, (v.1.2.1, (v.1.2.2.1, (v.1.1, ())))), ()))))
else (let x91 := (decide (((((v.1.2.1[v.1.1.toNat]?.getD 0).toNat : Nat) : Int) : Int) > 122))
bif x91 then (let x92 := (decide (((((v.1.2.1[v.1.1.toNat]?.getD 0).toNat : Nat) : Int) : Int) < 48))
bif x92 then (let x93 := (((((v.1.2.1[v.1.1.toNat]?.getD 0).toNat : Nat) : Int) : Int) != 95)
some ((x93, (v.1.2.1, (v.1.2.2.1, (v.1.1, ())))), ()))
else (let x94 := (decide (((((v.1.2.1[v.1.1.toNat]?.getD 0).toNat : Nat) : Int) : Int) > 57))
bif x94 then (let x95 := (((((v.1.2.1[v.1.1.toNat]?.getD 0).toNat : Nat) : Int) : Int) != 95)
some ((x95, (v.1.2.1, (v.1.2.2.1, (v.1.1, ())))), ()))
else (some ((false, (v.1.2.1, (v.1.2.2.1, (v.1.1, ())))), ()))))
else (some ((false, (v.1.2.1, (v.1.2.2.1, (v.1.1, ())))), ())))) : Option ((Bool × ByteArray × Int × Int × Unit) × (Unit))).bind fun v96 =>
bif v96.1.1 then (some (.inr (.inl ((false, ()), ()))))
else (some (.inl (((w64 (v96.1.2.2.2.1 + 1)), (v96.1.2.1, (v96.1.2.2.1, ()))), ())))
else none)
else (some (.inr (.inr ((), ()))))

/- pagewatch/label.key -/
def i87 : Abs.Sg := ⟨[0], (.dat .str .nil), .nil⟩

def o87 : Abs.Sg := ⟨[2], (.dat .bool .nil), .nil⟩

def m87 (v : Y16) : Option Y13 :=
((bif (v.1.1.toList == ByteArray.empty.toList) then (some ((true, (v.1.1, ())), ()))
else (bif (decide (((v.1.1.size : Int) : Int) > 24)) then (some ((true, (v.1.1, ())), ()))
else (bif (decide ((0 : Int) ≤ 0 ∧ (0 : Int) < v.1.1.size)) then
let x83 := (decide (((((v.1.1[0]?.getD 0).toNat : Nat) : Int) : Int) < 97))
bif x83 then (some ((true, (v.1.1, ())), ()))
else (bif (decide ((0 : Int) ≤ 0 ∧ (0 : Int) < v.1.1.size)) then
let x84 := (decide (((((v.1.1[0]?.getD 0).toNat : Nat) : Int) : Int) > 122))
some ((x84, (v.1.1, ())), ())
else none)
else none))) : Option ((Bool × ByteArray × Unit) × (Unit))).bind fun v85 =>
bif v85.1.1 then (some ((false, ()), ()))
else ((loopT l87_0_4 ((0, (v85.1.2.1, ((v85.1.2.1.size : Int), ()))), ())).bind fun d97 =>
sumE d97 (fun d98 => (some ((d98.1.1, ()), ()))) (fun d99 => (some ((true, ()), ()))))

def sp87 : Abs.Spec := ⟨0, i87, o87, m87⟩

def an87 : Nat → Abs.FAn
  | 0 => Abs.FAn.mk (fun
    | 7 => some ⟨[47, 0, 23, 24], (.dat .bool (.dat .str (.dat (.int .i64) (.dat (.int .i64) .nil)))), .nil⟩
    | 1 => some ⟨[21, 0], (.dat .bool (.dat .str .nil)), .nil⟩
    | _ => none) (fun _ => none) (fun
    | 4 => some ⟨⟨[24, 0, 23], (.dat (.int .i64) (.dat .str (.dat (.int .i64) .nil))), .nil⟩, (.more .ret ⟨[2], (.dat .bool .nil), .nil⟩ (.one (.exit 0) ⟨[], .nil, .nil⟩))⟩
    | _ => none) (fun _ _ => 0)
  | _ => {}

theorem ok87 : Abs.SpecOK Tryd.prog 87 sp87 :=
  Abs.specOC_of (C := ctab) (mv := mvtab) ctab_ok (n := 12) (an := an87) (T := Abs.tabOf []) good foll (Abs.tabOf_ok _ (fun _ h => by cases h)) rfl (by intro v; kernel_rfl)

def l88_0_2 (v : ((Int × ByteArray × Int × Unit) × (Unit))) : Option (((Int × ByteArray × Int × Unit) × (Unit)) ⊕ (Y13 ⊕ Y16)) :=
bif (decide ((v.1.1 : Int) < v.1.2.2.1)) then (((bif (decide ((0 : Int) ≤ v.1.1 ∧ (v.1.1 : Int) < v.1.2.1.size)) then
let x24 := (decide (((((v.1.2.1[v.1.1.toNat]?.getD 0).toNat : Nat) : Int) : Int) < 32))
bif x24 then (some ((true, (v.1.2.1, (v.1.2.2.1, (v.1.1, ())))), ()))
else (bif (decide ((0 : Int) ≤ v.1.1 ∧ (v.1.1 : Int) < v.1.2.1.size)) then
let x25 := (decide (((((v.1.2.1[v.1.1.toNat]?.getD 0).toNat : Nat) : Int) : Int) > 126))
some ((x25, (v.1.2.1, (v.1.2.2.1, (v.1.1, ())))), ())
else none)
else none) : Option ((Bool × ByteArray × Int × Int × Unit) × (Unit))).bind fun v26 =>
bif v26.1.1 then (some (.inr (.inl ((false, ()), ()))))
else (some (.inl (((w64 (v26.1.2.2.2.1 + 1)), (v26.1.2.1, (v26.1.2.2.1, ()))), ()))))
else (some (.inr (.inr ((v.1.2.1, ()), ()))))

/- pagewatch/label.value -/
def i88 : Abs.Sg := ⟨[0], (.dat .str .nil), .nil⟩

def o88 : Abs.Sg := ⟨[2], (.dat .bool .nil), .nil⟩

def m88 (v : Y16) : Option Y13 :=
(loopT l88_0_2 ((0, (v.1.1, ((v.1.1.size : Int), ()))), ())).bind fun d27 =>
sumE d27 (fun d28 => (some ((d28.1.1, ()), ()))) (fun d29 => (some (((decide (((d29.1.1.size : Int) : Int) ≤ 64)), ()), ())))

def sp88 : Abs.Spec := ⟨0, i88, o88, m88⟩

def an88 : Nat → Abs.FAn
  | 0 => Abs.FAn.mk (fun
    | 4 => some ⟨[18, 0, 5, 6], (.dat .bool (.dat .str (.dat (.int .i64) (.dat (.int .i64) .nil)))), .nil⟩
    | _ => none) (fun _ => none) (fun
    | 2 => some ⟨⟨[6, 0, 5], (.dat (.int .i64) (.dat .str (.dat (.int .i64) .nil))), .nil⟩, (.more .ret ⟨[2], (.dat .bool .nil), .nil⟩ (.one (.exit 0) ⟨[0], (.dat .str .nil), .nil⟩))⟩
    | _ => none) (fun _ _ => 0)
  | _ => {}

theorem ok88 : Abs.SpecOK Tryd.prog 88 sp88 :=
  Abs.specOC_of (C := ctab) (mv := mvtab) ctab_ok (n := 12) (an := an88) (T := Abs.tabOf []) good foll (Abs.tabOf_ok _ (fun _ h => by cases h)) rfl (by intro v; kernel_rfl)

def l42_0_4 (v : ((Int × Y5 × Y5 × Int × Unit) × (Unit))) : Option (((Int × Y5 × Y5 × Int × Unit) × (Unit)) ⊕ (Y13 ⊕ ((Unit) × (Unit)))) :=
bif (decide ((v.1.1 : Int) < v.1.2.2.2.1)) then (Abs.rowAt v.1.2.2.1 v.1.1 fun e36 _ =>
(((m87 ((e36.1, ()), ())).bind fun u37 =>
bif (!u37.1.1) then (some ((true, (v.1.2.1, (v.1.2.2.1, (v.1.2.2.2.1, (v.1.1, ()))))), ()))
else ((m88 ((e36.2.1, ()), ())).bind fun u38 =>
bif (!u38.1.1) then (some ((true, (v.1.2.1, (v.1.2.2.1, (v.1.2.2.2.1, (v.1.1, ()))))), ()))
else (bif (e36.2.1.toList == ByteArray.empty.toList) then (some ((true, (v.1.2.1, (v.1.2.2.1, (v.1.2.2.2.1, (v.1.1, ()))))), ()))
else (bif (decide ((v.1.1 : Int) > 0)) then (Abs.rowAt v.1.2.1 (w64 (v.1.1 - 1)) fun e39 _ =>
some (((Op.bytesLess e36.1.toList e39.1.toList || e36.1.toList == e39.1.toList), (v.1.2.1, (v.1.2.2.1, (v.1.2.2.2.1, (v.1.1, ()))))), ()))
else (some ((false, (v.1.2.1, (v.1.2.2.1, (v.1.2.2.2.1, (v.1.1, ()))))), ())))))) : Option ((Bool × Y5 × Y5 × Int × Int × Unit) × (Unit))).bind fun v40 =>
bif v40.1.1 then (some (.inr (.inl ((false, ()), ()))))
else (some (.inl (((w64 (v40.1.2.2.2.2.1 + 1)), (v40.1.2.1, (v40.1.2.2.1, (v40.1.2.2.2.1, ())))), ()))))
else (some (.inr (.inr ((), ()))))

/- pagewatch/label.Valid -/
def i42 : Abs.Sg := ⟨[0], (.dat (.row Z7) .nil), .nil⟩

def o42 : Abs.Sg := ⟨[2], (.dat .bool .nil), .nil⟩

def m42 (v : ((Y5 × Unit) × (Unit))) : Option Y13 :=
bif (decide (((v.1.1.length : Int) : Int) > 12)) then (some ((false, ()), ()))
else ((loopT l42_0_4 ((0, (v.1.1, (v.1.1, ((v.1.1.length : Int), ())))), ())).bind fun d41 =>
sumE d41 (fun d42 => (some ((d42.1.1, ()), ()))) (fun d43 => (some ((true, ()), ()))))

def sp42 : Abs.Spec := ⟨0, i42, o42, m42⟩

def an42 : Nat → Abs.FAn
  | 0 => Abs.FAn.mk (fun
    | 6 => some ⟨[44, 0, 8, 9, 10], (.dat .bool (.dat (.row Z7) (.dat (.row Z7) (.dat (.int .i64) (.dat (.int .i64) .nil))))), .nil⟩
    | _ => none) (fun _ => none) (fun
    | 4 => some ⟨⟨[10, 0, 8, 9], (.dat (.int .i64) (.dat (.row Z7) (.dat (.row Z7) (.dat (.int .i64) .nil)))), .nil⟩, (.more .ret ⟨[2], (.dat .bool .nil), .nil⟩ (.one (.exit 0) ⟨[], .nil, .nil⟩))⟩
    | _ => none) (fun _ _ => 0)
  | _ => {}

theorem ok42 : Abs.SpecOK Tryd.prog 42 sp42 :=
  Abs.specOC_of (C := ctab) (mv := mvtab) ctab_ok (n := 12) (an := an42) (T := Abs.tabOf [(87, sp87), (88, sp88)]) good foll (Abs.tabOf_ok _ (by simp only [List.forall_mem_cons]; exact ⟨ok87, ok88, fun _ h => by cases h⟩)) rfl (by intro v; kernel_rfl)

/- 97 pagewatch/label.quoted: not told by a law: run where it is called -/

/- 98 strings.Join: not told by a law: run where it is called -/

def l36_0_5 (v : ((Int × Y5 × Int × Unit) × ((List ByteArray) × Unit))) : Option (((Int × Y5 × Int × Unit) × ((List ByteArray) × Unit)) ⊕ ((Unit) × ((List ByteArray) × Unit))) :=
bif (decide ((v.1.1 : Int) < v.1.2.2.1)) then (Abs.rowAt v.1.2.1 v.1.1 fun e21 _ =>
bif (decide (e21.1.size + 1 ≤ 4294967296)) then
bif (decide (e21.2.1.size ≤ 4294967296)) then
bif (decide ((e21.1 ++ (bs [61])).size + (hQuote e21.2.1).size ≤ 4294967296)) then
bif (decide (v.2.1.length + [((e21.1 ++ (bs [61])) ++ (hQuote e21.2.1))].length ≤ 4294967296)) then
let x22 := (v.2.1 ++ [((e21.1 ++ (bs [61])) ++ (hQuote e21.2.1))])
some (.inl (((w64 (v.1.1 + 1)), (v.1.2.1, (v.1.2.2.1, ()))), (x22, ())))
else none
else none
else none
else none)
else (some (.inr ((), (v.2.1, ()))))

/- pagewatch/label.Text -/
def i36 : Abs.Sg := ⟨[0], (.dat (.row Z7) .nil), .nil⟩

def o36 : Abs.Sg := ⟨[2], (.dat .str .nil), .nil⟩

def m36 (v : ((Y5 × Unit) × (Unit))) : Option Y16 :=
(m42 ((v.1.1, ()), ())).bind fun u20 =>
bif (!u20.1.1) then (some ((ByteArray.empty, ()), ()))
else ((loopT l36_0_5 ((0, (v.1.1, ((v.1.1.length : Int), ()))), ([], ()))).bind fun d23 =>
bif (decide (List.length d23.2.1 ≤ 4294967296 ∧ (hJoin d23.2.1 (bs [44])).size ≤ 140737488355328)) then
bif (decide (1 + (hJoin d23.2.1 (bs [44])).size ≤ 4294967296)) then
bif (decide (((bs [123]) ++ (hJoin d23.2.1 (bs [44]))).size + 1 ≤ 4294967296)) then
let x24 := (((bs [123]) ++ (hJoin d23.2.1 (bs [44]))) ++ (bs [125]))
some ((x24, ()), ())
else none
else none
else none)

def sp36 : Abs.Spec := ⟨0, i36, o36, m36⟩

def an36 : Nat → Abs.FAn
  | 0 => Abs.FAn.mk (fun _ => none) (fun _ => none) (fun
    | 5 => some ⟨⟨[11, 3, 9, 10], (.dat (.int .i64) (.st (.own .str (0, 0)) (.dat (.row Z7) (.dat (.int .i64) .nil)))), (.arr .str false .nil)⟩, (.one (.exit 0) ⟨[3], (.st (.own .str (0, 0)) .nil), (.arr .str false .nil)⟩)⟩
    | _ => none) (fun _ _ => 0)
  | _ => {}

theorem ok36 : Abs.SpecOK Tryd.prog 36 sp36 :=
  Abs.specOC_of (C := ctab) (mv := mvtab) ctab_ok (n := 12) (an := an36) (T := Abs.tabOf [(42, sp42)]) good foll (Abs.tabOf_ok _ (by simp only [List.forall_mem_cons]; exact ⟨ok42, fun _ h => by cases h⟩)) rfl (by intro v; kernel_rfl)

/- internal/stringslite.HasPrefix -/
def i156 : Abs.Sg := ⟨[0, 1], (.dat .str (.dat .str .nil)), .nil⟩

def o156 : Abs.Sg := ⟨[4], (.dat .bool .nil), .nil⟩

def m156 (v : (Y15 × (Unit))) : Option Y13 :=
((let x3 := (decide (((v.1.1.size : Int) : Int) ≥ (v.1.2.1.size : Int)))
bif x3 then (bif (decide ((0 : Int) ≤ (v.1.2.1.size : Int))) then
bif (decide (0 ≤ (v.1.2.1.size : Int).toNat ∧ (v.1.2.1.size : Int).toNat ≤ v.1.1.size)) then
some ((((v.1.1.extract 0 (v.1.2.1.size : Int).toNat).toList == v.1.2.1.toList), ()), ())
else none
else none)
else (some ((false, ()), ()))) : Option Y13).bind fun v4 =>
some ((v4.1.1, ()), ())

def sp156 : Abs.Spec := ⟨0, i156, o156, m156⟩

def an156 : Nat → Abs.FAn
  | 0 => Abs.FAn.mk (fun
    | 1 => some ⟨[4], (.dat .bool .nil), .nil⟩
    | _ => none) (fun _ => none) (fun _ => none) (fun _ _ => 0)
  | _ => {}

theorem ok156 : Abs.SpecOK Tryd.prog 156 sp156 :=
  Abs.specOC_of (C := ctab) (mv := mvtab) ctab_ok (n := 12) (an := an156) (T := Abs.tabOf []) good foll (Abs.tabOf_ok _ (fun _ h => by cases h)) rfl (by intro v; kernel_rfl)

/- internal/stringslite.CutPrefix -/
def i138 : Abs.Sg := ⟨[0, 1], (.dat .str (.dat .str .nil)), .nil⟩

def o138 : Abs.Sg := ⟨[4, 5], (.dat .str (.dat .bool .nil)), .nil⟩

def m138 (v : (Y15 × (Unit))) : Option ((ByteArray × Bool × Unit) × (Unit)) :=
(m156 ((v.1.1, (v.1.2.1, ())), ())).bind fun u6 =>
bif (!u6.1.1) then (some ((v.1.1, (false, ())), ()))
else (bif (decide ((0 : Int) ≤ (v.1.2.1.size : Int))) then
bif (decide ((v.1.2.1.size : Int).toNat ≤ v.1.1.size ∧ v.1.1.size ≤ v.1.1.size)) then
let x7 := (v.1.1.extract (v.1.2.1.size : Int).toNat v.1.1.size)
some ((x7, (true, ())), ())
else none
else none)

def sp138 : Abs.Spec := ⟨0, i138, o138, m138⟩

def an138 : Nat → Abs.FAn
  | _ => {}

theorem ok138 : Abs.SpecOK Tryd.prog 138 sp138 :=
  Abs.specOC_of (C := ctab) (mv := mvtab) ctab_ok (n := 12) (an := an138) (T := Abs.tabOf [(156, sp156)]) good foll (Abs.tabOf_ok _ (by simp only [List.forall_mem_cons]; exact ⟨ok156, fun _ h => by cases h⟩)) rfl (by intro v; kernel_rfl)

/- strings.CutPrefix -/
def i103 : Abs.Sg := ⟨[0, 1], (.dat .str (.dat .str .nil)), .nil⟩

def o103 : Abs.Sg := ⟨[4, 5], (.dat .str (.dat .bool .nil)), .nil⟩

def m103 (v : (Y15 × (Unit))) : Option ((ByteArray × Bool × Unit) × (Unit)) :=
(m138 ((v.1.1, (v.1.2.1, ())), ())).bind fun u2 =>
some ((u2.1.1, (u2.1.2.1, ())), ())

def sp103 : Abs.Spec := ⟨0, i103, o103, m103⟩

def an103 : Nat → Abs.FAn
  | _ => {}

theorem ok103 : Abs.SpecOK Tryd.prog 103 sp103 :=
  Abs.specOC_of (C := ctab) (mv := mvtab) ctab_ok (n := 12) (an := an103) (T := Abs.tabOf [(138, sp138)]) good foll (Abs.tabOf_ok _ (by simp only [List.forall_mem_cons]; exact ⟨ok138, fun _ h => by cases h⟩)) rfl (by intro v; kernel_rfl)

/- internal/stringslite.TrimPrefix -/
def i136 : Abs.Sg := ⟨[0, 1], (.dat .str (.dat .str .nil)), .nil⟩

def o136 : Abs.Sg := ⟨[4], (.dat .str .nil), .nil⟩

def m136 (v : (Y15 × (Unit))) : Option Y16 :=
(m156 ((v.1.1, (v.1.2.1, ())), ())).bind fun u7 =>
bif u7.1.1 then (bif (decide ((0 : Int) ≤ (v.1.2.1.size : Int))) then
bif (decide ((v.1.2.1.size : Int).toNat ≤ v.1.1.size ∧ v.1.1.size ≤ v.1.1.size)) then
let x8 := (v.1.1.extract (v.1.2.1.size : Int).toNat v.1.1.size)
some ((x8, ()), ())
else none
else none)
else (some ((v.1.1, ()), ()))

def sp136 : Abs.Spec := ⟨0, i136, o136, m136⟩

def an136 : Nat → Abs.FAn
  | _ => {}

theorem ok136 : Abs.SpecOK Tryd.prog 136 sp136 :=
  Abs.specOC_of (C := ctab) (mv := mvtab) ctab_ok (n := 12) (an := an136) (T := Abs.tabOf [(156, sp156)]) good foll (Abs.tabOf_ok _ (by simp only [List.forall_mem_cons]; exact ⟨ok156, fun _ h => by cases h⟩)) rfl (by intro v; kernel_rfl)

/- strings.TrimPrefix -/
def i101 : Abs.Sg := ⟨[0, 1], (.dat .str (.dat .str .nil)), .nil⟩

def o101 : Abs.Sg := ⟨[4], (.dat .str .nil), .nil⟩

def m101 (v : (Y15 × (Unit))) : Option Y16 :=
(m136 ((v.1.1, (v.1.2.1, ())), ())).bind fun u2 =>
some ((u2.1.1, ()), ())

def sp101 : Abs.Spec := ⟨0, i101, o101, m101⟩

def an101 : Nat → Abs.FAn
  | _ => {}

theorem ok101 : Abs.SpecOK Tryd.prog 101 sp101 :=
  Abs.specOC_of (C := ctab) (mv := mvtab) ctab_ok (n := 12) (an := an101) (T := Abs.tabOf [(136, sp136)]) good foll (Abs.tabOf_ok _ (by simp only [List.forall_mem_cons]; exact ⟨ok136, fun _ h => by cases h⟩)) rfl (by intro v; kernel_rfl)

/- 168 internal/stringslite.IndexByte: not told by a law: run where it is called -/

/- 166 internal/bytealg.Cutover: not told by a law: run where it is called -/

/- 169 internal/bytealg.IndexRabinKarp[string]: not told by a law: run where it is called -/

/- internal/stringslite.Index -/
def i157 : Abs.Sg := ⟨[0, 1], (.dat .str (.dat .str .nil)), .nil⟩

def o157 : Abs.Sg := ⟨[4], (.dat (.int .i64) .nil), .nil⟩

def m157 (v : (Y15 × (Unit))) : Option ((Int × Unit) × (Unit)) :=
((bif (((v.1.2.1.size : Int) : Int) == 0) then (some ((true, (v.1.2.1, (v.1.1, ((v.1.2.1.size : Int), ())))), ()))
else (some (((v.1.2.1.toList == v.1.1.toList), (v.1.2.1, (v.1.1, ((v.1.2.1.size : Int), ())))), ()))) : Option ((Bool × ByteArray × ByteArray × Int × Unit) × (Unit))).bind fun v7 =>
bif v7.1.1 then (some ((0, ()), ()))
else (bif ((v7.1.2.2.2.1 : Int) == 1) then (bif (decide ((0 : Int) ≤ 0 ∧ (0 : Int) < v7.1.2.1.size)) then
some (((hIdx v7.1.2.2.1 (((v7.1.2.1[0]?.getD 0).toNat : Nat) : Int)), ()), ())
else none)
else (let x8 := (decide ((v7.1.2.2.2.1 : Int) ≥ (v7.1.2.2.1.size : Int)))
bif x8 then (some (((-1), ()), ()))
else (none)))

def sp157 : Abs.Spec := ⟨0, i157, o157, m157⟩

def an157 : Nat → Abs.FAn
  | 0 => Abs.FAn.mk (fun
    | 2 => some ⟨[16, 1, 0, 5], (.dat .bool (.dat .str (.dat .str (.dat (.int .i64) .nil)))), .nil⟩
    | _ => none) (fun _ => none) (fun _ => none) (fun _ _ => 0)
  | _ => {}

theorem ok157 : Abs.SpecOK Tryd.prog 157 sp157 :=
  Abs.specOC_of (C := ctab) (mv := mvtab) ctab_ok (n := 12) (an := an157) (T := Abs.tabOf []) good foll (Abs.tabOf_ok _ (fun _ h => by cases h)) rfl (by intro v; kernel_rfl)

/- warnings: load: pointer ? -/

/- internal/stringslite.Cut -/
def i139 : Abs.Sg := ⟨[0, 1], (.dat .str (.dat .str .nil)), .nil⟩

def o139 : Abs.Sg := ⟨[4, 5, 6], (.dat .str (.dat .str (.dat .bool .nil))), .nil⟩

def m139 (v : (Y15 × (Unit))) : Option ((ByteArray × ByteArray × Bool × Unit) × (Unit)) :=
(m157 ((v.1.1, (v.1.2.1, ())), ())).bind fun u7 =>
bif (decide ((u7.1.1 : Int) ≥ 0)) then (bif (decide ((0 : Int) ≤ u7.1.1)) then
bif (decide (0 ≤ u7.1.1.toNat ∧ u7.1.1.toNat ≤ v.1.1.size)) then
bif (decide ((0 : Int) ≤ (w64 (u7.1.1 + (v.1.2.1.size : Int))))) then
bif (decide ((w64 (u7.1.1 + (v.1.2.1.size : Int))).toNat ≤ v.1.1.size ∧ v.1.1.size ≤ v.1.1.size)) then
let x8 := (v.1.1.extract (w64 (u7.1.1 + (v.1.2.1.size : Int))).toNat v.1.1.size)
some (((v.1.1.extract 0 u7.1.1.toNat), (x8, (true, ()))), ())
else none
else none
else none
else none)
else (some ((v.1.1, (ByteArray.empty, (false, ()))), ()))

def sp139 : Abs.Spec := ⟨0, i139, o139, m139⟩

def an139 : Nat → Abs.FAn
  | _ => {}

theorem ok139 : Abs.SpecOK Tryd.prog 139 sp139 :=
  Abs.specOC_of (C := ctab) (mv := mvtab) ctab_ok (n := 12) (an := an139) (T := Abs.tabOf [(157, sp157)]) good foll (Abs.tabOf_ok _ (by simp only [List.forall_mem_cons]; exact ⟨ok157, fun _ h => by cases h⟩)) rfl (by intro v; kernel_rfl)

/- strings.Cut -/
def i104 : Abs.Sg := ⟨[0, 1], (.dat .str (.dat .str .nil)), .nil⟩

def o104 : Abs.Sg := ⟨[4, 5, 6], (.dat .str (.dat .str (.dat .bool .nil))), .nil⟩

def m104 (v : (Y15 × (Unit))) : Option ((ByteArray × ByteArray × Bool × Unit) × (Unit)) :=
(m139 ((v.1.1, (v.1.2.1, ())), ())).bind fun u2 =>
some ((u2.1.1, (u2.1.2.1, (u2.1.2.2.1, ()))), ())

def sp104 : Abs.Spec := ⟨0, i104, o104, m104⟩

def an104 : Nat → Abs.FAn
  | _ => {}

theorem ok104 : Abs.SpecOK Tryd.prog 104 sp104 :=
  Abs.specOC_of (C := ctab) (mv := mvtab) ctab_ok (n := 12) (an := an104) (T := Abs.tabOf [(139, sp139)]) good foll (Abs.tabOf_ok _ (by simp only [List.forall_mem_cons]; exact ⟨ok139, fun _ h => by cases h⟩)) rfl (by intro v; kernel_rfl)

/- 105 pagewatch/label.unquoted: not told by a law: run where it is called -/

def l35_0_3 (v : ((ByteArray × ByteArray × Bool × Unit) × (Y5 × Unit))) : Option (((ByteArray × ByteArray × Bool × Unit) × (Y5 × Unit)) ⊕ ((ByteArray × Bool × Unit) × (Y5 × Unit))) :=
((bif v.1.2.2.1 then (bif (!(v.1.1.toList == (bs [125]).toList)) then (some (((!(v.1.1.toList == ByteArray.empty.toList)), (v.1.2.1, (v.1.1, (v.1.2.2.1, ())))), (v.2.1, ())))
else (some ((false, (v.1.2.1, (v.1.1, (v.1.2.2.1, ())))), (v.2.1, ()))))
else (some ((false, (v.1.2.1, (v.1.1, (v.1.2.2.1, ())))), (v.2.1, ())))) : Option ((Bool × ByteArray × ByteArray × Bool × Unit) × (Y5 × Unit))).bind fun v37 =>
bif v37.1.1 then ((((m101 ((v37.1.2.2.1, ((bs [44]), ())), ())).bind fun u38 =>
(m104 ((u38.1.1, ((bs [61]), ())), ())).bind fun u39 =>
bif u39.1.2.2.1 then (bif (decide (u39.1.2.1.size ≤ 4294967296)) then
some (((hUnq u39.1.2.1).2.1, (v37.1.2.1, ((hUnq u39.1.2.1).2.2, ()))), (((u39.1.1, ((hUnq u39.1.2.1).1, ())), ()), (v37.2.1, ())))
else none)
else (some ((u39.1.2.1, (v37.1.2.1, (u39.1.2.2.1, ()))), (((u39.1.1, (ByteArray.empty, ())), ()), (v37.2.1, ()))))) : Option ((ByteArray × ByteArray × Bool × Unit) × ((Y15 × Unit) × Y5 × Unit))).bind fun v40 =>
bif (decide (v40.2.2.1.length + ([v40.2.1.1] : List Y15).length ≤ 4294967296)) then
let x41 := (v40.2.2.1 ++ ([v40.2.1.1] : List Y15))
some (.inl ((v40.1.1, (v40.1.2.1, (v40.1.2.2.1, ()))), (x41, ())))
else none)
else (some (.inr ((v37.1.2.1, (v37.1.2.2.2.1, ())), (v37.2.1, ()))))

/- pagewatch/label.Parse -/
def i35 : Abs.Sg := ⟨[0], (.dat .str .nil), .nil⟩

def o35 : Abs.Sg := ⟨[2, 3], (.st (.own Z7 (0, 0)) (.dat (.int .i64) .nil)), (.arr Z7 false .nil)⟩

def m35 (v : Y16) : Option ((Int × Unit) × (Y5 × Unit)) :=
(m103 ((v.1.1, ((bs [123]), ())), ())).bind fun u36 =>
(loopT l35_0_3 ((u36.1.1, (v.1.1, (u36.1.2.1, ()))), ([], ()))).bind fun d42 =>
((bif (!d42.1.2.1) then (some ((true, ()), (d42.2.1, ())))
else ((m36 ((d42.2.1, ()), ())).bind fun u43 =>
bif (!(u43.1.1.toList == d42.1.1.toList)) then (some ((true, ()), (d42.2.1, ())))
else (some (((d42.1.1.toList == ByteArray.empty.toList), ()), (d42.2.1, ()))))) : Option ((Bool × Unit) × (Y5 × Unit))).bind fun v44 =>
bif v44.1.1 then (some ((2, ()), ([], ())))
else (some ((0, ()), (v44.2.1, ())))

def sp35 : Abs.Spec := ⟨0, i35, o35, m35⟩

def an35 : Nat → Abs.FAn
  | 0 => Abs.FAn.mk (fun
    | 9 => some ⟨[53, 6], (.dat .bool (.st (.own Z7 (0, 0)) .nil)), (.arr Z7 false .nil)⟩
    | 3 => some ⟨[21, 0, 6, 4, 5], (.dat .bool (.dat .str (.st (.own Z7 (0, 0)) (.dat .str (.dat .bool .nil))))), (.arr Z7 false .nil)⟩
    | _ => none) (fun
    | 8 => some (⟨[4, 0, 5, 7, 6], (.dat .str (.dat .str (.dat .bool (.st (.ptr (0, 0) 2 0 0) (.st (.own Z7 (1, 0)) .nil))))), (.box 2 (.dat Z7 .nil) (.arr Z7 false .nil))⟩, none)
    | _ => none) (fun
    | 3 => some ⟨⟨[6, 4, 0, 5], (.st (.own Z7 (0, 0)) (.dat .str (.dat .str (.dat .bool .nil)))), (.arr Z7 false .nil)⟩, (.one (.exit 0) ⟨[6, 0, 5], (.st (.own Z7 (0, 0)) (.dat .str (.dat .bool .nil))), (.arr Z7 false .nil)⟩)⟩
    | _ => none) (fun _ _ => 0)
  | _ => {}

theorem ok35 : Abs.SpecOK Tryd.prog 35 sp35 :=
  Abs.specOC_of (C := ctab) (mv := mvtab) ctab_ok (n := 12) (an := an35) (T := Abs.tabOf [(103, sp103), (101, sp101), (104, sp104), (36, sp36)]) good foll (Abs.tabOf_ok _ (by simp only [List.forall_mem_cons]; exact ⟨ok103, ok101, ok104, ok36, fun _ h => by cases h⟩)) rfl (by intro v; kernel_rfl)

/- 135 strings.IndexAny: not told by a law: run where it is called -/

/- pagewatch/label.operators -/
def i96 : Abs.Sg := ⟨[], .nil, .nil⟩

def o96 : Abs.Sg := ⟨[0], (.st (.ptr (0, 0) 4 0 0) .nil), (.box 4 (.dat (.cons .str (.cons .str Z7)) .nil) .nil)⟩

def m96 (v : ((Unit) × (Unit))) : Option ((Unit) × ((Y20 × Unit) × Unit)) :=
some ((), ((((bs [61]), ((bs [33, 61]), ((bs [126]), ((bs [33, 126]), ())))), ()), ()))

def sp96 : Abs.Spec := ⟨0, i96, o96, m96⟩

def an96 : Nat → Abs.FAn
  | _ => {}

theorem ok96 : Abs.SpecOK Tryd.prog 96 sp96 :=
  Abs.specOC_of (C := ctab) (mv := mvtab) ctab_ok (n := 12) (an := an96) (T := Abs.tabOf []) good foll (Abs.tabOf_ok _ (fun _ h => by cases h)) rfl (by intro v; kernel_rfl)

def l100_0_7 (v : ((Int × ByteArray × Y20 × Unit) × ((Y11 × Unit) × (Y11 × Unit) × Unit))) : Option (((Int × ByteArray × Y20 × Unit) × ((Y11 × Unit) × (Y11 × Unit) × Unit)) ⊕ ((ByteArray × Unit) × ((Y11 × Unit) × (Y11 × Unit) × Unit))) :=
bif (decide ((v.1.1 : Int) < 4)) then (Abs.rowAt ([v.1.2.2.1.1, v.1.2.2.1.2.1, v.1.2.2.1.2.2.1, v.1.2.2.1.2.2.2.1] : List ByteArray) v.1.1 fun e34 _ =>
(m103 ((v.1.2.1, (e34, ())), ())).bind fun u35 =>
bif u35.1.2.1 then (some (.inr ((u35.1.1, ()), ((v.2.1.1, ()), (((v.2.2.1.1.1, (v.1.1, v.2.2.1.1.2.2)), ()), ())))))
else (some (.inl (((w64 (v.1.1 + 1)), (v.1.2.1, (v.1.2.2.1, ()))), ((v.2.1.1, ()), ((v.2.2.1.1, ()), ()))))))
else (some (.inr ((v.1.2.1, ()), ((v.2.1.1, ()), ((v.2.2.1.1, ()), ())))))

/- pagewatch/label.matcher -/
def i100 : Abs.Sg := ⟨[0], (.dat .str .nil), .nil⟩

def o100 : Abs.Sg := ⟨[2, 3, 4], (.st (.ptr (0, 0) 3 0 0) (.dat .str (.dat .bool .nil))), (.box 3 (.dat Z4 .nil) .nil)⟩

def m100 (v : Y16) : Option ((ByteArray × Bool × Unit) × ((Y11 × Unit) × Unit)) :=
bif (decide (2 ≤ (bs [61, 33, 126]).size) && isAsc (bs [61, 33, 126]) && decide (v.1.1.size < 4294967281 ∧ (bs [61, 33, 126]).size < 4294967281)) then
let x30 := (decide (((hAny v.1.1 (bs [61, 33, 126])) : Int) < 0))
bif x30 then (some ((ByteArray.empty, (false, ())), (((ByteArray.empty, (0, (ByteArray.empty, ()))), ()), ())))
else (bif (decide ((0 : Int) ≤ (hAny v.1.1 (bs [61, 33, 126])))) then
bif (decide (0 ≤ (hAny v.1.1 (bs [61, 33, 126])).toNat ∧ (hAny v.1.1 (bs [61, 33, 126])).toNat ≤ v.1.1.size)) then
let x31 := (v.1.1.extract 0 (hAny v.1.1 (bs [61, 33, 126])).toNat)
bif (decide ((0 : Int) ≤ (hAny v.1.1 (bs [61, 33, 126])))) then
bif (decide ((hAny v.1.1 (bs [61, 33, 126])).toNat ≤ v.1.1.size ∧ v.1.1.size ≤ v.1.1.size)) then
let x32 := (v.1.1.extract (hAny v.1.1 (bs [61, 33, 126])).toNat v.1.1.size)
(m96 ((), ())).bind fun u33 =>
(loopT l100_0_7 ((0, (x32, (u33.2.1.1, ()))), (((ByteArray.empty, (0, (ByteArray.empty, ()))), ()), (((x31, ((-1), (ByteArray.empty, ()))), ()), ())))).bind fun d36 =>
bif (decide (d36.1.1.size ≤ 4294967296)) then
some (((hUnq d36.1.1).2.1, ((hUnq d36.1.1).2.2, ())), (((d36.2.2.1.1.1, (d36.2.2.1.1.2.1, ((hUnq d36.1.1).1, ()))), ()), ()))
else none
else none
else none
else none
else none)
else none

def sp100 : Abs.Spec := ⟨0, i100, o100, m100⟩

def an100 : Nat → Abs.FAn
  | 0 => Abs.FAn.mk (fun _ => none) (fun _ => none) (fun
    | 7 => some ⟨⟨[2, 6, 27, 0, 26], (.st (.ptr (0, 0) 3 0 0) (.st (.ptr (1, 0) 3 0 0) (.dat (.int .i64) (.dat .str (.dat (.cons .str (.cons .str Z7)) .nil))))), (.box 3 (.dat Z4 .nil) (.box 3 (.dat Z4 .nil) .nil))⟩, (.one (.exit 0) ⟨[2, 6, 0], (.st (.ptr (0, 0) 3 0 0) (.st (.ptr (1, 0) 3 0 0) (.dat .str .nil))), (.box 3 (.dat Z4 .nil) (.box 3 (.dat Z4 .nil) .nil))⟩)⟩
    | _ => none) (fun _ _ => 0)
  | _ => {}

theorem ok100 : Abs.SpecOK Tryd.prog 100 sp100 :=
  Abs.specOC_of (C := ctab) (mv := mvtab) ctab_ok (n := 12) (an := an100) (T := Abs.tabOf [(96, sp96), (103, sp103)]) good foll (Abs.tabOf_ok _ (by simp only [List.forall_mem_cons]; exact ⟨ok96, ok103, fun _ h => by cases h⟩)) rfl (by intro v; kernel_rfl)

/- 130 slices.IndexFunc[[]pagewatch/api.Matcher,pagewatch/api.Matcher]: not told by a law: a parameter -/

/- 94 slices.ContainsFunc[[]pagewatch/api.Matcher,pagewatch/api.Matcher]: not told by a law: a parameter -/

/- pagewatch/label.Right -/
def i22 : Abs.Sg := ⟨[0], (.dat Z4 .nil), .nil⟩

def o22 : Abs.Sg := ⟨[2], (.dat .bool .nil), .nil⟩

def m22 (v : ((Y11 × Unit) × (Unit))) : Option Y13 :=
(((m87 ((v.1.1.1, ()), ())).bind fun u5 =>
bif u5.1.1 then (bif (decide ((v.1.1.2.1 : Int) ≥ 0)) then (bif (decide ((v.1.1.2.1 : Int) ≤ 3)) then ((m88 ((v.1.1.2.2.1, ()), ())).bind fun u6 =>
some ((u6.1.1, ()), ()))
else (some ((false, ()), ())))
else (some ((false, ()), ())))
else (some ((false, ()), ()))) : Option Y13).bind fun v7 =>
some ((v7.1.1, ()), ())

def sp22 : Abs.Spec := ⟨0, i22, o22, m22⟩

def an22 : Nat → Abs.FAn
  | 0 => Abs.FAn.mk (fun
    | 1 => some ⟨[2], (.dat .bool .nil), .nil⟩
    | _ => none) (fun _ => none) (fun _ => none) (fun _ _ => 0)
  | _ => {}

theorem ok22 : Abs.SpecOK Tryd.prog 22 sp22 :=
  Abs.specOC_of (C := ctab) (mv := mvtab) ctab_ok (n := 12) (an := an22) (T := Abs.tabOf [(87, sp87), (88, sp88)]) good foll (Abs.tabOf_ok _ (by simp only [List.forall_mem_cons]; exact ⟨ok87, ok88, fun _ h => by cases h⟩)) rfl (by intro v; kernel_rfl)

/- pagewatch/label.Format$1 -/
def i95 : Abs.Sg := ⟨[0], (.dat Z4 .nil), .nil⟩

def o95 : Abs.Sg := ⟨[2], (.dat .bool .nil), .nil⟩

def m95 (v : ((Y11 × Unit) × (Unit))) : Option Y13 :=
(m22 ((v.1.1, ()), ())).bind fun u2 =>
some (((!u2.1.1), ()), ())

def sp95 : Abs.Spec := ⟨0, i95, o95, m95⟩

def an95 : Nat → Abs.FAn
  | _ => {}

theorem ok95 : Abs.SpecOK Tryd.prog 95 sp95 :=
  Abs.specOC_of (C := ctab) (mv := mvtab) ctab_ok (n := 12) (an := an95) (T := Abs.tabOf [(22, sp22)]) good foll (Abs.tabOf_ok _ (by simp only [List.forall_mem_cons]; exact ⟨ok22, fun _ h => by cases h⟩)) rfl (by intro v; kernel_rfl)

def l29_2_2 (v : ((Int × Y3 × Int × Unit) × (Unit))) : Option (((Int × Y3 × Int × Unit) × (Unit)) ⊕ (((Int × Unit) × (Unit)) ⊕ ((Unit) × (Unit)))) :=
bif (decide ((v.1.1 : Int) < v.1.2.2.1)) then (Abs.rowAt v.1.2.1 v.1.1 fun e70 _ =>
(m95 ((e70, ()), ())).bind fun u71 =>
bif u71.1.1 then (some (.inr (.inl ((v.1.1, ()), ()))))
else (some (.inl (((w64 (v.1.1 + 1)), (v.1.2.1, (v.1.2.2.1, ()))), ()))))
else (some (.inr (.inr ((), ()))))

def l29_0_5 (v : ((Int × Y3 × Int × Unit) × ((List ByteArray) × Unit))) : Option (((Int × Y3 × Int × Unit) × ((List ByteArray) × Unit)) ⊕ ((Unit) × ((List ByteArray) × Unit))) :=
bif (decide ((v.1.1 : Int) < v.1.2.2.1)) then (Abs.rowAt v.1.2.1 v.1.1 fun e77 _ =>
(m96 ((), ())).bind fun u78 =>
Abs.rowAt ([u78.2.1.1.1, u78.2.1.1.2.1, u78.2.1.1.2.2.1, u78.2.1.1.2.2.2.1] : List ByteArray) e77.2.1 fun e79 _ =>
bif (decide (e77.1.size + e79.size ≤ 4294967296)) then
bif (decide (e77.2.2.1.size ≤ 4294967296)) then
bif (decide ((e77.1 ++ e79).size + (hQuote e77.2.2.1).size ≤ 4294967296)) then
bif (decide (v.2.1.length + [((e77.1 ++ e79) ++ (hQuote e77.2.2.1))].length ≤ 4294967296)) then
let x80 := (v.2.1 ++ [((e77.1 ++ e79) ++ (hQuote e77.2.2.1))])
some (.inl (((w64 (v.1.1 + 1)), (v.1.2.1, (v.1.2.2.1, ()))), (x80, ())))
else none
else none
else none
else none)
else (some (.inr ((), (v.2.1, ()))))

/- pagewatch/label.Format -/
def i29 : Abs.Sg := ⟨[0], (.dat (.row Z4) .nil), .nil⟩

def o29 : Abs.Sg := ⟨[2], (.dat .str .nil), .nil⟩

def m29 (v : ((Y3 × Unit) × (Unit))) : Option Y16 :=
((bif (decide (((v.1.1.length : Int) : Int) > 8)) then (some ((true, (v.1.1, ())), ()))
else ((((loopT l29_2_2 ((0, (v.1.1, ((v.1.1.length : Int), ()))), ())).bind fun d72 =>
sumE d72 (fun d73 => (some (((decide ((d73.1.1 : Int) ≥ 0)), ()), ()))) (fun d74 => (some ((false, ()), ())))) : Option Y13).bind fun v75 =>
some ((v75.1.1, (v.1.1, ())), ()))) : Option ((Bool × Y3 × Unit) × (Unit))).bind fun v76 =>
bif v76.1.1 then (some ((ByteArray.empty, ()), ()))
else ((loopT l29_0_5 ((0, (v76.1.2.1, ((v76.1.2.1.length : Int), ()))), ([], ()))).bind fun d81 =>
bif (decide (List.length d81.2.1 ≤ 4294967296 ∧ (hJoin d81.2.1 (bs [44])).size ≤ 140737488355328)) then
some (((hJoin d81.2.1 (bs [44])), ()), ())
else none)

def sp29 : Abs.Spec := ⟨0, i29, o29, m29⟩

def an29 : Nat → Abs.FAn
  | 0 => Abs.FAn.mk (fun
    | 1 => some ⟨[12, 0], (.dat .bool (.dat (.row Z4) .nil)), .nil⟩
    | _ => none) (fun _ => none) (fun
    | 5 => some ⟨⟨[15, 3, 13, 14], (.dat (.int .i64) (.st (.own .str (0, 0)) (.dat (.row Z4) (.dat (.int .i64) .nil)))), (.arr .str false .nil)⟩, (.one (.exit 0) ⟨[3], (.st (.own .str (0, 0)) .nil), (.arr .str false .nil)⟩)⟩
    | _ => none) (fun
    | 1, 5 => 1
    | _, _ => 0)
  | 1 => Abs.FAn.mk (fun
    | 1 => some ⟨[4], (.dat .bool .nil), .nil⟩
    | _ => none) (fun _ => none) (fun _ => none) (fun
    | 1, 2 => 2
    | _, _ => 0)
  | 2 => Abs.FAn.mk (fun _ => none) (fun _ => none) (fun
    | 2 => some ⟨⟨[8, 0, 1, 7], (.dat (.int .i64) (.dat (.row Z4) (.st (.clo 95 []) (.dat (.int .i64) .nil)))), .nil⟩, (.more .ret ⟨[4], (.dat (.int .i64) .nil), .nil⟩ (.one (.exit 0) ⟨[], .nil, .nil⟩))⟩
    | _ => none) (fun _ _ => 0)
  | _ => {}

theorem ok29 : Abs.SpecOK Tryd.prog 29 sp29 :=
  Abs.specOC_of (C := ctab) (mv := mvtab) ctab_ok (n := 12) (an := an29) (T := Abs.tabOf [(95, sp95), (96, sp96)]) good foll (Abs.tabOf_ok _ (by simp only [List.forall_mem_cons]; exact ⟨ok95, ok96, fun _ h => by cases h⟩)) rfl (by intro v; kernel_rfl)

def l32_0_3 (v : ((ByteArray × ByteArray × Bool × Unit) × (Y3 × Unit))) : Option (((ByteArray × ByteArray × Bool × Unit) × (Y3 × Unit)) ⊕ ((ByteArray × Bool × Unit) × (Y3 × Unit))) :=
((bif v.1.2.2.1 then (some (((!(v.1.1.toList == ByteArray.empty.toList)), (v.1.2.1, (v.1.1, (v.1.2.2.1, ())))), (v.2.1, ())))
else (some ((false, (v.1.2.1, (v.1.1, (v.1.2.2.1, ())))), (v.2.1, ())))) : Option ((Bool × ByteArray × ByteArray × Bool × Unit) × (Y3 × Unit))).bind fun v28 =>
bif v28.1.1 then ((m101 ((v28.1.2.2.1, ((bs [44]), ())), ())).bind fun u29 =>
(m100 ((u29.1.1, ()), ())).bind fun u30 =>
bif (decide (v28.2.1.length + ([u30.2.1.1] : List Y11).length ≤ 4294967296)) then
let x31 := (v28.2.1 ++ ([u30.2.1.1] : List Y11))
some (.inl ((u30.1.1, (v28.1.2.1, (u30.1.2.1, ()))), (x31, ())))
else none)
else (some (.inr ((v28.1.2.1, (v28.1.2.2.2.1, ())), (v28.2.1, ()))))

/- pagewatch/label.Matchers -/
def i32 : Abs.Sg := ⟨[0], (.dat .str .nil), .nil⟩

def o32 : Abs.Sg := ⟨[2, 3], (.st (.own Z4 (0, 0)) (.dat (.int .i64) .nil)), (.arr Z4 false .nil)⟩

def m32 (v : Y16) : Option ((Int × Unit) × (Y3 × Unit)) :=
(loopT l32_0_3 ((v.1.1, (v.1.1, (true, ()))), ([], ()))).bind fun d32 =>
((bif (!d32.1.2.1) then (some ((true, ()), (d32.2.1, ())))
else ((m29 ((d32.2.1, ()), ())).bind fun u33 =>
some (((!(u33.1.1.toList == d32.1.1.toList)), ()), (d32.2.1, ())))) : Option ((Bool × Unit) × (Y3 × Unit))).bind fun v34 =>
bif v34.1.1 then (some ((2, ()), ([], ())))
else (some ((0, ()), (v34.2.1, ())))

def sp32 : Abs.Spec := ⟨0, i32, o32, m32⟩

def an32 : Nat → Abs.FAn
  | 0 => Abs.FAn.mk (fun
    | 7 => some ⟨[32, 4], (.dat .bool (.st (.own Z4 (0, 0)) .nil)), (.arr Z4 false .nil)⟩
    | 3 => some ⟨[13, 0, 4, 5, 6], (.dat .bool (.dat .str (.st (.own Z4 (0, 0)) (.dat .str (.dat .bool .nil))))), (.arr Z4 false .nil)⟩
    | _ => none) (fun _ => none) (fun
    | 3 => some ⟨⟨[4, 5, 0, 6], (.st (.own Z4 (0, 0)) (.dat .str (.dat .str (.dat .bool .nil)))), (.arr Z4 false .nil)⟩, (.one (.exit 0) ⟨[4, 0, 6], (.st (.own Z4 (0, 0)) (.dat .str (.dat .bool .nil))), (.arr Z4 false .nil)⟩)⟩
    | _ => none) (fun _ _ => 0)
  | _ => {}

theorem ok32 : Abs.SpecOK Tryd.prog 32 sp32 :=
  Abs.specOC_of (C := ctab) (mv := mvtab) ctab_ok (n := 12) (an := an32) (T := Abs.tabOf [(101, sp101), (100, sp100), (29, sp29)]) good foll (Abs.tabOf_ok _ (by simp only [List.forall_mem_cons]; exact ⟨ok101, ok100, ok29, fun _ h => by cases h⟩)) rfl (by intro v; kernel_rfl)

def l37_0_4 (v : ((Int × Y5 × Y5 × Int × Unit) × (Unit))) : Option (((Int × Y5 × Y5 × Int × Unit) × (Unit)) ⊕ (Y13 ⊕ ((Unit) × (Unit)))) :=
bif (decide ((v.1.1 : Int) < v.1.2.2.2.1)) then (Abs.rowAt v.1.2.2.1 v.1.1 fun e30 _ =>
Abs.rowAt v.1.2.1 v.1.1 fun e31 _ =>
let x32 := (!((e30.1 == e31.1) && ((e30.2.1 == e31.2.1) && true)))
bif x32 then (some (.inr (.inl ((false, ()), ()))))
else (some (.inl (((w64 (v.1.1 + 1)), (v.1.2.1, (v.1.2.2.1, (v.1.2.2.2.1, ())))), ()))))
else (some (.inr (.inr ((), ()))))

/- pagewatch/pagewatchlaw20.same -/
def i37 : Abs.Sg := ⟨[0, 1], (.dat (.row Z7) (.dat (.row Z7) .nil)), .nil⟩

def o37 : Abs.Sg := ⟨[4], (.dat .bool .nil), .nil⟩

def m37 (v : ((Y5 × Y5 × Unit) × (Unit))) : Option Y13 :=
let x29 := (((v.1.1.length : Int) : Int) != (v.1.2.1.length : Int))
bif x29 then (some ((false, ()), ()))
else ((loopT l37_0_4 ((0, (v.1.2.1, (v.1.1, ((v.1.1.length : Int), ())))), ())).bind fun d33 =>
sumE d33 (fun d34 => (some ((d34.1.1, ()), ()))) (fun d35 => (some ((true, ()), ()))))

def sp37 : Abs.Spec := ⟨0, i37, o37, m37⟩

def an37 : Nat → Abs.FAn
  | 0 => Abs.FAn.mk (fun _ => none) (fun _ => none) (fun
    | 4 => some ⟨⟨[13, 1, 0, 12], (.dat (.int .i64) (.dat (.row Z7) (.dat (.row Z7) (.dat (.int .i64) .nil)))), .nil⟩, (.more .ret ⟨[4], (.dat .bool .nil), .nil⟩ (.one (.exit 0) ⟨[], .nil, .nil⟩))⟩
    | _ => none) (fun _ _ => 0)
  | _ => {}

theorem ok37 : Abs.SpecOK Tryd.prog 37 sp37 :=
  Abs.specOC_of (C := ctab) (mv := mvtab) ctab_ok (n := 12) (an := an37) (T := Abs.tabOf []) good foll (Abs.tabOf_ok _ (fun _ h => by cases h)) rfl (by intro v; kernel_rfl)

def l124_0_1 (v : ((ByteArray × Int × Unit) × (Unit))) : Option (((ByteArray × Int × Unit) × (Unit)) ⊕ Y16) :=
((bif (decide (((v.1.1.size : Int) : Int) > 0)) then (bif (decide ((0 : Int) ≤ (w64 ((v.1.1.size : Int) - 1)) ∧ ((w64 ((v.1.1.size : Int) - 1)) : Int) < v.1.1.size)) then
let x16 := (((((v.1.1[(w64 ((v.1.1.size : Int) - 1)).toNat]?.getD 0).toNat : Nat) : Int) : Int) == v.1.2.1)
some ((x16, (v.1.2.1, (v.1.1, ()))), ())
else none)
else (some ((false, (v.1.2.1, (v.1.1, ()))), ()))) : Option ((Bool × Int × ByteArray × Unit) × (Unit))).bind fun v17 =>
bif v17.1.1 then (bif (decide ((0 : Int) ≤ (w64 ((v17.1.2.2.1.size : Int) - 1)))) then
bif (decide (0 ≤ (w64 ((v17.1.2.2.1.size : Int) - 1)).toNat ∧ (w64 ((v17.1.2.2.1.size : Int) - 1)).toNat ≤ v17.1.2.2.1.size)) then
let x18 := (v17.1.2.2.1.extract 0 (w64 ((v17.1.2.2.1.size : Int) - 1)).toNat)
some (.inl ((x18, (v17.1.2.1, ())), ()))
else none
else none)
else (some (.inr ((v17.1.2.2.1, ()), ())))

/- strings.trimRightByte -/
def i124 : Abs.Sg := ⟨[0, 1], (.dat .str (.dat (.int .u8) .nil)), .nil⟩

def o124 : Abs.Sg := ⟨[4], (.dat .str .nil), .nil⟩

def m124 (v : ((ByteArray × Int × Unit) × (Unit))) : Option Y16 :=
(loopT l124_0_1 ((v.1.1, (v.1.2.1, ())), ())).bind fun d19 =>
some ((d19.1.1, ()), ())

def sp124 : Abs.Spec := ⟨0, i124, o124, m124⟩

def an124 : Nat → Abs.FAn
  | 0 => Abs.FAn.mk (fun
    | 1 => some ⟨[16, 1, 0], (.dat .bool (.dat (.int .u8) (.dat .str .nil))), .nil⟩
    | _ => none) (fun _ => none) (fun
    | 1 => some ⟨⟨[0, 1], (.dat .str (.dat (.int .u8) .nil)), .nil⟩, (.one (.exit 0) ⟨[0], (.dat .str .nil), .nil⟩)⟩
    | _ => none) (fun _ _ => 0)
  | _ => {}

theorem ok124 : Abs.SpecOK Tryd.prog 124 sp124 :=
  Abs.specOC_of (C := ctab) (mv := mvtab) ctab_ok (n := 12) (an := an124) (T := Abs.tabOf []) good foll (Abs.tabOf_ok _ (fun _ h => by cases h)) rfl (by intro v; kernel_rfl)

def l123_0_1 (v : ((ByteArray × Int × Unit) × (Unit))) : Option (((ByteArray × Int × Unit) × (Unit)) ⊕ Y16) :=
((bif (decide (((v.1.1.size : Int) : Int) > 0)) then (bif (decide ((0 : Int) ≤ 0 ∧ (0 : Int) < v.1.1.size)) then
let x12 := (((((v.1.1[0]?.getD 0).toNat : Nat) : Int) : Int) == v.1.2.1)
some ((x12, (v.1.2.1, (v.1.1, ()))), ())
else none)
else (some ((false, (v.1.2.1, (v.1.1, ()))), ()))) : Option ((Bool × Int × ByteArray × Unit) × (Unit))).bind fun v13 =>
bif v13.1.1 then (bif (decide (1 ≤ v13.1.2.2.1.size ∧ v13.1.2.2.1.size ≤ v13.1.2.2.1.size)) then
some (.inl (((v13.1.2.2.1.extract 1 v13.1.2.2.1.size), (v13.1.2.1, ())), ()))
else none)
else (some (.inr ((v13.1.2.2.1, ()), ())))

/- strings.trimLeftByte -/
def i123 : Abs.Sg := ⟨[0, 1], (.dat .str (.dat (.int .u8) .nil)), .nil⟩

def o123 : Abs.Sg := ⟨[4], (.dat .str .nil), .nil⟩

def m123 (v : ((ByteArray × Int × Unit) × (Unit))) : Option Y16 :=
(loopT l123_0_1 ((v.1.1, (v.1.2.1, ())), ())).bind fun d14 =>
some ((d14.1.1, ()), ())

def sp123 : Abs.Spec := ⟨0, i123, o123, m123⟩

def an123 : Nat → Abs.FAn
  | 0 => Abs.FAn.mk (fun
    | 1 => some ⟨[13, 1, 0], (.dat .bool (.dat (.int .u8) (.dat .str .nil))), .nil⟩
    | _ => none) (fun _ => none) (fun
    | 1 => some ⟨⟨[0, 1], (.dat .str (.dat (.int .u8) .nil)), .nil⟩, (.one (.exit 0) ⟨[0], (.dat .str .nil), .nil⟩)⟩
    | _ => none) (fun _ _ => 0)
  | _ => {}

theorem ok123 : Abs.SpecOK Tryd.prog 123 sp123 :=
  Abs.specOC_of (C := ctab) (mv := mvtab) ctab_ok (n := 12) (an := an123) (T := Abs.tabOf []) good foll (Abs.tabOf_ok _ (fun _ h => by cases h)) rfl (by intro v; kernel_rfl)

/- 125 strings.makeASCIISet: not told by a law: run where it is called -/

/- 127 strings.trimRightASCII: not told by a law: run where it is called -/

/- 126 strings.trimLeftASCII: not told by a law: run where it is called -/

/- 129 strings.trimRightUnicode: not told by a law: run where it is called -/

/- 128 strings.trimLeftUnicode: not told by a law: run where it is called -/

/- strings.Trim -/
def i91 : Abs.Sg := ⟨[0, 1], (.dat .str (.dat .str .nil)), .nil⟩

def o91 : Abs.Sg := ⟨[4], (.dat .str .nil), .nil⟩

def m91 (v : (Y15 × (Unit))) : Option Y16 :=
((bif (v.1.1.toList == ByteArray.empty.toList) then (some ((true, (v.1.1, (v.1.2.1, ()))), ()))
else (some (((v.1.2.1.toList == ByteArray.empty.toList), (v.1.1, (v.1.2.1, ()))), ()))) : Option ((Bool × ByteArray × ByteArray × Unit) × (Unit))).bind fun v16 =>
bif v16.1.1 then (some ((v16.1.2.1, ()), ()))
else (((bif (((v16.1.2.2.1.size : Int) : Int) == 1) then (bif (decide ((0 : Int) ≤ 0 ∧ (0 : Int) < v16.1.2.2.1.size)) then
let x17 := (decide (((((v16.1.2.2.1[0]?.getD 0).toNat : Nat) : Int) : Int) < 128))
some ((x17, (v16.1.2.2.1, (v16.1.2.1, ()))), ())
else none)
else (some ((false, (v16.1.2.2.1, (v16.1.2.1, ()))), ()))) : Option ((Bool × ByteArray × ByteArray × Unit) × (Unit))).bind fun v18 =>
bif v18.1.1 then (bif (decide ((0 : Int) ≤ 0 ∧ (0 : Int) < v18.1.2.1.size)) then
(m124 ((v18.1.2.2.1, ((((v18.1.2.1[0]?.getD 0).toNat : Nat) : Int), ())), ())).bind fun u19 =>
bif (decide ((0 : Int) ≤ 0 ∧ (0 : Int) < v18.1.2.1.size)) then
(m123 ((u19.1.1, ((((v18.1.2.1[0]?.getD 0).toNat : Nat) : Int), ())), ())).bind fun u20 =>
some ((u20.1.1, ()), ())
else none
else none)
else (none))

def sp91 : Abs.Spec := ⟨0, i91, o91, m91⟩

def an91 : Nat → Abs.FAn
  | 0 => Abs.FAn.mk (fun
    | 3 => some ⟨[21, 1, 0], (.dat .bool (.dat .str (.dat .str .nil))), .nil⟩
    | 1 => some ⟨[12, 0, 1], (.dat .bool (.dat .str (.dat .str .nil))), .nil⟩
    | _ => none) (fun _ => none) (fun _ => none) (fun _ _ => 0)
  | _ => {}

theorem ok91 : Abs.SpecOK Tryd.prog 91 sp91 :=
  Abs.specOC_of (C := ctab) (mv := mvtab) ctab_ok (n := 12) (an := an91) (T := Abs.tabOf [(124, sp124), (123, sp123)]) good foll (Abs.tabOf_ok _ (by simp only [List.forall_mem_cons]; exact ⟨ok124, ok123, fun _ h => by cases h⟩)) rfl (by intro v; kernel_rfl)

/- warnings: left out -/

def l26_0_2 (v : ((Int × Int × Int × Int × ByteArray × ByteArray × Unit) × (Unit))) : Option (((Int × Int × Int × Int × ByteArray × ByteArray × Unit) × (Unit)) ⊕ (Y13 ⊕ ((Int × ByteArray × Unit) × (Unit)))) :=
let x47 := (decide ((v.1.2.1 : Int) < (v.1.2.2.2.2.1.size : Int)))
bif x47 then (((let x48 := (decide ((v.1.1 : Int) < (v.1.2.2.2.2.2.1.size : Int)))
bif x48 then (bif (decide ((0 : Int) ≤ v.1.1 ∧ (v.1.1 : Int) < v.1.2.2.2.2.2.1.size)) then
let x49 := (((((v.1.2.2.2.2.2.1[v.1.1.toNat]?.getD 0).toNat : Nat) : Int) : Int) == 42)
some ((x49, (v.1.2.1, (v.1.2.2.2.2.1, (v.1.2.2.2.2.2.1, (v.1.1, (v.1.2.2.1, (v.1.2.2.2.1, ()))))))), ())
else none)
else (some ((false, (v.1.2.1, (v.1.2.2.2.2.1, (v.1.2.2.2.2.2.1, (v.1.1, (v.1.2.2.1, (v.1.2.2.2.1, ()))))))), ()))) : Option ((Bool × Int × ByteArray × ByteArray × Int × Int × Int × Unit) × (Unit))).bind fun v50 =>
bif v50.1.1 then (some (.inl (((w64 (v50.1.2.2.2.2.1 + 1)), (v50.1.2.1, (v50.1.2.2.2.2.1, (v50.1.2.1, (v50.1.2.2.1, (v50.1.2.2.2.1, ())))))), ())))
else (((let x51 := (decide ((v50.1.2.2.2.2.1 : Int) < (v50.1.2.2.2.1.size : Int)))
bif x51 then (bif (decide ((0 : Int) ≤ v50.1.2.2.2.2.1 ∧ (v50.1.2.2.2.2.1 : Int) < v50.1.2.2.2.1.size)) then
let x52 := (((((v50.1.2.2.2.1[v50.1.2.2.2.2.1.toNat]?.getD 0).toNat : Nat) : Int) : Int) == 63)
bif x52 then (some ((true, (v50.1.2.2.2.2.2.1, (v50.1.2.2.2.2.2.2.1, (v50.1.2.2.1, (v50.1.2.2.2.1, (v50.1.2.1, (v50.1.2.2.2.2.1, ()))))))), ()))
else (bif (decide ((0 : Int) ≤ v50.1.2.2.2.2.1 ∧ (v50.1.2.2.2.2.1 : Int) < v50.1.2.2.2.1.size)) then
bif (decide ((0 : Int) ≤ v50.1.2.1 ∧ (v50.1.2.1 : Int) < v50.1.2.2.1.size)) then
let x53 := (((((v50.1.2.2.2.1[v50.1.2.2.2.2.1.toNat]?.getD 0).toNat : Nat) : Int) : Int) == (((v50.1.2.2.1[v50.1.2.1.toNat]?.getD 0).toNat : Nat) : Int))
some ((x53, (v50.1.2.2.2.2.2.1, (v50.1.2.2.2.2.2.2.1, (v50.1.2.2.1, (v50.1.2.2.2.1, (v50.1.2.1, (v50.1.2.2.2.2.1, ()))))))), ())
else none
else none)
else none)
else (some ((false, (v50.1.2.2.2.2.2.1, (v50.1.2.2.2.2.2.2.1, (v50.1.2.2.1, (v50.1.2.2.2.1, (v50.1.2.1, (v50.1.2.2.2.2.1, ()))))))), ()))) : Option ((Bool × Int × Int × ByteArray × ByteArray × Int × Int × Unit) × (Unit))).bind fun v54 =>
bif v54.1.1 then (some (.inl (((w64 (v54.1.2.2.2.2.2.2.1 + 1)), ((w64 (v54.1.2.2.2.2.2.1 + 1)), (v54.1.2.1, (v54.1.2.2.1, (v54.1.2.2.2.1, (v54.1.2.2.2.2.1, ())))))), ())))
else (bif (decide ((v54.1.2.1 : Int) ≥ 0)) then (some (.inl (((w64 (v54.1.2.1 + 1)), ((w64 (v54.1.2.2.1 + 1)), (v54.1.2.1, ((w64 (v54.1.2.2.1 + 1)), (v54.1.2.2.2.1, (v54.1.2.2.2.2.1, ())))))), ())))
else (some (.inr (.inl ((false, ()), ())))))))
else (some (.inr (.inr ((v.1.1, (v.1.2.2.2.2.2.1, ())), ()))))

/- pagewatch/label.Like -/
def i26 : Abs.Sg := ⟨[0, 1], (.dat .str (.dat .str .nil)), .nil⟩

def o26 : Abs.Sg := ⟨[4], (.dat .bool .nil), .nil⟩

def m26 (v : (Y15 × (Unit))) : Option Y13 :=
(loopT l26_0_2 ((0, (0, ((-1), (0, (v.1.2.1, (v.1.1, ())))))), ())).bind fun d55 =>
sumE d55 (fun d56 => (some ((d56.1.1, ()), ()))) (fun d57 => (bif (decide ((0 : Int) ≤ d57.1.1)) then
bif (decide (d57.1.1.toNat ≤ d57.1.2.1.size ∧ d57.1.2.1.size ≤ d57.1.2.1.size)) then
(m91 (((d57.1.2.1.extract d57.1.1.toNat d57.1.2.1.size), ((bs [42]), ())), ())).bind fun u58 =>
some (((u58.1.1.toList == ByteArray.empty.toList), ()), ())
else none
else none))

def sp26 : Abs.Spec := ⟨0, i26, o26, m26⟩

def an26 : Nat → Abs.FAn
  | 0 => Abs.FAn.mk (fun
    | 7 => some ⟨[28, 7, 8, 1, 0, 6, 5], (.dat .bool (.dat (.int .i64) (.dat (.int .i64) (.dat .str (.dat .str (.dat (.int .i64) (.dat (.int .i64) .nil))))))), .nil⟩
    | 4 => some ⟨[13, 6, 1, 0, 5, 7, 8], (.dat .bool (.dat (.int .i64) (.dat .str (.dat .str (.dat (.int .i64) (.dat (.int .i64) (.dat (.int .i64) .nil))))))), .nil⟩
    | _ => none) (fun _ => none) (fun
    | 2 => some ⟨⟨[5, 6, 7, 8, 1, 0], (.dat (.int .i64) (.dat (.int .i64) (.dat (.int .i64) (.dat (.int .i64) (.dat .str (.dat .str .nil)))))), .nil⟩, (.more .ret ⟨[4], (.dat .bool .nil), .nil⟩ (.one (.exit 0) ⟨[5, 0], (.dat (.int .i64) (.dat .str .nil)), .nil⟩))⟩
    | _ => none) (fun _ _ => 0)
  | _ => {}

theorem ok26 : Abs.SpecOK Tryd.prog 26 sp26 :=
  Abs.specOC_of (C := ctab) (mv := mvtab) ctab_ok (n := 12) (an := an26) (T := Abs.tabOf [(91, sp91)]) good foll (Abs.tabOf_ok _ (by simp only [List.forall_mem_cons]; exact ⟨ok91, fun _ h => by cases h⟩)) rfl (by intro v; kernel_rfl)

def l38_0_2 (v : ((Int × ByteArray × Y5 × Int × Unit) × (Unit))) : Option (((Int × ByteArray × Y5 × Int × Unit) × (Unit)) ⊕ (Y16 ⊕ ((Unit) × (Unit)))) :=
bif (decide ((v.1.1 : Int) < v.1.2.2.2.1)) then (Abs.rowAt v.1.2.2.1 v.1.1 fun e13 _ =>
bif (e13.1.toList == v.1.2.1.toList) then (some (.inr (.inl ((e13.2.1, ()), ()))))
else (some (.inl (((w64 (v.1.1 + 1)), (v.1.2.1, (v.1.2.2.1, (v.1.2.2.2.1, ())))), ()))))
else (some (.inr (.inr ((), ()))))

/- pagewatch/label.Get -/
def i38 : Abs.Sg := ⟨[0, 1], (.dat (.row Z7) (.dat .str .nil)), .nil⟩

def o38 : Abs.Sg := ⟨[4], (.dat .str .nil), .nil⟩

def m38 (v : ((Y5 × ByteArray × Unit) × (Unit))) : Option Y16 :=
(loopT l38_0_2 ((0, (v.1.2.1, (v.1.1, ((v.1.1.length : Int), ())))), ())).bind fun d14 =>
sumE d14 (fun d15 => (some ((d15.1.1, ()), ()))) (fun d16 => (some ((ByteArray.empty, ()), ())))

def sp38 : Abs.Spec := ⟨0, i38, o38, m38⟩

def an38 : Nat → Abs.FAn
  | 0 => Abs.FAn.mk (fun _ => none) (fun _ => none) (fun
    | 2 => some ⟨⟨[9, 1, 7, 8], (.dat (.int .i64) (.dat .str (.dat (.row Z7) (.dat (.int .i64) .nil)))), .nil⟩, (.more .ret ⟨[4], (.dat .str .nil), .nil⟩ (.one (.exit 0) ⟨[], .nil, .nil⟩))⟩
    | _ => none) (fun _ _ => 0)
  | _ => {}

theorem ok38 : Abs.SpecOK Tryd.prog 38 sp38 :=
  Abs.specOC_of (C := ctab) (mv := mvtab) ctab_ok (n := 12) (an := an38) (T := Abs.tabOf []) good foll (Abs.tabOf_ok _ (fun _ h => by cases h)) rfl (by intro v; kernel_rfl)

/- pagewatch/label.Match -/
def i24 : Abs.Sg := ⟨[0, 1], (.dat Z4 (.dat (.row Z7) .nil)), .nil⟩

def o24 : Abs.Sg := ⟨[4], (.dat .bool .nil), .nil⟩

def m24 (v : ((Y11 × Y5 × Unit) × (Unit))) : Option Y13 :=
(m38 ((v.1.2.1, (v.1.1.1, ())), ())).bind fun u9 =>
bif ((v.1.1.2.1 : Int) == 0) then (some (((u9.1.1.toList == v.1.1.2.2.1.toList), ()), ()))
else (bif ((v.1.1.2.1 : Int) == 1) then (some (((!(u9.1.1.toList == v.1.1.2.2.1.toList)), ()), ()))
else (bif ((v.1.1.2.1 : Int) == 2) then ((m26 ((v.1.1.2.2.1, (u9.1.1, ())), ())).bind fun u10 =>
some ((u10.1.1, ()), ()))
else (bif ((v.1.1.2.1 : Int) == 3) then ((m26 ((v.1.1.2.2.1, (u9.1.1, ())), ())).bind fun u11 =>
some (((!u11.1.1), ()), ()))
else (some ((false, ()), ())))))

def sp24 : Abs.Spec := ⟨0, i24, o24, m24⟩

def an24 : Nat → Abs.FAn
  | _ => {}

theorem ok24 : Abs.SpecOK Tryd.prog 24 sp24 :=
  Abs.specOC_of (C := ctab) (mv := mvtab) ctab_ok (n := 12) (an := an24) (T := Abs.tabOf [(38, sp38), (26, sp26)]) good foll (Abs.tabOf_ok _ (by simp only [List.forall_mem_cons]; exact ⟨ok38, ok26, fun _ h => by cases h⟩)) rfl (by intro v; kernel_rfl)

/- 99 pagewatch/label.All$1: not told by a law: a closure -/

def l30_2_2 (v : ((Int × Y3 × Int × Unit) × ((Y5 × Unit) × Unit))) : Option (((Int × Y3 × Int × Unit) × ((Y5 × Unit) × Unit)) ⊕ (((Int × Unit) × ((Y5 × Unit) × Unit)) ⊕ ((Unit) × ((Y5 × Unit) × Unit)))) :=
bif (decide ((v.1.1 : Int) < v.1.2.2.1)) then (Abs.rowAt v.1.2.1 v.1.1 fun e32 _ =>
(m24 ((e32, (v.2.1.1, ())), ())).bind fun u33 =>
bif (!u33.1.1) then (some (.inr (.inl ((v.1.1, ()), ((v.2.1.1, ()), ())))))
else (some (.inl (((w64 (v.1.1 + 1)), (v.1.2.1, (v.1.2.2.1, ()))), ((v.2.1.1, ()), ())))))
else (some (.inr (.inr ((), ((v.2.1.1, ()), ())))))

/- pagewatch/label.All -/
def i30 : Abs.Sg := ⟨[0, 1], (.dat (.row Z4) (.dat (.row Z7) .nil)), .nil⟩

def o30 : Abs.Sg := ⟨[4], (.dat .bool .nil), .nil⟩

def m30 (v : ((Y3 × Y5 × Unit) × (Unit))) : Option Y13 :=
(((loopT l30_2_2 ((0, (v.1.1, ((v.1.1.length : Int), ()))), ((v.1.2.1, ()), ()))).bind fun d34 =>
sumE d34 (fun d35 => (some (((decide ((d35.1.1 : Int) ≥ 0)), ()), ((d35.2.1.1, ()), ())))) (fun d36 => (some ((false, ()), ((d36.2.1.1, ()), ()))))) : Option ((Bool × Unit) × ((Y5 × Unit) × Unit))).bind fun v37 =>
some (((!v37.1.1), ()), ())

def sp30 : Abs.Spec := ⟨0, i30, o30, m30⟩

def an30 : Nat → Abs.FAn
  | 0 => Abs.FAn.mk (fun _ => none) (fun _ => none) (fun _ => none) (fun
    | 1, 2 => 1
    | _, _ => 0)
  | 1 => Abs.FAn.mk (fun
    | 1 => some ⟨[4], (.dat .bool .nil), (.box 1 (.dat (.row Z7) .nil) .nil)⟩
    | _ => none) (fun _ => none) (fun _ => none) (fun
    | 1, 2 => 2
    | _, _ => 0)
  | 2 => Abs.FAn.mk (fun _ => none) (fun _ => none) (fun
    | 2 => some ⟨⟨[8, 0, 1, 7], (.dat (.int .i64) (.dat (.row Z4) (.st (.clo 99 [((0, 0), 1, 0, 0)]) (.dat (.int .i64) .nil)))), (.box 1 (.dat (.row Z7) .nil) .nil)⟩, (.more .ret ⟨[4], (.dat (.int .i64) .nil), (.box 1 (.dat (.row Z7) .nil) .nil)⟩ (.one (.exit 0) ⟨[], .nil, (.box 1 (.dat (.row Z7) .nil) .nil)⟩))⟩
    | _ => none) (fun
    | 4, 5 => 3
    | _, _ => 0)
  | _ => {}

theorem ok30 : Abs.SpecOK Tryd.prog 30 sp30 :=
  Abs.specOC_of (C := ctab) (mv := mvtab) ctab_ok (n := 12) (an := an30) (T := Abs.tabOf [(24, sp24)]) good foll (Abs.tabOf_ok _ (by simp only [List.forall_mem_cons]; exact ⟨ok24, fun _ h => by cases h⟩)) rfl (by intro v; kernel_rfl)

/- pagewatch/pagewatchlaw20.sane -/
def i18 : Abs.Sg := ⟨[], .nil, .nil⟩

def o18 : Abs.Sg := ⟨[0], (.dat .bool .nil), .nil⟩

def m18 (v : ((Unit) × (Unit))) : Option Y13 :=
(m36 ((([((bs [97]), ((bs [120, 34]), ())), ((bs [98]), ((bs [121]), ()))] : List Y15), ()), ())).bind fun u22 =>
(m35 ((u22.1.1, ()), ())).bind fun u23 =>
(m32 (((bs [104, 111, 115, 116, 61, 34, 34, 44, 97, 33, 126, 34, 63, 34]), ()), ())).bind fun u24 =>
((bif ((u23.1.1 : Int) == 0) then (bif ((u24.1.1 : Int) == 0) then (bif (u22.1.1.toList == (bs [123, 97, 61, 34, 120, 92, 34, 34, 44, 98, 61, 34, 121, 34, 125]).toList) then ((m37 ((([((bs [97]), ((bs [120, 34]), ())), ((bs [98]), ((bs [121]), ()))] : List Y15), (u23.2.1, ())), ())).bind fun u25 =>
bif u25.1.1 then ((m26 (((bs [97, 42, 98, 63]), ((bs [97, 88, 88, 98, 99]), ())), ())).bind fun u26 =>
bif u26.1.1 then ((m26 (((bs [63]), (ByteArray.empty, ())), ())).bind fun u27 =>
bif (!u27.1.1) then (bif ((((u24.2.1.length : Nat) : Int) : Int) == 2) then (bif (decide (1 ≤ ([((bs [97]), ((bs [120, 34]), ())), ((bs [98]), ((bs [121]), ()))] : List Y15).length ∧ ([((bs [97]), ((bs [120, 34]), ())), ((bs [98]), ((bs [121]), ()))] : List Y15).length ≤ ([((bs [97]), ((bs [120, 34]), ())), ((bs [98]), ((bs [121]), ()))] : List Y15).length)) then
bif (decide (1 + (([((bs [97]), ((bs [120, 34]), ())), ((bs [98]), ((bs [121]), ()))] : List Y15).length - 1) ≤ ([((bs [97]), ((bs [120, 34]), ())), ((bs [98]), ((bs [121]), ()))] : List Y15).length)) then
(m30 ((u24.2.1, (((([((bs [97]), ((bs [120, 34]), ())), ((bs [98]), ((bs [121]), ()))] : List Y15).drop 1).take (([((bs [97]), ((bs [120, 34]), ())), ((bs [98]), ((bs [121]), ()))] : List Y15).length - 1)), ())), ())).bind fun u28 =>
bif u28.1.1 then (bif (decide ((0 : Int) ≤ 0 ∧ (0 : Int) < u24.2.1.length)) then
(u24.2.1[0]?).bind fun e29 =>
(m24 ((e29, (([((bs [97]), ((bs [120, 34]), ())), ((bs [98]), ((bs [121]), ()))] : List Y15), ())), ())).bind fun u30 =>
some ((u30.1.1, ()), ())
else none)
else (some ((false, ()), ()))
else none
else none)
else (some ((false, ()), ())))
else (some ((false, ()), ())))
else (some ((false, ()), ())))
else (some ((false, ()), ())))
else (some ((false, ()), ())))
else (some ((false, ()), ())))
else (some ((false, ()), ()))) : Option Y13).bind fun v31 =>
some ((v31.1.1, ()), ())

def sp18 : Abs.Spec := ⟨0, i18, o18, m18⟩

def an18 : Nat → Abs.FAn
  | 0 => Abs.FAn.mk (fun
    | 5 => some ⟨[0], (.dat .bool .nil), .nil⟩
    | _ => none) (fun _ => none) (fun _ => none) (fun _ _ => 0)
  | _ => {}

theorem ok18 : Abs.SpecOK Tryd.prog 18 sp18 :=
  Abs.specOC_of (C := ctab) (mv := mvtab) ctab_ok (n := 12) (an := an18) (T := Abs.tabOf [(36, sp36), (35, sp35), (32, sp32), (37, sp37), (26, sp26), (30, sp30), (24, sp24)]) good foll (Abs.tabOf_ok _ (by simp only [List.forall_mem_cons]; exact ⟨ok36, ok35, ok32, ok37, ok26, ok30, ok24, fun _ h => by cases h⟩)) rfl (by intro v; kernel_rfl)

/- pagewatch/pagewatchmade.Roll -/
def i19 : Abs.Sg := ⟨[0], (.dat (.row (.int .i64)) .nil), .nil⟩

def o19 : Abs.Sg := ⟨[2], (.st (.ptr (0, 0) 2 0 0) .nil), (.box 2 (.dat Z9 .nil) .nil)⟩

def m19 (v : (((List Int) × Unit) × (Unit))) : Option ((Unit) × (Y12 × Unit)) :=
some ((), (((v.1.1, (0, ())), ()), ()))

def sp19 : Abs.Spec := ⟨0, i19, o19, m19⟩

def an19 : Nat → Abs.FAn
  | _ => {}

theorem ok19 : Abs.SpecOK Tryd.prog 19 sp19 :=
  Abs.specOC_of (C := ctab) (mv := mvtab) ctab_ok (n := 12) (an := an19) (T := Abs.tabOf []) good foll (Abs.tabOf_ok _ (fun _ h => by cases h)) rfl (by intro v; kernel_rfl)

/- (*pagewatch/pagewatchmade.Dice).Next -/
def i39 : Abs.Sg := ⟨[0, 1], (.st (.ptr (0, 0) 2 0 0) (.dat (.int .i64) .nil)), (.box 2 (.dat Z9 .nil) .nil)⟩

def o39 : Abs.Sg := ⟨[4], (.dat (.int .i64) .nil), (.box 2 (.dat Z9 .nil) .nil)⟩

def m39 (v : ((Int × Unit) × (Y12 × Unit))) : Option ((Int × Unit) × (Y12 × Unit)) :=
((let x15 := (decide ((v.2.1.1.2.1 : Int) ≥ (v.2.1.1.1.length : Int)))
bif x15 then (some ((true, (v.1.1, ())), ((v.2.1.1, ()), ())))
else (some (((decide ((v.1.1 : Int) < 1)), (v.1.1, ())), ((v.2.1.1, ()), ())))) : Option ((Bool × Int × Unit) × (Y12 × Unit))).bind fun v16 =>
bif v16.1.1 then (some ((0, ()), ((v16.2.1.1, ()), ())))
else (Abs.rowAt v16.2.1.1.1 v16.2.1.1.2.1 fun e17 _ =>
bif (decide (v16.1.2.1 ≠ (0 : Int))) then
((let x18 := (decide ((((e17 : Int).tmod v16.1.2.1) : Int) < 0))
bif x18 then (some (((w64 (((e17 : Int).tmod v16.1.2.1) + v16.1.2.1)), ()), (((v16.2.1.1.1, ((w64 (v16.2.1.1.2.1 + 1)), ())), ()), ())))
else (some ((((e17 : Int).tmod v16.1.2.1), ()), (((v16.2.1.1.1, ((w64 (v16.2.1.1.2.1 + 1)), ())), ()), ())))) : Option ((Int × Unit) × (Y12 × Unit))).bind fun v19 =>
some ((v19.1.1, ()), ((v19.2.1.1, ()), ()))
else none)

def sp39 : Abs.Spec := ⟨1, i39, o39, m39⟩

def an39 : Nat → Abs.FAn
  | 0 => Abs.FAn.mk (fun
    | 1 => some ⟨[19, 1, 0], (.dat .bool (.dat (.int .i64) (.st (.ptr (0, 0) 2 0 0) .nil))), (.box 2 (.dat Z9 .nil) .nil)⟩
    | _ => none) (fun
    | 7 => some (⟨[5], (.dat (.int .i64) .nil), (.box 2 (.dat Z9 .nil) .nil)⟩, none)
    | _ => none) (fun _ => none) (fun _ _ => 0)
  | _ => {}

theorem ok39 : Abs.SpecOK Tryd.prog 39 sp39 :=
  Abs.specOC_of (C := ctab) (mv := mvtab) ctab_ok (n := 12) (an := an39) (T := Abs.tabOf []) good foll (Abs.tabOf_ok _ (fun _ h => by cases h)) rfl (by intro v; kernel_rfl)

def l20_0_3 (v : ((Int × Y20 × Unit) × (Y12 × Y5 × Unit))) : Option (((Int × Y20 × Unit) × (Y12 × Y5 × Unit)) ⊕ ((Unit) × (Y12 × Y5 × Unit))) :=
bif (decide ((v.1.1 : Int) < 4)) then (((Abs.rowAt ([v.1.2.1.1, v.1.2.1.2.1, v.1.2.1.2.2.1, v.1.2.1.2.2.2.1] : List ByteArray) v.1.1 fun e29 _ =>
(m39 ((6, ()), ((v.2.1.1, ()), ()))).bind fun u30 =>
bif (decide ((0 : Int) ≤ u30.1.1 ∧ (u30.1.1 : Int) < [ByteArray.empty, (bs [97]), (bs [98]), (bs [99, 114, 105, 116]), (bs [97, 34, 98, 92]), (bs [119, 101, 98, 45, 49])].length)) then
([ByteArray.empty, (bs [97]), (bs [98]), (bs [99, 114, 105, 116]), (bs [97, 34, 98, 92]), (bs [119, 101, 98, 45, 49])][u30.1.1.toNat]?).bind fun e31 =>
bif (!(e31.toList == ByteArray.empty.toList)) then (bif (decide (v.2.2.1.length + ([(e29, (e31, ()))] : List Y15).length ≤ 4294967296)) then
let x32 := (v.2.2.1 ++ ([(e29, (e31, ()))] : List Y15))
some ((v.1.2.1, (v.1.1, ())), ((u30.2.1.1, ()), (x32, ())))
else none)
else (some ((v.1.2.1, (v.1.1, ())), ((u30.2.1.1, ()), (v.2.2.1, ()))))
else none) : Option ((Y20 × Int × Unit) × (Y12 × Y5 × Unit))).bind fun v33 =>
some (.inl (((w64 (v33.1.2.1 + 1)), (v33.1.1, ())), ((v33.2.1.1, ()), (v33.2.2.1, ())))))
else (some (.inr ((), ((v.2.1.1, ()), (v.2.2.1, ())))))

/- (*pagewatch/pagewatchmade.Dice).Labels -/
def i20 : Abs.Sg := ⟨[0], (.st (.ptr (0, 0) 2 0 0) .nil), (.box 2 (.dat Z9 .nil) .nil)⟩

def o20 : Abs.Sg := ⟨[2], (.st (.own Z7 (1, 0)) .nil), (.box 2 (.dat Z9 .nil) (.arr Z7 false .nil))⟩

def m20 (v : ((Unit) × (Y12 × Unit))) : Option ((Unit) × (Y12 × Y5 × Unit)) :=
(loopT l20_0_3 ((0, (((bs [97, 112, 112]), ((bs [104, 111, 115, 116]), ((bs [115, 101, 118]), ((bs [116, 101, 97, 109]), ())))), ())), ((v.2.1.1, ()), ([], ())))).bind fun d34 =>
some ((), ((d34.2.1.1, ()), (d34.2.2.1, ())))

def sp20 : Abs.Spec := ⟨1, i20, o20, m20⟩

def an20 : Nat → Abs.FAn
  | 0 => Abs.FAn.mk (fun _ => none) (fun
    | 8 => some (⟨[3, 0, 7, 8], (.st (.own Z7 (1, 0)) (.st (.ptr (0, 0) 2 0 0) (.dat (.cons .str (.cons .str Z7)) (.dat (.int .i64) .nil)))), (.box 2 (.dat Z9 .nil) (.arr Z7 false .nil))⟩, none)
    | _ => none) (fun
    | 3 => some ⟨⟨[8, 3, 0, 7], (.dat (.int .i64) (.st (.own Z7 (1, 0)) (.st (.ptr (0, 0) 2 0 0) (.dat (.cons .str (.cons .str Z7)) .nil)))), (.box 2 (.dat Z9 .nil) (.arr Z7 false .nil))⟩, (.one (.exit 0) ⟨[3], (.st (.own Z7 (1, 0)) .nil), (.box 2 (.dat Z9 .nil) (.arr Z7 false .nil))⟩)⟩
    | _ => none) (fun _ _ => 0)
  | _ => {}

theorem ok20 : Abs.SpecOK Tryd.prog 20 sp20 :=
  Abs.specOC_of (C := ctab) (mv := mvtab) ctab_ok (n := 12) (an := an20) (T := Abs.tabOf [(39, sp39)]) good foll (Abs.tabOf_ok _ (by simp only [List.forall_mem_cons]; exact ⟨ok39, fun _ h => by cases h⟩)) rfl (by intro v; kernel_rfl)

/- (*pagewatch/pagewatchmade.Dice).Matcher -/
def i86 : Abs.Sg := ⟨[0], (.st (.ptr (0, 0) 2 0 0) .nil), (.box 2 (.dat Z9 .nil) .nil)⟩

def o86 : Abs.Sg := ⟨[2], (.st (.ptr (1, 0) 3 0 0) .nil), (.box 2 (.dat Z9 .nil) (.box 3 (.dat Z4 .nil) .nil))⟩

def m86 (v : ((Unit) × (Y12 × Unit))) : Option ((Unit) × (Y12 × (Y11 × Unit) × Unit)) :=
(m39 ((5, ()), ((v.2.1.1, ()), ()))).bind fun u10 =>
bif (decide ((0 : Int) ≤ u10.1.1 ∧ (u10.1.1 : Int) < [(bs [97, 112, 112]), (bs [104, 111, 115, 116]), (bs [115, 101, 118]), (bs [116, 101, 97, 109]), (bs [122, 111, 110, 101])].length)) then
([(bs [97, 112, 112]), (bs [104, 111, 115, 116]), (bs [115, 101, 118]), (bs [116, 101, 97, 109]), (bs [122, 111, 110, 101])][u10.1.1.toNat]?).bind fun e11 =>
(m39 ((4, ()), ((u10.2.1.1, ()), ()))).bind fun u12 =>
(m39 ((8, ()), ((u12.2.1.1, ()), ()))).bind fun u13 =>
bif (decide ((0 : Int) ≤ u13.1.1 ∧ (u13.1.1 : Int) < [(bs [97]), (bs [98]), ByteArray.empty, (bs [42]), (bs [99, 114, 105, 116]), (bs [63]), (bs [119, 101, 98, 45, 42]), (bs [97, 34, 98, 92])].length)) then
([(bs [97]), (bs [98]), ByteArray.empty, (bs [42]), (bs [99, 114, 105, 116]), (bs [63]), (bs [119, 101, 98, 45, 42]), (bs [97, 34, 98, 92])][u13.1.1.toNat]?).bind fun e14 =>
some ((), ((u13.2.1.1, ()), (((e11, (u12.1.1, (e14, ()))), ()), ())))
else none
else none

def sp86 : Abs.Spec := ⟨1, i86, o86, m86⟩

def an86 : Nat → Abs.FAn
  | _ => {}

theorem ok86 : Abs.SpecOK Tryd.prog 86 sp86 :=
  Abs.specOC_of (C := ctab) (mv := mvtab) ctab_ok (n := 12) (an := an86) (T := Abs.tabOf [(39, sp39)]) good foll (Abs.tabOf_ok _ (by simp only [List.forall_mem_cons]; exact ⟨ok39, fun _ h => by cases h⟩)) rfl (by intro v; kernel_rfl)

def l21_0_3 (v : ((Int × Unit) × (Y12 × Y3 × Unit))) : Option (((Int × Unit) × (Y12 × Y3 × Unit)) ⊕ ((Unit) × (Y12 × Y3 × Unit))) :=
bif (decide ((v.1.1 : Int) > 0)) then ((m86 ((), ((v.2.1.1, ()), ()))).bind fun u19 =>
bif (decide (v.2.2.1.length + ([u19.2.2.1.1] : List Y11).length ≤ 4294967296)) then
let x20 := (v.2.2.1 ++ ([u19.2.2.1.1] : List Y11))
some (.inl (((w64 (v.1.1 - 1)), ()), ((u19.2.1.1, ()), (x20, ()))))
else none)
else (some (.inr ((), ((v.2.1.1, ()), (v.2.2.1, ())))))

/- (*pagewatch/pagewatchmade.Dice).Matchers -/
def i21 : Abs.Sg := ⟨[0, 1], (.st (.ptr (0, 0) 2 0 0) (.dat (.int .i64) .nil)), (.box 2 (.dat Z9 .nil) .nil)⟩

def o21 : Abs.Sg := ⟨[4], (.st (.own Z4 (1, 0)) .nil), (.box 2 (.dat Z9 .nil) (.arr Z4 false .nil))⟩

def m21 (v : ((Int × Unit) × (Y12 × Unit))) : Option ((Unit) × (Y12 × Y3 × Unit)) :=
(m39 (((w64 (v.1.1 + 1)), ()), ((v.2.1.1, ()), ()))).bind fun u18 =>
(loopT l21_0_3 ((u18.1.1, ()), ((u18.2.1.1, ()), ([], ())))).bind fun d21 =>
some ((), ((d21.2.1.1, ()), (d21.2.2.1, ())))

def sp21 : Abs.Spec := ⟨1, i21, o21, m21⟩

def an21 : Nat → Abs.FAn
  | 0 => Abs.FAn.mk (fun _ => none) (fun _ => none) (fun
    | 3 => some ⟨⟨[6, 0, 5], (.dat (.int .i64) (.st (.ptr (0, 0) 2 0 0) (.st (.own Z4 (1, 0)) .nil))), (.box 2 (.dat Z9 .nil) (.arr Z4 false .nil))⟩, (.one (.exit 0) ⟨[5], (.st (.own Z4 (1, 0)) .nil), (.box 2 (.dat Z9 .nil) (.arr Z4 false .nil))⟩)⟩
    | _ => none) (fun _ _ => 0)
  | _ => {}

theorem ok21 : Abs.SpecOK Tryd.prog 21 sp21 :=
  Abs.specOC_of (C := ctab) (mv := mvtab) ctab_ok (n := 12) (an := an21) (T := Abs.tabOf [(39, sp39), (86, sp86)]) good foll (Abs.tabOf_ok _ (by simp only [List.forall_mem_cons]; exact ⟨ok39, ok86, fun _ h => by cases h⟩)) rfl (by intro v; kernel_rfl)

def l89_0_4 (v : ((Int × ByteArray × Unit) × (Unit))) : Option (((Int × ByteArray × Unit) × (Unit)) ⊕ (Y13 ⊕ ((Unit) × (Unit)))) :=
bif (decide ((v.1.1 : Int) < (v.1.2.1.size : Int))) then (((bif (decide ((0 : Int) ≤ v.1.1 ∧ (v.1.1 : Int) < v.1.2.1.size)) then
let x89 := (decide (((((v.1.2.1[v.1.1.toNat]?.getD 0).toNat : Nat) : Int) : Int) < 97))
bif x89 then (bif (decide ((0 : Int) ≤ v.1.1 ∧ (v.1.1 : Int) < v.1.2.1.size)) then
let x90 := (decide (((((v.1.2.1[v.1.1.toNat]?.getD 0).toNat : Nat) : Int) : Int) < 48))
bif x90 then (bif (decide ((0 : Int) ≤ v.1.1 ∧ (v.1.1 : Int) < v.1.2.1.size)) then
let x91 := (((((v.1.2.1[v.1.1.toNat]?.getD 0).toNat : Nat) : Int) : Int) != 95)
some ((x91, (v.1.2.1, (v.1.1, ()))), ())
else none)
else (bif (decide ((0 : Int) ≤ v.1.1 ∧ (v.1.1 : Int) < v.1.2.1.size)) then
let x92 := (decide (((((v.1.2.1[v.1.1.toNat]?.getD 0).toNat : Nat) : Int) : Int) > 57))
bif x92 then (bif (decide ((0 : Int) ≤ v.1.1 ∧ (v.1.1 : Int) < v.1.2.1.size)) then
let x93 := (((((v.1.2.1[v.1.1.toNat]?.getD 0).toNat : Nat) : Int) : Int) != 95)
some ((x93, (v.1.2.1, (v.1.1, ()))), ())
else none)
else (some ((false, (v.1.2.1, (v.1.1, ()))), ()))
else none)
else none)
else (bif (decide ((0 : Int) ≤ v.1.1 ∧ (v.1.1 : Int) < v.1.2.1.size)) then
let x94 := (decide (((((v.1.2.1[v.1.1.toNat]?.getD 0).toNat : Nat) : Int) : Int) > 122))
bif x94 then (bif (decide ((0 : Int) ≤ v.1.1 ∧ (v.1.1 : Int) < v.1.2.1.size)) then
let x95 := (decide (((((v.1.2.1[v.1.1.toNat]?.getD 0).toNat : Nat) : Int) : Int) < 48))
bif x95 then (bif (decide ((0 : Int) ≤ v.1.1 ∧ (v.1.1 : Int) < v.1.2.1.size)) then
let x96 := (((((v.1.2.1[v.1.1.toNat]?.getD 0).toNat : Nat) : Int) : Int) != 95)
some ((x96, (v.1.2.1, (v.1.1, ()))), ())
else none)
else (bif (decide ((0 : Int) ≤ v.1.1 ∧ (v.1.1 : Int) < v.1.2.1.size)) then
let x97 := (decide (((((v.1.2.1[v.1.1.toNat]?.getD 0).toNat : Nat) : Int) : Int) > 57))
bif x97 then (bif (decide ((0 : Int) ≤ v.1.1 ∧ (v.1.1 : Int) < v.1.2.1.size)) then
let x98 := (((((v.1.2.1[v.1.1.toNat]?.getD 0).toNat : Nat) : Int) : Int) != 95)
some ((x98, (v.1.2.1, (v.1.1, ()))), ())
else none)
else (some ((false, (v.1.2.1, (v.1.1, ()))), ()))
else none)
else none)
else (some ((false, (v.1.2.1, (v.1.1, ()))), ()))
else none)
else none) : Option ((Bool × ByteArray × Int × Unit) × (Unit))).bind fun v99 =>
bif v99.1.1 then (some (.inr (.inl ((false, ()), ()))))
else (some (.inl (((w64 (v99.1.2.2.1 + 1)), (v99.1.2.1, ())), ()))))
else (some (.inr (.inr ((), ()))))

/- pagewatch/pagewatchref20.Key -/
def i89 : Abs.Sg := ⟨[0], (.dat .str .nil), .nil⟩

def o89 : Abs.Sg := ⟨[2], (.dat .bool .nil), .nil⟩

def m89 (v : Y16) : Option Y13 :=
((bif (decide (((v.1.1.size : Int) : Int) < 1)) then (some ((true, (v.1.1, ())), ()))
else (bif (decide (((v.1.1.size : Int) : Int) > 24)) then (some ((true, (v.1.1, ())), ()))
else (bif (decide ((0 : Int) ≤ 0 ∧ (0 : Int) < v.1.1.size)) then
let x86 := (decide (((((v.1.1[0]?.getD 0).toNat : Nat) : Int) : Int) < 97))
bif x86 then (some ((true, (v.1.1, ())), ()))
else (bif (decide ((0 : Int) ≤ 0 ∧ (0 : Int) < v.1.1.size)) then
let x87 := (decide (((((v.1.1[0]?.getD 0).toNat : Nat) : Int) : Int) > 122))
some ((x87, (v.1.1, ())), ())
else none)
else none))) : Option ((Bool × ByteArray × Unit) × (Unit))).bind fun v88 =>
bif v88.1.1 then (some ((false, ()), ()))
else ((loopT l89_0_4 ((0, (v88.1.2.1, ())), ())).bind fun d100 =>
sumE d100 (fun d101 => (some ((d101.1.1, ()), ()))) (fun d102 => (some ((true, ()), ()))))

def sp89 : Abs.Spec := ⟨0, i89, o89, m89⟩

def an89 : Nat → Abs.FAn
  | 0 => Abs.FAn.mk (fun
    | 6 => some ⟨[55, 0, 3], (.dat .bool (.dat .str (.dat (.int .i64) .nil))), .nil⟩
    | 1 => some ⟨[21, 0], (.dat .bool (.dat .str .nil)), .nil⟩
    | _ => none) (fun _ => none) (fun
    | 4 => some ⟨⟨[3, 0], (.dat (.int .i64) (.dat .str .nil)), .nil⟩, (.more .ret ⟨[2], (.dat .bool .nil), .nil⟩ (.one (.exit 0) ⟨[], .nil, .nil⟩))⟩
    | _ => none) (fun _ _ => 0)
  | _ => {}

theorem ok89 : Abs.SpecOK Tryd.prog 89 sp89 :=
  Abs.specOC_of (C := ctab) (mv := mvtab) ctab_ok (n := 12) (an := an89) (T := Abs.tabOf []) good foll (Abs.tabOf_ok _ (fun _ h => by cases h)) rfl (by intro v; kernel_rfl)

def l90_0_4 (v : ((Int × ByteArray × Unit) × (Unit))) : Option (((Int × ByteArray × Unit) × (Unit)) ⊕ (Y13 ⊕ ((Unit) × (Unit)))) :=
bif (decide ((v.1.1 : Int) < (v.1.2.1.size : Int))) then (((bif (decide ((0 : Int) ≤ v.1.1 ∧ (v.1.1 : Int) < v.1.2.1.size)) then
let x27 := (decide (((((v.1.2.1[v.1.1.toNat]?.getD 0).toNat : Nat) : Int) : Int) < 32))
bif x27 then (some ((true, (v.1.2.1, (v.1.1, ()))), ()))
else (bif (decide ((0 : Int) ≤ v.1.1 ∧ (v.1.1 : Int) < v.1.2.1.size)) then
let x28 := (decide (((((v.1.2.1[v.1.1.toNat]?.getD 0).toNat : Nat) : Int) : Int) > 126))
some ((x28, (v.1.2.1, (v.1.1, ()))), ())
else none)
else none) : Option ((Bool × ByteArray × Int × Unit) × (Unit))).bind fun v29 =>
bif v29.1.1 then (some (.inr (.inl ((false, ()), ()))))
else (some (.inl (((w64 (v29.1.2.2.1 + 1)), (v29.1.2.1, ())), ()))))
else (some (.inr (.inr ((), ()))))

/- pagewatch/pagewatchref20.value -/
def i90 : Abs.Sg := ⟨[0], (.dat .str .nil), .nil⟩

def o90 : Abs.Sg := ⟨[2], (.dat .bool .nil), .nil⟩

def m90 (v : Y16) : Option Y13 :=
bif (decide (((v.1.1.size : Int) : Int) > 64)) then (some ((false, ()), ()))
else ((loopT l90_0_4 ((0, (v.1.1, ())), ())).bind fun d30 =>
sumE d30 (fun d31 => (some ((d31.1.1, ()), ()))) (fun d32 => (some ((true, ()), ()))))

def sp90 : Abs.Spec := ⟨0, i90, o90, m90⟩

def an90 : Nat → Abs.FAn
  | 0 => Abs.FAn.mk (fun
    | 6 => some ⟨[22, 0, 3], (.dat .bool (.dat .str (.dat (.int .i64) .nil))), .nil⟩
    | _ => none) (fun _ => none) (fun
    | 4 => some ⟨⟨[3, 0], (.dat (.int .i64) (.dat .str .nil)), .nil⟩, (.more .ret ⟨[2], (.dat .bool .nil), .nil⟩ (.one (.exit 0) ⟨[], .nil, .nil⟩))⟩
    | _ => none) (fun _ _ => 0)
  | _ => {}

theorem ok90 : Abs.SpecOK Tryd.prog 90 sp90 :=
  Abs.specOC_of (C := ctab) (mv := mvtab) ctab_ok (n := 12) (an := an90) (T := Abs.tabOf []) good foll (Abs.tabOf_ok _ (fun _ h => by cases h)) rfl (by intro v; kernel_rfl)

/- pagewatch/pagewatchref20.Right -/
def i23 : Abs.Sg := ⟨[0], (.dat Z4 .nil), .nil⟩

def o23 : Abs.Sg := ⟨[2], (.dat .bool .nil), .nil⟩

def m23 (v : ((Y11 × Unit) × (Unit))) : Option Y13 :=
(((m89 ((v.1.1.1, ()), ())).bind fun u5 =>
bif u5.1.1 then (bif (decide ((v.1.1.2.1 : Int) ≥ 0)) then (bif (decide ((v.1.1.2.1 : Int) ≤ 3)) then ((m90 ((v.1.1.2.2.1, ()), ())).bind fun u6 =>
some ((u6.1.1, ()), ()))
else (some ((false, ()), ())))
else (some ((false, ()), ())))
else (some ((false, ()), ()))) : Option Y13).bind fun v7 =>
some ((v7.1.1, ()), ())

def sp23 : Abs.Spec := ⟨0, i23, o23, m23⟩

def an23 : Nat → Abs.FAn
  | 0 => Abs.FAn.mk (fun
    | 1 => some ⟨[2], (.dat .bool .nil), .nil⟩
    | _ => none) (fun _ => none) (fun _ => none) (fun _ _ => 0)
  | _ => {}

theorem ok23 : Abs.SpecOK Tryd.prog 23 sp23 :=
  Abs.specOC_of (C := ctab) (mv := mvtab) ctab_ok (n := 12) (an := an23) (T := Abs.tabOf [(89, sp89), (90, sp90)]) good foll (Abs.tabOf_ok _ (by simp only [List.forall_mem_cons]; exact ⟨ok89, ok90, fun _ h => by cases h⟩)) rfl (by intro v; kernel_rfl)

def l44_0_2 (v : ((Int × Y5 × ByteArray × Unit) × (Unit))) : Option (((Int × Y5 × ByteArray × Unit) × (Unit)) ⊕ (Y16 ⊕ ((Unit) × (Unit)))) :=
let x23 := (decide ((v.1.1 : Int) < (v.1.2.1.length : Int)))
bif x23 then (Abs.rowAt v.1.2.1 v.1.1 fun e24 _ =>
bif (e24.1.toList == v.1.2.2.1.toList) then (Abs.rowAt v.1.2.1 v.1.1 fun e25 _ =>
some (.inr (.inl ((e25.2.1, ()), ()))))
else (some (.inl (((w64 (v.1.1 + 1)), (v.1.2.1, (v.1.2.2.1, ()))), ()))))
else (some (.inr (.inr ((), ()))))

/- pagewatch/pagewatchref20.Get -/
def i44 : Abs.Sg := ⟨[0, 1], (.dat (.row Z7) (.dat .str .nil)), .nil⟩

def o44 : Abs.Sg := ⟨[4], (.dat .str .nil), .nil⟩

def m44 (v : ((Y5 × ByteArray × Unit) × (Unit))) : Option Y16 :=
(loopT l44_0_2 ((0, (v.1.1, (v.1.2.1, ()))), ())).bind fun d26 =>
sumE d26 (fun d27 => (some ((d27.1.1, ()), ()))) (fun d28 => (some ((ByteArray.empty, ()), ())))

def sp44 : Abs.Spec := ⟨0, i44, o44, m44⟩

def an44 : Nat → Abs.FAn
  | 0 => Abs.FAn.mk (fun _ => none) (fun _ => none) (fun
    | 2 => some ⟨⟨[5, 0, 1], (.dat (.int .i64) (.dat (.row Z7) (.dat .str .nil))), .nil⟩, (.more .ret ⟨[4], (.dat .str .nil), .nil⟩ (.one (.exit 0) ⟨[], .nil, .nil⟩))⟩
    | _ => none) (fun _ _ => 0)
  | _ => {}

theorem ok44 : Abs.SpecOK Tryd.prog 44 sp44 :=
  Abs.specOC_of (C := ctab) (mv := mvtab) ctab_ok (n := 12) (an := an44) (T := Abs.tabOf []) good foll (Abs.tabOf_ok _ (fun _ h => by cases h)) rfl (by intro v; kernel_rfl)

def l27_0_8 (v : ((Int × ByteArray × Int × ByteArray × Unit) × ((List Bool) × (List Bool) × Unit))) : Option (((Int × ByteArray × Int × ByteArray × Unit) × ((List Bool) × (List Bool) × Unit)) ⊕ ((ByteArray × ByteArray × Int × Unit) × ((List Bool) × Unit))) :=
bif (decide ((v.1.1 : Int) ≤ (v.1.2.1.size : Int))) then (((bif (decide ((0 : Int) ≤ v.1.2.2.1 ∧ (v.1.2.2.1 : Int) < v.1.2.2.2.1.size)) then
let x89 := (((((v.1.2.2.2.1[v.1.2.2.1.toNat]?.getD 0).toNat : Nat) : Int) : Int) == 42)
bif x89 then (((bif (decide ((0 : Int) ≤ v.1.1 ∧ (v.1.1 : Int) < v.2.2.1.length)) then
(v.2.2.1[v.1.1.toNat]?).bind fun e90 =>
bif e90 then (bif (decide ((0 : Int) ≤ v.1.1 ∧ (v.1.1 : Int) < v.2.1.length)) then
bif (decide (v.1.1.toNat < v.2.1.length)) then
some ((v.1.2.1, (v.1.2.2.1, (v.1.2.2.2.1, (v.1.1, ())))), ((v.2.1.set v.1.1.toNat true), (v.2.2.1, ())))
else none
else none)
else (bif (decide ((v.1.1 : Int) > 0)) then (bif (decide ((0 : Int) ≤ (w64 (v.1.1 - 1)) ∧ ((w64 (v.1.1 - 1)) : Int) < v.2.1.length)) then
(v.2.1[(w64 (v.1.1 - 1)).toNat]?).bind fun e91 =>
bif (decide ((0 : Int) ≤ v.1.1 ∧ (v.1.1 : Int) < v.2.1.length)) then
bif (decide (v.1.1.toNat < v.2.1.length)) then
some ((v.1.2.1, (v.1.2.2.1, (v.1.2.2.2.1, (v.1.1, ())))), ((v.2.1.set v.1.1.toNat e91), (v.2.2.1, ())))
else none
else none
else none)
else (bif (decide ((0 : Int) ≤ v.1.1 ∧ (v.1.1 : Int) < v.2.1.length)) then
bif (decide (v.1.1.toNat < v.2.1.length)) then
some ((v.1.2.1, (v.1.2.2.1, (v.1.2.2.2.1, (v.1.1, ())))), ((v.2.1.set v.1.1.toNat false), (v.2.2.1, ())))
else none
else none))
else none) : Option ((ByteArray × Int × ByteArray × Int × Unit) × ((List Bool) × (List Bool) × Unit))).bind fun v92 =>
some ((v92.1.1, (v92.1.2.1, (v92.1.2.2.1, (v92.1.2.2.2.1, ())))), (v92.2.1, (v92.2.2.1, ()))))
else (bif (decide ((v.1.1 : Int) > 0)) then (((bif (decide ((0 : Int) ≤ (w64 (v.1.1 - 1)) ∧ ((w64 (v.1.1 - 1)) : Int) < v.2.2.1.length)) then
(v.2.2.1[(w64 (v.1.1 - 1)).toNat]?).bind fun e93 =>
bif e93 then (bif (decide ((0 : Int) ≤ v.1.2.2.1 ∧ (v.1.2.2.1 : Int) < v.1.2.2.2.1.size)) then
let x94 := (((((v.1.2.2.2.1[v.1.2.2.1.toNat]?.getD 0).toNat : Nat) : Int) : Int) == 63)
bif x94 then (bif (decide ((0 : Int) ≤ v.1.1 ∧ (v.1.1 : Int) < v.2.1.length)) then
bif (decide (v.1.1.toNat < v.2.1.length)) then
some ((v.1.2.1, (v.1.2.2.1, (v.1.2.2.2.1, (v.1.1, ())))), ((v.2.1.set v.1.1.toNat true), (v.2.2.1, ())))
else none
else none)
else (bif (decide ((0 : Int) ≤ v.1.2.2.1 ∧ (v.1.2.2.1 : Int) < v.1.2.2.2.1.size)) then
bif (decide ((0 : Int) ≤ (w64 (v.1.1 - 1)) ∧ ((w64 (v.1.1 - 1)) : Int) < v.1.2.1.size)) then
let x95 := (((((v.1.2.2.2.1[v.1.2.2.1.toNat]?.getD 0).toNat : Nat) : Int) : Int) == (((v.1.2.1[(w64 (v.1.1 - 1)).toNat]?.getD 0).toNat : Nat) : Int))
bif (decide ((0 : Int) ≤ v.1.1 ∧ (v.1.1 : Int) < v.2.1.length)) then
bif (decide (v.1.1.toNat < v.2.1.length)) then
some ((v.1.2.1, (v.1.2.2.1, (v.1.2.2.2.1, (v.1.1, ())))), ((v.2.1.set v.1.1.toNat x95), (v.2.2.1, ())))
else none
else none
else none
else none)
else none)
else (bif (decide ((0 : Int) ≤ v.1.1 ∧ (v.1.1 : Int) < v.2.1.length)) then
bif (decide (v.1.1.toNat < v.2.1.length)) then
some ((v.1.2.1, (v.1.2.2.1, (v.1.2.2.2.1, (v.1.1, ())))), ((v.2.1.set v.1.1.toNat false), (v.2.2.1, ())))
else none
else none)
else none) : Option ((ByteArray × Int × ByteArray × Int × Unit) × ((List Bool) × (List Bool) × Unit))).bind fun v96 =>
some ((v96.1.1, (v96.1.2.1, (v96.1.2.2.1, (v96.1.2.2.2.1, ())))), (v96.2.1, (v96.2.2.1, ()))))
else (some ((v.1.2.1, (v.1.2.2.1, (v.1.2.2.2.1, (v.1.1, ())))), (v.2.1, (v.2.2.1, ())))))
else none) : Option ((ByteArray × Int × ByteArray × Int × Unit) × ((List Bool) × (List Bool) × Unit))).bind fun v97 =>
some (.inl (((w64 (v97.1.2.2.2.1 + 1)), (v97.1.1, (v97.1.2.1, (v97.1.2.2.1, ())))), (v97.2.1, (v97.2.2.1, ())))))
else (some (.inr ((v.1.2.1, (v.1.2.2.2.1, (v.1.2.2.1, ()))), (v.2.1, ()))))

def l27_0_4 (v : (Y11 × ((List Bool) × Unit))) : Option ((Y11 × ((List Bool) × Unit)) ⊕ ((ByteArray × Unit) × ((List Bool) × Unit))) :=
let x88 := (decide ((v.1.2.1 : Int) < (v.1.2.2.1.size : Int)))
bif x88 then (bif (decide ((0 : Int) ≤ (w64 ((v.1.1.size : Int) + 1)) ∧ ((w64 ((v.1.1.size : Int) + 1)) : Int) ≤ (w64 ((v.1.1.size : Int) + 1)) ∧ ((w64 ((v.1.1.size : Int) + 1)) : Int) ≤ 4294967296)) then
(loopT l27_0_8 ((0, (v.1.1, (v.1.2.1, (v.1.2.2.1, ())))), ((List.replicate (w64 ((v.1.1.size : Int) + 1)).toNat (false : Bool)), (v.2.1, ())))).bind fun d98 =>
some (.inl ((d98.1.1, ((w64 (d98.1.2.2.1 + 1)), (d98.1.2.1, ()))), (d98.2.1, ())))
else none)
else (some (.inr ((v.1.1, ()), (v.2.1, ()))))

/- pagewatch/pagewatchref20.Like -/
def i27 : Abs.Sg := ⟨[0, 1], (.dat .str (.dat .str .nil)), .nil⟩

def o27 : Abs.Sg := ⟨[4], (.dat .bool .nil), .nil⟩

def m27 (v : (Y15 × (Unit))) : Option Y13 :=
bif (decide ((0 : Int) ≤ (w64 ((v.1.2.1.size : Int) + 1)) ∧ ((w64 ((v.1.2.1.size : Int) + 1)) : Int) ≤ (w64 ((v.1.2.1.size : Int) + 1)) ∧ ((w64 ((v.1.2.1.size : Int) + 1)) : Int) ≤ 4294967296)) then
bif (decide ((0 : Int) ≤ 0 ∧ (0 : Int) < (List.replicate (w64 ((v.1.2.1.size : Int) + 1)).toNat (false : Bool)).length)) then
bif (decide (0 < (List.replicate (w64 ((v.1.2.1.size : Int) + 1)).toNat (false : Bool)).length)) then
(loopT l27_0_4 ((v.1.2.1, (0, (v.1.1, ()))), (((List.replicate (w64 ((v.1.2.1.size : Int) + 1)).toNat (false : Bool)).set 0 true), ()))).bind fun d99 =>
bif (decide ((0 : Int) ≤ (d99.1.1.size : Int) ∧ ((d99.1.1.size : Int) : Int) < d99.2.1.length)) then
(d99.2.1[(d99.1.1.size : Int).toNat]?).bind fun e100 =>
some ((e100, ()), ())
else none
else none
else none
else none

def sp27 : Abs.Spec := ⟨0, i27, o27, m27⟩

def an27 : Nat → Abs.FAn
  | 0 => Abs.FAn.mk (fun
    | 13 => some ⟨[7, 5, 1, 6, 0, 8], (.st (.own .bool (0, 0)) (.st (.own .bool (1, 0)) (.dat .str (.dat (.int .i64) (.dat .str (.dat (.int .i64) .nil)))))), (.arr .bool false (.arr .bool false .nil))⟩
    | 11 => some ⟨[7, 5, 1, 6, 0, 8], (.st (.own .bool (0, 0)) (.st (.own .bool (1, 0)) (.dat .str (.dat (.int .i64) (.dat .str (.dat (.int .i64) .nil)))))), (.arr .bool false (.arr .bool false .nil))⟩
    | _ => none) (fun
    | 9 => some (⟨[7, 5, 1, 6, 0, 8], (.st (.own .bool (0, 0)) (.st (.own .bool (1, 0)) (.dat .str (.dat (.int .i64) (.dat .str (.dat (.int .i64) .nil)))))), (.arr .bool false (.arr .bool false .nil))⟩, none)
    | _ => none) (fun
    | 4 => some ⟨⟨[5, 1, 6, 0], (.st (.own .bool (0, 0)) (.dat .str (.dat (.int .i64) (.dat .str .nil)))), (.arr .bool false .nil)⟩, (.one (.exit 0) ⟨[1, 5], (.dat .str (.st (.own .bool (0, 0)) .nil)), (.arr .bool false .nil)⟩)⟩
    | 8 => some ⟨⟨[8, 7, 5, 1, 6, 0], (.dat (.int .i64) (.st (.own .bool (0, 0)) (.st (.own .bool (1, 0)) (.dat .str (.dat (.int .i64) (.dat .str .nil)))))), (.arr .bool false (.arr .bool false .nil))⟩, (.one (.exit 2) ⟨[1, 0, 6, 7], (.dat .str (.dat .str (.dat (.int .i64) (.st (.own .bool (0, 0)) .nil)))), (.arr .bool false .nil)⟩)⟩
    | _ => none) (fun _ _ => 0)
  | _ => {}

theorem ok27 : Abs.SpecOK Tryd.prog 27 sp27 :=
  Abs.specOC_of (C := ctab) (mv := mvtab) ctab_ok (n := 12) (an := an27) (T := Abs.tabOf []) good foll (Abs.tabOf_ok _ (fun _ h => by cases h)) rfl (by intro v; kernel_rfl)

/- pagewatch/pagewatchref20.Match -/
def i25 : Abs.Sg := ⟨[0, 1], (.dat Z4 (.dat (.row Z7) .nil)), .nil⟩

def o25 : Abs.Sg := ⟨[4], (.dat .bool .nil), .nil⟩

def m25 (v : ((Y11 × Y5 × Unit) × (Unit))) : Option Y13 :=
(m44 ((v.1.2.1, (v.1.1.1, ())), ())).bind fun u9 =>
bif ((v.1.1.2.1 : Int) == 0) then (some (((u9.1.1.toList == v.1.1.2.2.1.toList), ()), ()))
else (bif ((v.1.1.2.1 : Int) == 1) then (some (((!(u9.1.1.toList == v.1.1.2.2.1.toList)), ()), ()))
else (bif ((v.1.1.2.1 : Int) == 2) then ((m27 ((v.1.1.2.2.1, (u9.1.1, ())), ())).bind fun u10 =>
some ((u10.1.1, ()), ()))
else (bif ((v.1.1.2.1 : Int) == 3) then ((m27 ((v.1.1.2.2.1, (u9.1.1, ())), ())).bind fun u11 =>
some (((!u11.1.1), ()), ()))
else (some ((false, ()), ())))))

def sp25 : Abs.Spec := ⟨0, i25, o25, m25⟩

def an25 : Nat → Abs.FAn
  | _ => {}

theorem ok25 : Abs.SpecOK Tryd.prog 25 sp25 :=
  Abs.specOC_of (C := ctab) (mv := mvtab) ctab_ok (n := 12) (an := an25) (T := Abs.tabOf [(44, sp44), (27, sp27)]) good foll (Abs.tabOf_ok _ (by simp only [List.forall_mem_cons]; exact ⟨ok44, ok27, fun _ h => by cases h⟩)) rfl (by intro v; kernel_rfl)

/- pagewatch/pagewatchref20.operators -/
def i92 : Abs.Sg := ⟨[], .nil, .nil⟩

def o92 : Abs.Sg := ⟨[0], (.st (.own .str (0, 0)) .nil), (.arr .str false .nil)⟩

def m92 (v : ((Unit) × (Unit))) : Option ((Unit) × ((List ByteArray) × Unit)) :=
some ((), ([(bs [61]), (bs [33, 61]), (bs [126]), (bs [33, 126])], ()))

def sp92 : Abs.Spec := ⟨0, i92, o92, m92⟩

def an92 : Nat → Abs.FAn
  | _ => {}

theorem ok92 : Abs.SpecOK Tryd.prog 92 sp92 :=
  Abs.specOC_of (C := ctab) (mv := mvtab) ctab_ok (n := 12) (an := an92) (T := Abs.tabOf []) good foll (Abs.tabOf_ok _ (fun _ h => by cases h)) rfl (by intro v; kernel_rfl)

def l93_0_3 (v : ((Int × ByteArray × ByteArray × Unit) × (Unit))) : Option (((Int × ByteArray × ByteArray × Unit) × (Unit)) ⊕ Y16) :=
bif (decide ((v.1.1 : Int) < (v.1.2.1.size : Int))) then (((((bif (decide ((0 : Int) ≤ v.1.1 ∧ (v.1.1 : Int) < v.1.2.1.size)) then
let x35 := (((((v.1.2.1[v.1.1.toNat]?.getD 0).toNat : Nat) : Int) : Int) == 34)
bif x35 then (some ((true, (v.1.2.1, (v.1.1, (v.1.2.2.1, ())))), ()))
else (bif (decide ((0 : Int) ≤ v.1.1 ∧ (v.1.1 : Int) < v.1.2.1.size)) then
let x36 := (((((v.1.2.1[v.1.1.toNat]?.getD 0).toNat : Nat) : Int) : Int) == 92)
some ((x36, (v.1.2.1, (v.1.1, (v.1.2.2.1, ())))), ())
else none)
else none) : Option ((Bool × ByteArray × Int × ByteArray × Unit) × (Unit))).bind fun v37 =>
bif v37.1.1 then (bif (decide (v37.1.2.2.2.1.size + 1 ≤ 4294967296)) then
some ((v37.1.2.1, (v37.1.2.2.1, ((v37.1.2.2.2.1 ++ (bs [92])), ()))), ())
else none)
else (some ((v37.1.2.1, (v37.1.2.2.1, (v37.1.2.2.2.1, ()))), ()))) : Option (Y11 × (Unit))).bind fun v38 =>
bif (decide ((0 : Int) ≤ v38.1.2.1)) then
bif (decide ((0 : Int) ≤ (w64 (v38.1.2.1 + 1)))) then
bif (decide (v38.1.2.1.toNat ≤ (w64 (v38.1.2.1 + 1)).toNat ∧ (w64 (v38.1.2.1 + 1)).toNat ≤ v38.1.1.size)) then
let x39 := (v38.1.1.extract v38.1.2.1.toNat (w64 (v38.1.2.1 + 1)).toNat)
bif (decide (v38.1.2.2.1.size + x39.size ≤ 4294967296)) then
some (.inl (((w64 (v38.1.2.1 + 1)), (v38.1.1, ((v38.1.2.2.1 ++ x39), ()))), ()))
else none
else none
else none
else none)
else (some (.inr ((v.1.2.2.1, ()), ())))

/- pagewatch/pagewatchref20.quote -/
def i93 : Abs.Sg := ⟨[0], (.dat .str .nil), .nil⟩

def o93 : Abs.Sg := ⟨[2], (.dat .str .nil), .nil⟩

def m93 (v : Y16) : Option Y16 :=
(loopT l93_0_3 ((0, (v.1.1, ((bs [34]), ()))), ())).bind fun d40 =>
bif (decide (d40.1.1.size + 1 ≤ 4294967296)) then
some (((d40.1.1 ++ (bs [34])), ()), ())
else none

def sp93 : Abs.Spec := ⟨0, i93, o93, m93⟩

def an93 : Nat → Abs.FAn
  | 0 => Abs.FAn.mk (fun
    | 5 => some ⟨[20, 0, 4, 3], (.dat .bool (.dat .str (.dat (.int .i64) (.dat .str .nil)))), .nil⟩
    | _ => none) (fun
    | 7 => some (⟨[0, 4, 3], (.dat .str (.dat (.int .i64) (.dat .str .nil))), .nil⟩, none)
    | _ => none) (fun
    | 3 => some ⟨⟨[4, 0, 3], (.dat (.int .i64) (.dat .str (.dat .str .nil))), .nil⟩, (.one (.exit 0) ⟨[3], (.dat .str .nil), .nil⟩)⟩
    | _ => none) (fun _ _ => 0)
  | _ => {}

theorem ok93 : Abs.SpecOK Tryd.prog 93 sp93 :=
  Abs.specOC_of (C := ctab) (mv := mvtab) ctab_ok (n := 12) (an := an93) (T := Abs.tabOf []) good foll (Abs.tabOf_ok _ (fun _ h => by cases h)) rfl (by intro v; kernel_rfl)

def l28_0_5 (v : ((Int × Y3 × ByteArray × Unit) × (Unit))) : Option (((Int × Y3 × ByteArray × Unit) × (Unit)) ⊕ (Y16 ⊕ Y16)) :=
let x60 := (decide ((v.1.1 : Int) < (v.1.2.1.length : Int)))
bif x60 then (Abs.rowAt v.1.2.1 v.1.1 fun e61 _ =>
(m23 ((e61, ()), ())).bind fun u62 =>
bif (!u62.1.1) then (some (.inr (.inl ((ByteArray.empty, ()), ()))))
else (((bif (decide ((v.1.1 : Int) > 0)) then (bif (decide (v.1.2.2.1.size + 1 ≤ 4294967296)) then
some ((v.1.2.1, (v.1.1, ((v.1.2.2.1 ++ (bs [44])), ()))), ())
else none)
else (some ((v.1.2.1, (v.1.1, (v.1.2.2.1, ()))), ()))) : Option ((Y3 × Int × ByteArray × Unit) × (Unit))).bind fun v63 =>
Abs.rowAt v63.1.1 v63.1.2.1 fun e64 _ =>
(m92 ((), ())).bind fun u65 =>
Abs.rowAt v63.1.1 v63.1.2.1 fun e66 _ =>
bif (decide ((0 : Int) ≤ e66.2.1 ∧ (e66.2.1 : Int) < u65.2.1.length)) then
(u65.2.1[e66.2.1.toNat]?).bind fun e67 =>
bif (decide (e64.1.size + e67.size ≤ 4294967296)) then
Abs.rowAt v63.1.1 v63.1.2.1 fun e68 _ =>
(m93 ((e68.2.2.1, ()), ())).bind fun u69 =>
bif (decide ((e64.1 ++ e67).size + u69.1.1.size ≤ 4294967296)) then
bif (decide (v63.1.2.2.1.size + ((e64.1 ++ e67) ++ u69.1.1).size ≤ 4294967296)) then
some (.inl (((w64 (v63.1.2.1 + 1)), (v63.1.1, ((v63.1.2.2.1 ++ ((e64.1 ++ e67) ++ u69.1.1)), ()))), ()))
else none
else none
else none
else none))
else (some (.inr (.inr ((v.1.2.2.1, ()), ()))))

/- pagewatch/pagewatchref20.Format -/
def i28 : Abs.Sg := ⟨[0], (.dat (.row Z4) .nil), .nil⟩

def o28 : Abs.Sg := ⟨[2], (.dat .str .nil), .nil⟩

def m28 (v : ((Y3 × Unit) × (Unit))) : Option Y16 :=
bif (decide (((v.1.1.length : Int) : Int) > 8)) then (some ((ByteArray.empty, ()), ()))
else ((loopT l28_0_5 ((0, (v.1.1, (ByteArray.empty, ()))), ())).bind fun d70 =>
sumE d70 (fun d71 => (some ((d71.1.1, ()), ()))) (fun d72 => (some ((d72.1.1, ()), ()))))

def sp28 : Abs.Spec := ⟨0, i28, o28, m28⟩

def an28 : Nat → Abs.FAn
  | 0 => Abs.FAn.mk (fun _ => none) (fun
    | 11 => some (⟨[0, 4, 3], (.dat (.row Z4) (.dat (.int .i64) (.dat .str .nil))), .nil⟩, none)
    | _ => none) (fun
    | 5 => some ⟨⟨[4, 0, 3], (.dat (.int .i64) (.dat (.row Z4) (.dat .str .nil))), .nil⟩, (.more .ret ⟨[2], (.dat .str .nil), .nil⟩ (.one (.exit 0) ⟨[3], (.dat .str .nil), .nil⟩))⟩
    | _ => none) (fun _ _ => 0)
  | _ => {}

theorem ok28 : Abs.SpecOK Tryd.prog 28 sp28 :=
  Abs.specOC_of (C := ctab) (mv := mvtab) ctab_ok (n := 12) (an := an28) (T := Abs.tabOf [(23, sp23), (92, sp92), (93, sp93)]) good foll (Abs.tabOf_ok _ (by simp only [List.forall_mem_cons]; exact ⟨ok23, ok92, ok93, fun _ h => by cases h⟩)) rfl (by intro v; kernel_rfl)

def l31_0_2 (v : ((Int × Y5 × Y3 × Unit) × (Unit))) : Option (((Int × Y5 × Y3 × Unit) × (Unit)) ⊕ (Y13 ⊕ ((Unit) × (Unit)))) :=
let x24 := (decide ((v.1.1 : Int) < (v.1.2.2.1.length : Int)))
bif x24 then (Abs.rowAt v.1.2.2.1 v.1.1 fun e25 _ =>
(m25 ((e25, (v.1.2.1, ())), ())).bind fun u26 =>
bif (!u26.1.1) then (some (.inr (.inl ((false, ()), ()))))
else (some (.inl (((w64 (v.1.1 + 1)), (v.1.2.1, (v.1.2.2.1, ()))), ()))))
else (some (.inr (.inr ((), ()))))

/- pagewatch/pagewatchref20.All -/
def i31 : Abs.Sg := ⟨[0, 1], (.dat (.row Z4) (.dat (.row Z7) .nil)), .nil⟩

def o31 : Abs.Sg := ⟨[4], (.dat .bool .nil), .nil⟩

def m31 (v : ((Y3 × Y5 × Unit) × (Unit))) : Option Y13 :=
(loopT l31_0_2 ((0, (v.1.2.1, (v.1.1, ()))), ())).bind fun d27 =>
sumE d27 (fun d28 => (some ((d28.1.1, ()), ()))) (fun d29 => (some ((true, ()), ())))

def sp31 : Abs.Spec := ⟨0, i31, o31, m31⟩

def an31 : Nat → Abs.FAn
  | 0 => Abs.FAn.mk (fun _ => none) (fun _ => none) (fun
    | 2 => some ⟨⟨[5, 1, 0], (.dat (.int .i64) (.dat (.row Z7) (.dat (.row Z4) .nil))), .nil⟩, (.more .ret ⟨[4], (.dat .bool .nil), .nil⟩ (.one (.exit 0) ⟨[], .nil, .nil⟩))⟩
    | _ => none) (fun _ _ => 0)
  | _ => {}

theorem ok31 : Abs.SpecOK Tryd.prog 31 sp31 :=
  Abs.specOC_of (C := ctab) (mv := mvtab) ctab_ok (n := 12) (an := an31) (T := Abs.tabOf [(25, sp25)]) good foll (Abs.tabOf_ok _ (by simp only [List.forall_mem_cons]; exact ⟨ok25, fun _ h => by cases h⟩)) rfl (by intro v; kernel_rfl)

def l137_0_2 (v : ((Int × ByteArray × Unit) × ((Y11 × Unit) × Unit))) : Option (((Int × ByteArray × Unit) × ((Y11 × Unit) × Unit)) ⊕ ((Int × ByteArray × Unit) × ((Y11 × Unit) × Unit))) :=
((bif (decide ((v.1.1 : Int) < (v.1.2.1.size : Int))) then (bif (decide ((0 : Int) ≤ v.1.1 ∧ (v.1.1 : Int) < v.1.2.1.size)) then
let x122 := (((((v.1.2.1[v.1.1.toNat]?.getD 0).toNat : Nat) : Int) : Int) != 61)
bif x122 then (bif (decide ((0 : Int) ≤ v.1.1 ∧ (v.1.1 : Int) < v.1.2.1.size)) then
let x123 := (((((v.1.2.1[v.1.1.toNat]?.getD 0).toNat : Nat) : Int) : Int) != 33)
bif x123 then (bif (decide ((0 : Int) ≤ v.1.1 ∧ (v.1.1 : Int) < v.1.2.1.size)) then
let x124 := (((((v.1.2.1[v.1.1.toNat]?.getD 0).toNat : Nat) : Int) : Int) != 126)
some ((x124, (v.1.2.1, (v.1.1, ()))), ((v.2.1.1, ()), ()))
else none)
else (some ((false, (v.1.2.1, (v.1.1, ()))), ((v.2.1.1, ()), ())))
else none)
else (some ((false, (v.1.2.1, (v.1.1, ()))), ((v.2.1.1, ()), ())))
else none)
else (some ((false, (v.1.2.1, (v.1.1, ()))), ((v.2.1.1, ()), ())))) : Option ((Bool × ByteArray × Int × Unit) × ((Y11 × Unit) × Unit))).bind fun v125 =>
bif v125.1.1 then (some (.inl (((w64 (v125.1.2.2.1 + 1)), (v125.1.2.1, ())), ((v125.2.1.1, ()), ()))))
else (some (.inr ((v125.1.2.2.1, (v125.1.2.1, ())), ((v125.2.1.1, ()), ()))))

def l137_0_8 (v : ((ByteArray × Int × Unit) × ((Y11 × Unit) × (Y11 × Unit) × (List ByteArray) × Unit))) : Option (((ByteArray × Int × Unit) × ((Y11 × Unit) × (Y11 × Unit) × (List ByteArray) × Unit)) ⊕ ((ByteArray × Unit) × ((Y11 × Unit) × (Y11 × Unit) × Unit))) :=
let x129 := (decide ((v.1.2.1 : Int) < ((v.2.2.2.1.length : Nat) : Int)))
bif x129 then (bif (decide ((0 : Int) ≤ v.1.2.1 ∧ (v.1.2.1 : Int) < v.2.2.2.1.length)) then
(v.2.2.2.1[v.1.2.1.toNat]?).bind fun e130 =>
((let x131 := (decide (((v.1.1.size : Int) : Int) > (e130.size : Int)))
bif x131 then (bif (decide ((0 : Int) ≤ (e130.size : Int))) then
bif (decide (0 ≤ (e130.size : Int).toNat ∧ (e130.size : Int).toNat ≤ v.1.1.size)) then
bif (decide ((0 : Int) ≤ v.1.2.1 ∧ (v.1.2.1 : Int) < v.2.2.2.1.length)) then
(v.2.2.2.1[v.1.2.1.toNat]?).bind fun e132 =>
bif ((v.1.1.extract 0 (e130.size : Int).toNat).toList == e132.toList) then (bif (decide ((0 : Int) ≤ (e130.size : Int) ∧ ((e130.size : Int) : Int) < v.1.1.size)) then
let x133 := (((((v.1.1[(e130.size : Int).toNat]?.getD 0).toNat : Nat) : Int) : Int) == 34)
some ((x133, ((e130.size : Int), (v.1.1, (v.1.2.1, ())))), ((v.2.1.1, ()), ((v.2.2.1.1, ()), (v.2.2.2.1, ()))))
else none)
else (some ((false, ((e130.size : Int), (v.1.1, (v.1.2.1, ())))), ((v.2.1.1, ()), ((v.2.2.1.1, ()), (v.2.2.2.1, ())))))
else none
else none
else none)
else (some ((false, ((e130.size : Int), (v.1.1, (v.1.2.1, ())))), ((v.2.1.1, ()), ((v.2.2.1.1, ()), (v.2.2.2.1, ())))))) : Option ((Bool × Int × ByteArray × Int × Unit) × ((Y11 × Unit) × (Y11 × Unit) × (List ByteArray) × Unit))).bind fun v134 =>
bif v134.1.1 then (bif (decide ((0 : Int) ≤ (w64 (v134.1.2.1 + 1)))) then
bif (decide ((w64 (v134.1.2.1 + 1)).toNat ≤ v134.1.2.2.1.size ∧ v134.1.2.2.1.size ≤ v134.1.2.2.1.size)) then
let x135 := (v134.1.2.2.1.extract (w64 (v134.1.2.1 + 1)).toNat v134.1.2.2.1.size)
some (.inr ((x135, ()), ((v134.2.1.1, ()), (((v134.2.2.1.1.1, (v134.1.2.2.2.1, v134.2.2.1.1.2.2)), ()), ()))))
else none
else none)
else (some (.inl ((v134.1.2.2.1, ((w64 (v134.1.2.2.2.1 + 1)), ())), ((v134.2.1.1, ()), ((v134.2.2.1.1, ()), (v134.2.2.2.1, ()))))))
else none)
else (some (.inr ((v.1.1, ()), ((v.2.1.1, ()), ((v.2.2.1.1, ()), ())))))

def l137_0_18 (v : ((Int × ByteArray × ByteArray × Unit) × ((Y11 × Unit) × (Y11 × Unit) × Unit))) : Option (((Int × ByteArray × ByteArray × Unit) × ((Y11 × Unit) × (Y11 × Unit) × Unit)) ⊕ (((ByteArray × Bool × Unit) × ((Y11 × Unit) × Unit)) ⊕ ((Unit) × ((Y11 × Unit) × (Y11 × Unit) × Unit)))) :=
bif (decide ((v.1.1 : Int) < (v.1.2.1.size : Int))) then (bif (decide ((0 : Int) ≤ v.1.1 ∧ (v.1.1 : Int) < v.1.2.1.size)) then
let x137 := (((((v.1.2.1[v.1.1.toNat]?.getD 0).toNat : Nat) : Int) : Int) == 34)
bif x137 then (bif (decide ((0 : Int) ≤ (w64 (v.1.1 + 1)))) then
bif (decide ((w64 (v.1.1 + 1)).toNat ≤ v.1.2.1.size ∧ v.1.2.1.size ≤ v.1.2.1.size)) then
let x138 := (v.1.2.1.extract (w64 (v.1.1 + 1)).toNat v.1.2.1.size)
some (.inr (.inl ((x138, (true, ())), (((v.2.2.1.1.1, (v.2.2.1.1.2.1, (v.1.2.2.1, ()))), ()), ()))))
else none
else none)
else (((((bif (decide ((0 : Int) ≤ v.1.1 ∧ (v.1.1 : Int) < v.1.2.1.size)) then
let x139 := (((((v.1.2.1[v.1.1.toNat]?.getD 0).toNat : Nat) : Int) : Int) == 92)
bif x139 then (let x140 := (decide (((w64 (v.1.1 + 1)) : Int) < (v.1.2.1.size : Int)))
some ((x140, (v.1.2.1, (v.1.2.2.1, (v.1.1, ())))), ((v.2.1.1, ()), ((v.2.2.1.1, ()), ()))))
else (some ((false, (v.1.2.1, (v.1.2.2.1, (v.1.1, ())))), ((v.2.1.1, ()), ((v.2.2.1.1, ()), ()))))
else none) : Option ((Bool × ByteArray × ByteArray × Int × Unit) × ((Y11 × Unit) × (Y11 × Unit) × Unit))).bind fun v141 =>
bif v141.1.1 then (some ((v141.1.2.1, ((w64 (v141.1.2.2.2.1 + 1)), (v141.1.2.2.1, ()))), ((v141.2.1.1, ()), ((v141.2.2.1.1, ()), ()))))
else (some ((v141.1.2.1, (v141.1.2.2.2.1, (v141.1.2.2.1, ()))), ((v141.2.1.1, ()), ((v141.2.2.1.1, ()), ()))))) : Option (Y11 × ((Y11 × Unit) × (Y11 × Unit) × Unit))).bind fun v142 =>
bif (decide ((0 : Int) ≤ v142.1.2.1)) then
bif (decide ((0 : Int) ≤ (w64 (v142.1.2.1 + 1)))) then
bif (decide (v142.1.2.1.toNat ≤ (w64 (v142.1.2.1 + 1)).toNat ∧ (w64 (v142.1.2.1 + 1)).toNat ≤ v142.1.1.size)) then
let x143 := (v142.1.1.extract v142.1.2.1.toNat (w64 (v142.1.2.1 + 1)).toNat)
bif (decide (v142.1.2.2.1.size + x143.size ≤ 4294967296)) then
some (.inl (((w64 (v142.1.2.1 + 1)), (v142.1.1, ((v142.1.2.2.1 ++ x143), ()))), ((v142.2.1.1, ()), ((v142.2.2.1.1, ()), ()))))
else none
else none
else none
else none)
else none)
else (some (.inr (.inr ((), ((v.2.1.1, ()), ((v.2.2.1.1, ()), ()))))))

/- pagewatch/pagewatchref20.read -/
def i137 : Abs.Sg := ⟨[0], (.dat .str .nil), .nil⟩

def o137 : Abs.Sg := ⟨[2, 3, 4], (.st (.ptr (0, 0) 3 0 0) (.dat .str (.dat .bool .nil))), (.box 3 (.dat Z4 .nil) .nil)⟩

def m137 (v : Y16) : Option ((ByteArray × Bool × Unit) × ((Y11 × Unit) × Unit)) :=
(loopT l137_0_2 ((0, (v.1.1, ())), (((ByteArray.empty, (0, (ByteArray.empty, ()))), ()), ()))).bind fun d126 =>
bif (decide ((0 : Int) ≤ d126.1.1)) then
bif (decide (0 ≤ d126.1.1.toNat ∧ d126.1.1.toNat ≤ d126.1.2.1.size)) then
bif (decide ((0 : Int) ≤ d126.1.1)) then
bif (decide (d126.1.1.toNat ≤ d126.1.2.1.size ∧ d126.1.2.1.size ≤ d126.1.2.1.size)) then
let x127 := (d126.1.2.1.extract d126.1.1.toNat d126.1.2.1.size)
(m92 ((), ())).bind fun u128 =>
(loopT l137_0_8 ((x127, (0, ())), ((d126.2.1.1, ()), ((((d126.1.2.1.extract 0 d126.1.1.toNat), ((-1), (ByteArray.empty, ()))), ()), (u128.2.1, ()))))).bind fun d136 =>
bif (decide ((d136.2.2.1.1.2.1 : Int) < 0)) then (some ((ByteArray.empty, (false, ())), ((d136.2.2.1.1, ()), ())))
else ((loopT l137_0_18 ((0, (d136.1.1, (ByteArray.empty, ()))), ((d136.2.1.1, ()), ((d136.2.2.1.1, ()), ())))).bind fun d144 =>
sumE d144 (fun d145 => (some ((d145.1.1, (d145.1.2.1, ())), ((d145.2.1.1, ()), ())))) (fun d146 => (some ((ByteArray.empty, (false, ())), ((d146.2.2.1.1, ()), ())))))
else none
else none
else none
else none

def sp137 : Abs.Spec := ⟨0, i137, o137, m137⟩

def an137 : Nat → Abs.FAn
  | 0 => Abs.FAn.mk (fun
    | 23 => some ⟨[112, 2, 0, 6, 10, 11], (.dat .bool (.st (.ptr (0, 0) 3 0 0) (.dat .str (.st (.ptr (1, 0) 3 0 0) (.dat .str (.dat (.int .i64) .nil)))))), (.box 3 (.dat Z4 .nil) (.box 3 (.dat Z4 .nil) .nil))⟩
    | 11 => some ⟨[74, 2, 6, 9, 0, 8, 7], (.dat .bool (.st (.ptr (0, 0) 3 0 0) (.st (.ptr (1, 0) 3 0 0) (.dat (.int .i64) (.dat .str (.dat (.int .i64) (.st (.own .str (2, 0)) .nil))))))), (.box 3 (.dat Z4 .nil) (.box 3 (.dat Z4 .nil) (.arr .str false .nil)))⟩
    | 2 => some ⟨[33, 2, 0, 5], (.dat .bool (.st (.ptr (0, 0) 3 0 0) (.dat .str (.dat (.int .i64) .nil)))), (.box 3 (.dat Z4 .nil) .nil)⟩
    | _ => none) (fun
    | 25 => some (⟨[2, 0, 6, 11, 10], (.st (.ptr (0, 0) 3 0 0) (.dat .str (.st (.ptr (1, 0) 3 0 0) (.dat (.int .i64) (.dat .str .nil))))), (.box 3 (.dat Z4 .nil) (.box 3 (.dat Z4 .nil) .nil))⟩, none)
    | _ => none) (fun
    | 18 => some ⟨⟨[2, 11, 0, 6, 10], (.st (.ptr (0, 0) 3 0 0) (.dat (.int .i64) (.dat .str (.st (.ptr (1, 0) 3 0 0) (.dat .str .nil))))), (.box 3 (.dat Z4 .nil) (.box 3 (.dat Z4 .nil) .nil))⟩, (.more .ret ⟨[2, 3, 4], (.st (.ptr (0, 0) 3 0 0) (.dat .str (.dat .bool .nil))), (.box 3 (.dat Z4 .nil) .nil)⟩ (.one (.exit 4) ⟨[2, 6], (.st (.ptr (0, 0) 3 0 0) (.st (.ptr (1, 0) 3 0 0) .nil)), (.box 3 (.dat Z4 .nil) (.box 3 (.dat Z4 .nil) .nil))⟩))⟩
    | 8 => some ⟨⟨[2, 6, 0, 8, 7], (.st (.ptr (0, 0) 3 0 0) (.st (.ptr (1, 0) 3 0 0) (.dat .str (.dat (.int .i64) (.st (.own .str (2, 0)) .nil))))), (.box 3 (.dat Z4 .nil) (.box 3 (.dat Z4 .nil) (.arr .str false .nil)))⟩, (.one (.exit 2) ⟨[2, 6, 0], (.st (.ptr (0, 0) 3 0 0) (.st (.ptr (1, 0) 3 0 0) (.dat .str .nil))), (.box 3 (.dat Z4 .nil) (.box 3 (.dat Z4 .nil) .nil))⟩)⟩
    | 2 => some ⟨⟨[5, 2, 0], (.dat (.int .i64) (.st (.ptr (0, 0) 3 0 0) (.dat .str .nil))), (.box 3 (.dat Z4 .nil) .nil)⟩, (.one (.exit 0) ⟨[2, 5, 0], (.st (.ptr (0, 0) 3 0 0) (.dat (.int .i64) (.dat .str .nil))), (.box 3 (.dat Z4 .nil) .nil)⟩)⟩
    | _ => none) (fun _ _ => 0)
  | _ => {}

theorem ok137 : Abs.SpecOK Tryd.prog 137 sp137 :=
  Abs.specOC_of (C := ctab) (mv := mvtab) ctab_ok (n := 12) (an := an137) (T := Abs.tabOf [(92, sp92)]) good foll (Abs.tabOf_ok _ (by simp only [List.forall_mem_cons]; exact ⟨ok92, fun _ h => by cases h⟩)) rfl (by intro v; kernel_rfl)

def l102_0_2 (v : ((ByteArray × Unit) × (Y3 × Unit))) : Option (((ByteArray × Unit) × (Y3 × Unit)) ⊕ ((Bool × Unit) × (Y3 × Unit))) :=
(m137 ((v.1.1, ()), ())).bind fun u24 =>
((bif (!u24.1.2.1) then (some ((true, (u24.1.1, ())), ((u24.2.1.1, ()), (v.2.1, ()))))
else (let x25 := (decide ((((v.2.1.length : Nat) : Int) : Int) > 20))
some ((x25, (u24.1.1, ())), ((u24.2.1.1, ()), (v.2.1, ()))))) : Option ((Bool × ByteArray × Unit) × ((Y11 × Unit) × Y3 × Unit))).bind fun v26 =>
bif v26.1.1 then (some (.inr ((false, ()), ([], ()))))
else (bif (decide (v26.2.2.1.length + ([v26.2.1.1] : List Y11).length ≤ 4294967296)) then
let x27 := (v26.2.2.1 ++ ([v26.2.1.1] : List Y11))
bif (v26.1.2.1.toList == ByteArray.empty.toList) then (some (.inr ((true, ()), (x27, ()))))
else (bif (decide ((0 : Int) ≤ 0 ∧ (0 : Int) < v26.1.2.1.size)) then
let x28 := (((((v26.1.2.1[0]?.getD 0).toNat : Nat) : Int) : Int) != 44)
bif x28 then (some (.inr ((false, ()), ([], ()))))
else (bif (decide (1 ≤ v26.1.2.1.size ∧ v26.1.2.1.size ≤ v26.1.2.1.size)) then
some (.inl (((v26.1.2.1.extract 1 v26.1.2.1.size), ()), (x27, ())))
else none)
else none)
else none)

/- pagewatch/pagewatchref20.several -/
def i102 : Abs.Sg := ⟨[0], (.dat .str .nil), .nil⟩

def o102 : Abs.Sg := ⟨[2, 3], (.st (.own Z4 (0, 0)) (.dat .bool .nil)), (.arr Z4 false .nil)⟩

def m102 (v : Y16) : Option ((Bool × Unit) × (Y3 × Unit)) :=
(loopT l102_0_2 ((v.1.1, ()), ([], ()))).bind fun d29 =>
some ((d29.1.1, ()), (d29.2.1, ()))

def sp102 : Abs.Spec := ⟨0, i102, o102, m102⟩

def an102 : Nat → Abs.FAn
  | 0 => Abs.FAn.mk (fun
    | 3 => some ⟨[20, 6, 5, 4], (.dat .bool (.dat .str (.st (.ptr (0, 0) 3 0 0) (.st (.own Z4 (1, 0)) .nil)))), (.box 3 (.dat Z4 .nil) (.arr Z4 false .nil))⟩
    | _ => none) (fun _ => none) (fun
    | 2 => some ⟨⟨[4, 0], (.st (.own Z4 (0, 0)) (.dat .str .nil)), (.arr Z4 false .nil)⟩, (.one .ret ⟨[2, 3], (.st (.own Z4 (0, 0)) (.dat .bool .nil)), (.arr Z4 false .nil)⟩)⟩
    | _ => none) (fun _ _ => 0)
  | _ => {}

theorem ok102 : Abs.SpecOK Tryd.prog 102 sp102 :=
  Abs.specOC_of (C := ctab) (mv := mvtab) ctab_ok (n := 12) (an := an102) (T := Abs.tabOf [(137, sp137)]) good foll (Abs.tabOf_ok _ (by simp only [List.forall_mem_cons]; exact ⟨ok137, fun _ h => by cases h⟩)) rfl (by intro v; kernel_rfl)

/- pagewatch/pagewatchref20.Matchers -/
def i33 : Abs.Sg := ⟨[0], (.dat .str .nil), .nil⟩

def o33 : Abs.Sg := ⟨[2, 3], (.st (.own Z4 (0, 0)) (.dat (.int .i64) .nil)), (.arr Z4 false .nil)⟩

def m33 (v : Y16) : Option ((Int × Unit) × (Y3 × Unit)) :=
bif (v.1.1.toList == ByteArray.empty.toList) then (some ((0, ()), ([], ())))
else ((m102 ((v.1.1, ()), ())).bind fun u10 =>
((bif (!u10.1.1) then (some ((true, ()), (u10.2.1, ())))
else ((m28 ((u10.2.1, ()), ())).bind fun u11 =>
some (((!(u11.1.1.toList == v.1.1.toList)), ()), (u10.2.1, ())))) : Option ((Bool × Unit) × (Y3 × Unit))).bind fun v12 =>
bif v12.1.1 then (some ((2, ()), ([], ())))
else (some ((0, ()), (v12.2.1, ()))))

def sp33 : Abs.Spec := ⟨0, i33, o33, m33⟩

def an33 : Nat → Abs.FAn
  | 0 => Abs.FAn.mk (fun
    | 4 => some ⟨[20, 4], (.dat .bool (.st (.own Z4 (0, 0)) .nil)), (.arr Z4 false .nil)⟩
    | _ => none) (fun _ => none) (fun _ => none) (fun _ _ => 0)
  | _ => {}

theorem ok33 : Abs.SpecOK Tryd.prog 33 sp33 :=
  Abs.specOC_of (C := ctab) (mv := mvtab) ctab_ok (n := 12) (an := an33) (T := Abs.tabOf [(102, sp102), (28, sp28)]) good foll (Abs.tabOf_ok _ (by simp only [List.forall_mem_cons]; exact ⟨ok102, ok28, fun _ h => by cases h⟩)) rfl (by intro v; kernel_rfl)

def l34_0_4 (v : ((Int × Y3 × Y3 × Int × Unit) × (Unit))) : Option (((Int × Y3 × Y3 × Int × Unit) × (Unit)) ⊕ (Y13 ⊕ ((Unit) × (Unit)))) :=
bif (decide ((v.1.1 : Int) < v.1.2.2.2.1)) then (Abs.rowAt v.1.2.2.1 v.1.1 fun e30 _ =>
Abs.rowAt v.1.2.1 v.1.1 fun e31 _ =>
let x32 := (!((e30.1 == e31.1) && (((e30.2.1 : Int) == e31.2.1) && ((e30.2.2.1 == e31.2.2.1) && true))))
bif x32 then (some (.inr (.inl ((false, ()), ()))))
else (some (.inl (((w64 (v.1.1 + 1)), (v.1.2.1, (v.1.2.2.1, (v.1.2.2.2.1, ())))), ()))))
else (some (.inr (.inr ((), ()))))

/- pagewatch/pagewatchlaw20.sameMatchers -/
def i34 : Abs.Sg := ⟨[0, 1], (.dat (.row Z4) (.dat (.row Z4) .nil)), .nil⟩

def o34 : Abs.Sg := ⟨[4], (.dat .bool .nil), .nil⟩

def m34 (v : ((Y3 × Y3 × Unit) × (Unit))) : Option Y13 :=
let x29 := (((v.1.1.length : Int) : Int) != (v.1.2.1.length : Int))
bif x29 then (some ((false, ()), ()))
else ((loopT l34_0_4 ((0, (v.1.2.1, (v.1.1, ((v.1.1.length : Int), ())))), ())).bind fun d33 =>
sumE d33 (fun d34 => (some ((d34.1.1, ()), ()))) (fun d35 => (some ((true, ()), ()))))

def sp34 : Abs.Spec := ⟨0, i34, o34, m34⟩

def an34 : Nat → Abs.FAn
  | 0 => Abs.FAn.mk (fun _ => none) (fun _ => none) (fun
    | 4 => some ⟨⟨[13, 1, 0, 12], (.dat (.int .i64) (.dat (.row Z4) (.dat (.row Z4) (.dat (.int .i64) .nil)))), .nil⟩, (.more .ret ⟨[4], (.dat .bool .nil), .nil⟩ (.one (.exit 0) ⟨[], .nil, .nil⟩))⟩
    | _ => none) (fun _ _ => 0)
  | _ => {}

theorem ok34 : Abs.SpecOK Tryd.prog 34 sp34 :=
  Abs.specOC_of (C := ctab) (mv := mvtab) ctab_ok (n := 12) (an := an34) (T := Abs.tabOf []) good foll (Abs.tabOf_ok _ (fun _ h => by cases h)) rfl (by intro v; kernel_rfl)

def l3_0_7 (v : ((Int × ByteArray × Y5 × ByteArray × Int × Unit) × (Y5 × Y3 × (Y11 × Unit) × Y3 × Unit))) : Option (((Int × ByteArray × Y5 × ByteArray × Int × Unit) × (Y5 × Y3 × (Y11 × Unit) × Y3 × Unit)) ⊕ (Y13 ⊕ (Y15 × (Y5 × (Y11 × Unit) × Y3 × Unit)))) :=
bif (decide ((v.1.1 : Int) < v.1.2.2.2.2.1)) then (bif (decide ((0 : Int) ≤ v.1.1 ∧ (v.1.1 : Int) < v.2.2.1.length)) then
(v.2.2.1[v.1.1.toNat]?).bind fun e281 =>
(((m22 ((e281, ()), ())).bind fun u282 =>
(m23 ((e281, ()), ())).bind fun u283 =>
bif (!(u282.1.1 == u283.1.1)) then (some ((true, (v.1.2.1, (v.1.2.2.1, (v.1.2.2.2.1, (v.1.2.2.2.2.1, (v.1.1, ())))))), (v.2.1, (v.2.2.1, ((v.2.2.2.1.1, ()), (v.2.2.2.2.1, ()))))))
else ((m24 ((e281, (v.2.1, ())), ())).bind fun u284 =>
(m25 ((e281, (v.2.1, ())), ())).bind fun u285 =>
bif (!(u284.1.1 == u285.1.1)) then (some ((true, (v.1.2.1, (v.1.2.2.1, (v.1.2.2.2.1, (v.1.2.2.2.2.1, (v.1.1, ())))))), (v.2.1, (v.2.2.1, ((v.2.2.2.1.1, ()), (v.2.2.2.2.1, ()))))))
else ((m24 ((e281, (v.1.2.2.1, ())), ())).bind fun u286 =>
(m25 ((e281, (v.1.2.2.1, ())), ())).bind fun u287 =>
bif (!(u286.1.1 == u287.1.1)) then (some ((true, (v.1.2.1, (v.1.2.2.1, (v.1.2.2.2.1, (v.1.2.2.2.2.1, (v.1.1, ())))))), (v.2.1, (v.2.2.1, ((v.2.2.2.1.1, ()), (v.2.2.2.2.1, ()))))))
else ((m26 ((e281.2.2.1, (v.1.2.1, ())), ())).bind fun u288 =>
(m27 ((e281.2.2.1, (v.1.2.1, ())), ())).bind fun u289 =>
some (((!(u288.1.1 == u289.1.1)), (v.1.2.1, (v.1.2.2.1, (v.1.2.2.2.1, (v.1.2.2.2.2.1, (v.1.1, ())))))), (v.2.1, (v.2.2.1, ((v.2.2.2.1.1, ()), (v.2.2.2.2.1, ()))))))))) : Option ((Bool × ByteArray × Y5 × ByteArray × Int × Int × Unit) × (Y5 × Y3 × (Y11 × Unit) × Y3 × Unit))).bind fun v290 =>
bif v290.1.1 then (some (.inr (.inl ((false, ()), ()))))
else (some (.inl (((w64 (v290.1.2.2.2.2.2.1 + 1)), (v290.1.2.1, (v290.1.2.2.1, (v290.1.2.2.2.1, (v290.1.2.2.2.2.1, ()))))), (v290.2.1, (v290.2.2.1, ((v290.2.2.2.1.1, ()), (v290.2.2.2.2.1, ())))))))
else none)
else (some (.inr (.inr ((v.1.2.1, (v.1.2.2.2.1, ())), (v.2.1, ((v.2.2.2.1.1, ()), (v.2.2.2.2.1, ())))))))

def l3_0_19 (v : ((Int × Y20 × ByteArray × ByteArray × (Y3 × Y3 × Y3 × Unit) × Int × Unit) × (Y5 × Unit))) : Option (((Int × Y20 × ByteArray × ByteArray × (Y3 × Y3 × Y3 × Unit) × Int × Unit) × (Y5 × Unit)) ⊕ (Y13 ⊕ ((ByteArray × ByteArray × (Y3 × Y3 × Y3 × Unit) × Int × Unit) × (Y5 × Unit)))) :=
bif (decide ((v.1.1 : Int) < 4)) then (Abs.rowAt ([v.1.2.1.1, v.1.2.1.2.1, v.1.2.1.2.2.1, v.1.2.1.2.2.2.1] : List ByteArray) v.1.1 fun e301 _ =>
(m32 ((e301, ()), ())).bind fun u302 =>
(m33 ((e301, ()), ())).bind fun u303 =>
(((m34 ((u302.2.1, (u303.2.1, ())), ())).bind fun u304 =>
bif (!u304.1.1) then (some ((true, (v.1.2.1, (v.1.2.2.1, (v.1.2.2.2.1, (v.1.2.2.2.2.1, (v.1.2.2.2.2.2.1, (v.1.1, ()))))))), (v.2.1, ())))
else (some ((((u302.1.1 : Int) != u303.1.1), (v.1.2.1, (v.1.2.2.1, (v.1.2.2.2.1, (v.1.2.2.2.2.1, (v.1.2.2.2.2.2.1, (v.1.1, ()))))))), (v.2.1, ())))) : Option ((Bool × Y20 × ByteArray × ByteArray × (Y3 × Y3 × Y3 × Unit) × Int × Int × Unit) × (Y5 × Unit))).bind fun v305 =>
bif v305.1.1 then (some (.inr (.inl ((false, ()), ()))))
else (some (.inl (((w64 (v305.1.2.2.2.2.2.2.1 + 1)), (v305.1.2.1, (v305.1.2.2.1, (v305.1.2.2.2.1, (v305.1.2.2.2.2.1, (v305.1.2.2.2.2.2.1, ())))))), (v305.2.1, ())))))
else (some (.inr (.inr ((v.1.2.2.1, (v.1.2.2.2.1, (v.1.2.2.2.2.1, (v.1.2.2.2.2.2.1, ())))), (v.2.1, ())))))

def l3_0_13 (v : ((Int × ByteArray × ByteArray × (Y3 × Y3 × Y3 × Unit) × Unit) × (Y5 × Unit))) : Option (((Int × ByteArray × ByteArray × (Y3 × Y3 × Y3 × Unit) × Unit) × (Y5 × Unit)) ⊕ (Y13 ⊕ ((Unit) × (Unit)))) :=
bif (decide ((v.1.1 : Int) < 3)) then (Abs.rowAt ([v.1.2.2.2.1.1, v.1.2.2.2.1.2.1, v.1.2.2.2.1.2.2.1] : List Y3) v.1.1 fun e295 _ =>
(m28 ((e295, ()), ())).bind fun u296 =>
(((m29 ((e295, ()), ())).bind fun u297 =>
bif (!(u297.1.1.toList == u296.1.1.toList)) then (some ((true, (v.1.2.1, (v.1.2.2.1, (v.1.2.2.2.1, (v.1.1, (u296.1.1, ())))))), (v.2.1, ())))
else ((m30 ((e295, (v.2.1, ())), ())).bind fun u298 =>
(m31 ((e295, (v.2.1, ())), ())).bind fun u299 =>
some (((!(u298.1.1 == u299.1.1)), (v.1.2.1, (v.1.2.2.1, (v.1.2.2.2.1, (v.1.1, (u296.1.1, ())))))), (v.2.1, ())))) : Option ((Bool × ByteArray × ByteArray × (Y3 × Y3 × Y3 × Unit) × Int × ByteArray × Unit) × (Y5 × Unit))).bind fun v300 =>
bif v300.1.1 then (some (.inr (.inl ((false, ()), ()))))
else (bif (decide (v300.1.2.2.2.2.2.1.size + 1 ≤ 4294967296)) then
bif (decide (3 + v300.1.2.1.size ≤ 4294967296)) then
bif (decide (((bs [97, 61, 34]) ++ v300.1.2.1).size + 1 ≤ 4294967296)) then
(loopT l3_0_19 ((0, ((v300.1.2.2.2.2.2.1, (v300.1.2.2.1, ((v300.1.2.2.2.2.2.1 ++ (bs [44])), ((((bs [97, 61, 34]) ++ v300.1.2.1) ++ (bs [34])), ())))), (v300.1.2.1, (v300.1.2.2.1, (v300.1.2.2.2.1, (v300.1.2.2.2.2.1, ())))))), (v300.2.1, ()))).bind fun d306 =>
sumE d306 (fun d307 => (some (.inr (.inl ((d307.1.1, ()), ()))))) (fun d308 => (some (.inl (((w64 (d308.1.2.2.2.1 + 1)), (d308.1.1, (d308.1.2.1, (d308.1.2.2.1, ())))), (d308.2.1, ())))))
else none
else none
else none))
else (some (.inr (.inr ((), ()))))

/- pagewatch/pagewatchlaw20.LabelMatches -/
def i3 : Abs.Sg := ⟨[0, 1, 2, 3, 4], (.dat (.row (.int .i64)) (.dat Z4 (.dat (.row Z7) (.dat .str (.dat .str .nil))))), .nil⟩

def o3 : Abs.Sg := ⟨[10], (.dat .bool .nil), .nil⟩

def m3 (v : (((List Int) × Y11 × Y5 × ByteArray × ByteArray × Unit) × (Unit))) : Option Y13 :=
(((m17 ((v.1.1, ()), ())).bind fun u271 =>
bif (!u271.1.1) then (some ((true, (v.1.2.2.2.2.1, (v.1.2.2.1, (v.1.2.2.2.1, (v.1.1, ()))))), ((v.1.2.1, ()), ())))
else (bif (decide (((v.1.2.2.1.length : Int) : Int) > 20)) then (some ((true, (v.1.2.2.2.2.1, (v.1.2.2.1, (v.1.2.2.2.1, (v.1.1, ()))))), ((v.1.2.1, ()), ())))
else (let x272 := (decide (((v.1.2.2.2.1.size : Int) : Int) > 500))
bif x272 then (some ((true, (v.1.2.2.2.2.1, (v.1.2.2.1, (v.1.2.2.2.1, (v.1.1, ()))))), ((v.1.2.1, ()), ())))
else (let x273 := (decide (((v.1.2.2.2.2.1.size : Int) : Int) > 200))
bif x273 then (some ((true, (v.1.2.2.2.2.1, (v.1.2.2.1, (v.1.2.2.2.1, (v.1.1, ()))))), ((v.1.2.1, ()), ())))
else (let x274 := (decide (((v.1.2.1.2.2.1.size : Int) : Int) > 200))
some ((x274, (v.1.2.2.2.2.1, (v.1.2.2.1, (v.1.2.2.2.1, (v.1.1, ()))))), ((v.1.2.1, ()), ()))))))) : Option ((Bool × ByteArray × Y5 × ByteArray × (List Int) × Unit) × ((Y11 × Unit) × Unit))).bind fun v275 =>
bif v275.1.1 then ((m18 ((), ())).bind fun u276 =>
some ((u276.1.1, ()), ()))
else ((m19 ((v275.1.2.2.2.2.1, ()), ())).bind fun u277 =>
(m20 ((), ((u277.2.1.1, ()), ()))).bind fun u278 =>
(m21 ((9, ()), ((u278.2.1.1, ()), ()))).bind fun u279 =>
bif (decide (0 + u279.2.2.1.length ≤ 4294967296)) then
bif (decide (u279.2.2.1.length + ([v275.2.1.1] : List Y11).length ≤ 4294967296)) then
let x280 := (u279.2.2.1 ++ ([v275.2.1.1] : List Y11))
(loopT l3_0_7 ((0, (v275.1.2.1, (v275.1.2.2.1, (v275.1.2.2.2.1, (((x280.length : Nat) : Int), ()))))), (u278.2.2.1, (x280, ((v275.2.1.1, ()), (u279.2.2.1, ())))))).bind fun d291 =>
sumE d291 (fun d292 => (some ((d292.1.1, ()), ()))) (fun d293 => (bif (decide (0 + d293.2.2.2.1.length ≤ 4294967296)) then
bif (decide (d293.2.2.2.1.length + ([d293.2.2.1.1] : List Y11).length ≤ 4294967296)) then
let x294 := (d293.2.2.2.1 ++ ([d293.2.2.1.1] : List Y11))
(loopT l3_0_13 ((0, (d293.1.1, (d293.1.2.1, ((d293.2.2.2.1, (([d293.2.2.1.1] : List Y11), (x294, ()))), ())))), (d293.2.1, ()))).bind fun d309 =>
sumE d309 (fun d310 => (some ((d310.1.1, ()), ()))) (fun d311 => ((m18 ((), ())).bind fun u312 =>
some ((u312.1.1, ()), ())))
else none
else none))
else none
else none)

def sp3 : Abs.Spec := ⟨0, i3, o3, m3⟩

def an3 : Nat → Abs.FAn
  | 0 => Abs.FAn.mk (fun
    | 23 => some ⟨[157, 135, 4, 3, 12, 109, 110, 136], (.dat .bool (.dat (.cons .str (.cons .str Z7)) (.dat .str (.dat .str (.st (.own Z7 (0, 0)) (.dat (.cons (.row Z4) (.cons (.row Z4) (.cons (.row Z4) .unit))) (.dat (.int .i64) (.dat (.int .i64) .nil)))))))), (.arr Z7 false .nil)⟩
    | 16 => some ⟨[127, 4, 3, 12, 109, 110, 18], (.dat .bool (.dat .str (.dat .str (.st (.own Z7 (0, 0)) (.dat (.cons (.row Z4) (.cons (.row Z4) (.cons (.row Z4) .unit))) (.dat (.int .i64) (.dat .str .nil))))))), (.arr Z7 false .nil)⟩
    | 9 => some ⟨[99, 4, 2, 12, 60, 3, 6, 13, 61, 62], (.dat .bool (.dat .str (.dat (.row Z7) (.st (.own Z7 (0, 0)) (.st (.own Z4 (1, 0)) (.dat .str (.st (.ptr (2, 0) 3 0 0) (.st (.own Z4 (3, 0)) (.dat (.int .i64) (.dat (.int .i64) .nil)))))))))), (.arr Z7 false (.arr Z4 false (.box 3 (.dat Z4 .nil) (.arr Z4 false .nil))))⟩
    | 1 => some ⟨[48, 4, 2, 3, 6, 0], (.dat .bool (.dat .str (.dat (.row Z7) (.dat .str (.st (.ptr (0, 0) 3 0 0) (.dat (.row (.int .i64)) .nil)))))), (.box 3 (.dat Z4 .nil) .nil)⟩
    | _ => none) (fun _ => none) (fun
    | 13 => some ⟨⟨[110, 4, 3, 12, 109], (.dat (.int .i64) (.dat .str (.dat .str (.st (.own Z7 (0, 0)) (.dat (.cons (.row Z4) (.cons (.row Z4) (.cons (.row Z4) .unit))) .nil))))), (.arr Z7 false .nil)⟩, (.more .ret ⟨[10], (.dat .bool .nil), .nil⟩ (.one (.exit 2) ⟨[], .nil, .nil⟩))⟩
    | 19 => some ⟨⟨[136, 135, 4, 3, 12, 109, 110], (.dat (.int .i64) (.dat (.cons .str (.cons .str Z7)) (.dat .str (.dat .str (.st (.own Z7 (0, 0)) (.dat (.cons (.row Z4) (.cons (.row Z4) (.cons (.row Z4) .unit))) (.dat (.int .i64) .nil))))))), (.arr Z7 false .nil)⟩, (.more .ret ⟨[10], (.dat .bool .nil), .nil⟩ (.one (.exit 4) ⟨[4, 3, 12, 109, 110], (.dat .str (.dat .str (.st (.own Z7 (0, 0)) (.dat (.cons (.row Z4) (.cons (.row Z4) (.cons (.row Z4) .unit))) (.dat (.int .i64) .nil))))), (.arr Z7 false .nil)⟩))⟩
    | 7 => some ⟨⟨[62, 4, 2, 12, 60, 3, 6, 13, 61], (.dat (.int .i64) (.dat .str (.dat (.row Z7) (.st (.own Z7 (0, 0)) (.st (.own Z4 (1, 0)) (.dat .str (.st (.ptr (2, 0) 3 0 0) (.st (.own Z4 (3, 0)) (.dat (.int .i64) .nil))))))))), (.arr Z7 false (.arr Z4 false (.box 3 (.dat Z4 .nil) (.arr Z4 false .nil))))⟩, (.more .ret ⟨[10], (.dat .bool .nil), .nil⟩ (.one (.exit 0) ⟨[4, 3, 12, 6, 13], (.dat .str (.dat .str (.st (.own Z7 (0, 0)) (.st (.ptr (1, 0) 3 0 0) (.st (.own Z4 (2, 0)) .nil))))), (.arr Z7 false (.box 3 (.dat Z4 .nil) (.arr Z4 false .nil)))⟩))⟩
    | _ => none) (fun _ _ => 0)
  | _ => {}

theorem ok3 : Abs.SpecOK Tryd.prog 3 sp3 :=
  Abs.specOC_of (C := ctab) (mv := mvtab) ctab_ok (n := 12) (an := an3) (T := Abs.tabOf [(17, sp17), (18, sp18), (19, sp19), (20, sp20), (21, sp21), (22, sp22), (23, sp23), (24, sp24), (25, sp25), (26, sp26), (27, sp27), (28, sp28), (29, sp29), (30, sp30), (31, sp31), (32, sp32), (33, sp33), (34, sp34)]) good foll (Abs.tabOf_ok _ (by simp only [List.forall_mem_cons]; exact ⟨ok17, ok18, ok19, ok20, ok21, ok22, ok23, ok24, ok25, ok26, ok27, ok28, ok29, ok30, ok31, ok32, ok33, ok34, fun _ h => by cases h⟩)) rfl (by intro v; kernel_rfl)

/- warnings: store: pointer &e16.0 -/

end
end Go.Proofs.YtcblbcpnfidndaaDoor

namespace Go.Proofs.YtcblbcpnfidndaaDoor
open Go Go.Abs
noncomputable section
/- pagewatch/mute.Silenced -/
def i64 : Abs.Sg := ⟨[0, 1, 2], (.dat (.row Z1) (.dat (.row Z7) (.dat (.int .i64) .nil))), .nil⟩

/- 116 pagewatch/mute.End$1: not told by a law: a closure -/

/- 115 slices.IndexFunc[[]pagewatch/api.Silence,pagewatch/api.Silence]: not told by a law: a parameter -/

/- 117 slices.Delete[[]pagewatch/api.Silence,pagewatch/api.Silence]: not told by a law: run where it is called -/

/- 146 pagewatch/mute.equal$1: not told by a law: a closure -/

/- 159 slices.IndexFunc[[]string,string]: not told by a law: a parameter -/

/- 145 slices.ContainsFunc[[]string,string]: not told by a law: a parameter -/

end
end Go.Proofs.YtcblbcpnfidndaaDoor

namespace Go.Proofs.YtcblbcpnfidndaaDoor
open Go Go.Abs Go.Lab
/-- What joins and conditions need. -/
theorem sS : (∀ h : Decidable True, @decide True h = true) ∧ (∀ h : Decidable False, @decide False h = false) ∧ (∀ {α : Type} (a b : α), cond true a b = a) ∧ (∀ {α : Type} (a b : α), cond false a b = b) ∧ (∀ {α β : Type} (a : α) (f : α → Option β), (some a).bind f = f a) ∧ (!true) = false ∧ (!false) = true ∧ (∀ b : Bool, (true && b) = b) ∧ (∀ b : Bool, (b && true) = b) ∧ (∀ b : Bool, (false && b) = false) ∧ (∀ b : Bool, (b && false) = false) ∧ (∀ {α : Type} [BEq α] [LawfulBEq α] (a : α), (a == a) = true) ∧ (∀ {α : Type} [BEq α] [LawfulBEq α] (a : α), (a != a) = false) :=
  ⟨fun _ => decide_true _, fun _ => decide_false _, fun _ _ => rfl, fun _ _ => rfl, fun _ _ => rfl, rfl, rfl, Bool.true_and, Bool.and_true, Bool.false_and, Bool.and_false, fun _ => beq_self_eq_true _, fun _ => bne_self_eq_false _⟩

/-- An element of a row, without the proof that it is one. -/
def rowG {A B : Type} (l : List A) (n : Int) (F : A → Option B) : Option B := bif decide (0 ≤ n) then (l[n.toNat]?).bind F else none

theorem rowAt_G {A B : Type} {l : List A} {n : Int} (F : A → Option B) : Abs.rowAt l n (fun e _ => F e) = rowG l n F := by
  unfold Abs.rowAt rowG
  cases l[n.toNat]? <;> rfl

theorem rowG_nat {A B : Type} {l : List A} {i : Nat} {e : A} (h : l[i]? = some e) (F : A → Option B) : rowG l (i : Int) F = F e := by
  unfold rowG
  rw [show decide (0 ≤ (i : Int)) = true from decide_eq_true (by omega), Int.toNat_natCast, h]; rfl

theorem rowG_int {A B : Type} {l : List A} {n : Int} {e : A} (h0 : 0 ≤ n) (h : l[n.toNat]? = some e) (F : A → Option B) : rowG l n F = F e := by
  unfold rowG
  rw [show decide (0 ≤ n) = true from decide_eq_true h0, h]; rfl

theorem w64_nat {i : Nat} (h : i < 9223372036854775807) : w64 ((i : Int) + 1) = ((i + 1 : Nat) : Int) := by rw [w64_id (by omega) (by omega)]; omega

theorem drop_at {A : Type} {l : List A} {i : Nat} (h : i < l.length) : ∃ e, l[i]? = some e ∧ l.drop i = e :: l.drop (i + 1) :=
  ⟨l[i], List.getElem?_eq_getElem h, List.drop_eq_getElem_cons h⟩

theorem getD_some {A : Type} {l : List A} {i : Nat} (h : i < l.length) : ∃ e, l[i]? = some e := ⟨_, List.getElem?_eq_getElem h⟩

theorem bind_of {A B : Type} {o : Option A} {f : A → Option B} {y : Option B} (x : A) (h : o = some x) (h2 : f x = y) : o.bind f = y := by rw [h]; exact h2

theorem beq_decide (a b : Int) : (a == b) = decide (a = b) := by
  by_cases h : a = b <;> simp [h]

/-! ### Bytes -/
abbrev bl (s : ByteArray) : List UInt8 := s.data.toList

theorem len_bl (s : ByteArray) : (bl s).length = s.size := Array.length_toList

theorem at_bl (s : ByteArray) (i : Nat) : (s[i]? : Option UInt8) = (bl s)[i]? := by
  rw [Array.getElem?_toList]
  by_cases h : i < s.size
  · rw [getElem?_pos s i h, getElem?_pos s.data i h]; rfl
  · rw [getElem?_neg s i h, getElem?_neg s.data i h]

theorem toList_bl (s : ByteArray) : s.toList = bl s := ByteArray.toList_eq s

theorem bl_inj {s t : ByteArray} (h : bl s = bl t) : s = t := ByteArray.ext (Array.toList_inj.1 h)

theorem bl_mk (l : List UInt8) : bl (mkB l) = l := rfl

theorem mk_bl (s : ByteArray) : mkB (bl s) = s := bl_inj rfl

theorem bl_empty : bl ByteArray.empty = [] := rfl

theorem beq_bl (s t : ByteArray) : (bl s == bl t) = decide (s = t) := by
  by_cases h : s = t
  · subst h; simp
  · have : bl s ≠ bl t := fun e => h (bl_inj e)
    rw [decide_eq_false h]; exact beq_eq_false_iff_ne.2 this

theorem size_mk (l : List UInt8) : (mkB l).size = l.length := rfl

theorem extract_bl (s : ByteArray) (a b : Nat) : bl (s.extract a b) = ((bl s).drop a).take (b - a) := by
  exact Lib.extract_data s a b

abbrev LT : Type := ByteArray × ByteArray × Unit

abbrev MT : Type := ByteArray × Int × ByteArray × Unit

def u8 (c : UInt8) : Int := ((c.toNat : Nat) : Int)

theorem keyChar_u8 (c : UInt8) : keyChar c = ((decide (97 ≤ u8 c) && decide (u8 c ≤ 122)) || (decide (48 ≤ u8 c) && decide (u8 c ≤ 57)) || u8 c == 95) := by
  have e : (c == 95) = (u8 c == 95) := by
    by_cases h : c = 95
    · subst h; rfl
    · have : u8 c ≠ 95 := fun e => h (UInt8.toNat_inj.1 (by unfold u8 at e; show c.toNat = 95; omega))
      rw [beq_eq_false_iff_ne.2 h, beq_eq_false_iff_ne.2 this]
  unfold keyChar
  rw [e]
  have le : ∀ (n : UInt8), decide (n ≤ c) = decide ((n.toNat : Int) ≤ u8 c) := fun n => decide_eq_decide.2 (by rw [UInt8.le_iff_toNat_le]; unfold u8; omega)
  have ge : ∀ (n : UInt8), decide (c ≤ n) = decide (u8 c ≤ (n.toNat : Int)) := fun n => decide_eq_decide.2 (by rw [UInt8.le_iff_toNat_le]; unfold u8; omega)
  rw [le, ge, le, ge]
  rfl

theorem valChar_u8 (c : UInt8) : (decide (32 ≤ c) && decide (c ≤ 126)) = (decide (32 ≤ u8 c) && decide (u8 c ≤ 126)) := by
  have le : ∀ (n : UInt8), decide (n ≤ c) = decide ((n.toNat : Int) ≤ u8 c) := fun n => decide_eq_decide.2 (by rw [UInt8.le_iff_toNat_le]; unfold u8; omega)
  have ge : ∀ (n : UInt8), decide (c ≤ n) = decide (u8 c ≤ (n.toNat : Int)) := fun n => decide_eq_decide.2 (by rw [UInt8.le_iff_toNat_le]; unfold u8; omega)
  rw [le, ge]
  rfl

theorem byte_at {s : ByteArray} {i : Nat} {c : UInt8} (h : (bl s)[i]? = some c) : (((s[(i : Int).toNat]?.getD 0).toNat : Nat) : Int) = u8 c := by
  rw [Int.toNat_natCast, at_bl, h]; rfl

theorem lt_ge (a b : Int) : decide (a < b) = !decide (b ≤ a) := by
  by_cases h : a < b
  · rw [decide_eq_true h, decide_eq_false (by omega)]; rfl
  · rw [decide_eq_false h, decide_eq_true (by omega)]; rfl

theorem gt_le (a b : Int) : decide (a > b) = !decide (a ≤ b) := by
  by_cases h : a > b
  · rw [decide_eq_true h, decide_eq_false (by omega)]; rfl
  · rw [decide_eq_false h, decide_eq_true (by omega)]; rfl

theorem loop87 (s : ByteArray) (hs : s.size ≤ 9223372036854775807) : ∀ (k i : Nat), i + k = s.size →
    loopT l87_0_4 (((i : Int), s, (s.size : Int), ()), ()) = some (if ((bl s).drop i).all keyChar then .inr ((), ()) else .inl ((false, ()), ())) := by
  intro k
  induction k with
  | zero =>
    intro i h
    rw [List.drop_eq_nil_of_le (by rw [len_bl]; omega)]
    refine loopT_inr ?_
    have : ¬ (i : Int) < (s.size : Int) := by omega
    simp only [l87_0_4, decide_eq_false this, sumE, sS, List.all_nil, if_true]
  | succ k ih =>
    intro i h
    obtain ⟨c, hc, hd⟩ := drop_at (l := bl s) (i := i) (by rw [len_bl]; omega)
    have hlt : decide ((i : Int) < (s.size : Int)) = true := decide_eq_true (by omega)
    have hbd : decide ((0 : Int) ≤ (i : Int) ∧ (i : Int) < (s.size : Int)) = true := decide_eq_true (by omega)
    rw [hd, List.all_cons]
    have hstep : l87_0_4 (((i : Int), s, (s.size : Int), ()), ()) = if keyChar c then some (.inl ((w64 ((i : Int) + 1), s, (s.size : Int), ()), ())) else some (.inr (.inl ((false, ()), ()))) := by
      rw [keyChar_u8]
      simp only [l87_0_4, hlt, hbd, byte_at hc, sumE, sS, lt_ge, gt_le, bne]
      cases decide (97 ≤ u8 c) <;> cases decide (u8 c ≤ 122) <;> cases decide (48 ≤ u8 c) <;> cases decide (u8 c ≤ 57) <;> cases (u8 c == 95) <;> rfl
    cases hk : keyChar c
    · rw [hk] at hstep
      exact loopT_inr hstep
    · rw [hk, w64_nat (by omega)] at hstep
      rw [loopT_inl hstep, ih (i + 1) (by omega)]
      rfl

theorem byte_n {s : ByteArray} {i : Nat} {c : UInt8} (h : (bl s)[i]? = some c) : (((s[i]?.getD 0).toNat : Nat) : Int) = u8 c := by
  rw [at_bl, h]; rfl

def valChar (c : UInt8) : Bool := decide (32 ≤ c) && decide (c ≤ 126)

theorem valChar_eq (c : UInt8) : valChar c = (decide (32 ≤ u8 c) && decide (u8 c ≤ 126)) := valChar_u8 c

theorem loop89 (s : ByteArray) (hs : s.size ≤ 9223372036854775807) : ∀ (k i : Nat), i + k = s.size →
    loopT l89_0_4 (((i : Int), s, ()), ()) = some (if ((bl s).drop i).all keyChar then .inr ((), ()) else .inl ((false, ()), ())) := by
  intro k
  induction k with
  | zero =>
    intro i h
    rw [List.drop_eq_nil_of_le (by rw [len_bl]; omega)]
    refine loopT_inr ?_
    have : ¬ (i : Int) < (s.size : Int) := by omega
    simp only [l89_0_4, decide_eq_false this, sumE, sS, List.all_nil, if_true]
  | succ k ih =>
    intro i h
    obtain ⟨c, hc, hd⟩ := drop_at (l := bl s) (i := i) (by rw [len_bl]; omega)
    have hlt : decide ((i : Int) < (s.size : Int)) = true := decide_eq_true (by omega)
    have hbd : decide ((0 : Int) ≤ (i : Int) ∧ (i : Int) < (s.size : Int)) = true := decide_eq_true (by omega)
    rw [hd, List.all_cons]
    have hstep : l89_0_4 (((i : Int), s, ()), ()) = if keyChar c then some (.inl ((w64 ((i : Int) + 1), s, ()), ())) else some (.inr (.inl ((false, ()), ()))) := by
      rw [keyChar_u8]
      simp only [l89_0_4, hlt, hbd, byte_at hc, sumE, sS, lt_ge, gt_le, bne]
      cases decide (97 ≤ u8 c) <;> cases decide (u8 c ≤ 122) <;> cases decide (48 ≤ u8 c) <;> cases decide (u8 c ≤ 57) <;> cases (u8 c == 95) <;> rfl
    cases hk : keyChar c
    · rw [hk] at hstep
      exact loopT_inr hstep
    · rw [hk, w64_nat (by omega)] at hstep
      rw [loopT_inl hstep, ih (i + 1) (by omega)]
      rfl

theorem loop88 (s : ByteArray) (hs : s.size ≤ 9223372036854775807) : ∀ (k i : Nat), i + k = s.size →
    loopT l88_0_2 (((i : Int), s, (s.size : Int), ()), ()) = some (if ((bl s).drop i).all valChar then .inr ((s, ()), ()) else .inl ((false, ()), ())) := by
  intro k
  induction k with
  | zero =>
    intro i h
    rw [List.drop_eq_nil_of_le (by rw [len_bl]; omega)]
    refine loopT_inr ?_
    have : ¬ (i : Int) < (s.size : Int) := by omega
    simp only [l88_0_2, decide_eq_false this, sumE, sS, List.all_nil, if_true]
  | succ k ih =>
    intro i h
    obtain ⟨c, hc, hd⟩ := drop_at (l := bl s) (i := i) (by rw [len_bl]; omega)
    have hlt : decide ((i : Int) < (s.size : Int)) = true := decide_eq_true (by omega)
    have hbd : decide ((0 : Int) ≤ (i : Int) ∧ (i : Int) < (s.size : Int)) = true := decide_eq_true (by omega)
    rw [hd, List.all_cons]
    have hstep : l88_0_2 (((i : Int), s, (s.size : Int), ()), ()) = if valChar c then some (.inl ((w64 ((i : Int) + 1), s, (s.size : Int), ()), ())) else some (.inr (.inl ((false, ()), ()))) := by
      rw [valChar_eq]
      simp only [l88_0_2, hlt, hbd, byte_at hc, sumE, sS, lt_ge, gt_le, bne]
      cases decide (32 ≤ u8 c) <;> cases decide (u8 c ≤ 126) <;> rfl
    cases hk : valChar c
    · rw [hk] at hstep
      exact loopT_inr hstep
    · rw [hk, w64_nat (by omega)] at hstep
      rw [loopT_inl hstep, ih (i + 1) (by omega)]
      rfl

theorem loop90 (s : ByteArray) (hs : s.size ≤ 9223372036854775807) : ∀ (k i : Nat), i + k = s.size →
    loopT l90_0_4 (((i : Int), s, ()), ()) = some (if ((bl s).drop i).all valChar then .inr ((), ()) else .inl ((false, ()), ())) := by
  intro k
  induction k with
  | zero =>
    intro i h
    rw [List.drop_eq_nil_of_le (by rw [len_bl]; omega)]
    refine loopT_inr ?_
    have : ¬ (i : Int) < (s.size : Int) := by omega
    simp only [l90_0_4, decide_eq_false this, sumE, sS, List.all_nil, if_true]
  | succ k ih =>
    intro i h
    obtain ⟨c, hc, hd⟩ := drop_at (l := bl s) (i := i) (by rw [len_bl]; omega)
    have hlt : decide ((i : Int) < (s.size : Int)) = true := decide_eq_true (by omega)
    have hbd : decide ((0 : Int) ≤ (i : Int) ∧ (i : Int) < (s.size : Int)) = true := decide_eq_true (by omega)
    rw [hd, List.all_cons]
    have hstep : l90_0_4 (((i : Int), s, ()), ()) = if valChar c then some (.inl ((w64 ((i : Int) + 1), s, ()), ())) else some (.inr (.inl ((false, ()), ()))) := by
      rw [valChar_eq]
      simp only [l90_0_4, hlt, hbd, byte_at hc, sumE, sS, lt_ge, gt_le, bne]
      cases decide (32 ≤ u8 c) <;> cases decide (u8 c ≤ 126) <;> rfl
    cases hk : valChar c
    · rw [hk] at hstep
      exact loopT_inr hstep
    · rw [hk, w64_nat (by omega)] at hstep
      rw [loopT_inl hstep, ih (i + 1) (by omega)]
      rfl

abbrev keyS (s : ByteArray) : Bool := keyL (bl s)

abbrev valS (s : ByteArray) : Bool := valL (bl s)

theorem key_head (s : ByteArray) : keyS s = match bl s with
    | [] => false
    | c :: _ => (!decide ((s.size : Int) > 24)) && (decide (97 ≤ u8 c) && decide (u8 c ≤ 122)) && (bl s).all keyChar := by
  have hl := len_bl s
  unfold keyS keyL
  cases h : bl s with
  | nil => rfl
  | cons c r =>
    rw [h] at hl
    have le : ∀ (n : UInt8), decide (n ≤ c) = decide ((n.toNat : Int) ≤ u8 c) := fun n => decide_eq_decide.2 (by rw [UInt8.le_iff_toNat_le]; unfold u8; omega)
    have ge : ∀ (n : UInt8), decide (c ≤ n) = decide (u8 c ≤ (n.toNat : Int)) := fun n => decide_eq_decide.2 (by rw [UInt8.le_iff_toNat_le]; unfold u8; omega)
    simp only [gt_le, Bool.not_not]
    rw [show decide ((c :: r).length ≤ 24) = decide ((s.size : Int) ≤ 24) from decide_eq_decide.2 (by rw [hl]; omega), le, ge]
    rfl

theorem m87_eq (s : ByteArray) (hs : s.size ≤ 9223372036854775807) : m87 ((s, ()), ()) = some ((keyS s, ()), ()) := by
  rw [key_head]
  have hl := len_bl s
  have hlp := loop87 s hs s.size 0 (by omega)
  unfold m87
  cases h : bl s with
  | nil =>
    simp only [toList_bl, h, bl_empty, sumE, sS]
  | cons c r =>
    have hne : (bl s == bl ByteArray.empty) = false := by rw [h]; rfl
    have h0 : (((s[0]?.getD 0).toNat : Nat) : Int) = u8 c := by rw [at_bl, h]; rfl
    have hpos : decide ((0 : Int) ≤ 0 ∧ (0 : Int) < s.size) = true := decide_eq_true (by rw [h] at hl; simp at hl; omega)
    simp only [toList_bl, hne, hpos, h0, sumE, sS]
    cases decide ((s.size : Int) > 24)
    · simp only [lt_ge, gt_le, sumE, sS]
      cases decide (97 ≤ u8 c)
      · rfl
      · cases decide (u8 c ≤ 122)
        · rfl
        · simp only [sumE, sS]
          rw [List.drop_zero] at hlp
          refine bind_of _ hlp ?_
          cases ha : (bl s).all keyChar <;> rw [← h] <;> simp only [ha, sumE, sS] <;> rfl
    · rfl

theorem m89_eq (s : ByteArray) (hs : s.size ≤ 9223372036854775807) : m89 ((s, ()), ()) = some ((keyS s, ()), ()) := by
  rw [key_head]
  have hl := len_bl s
  have hlp := loop89 s hs s.size 0 (by omega)
  unfold m89
  cases h : bl s with
  | nil =>
    have : decide ((s.size : Int) < 1) = true := decide_eq_true (by rw [h] at hl; simp at hl; omega)
    simp only [this, sumE, sS]
  | cons c r =>
    have hne : decide ((s.size : Int) < 1) = false := decide_eq_false (by rw [h] at hl; simp at hl; omega)
    have h0 : (((s[0]?.getD 0).toNat : Nat) : Int) = u8 c := by rw [at_bl, h]; rfl
    have hpos : decide ((0 : Int) ≤ 0 ∧ (0 : Int) < s.size) = true := decide_eq_true (by rw [h] at hl; simp at hl; omega)
    simp only [hne, hpos, h0, sumE, sS]
    cases decide ((s.size : Int) > 24)
    · simp only [lt_ge, gt_le, sumE, sS]
      cases decide (97 ≤ u8 c)
      · rfl
      · cases decide (u8 c ≤ 122)
        · rfl
        · simp only [sumE, sS]
          rw [List.drop_zero] at hlp
          refine bind_of _ hlp ?_
          cases ha : (bl s).all keyChar <;> rw [← h] <;> simp only [ha, sumE, sS] <;> rfl
    · rfl

theorem val_def (s : ByteArray) : valS s = ((bl s).all valChar && decide ((s.size : Int) ≤ 64)) := by
  unfold valS valL
  rw [len_bl, show decide (s.size ≤ 64) = decide ((s.size : Int) ≤ 64) from decide_eq_decide.2 (by omega)]
  rfl

theorem m88_eq (s : ByteArray) (hs : s.size ≤ 9223372036854775807) : m88 ((s, ()), ()) = some ((valS s, ()), ()) := by
  rw [val_def]
  have hlp := loop88 s hs s.size 0 (by omega)
  rw [List.drop_zero] at hlp
  unfold m88
  refine bind_of _ hlp ?_
  cases ha : (bl s).all valChar <;> simp only [sumE, sS] <;> rfl

theorem m90_eq (s : ByteArray) (hs : s.size ≤ 9223372036854775807) : m90 ((s, ()), ()) = some ((valS s, ()), ()) := by
  rw [val_def]
  have hlp := loop90 s hs s.size 0 (by omega)
  rw [List.drop_zero] at hlp
  unfold m90
  simp only [gt_le]
  cases decide ((s.size : Int) ≤ 64)
  · simp only [sumE, sS]
  · simp only [sumE, sS]
    refine bind_of _ hlp ?_
    cases ha : (bl s).all valChar <;> rfl

/-- Whether a matcher is right. -/
def rightM (m : MT) : Bool := keyS m.1 && (decide (m.2.1 ≥ 0) && (decide (m.2.1 ≤ 3) && valS m.2.2.1))

def MSz (m : MT) : Prop := m.1.size ≤ 9223372036854775807 ∧ m.2.2.1.size ≤ 9223372036854775807

theorem m22_eq (m : MT) (hm : MSz m) : m22 ((m, ()), ()) = some ((rightM m, ()), ()) := by
  unfold m22 rightM
  simp only [m87_eq _ hm.1, m88_eq _ hm.2, sumE, sS]
  cases keyS m.1 <;> cases decide (m.2.1 ≥ 0) <;> cases decide (m.2.1 ≤ 3) <;> simp only [sumE, sS]

theorem m23_eq (m : MT) (hm : MSz m) : m23 ((m, ()), ()) = some ((rightM m, ()), ()) := by
  unfold m23 rightM
  simp only [m89_eq _ hm.1, m90_eq _ hm.2, sumE, sS]
  cases keyS m.1 <;> cases decide (m.2.1 ≥ 0) <;> cases decide (m.2.1 ≤ 3) <;> simp only [sumE, sS]

end Go.Proofs.YtcblbcpnfidndaaDoor

namespace Go.Proofs.YtcblbcpnfidndaaDoor
open Go Go.Abs Go.Lab
/-- The value of a key. -/
def findL (k : ByteArray) : List LT → Option ByteArray
  | [] => none
  | x :: l => if x.1 = k then some x.2.1 else findL k l

def getL (l : List LT) (k : ByteArray) : ByteArray := (findL k l).getD ByteArray.empty

theorem loop38 (l : List LT) (key : ByteArray) (hl : l.length ≤ 9223372036854775807) : ∀ (k i : Nat), i + k = l.length →
    loopT l38_0_2 (((i : Int), key, l, (l.length : Int), ()), ()) = some (match findL key (l.drop i) with | some v => .inl ((v, ()), ()) | none => .inr ((), ())) := by
  intro k
  induction k with
  | zero =>
    intro i h
    rw [List.drop_eq_nil_of_le (by omega)]
    refine loopT_inr ?_
    have : ¬ (i : Int) < (l.length : Int) := by omega
    simp only [l38_0_2, decide_eq_false this, sumE, sS, findL]
  | succ k ih =>
    intro i h
    obtain ⟨e, he, hd⟩ := drop_at (l := l) (i := i) (by omega)
    have hlt : decide ((i : Int) < (l.length : Int)) = true := decide_eq_true (by omega)
    rw [hd, findL]
    by_cases hk : e.1 = key
    · rw [if_pos hk]
      refine loopT_inr ?_
      simp only [l38_0_2, rowAt_G, rowG_nat he, hlt, toList_bl, beq_bl, decide_eq_true hk, sumE, sS]
    · rw [if_neg hk, ← ih (i + 1) (by omega)]
      refine loopT_inl ?_
      simp only [l38_0_2, rowAt_G, rowG_nat he, hlt, toList_bl, beq_bl, decide_eq_false hk, sumE, sS, w64_nat (show i < 9223372036854775807 by omega)]

theorem m38_eq (l : List LT) (key : ByteArray) (hl : l.length ≤ 9223372036854775807) : m38 ((l, key, ()), ()) = some ((getL l key, ()), ()) := by
  have h := loop38 l key hl l.length 0 (by omega)
  rw [List.drop_zero] at h
  unfold m38 getL
  refine bind_of _ h ?_
  cases findL key l <;> rfl

theorem loop44 (l : List LT) (key : ByteArray) (hl : l.length ≤ 9223372036854775807) : ∀ (k i : Nat), i + k = l.length →
    loopT l44_0_2 (((i : Int), l, key, ()), ()) = some (match findL key (l.drop i) with | some v => .inl ((v, ()), ()) | none => .inr ((), ())) := by
  intro k
  induction k with
  | zero =>
    intro i h
    rw [List.drop_eq_nil_of_le (by omega)]
    refine loopT_inr ?_
    have : ¬ (i : Int) < (l.length : Int) := by omega
    simp only [l44_0_2, decide_eq_false this, sumE, sS, findL]
  | succ k ih =>
    intro i h
    obtain ⟨e, he, hd⟩ := drop_at (l := l) (i := i) (by omega)
    have hlt : decide ((i : Int) < (l.length : Int)) = true := decide_eq_true (by omega)
    rw [hd, findL]
    by_cases hk : e.1 = key
    · rw [if_pos hk]
      refine loopT_inr ?_
      simp only [l44_0_2, rowAt_G, rowG_nat he, hlt, toList_bl, beq_bl, decide_eq_true hk, sumE, sS]
    · rw [if_neg hk, ← ih (i + 1) (by omega)]
      refine loopT_inl ?_
      simp only [l44_0_2, rowAt_G, rowG_nat he, hlt, toList_bl, beq_bl, decide_eq_false hk, sumE, sS, w64_nat (show i < 9223372036854775807 by omega)]

theorem m44_eq (l : List LT) (key : ByteArray) (hl : l.length ≤ 9223372036854775807) : m44 ((l, key, ()), ()) = some ((getL l key, ()), ()) := by
  have h := loop44 l key hl l.length 0 (by omega)
  rw [List.drop_zero] at h
  unfold m44 getL
  refine bind_of _ h ?_
  cases findL key l <;> rfl

/-! ### Trim -/
theorem last_bl (s : ByteArray) (h : 0 < s.size) : ∃ c, (bl s)[s.size - 1]? = some c ∧ bl s = bl (s.extract 0 (s.size - 1)) ++ [c] := by
  have hl := len_bl s
  obtain ⟨c, hc⟩ := getD_some (l := bl s) (i := s.size - 1) (by omega)
  refine ⟨c, hc, ?_⟩
  rw [extract_bl, List.drop_zero, Nat.sub_zero]
  have := List.take_append_drop (s.size - 1) (bl s)
  conv => lhs; rw [← this]
  congr 1
  obtain ⟨e, he, hd⟩ := drop_at (l := bl s) (i := s.size - 1) (by omega)
  rw [hc] at he; cases he
  rw [hd, List.drop_eq_nil_of_le (by omega)]

theorem trimR (n : Nat) : ∀ (s : ByteArray), s.size = n → n ≤ 9223372036854775807 → ∃ t, loopT l124_0_1 ((s, 42, ()), ()) = some ((t, ()), ()) ∧ ∃ k, bl s = bl t ++ List.replicate k 42 := by
  induction n with
  | zero =>
    intro s hs _
    refine ⟨s, loopT_inr ?_, 0, by simp⟩
    have : decide ((s.size : Int) > 0) = false := decide_eq_false (by omega)
    simp only [l124_0_1, this, sumE, sS]
  | succ n ih =>
    intro s hs hn
    obtain ⟨c, hc, hsp⟩ := last_bl s (by omega)
    have hw : w64 ((s.size : Int) - 1) = ((s.size - 1 : Nat) : Int) := by rw [w64_id (by omega) (by omega)]; omega
    have h0 : decide ((s.size : Int) > 0) = true := decide_eq_true (by omega)
    have h1 : decide ((0 : Int) ≤ ((s.size - 1 : Nat) : Int) ∧ ((s.size - 1 : Nat) : Int) < s.size) = true := decide_eq_true (by omega)
    have h2 : decide ((0 : Int) ≤ ((s.size - 1 : Nat) : Int)) = true := decide_eq_true (by omega)
    have h3 : decide (0 ≤ s.size - 1 ∧ s.size - 1 ≤ s.size) = true := decide_eq_true (by omega)
    have hb := byte_at hc
    by_cases h42 : u8 c = 42
    · have hc42 : c = 42 := UInt8.toNat_inj.1 (by unfold u8 at h42; show c.toNat = 42; omega)
      have hsz : (s.extract 0 (s.size - 1)).size = n := by rw [← len_bl, extract_bl, List.length_take, List.length_drop, len_bl]; omega
      obtain ⟨t, ht, k, hk⟩ := ih (s.extract 0 (s.size - 1)) hsz (by omega)
      refine ⟨t, ?_, k + 1, ?_⟩
      · rw [← ht]
        refine loopT_inl ?_
        simp only [l124_0_1, h0, hw, h1, h2, Int.toNat_natCast, byte_n hc, beq_decide, decide_eq_true h42, h3, sumE, sS]
      · rw [hsp, hk, hc42, List.append_assoc]
        congr 1
        rw [List.replicate_succ']
    · refine ⟨s, loopT_inr ?_, 0, by simp⟩
      simp only [l124_0_1, h0, hw, h1, hb, beq_decide, decide_eq_false h42, sumE, sS]

theorem trimL (n : Nat) : ∀ (s : ByteArray), s.size = n → n ≤ 9223372036854775807 → ∃ t, loopT l123_0_1 ((s, 42, ()), ()) = some ((t, ()), ()) ∧ (∃ k, bl s = List.replicate k 42 ++ bl t) ∧ (∀ c r, bl t = c :: r → c ≠ 42) := by
  induction n with
  | zero =>
    intro s hs _
    refine ⟨s, loopT_inr ?_, ⟨0, by simp⟩, fun c r h => ?_⟩
    · have : decide ((s.size : Int) > 0) = false := decide_eq_false (by omega)
      simp only [l123_0_1, this, sumE, sS]
    · have := len_bl s; rw [h] at this; simp at this; omega
  | succ n ih =>
    intro s hs hn
    obtain ⟨c, hc, hsp⟩ := drop_at (l := bl s) (i := 0) (by rw [len_bl]; omega)
    rw [List.drop_zero] at hsp
    have h0 : decide ((s.size : Int) > 0) = true := decide_eq_true (by omega)
    have h1 : decide ((0 : Int) ≤ 0 ∧ (0 : Int) < s.size) = true := decide_eq_true (by omega)
    have h3 : decide (1 ≤ s.size ∧ s.size ≤ s.size) = true := decide_eq_true (by omega)
    have hb : (((s[0]?.getD 0).toNat : Nat) : Int) = u8 c := by rw [at_bl, hc]; rfl
    by_cases h42 : u8 c = 42
    · have hc42 : c = 42 := UInt8.toNat_inj.1 (by unfold u8 at h42; show c.toNat = 42; omega)
      have hex : bl (s.extract 1 s.size) = (bl s).drop 1 := by
        rw [extract_bl, List.take_of_length_le]
        rw [List.length_drop, len_bl]; exact Nat.le_refl _
      have hsz : (s.extract 1 s.size).size = n := by rw [← len_bl, hex, List.length_drop, len_bl]; omega
      obtain ⟨t, ht, ⟨k, hk⟩, hf⟩ := ih (s.extract 1 s.size) hsz (by omega)
      refine ⟨t, ?_, ⟨k + 1, ?_⟩, hf⟩
      · rw [← ht]
        refine loopT_inl ?_
        simp only [l123_0_1, h0, h1, hb, beq_decide, decide_eq_true h42, h3, sumE, sS]
      · rw [hsp, ← hex, hk, hc42]; rfl
    · refine ⟨s, loopT_inr ?_, ⟨0, by simp⟩, fun d r h => ?_⟩
      · simp only [l123_0_1, h0, h1, hb, beq_decide, decide_eq_false h42, sumE, sS]
      · rw [hsp] at h
        cases h
        intro e; subst e; exact h42 rfl

theorem m91_eq (s : ByteArray) (hs : s.size ≤ 9223372036854775807) : ∃ t, m91 ((s, bs [42], ()), ()) = some ((t, ()), ()) ∧ (bl t == bl ByteArray.empty) = (bl s).all (· == 42) := by
  by_cases he : bl s = []
  · refine ⟨s, ?_, ?_⟩
    · unfold m91
      simp only [toList_bl, he, bl_empty, sumE, sS]
    · rw [he]; rfl
  · obtain ⟨t1, h1, k1, e1⟩ := trimR s.size s rfl hs
    have hsz1 : t1.size ≤ s.size := by rw [← len_bl t1, ← len_bl s, e1, List.length_append]; omega
    obtain ⟨t2, h2, ⟨k2, e2⟩, hf⟩ := trimL t1.size t1 rfl (by omega)
    have m124e : m124 ((s, 42, ()), ()) = some ((t1, ()), ()) := by unfold m124; exact bind_of _ h1 rfl
    have m123e : m123 ((t1, 42, ()), ()) = some ((t2, ()), ()) := by unfold m123; exact bind_of _ h2 rfl
    refine ⟨t2, ?_, ?_⟩
    · have hne : (bl s == bl ByteArray.empty) = false := beq_eq_false_iff_ne.2 he
      have hb : ((((bs [42])[0]?.getD 0).toNat : Nat) : Int) = 42 := by rfl
      have hbe : (bl (bs [42]) == bl ByteArray.empty) = false := by rfl
      have hbs : (((bs [42]).size : Int) == 1) = true := by rfl
      have hbd : decide ((0 : Int) ≤ 0 ∧ (0 : Int) < (bs [42]).size) = true := by rfl
      unfold m91
      simp only [toList_bl, hne, hb, hbe, hbs, hbd, m124e, m123e, sumE, sS]
      rfl
    · rw [e1, e2, List.all_append, List.all_append]
      rw [show (List.replicate k1 (42 : UInt8)).all (· == 42) = true by simp, show (List.replicate k2 (42 : UInt8)).all (· == 42) = true by simp, Bool.and_true, Bool.true_and]
      cases h : bl t2 with
      | nil => rfl
      | cons c r =>
        have : (c == 42) = false := beq_eq_false_iff_ne.2 (hf c r h)
        simp [this, bl_empty]

end Go.Proofs.YtcblbcpnfidndaaDoor

namespace Go.Proofs.YtcblbcpnfidndaaDoor
open Go Go.Abs Go.Lab
def likeS (p s : ByteArray) : Bool := like (bl p) (bl s)

theorem u8_inj {c d : UInt8} (h : u8 c = u8 d) : c = d := UInt8.toNat_inj.1 (by unfold u8 at h; omega)

theorem u8_beq (c d : UInt8) : (u8 c == u8 d) = (c == d) := by
  by_cases h : c = d
  · subst h; simp
  · rw [beq_eq_false_iff_ne.2 h, beq_eq_false_iff_ne.2 (fun e => h (u8_inj e))]

theorem u8_42 (c : UInt8) : (u8 c == 42) = decide (c = 42) := by
  rw [show (42 : Int) = u8 42 from rfl, u8_beq]
  by_cases h : c = 42 <;> simp [h]

theorem u8_63 (c : UInt8) : (u8 c == 63) = (c == 63) := u8_beq c 63

def starOK : Option (Nat × Nat) → Int → Int → Prop
  | none, s, _ => s = -1
  | some q, s, f => s = ((q.1 : Nat) : Int) ∧ f = ((q.2 : Nat) : Int)

/-- The state of the program's loop. -/
structure LS (P V : ByteArray) (p v : Nat) (star : Option (Nat × Nat)) (a : (Int × Int × Int × Int × ByteArray × ByteArray × Unit) × Unit) : Prop where
  inv : LInv (bl P) (bl V) p v star
  st : ∃ (s f : Int), a = (((p : Int), (v : Int), s, f, V, P, ()), ()) ∧ starOK star s f

def lsMu (P V : ByteArray) (p : Nat) (star : Option (Nat × Nat)) : Nat := (V.size + 1 - (star.map (·.2)).getD 0) * (P.size + 1) + (P.size - p)

theorem like_loop (P V : ByteArray) (hP : P.size ≤ 4294967295) (hV : V.size ≤ 4294967295) : ∀ (n p v : Nat) (star : Option (Nat × Nat)) (a), LS P V p v star a → lsMu P V p star ≤ n →
    ∃ d, loopT l26_0_2 a = some d ∧ ((d = .inl ((false, ()), ()) ∧ likeS P V = false) ∨ ∃ q : Nat, q ≤ P.size ∧ d = .inr (((q : Int), P, ()), ()) ∧ likeS P V = ((bl P).drop q).all (· == 42)) := by
  intro n
  induction n with
  | zero =>
    intro p v star a h hn
    exfalso
    have hp := h.inv.hp
    have hv := h.inv.hv
    rw [len_bl] at hp hv
    unfold lsMu at hn
    have hf : (star.map (·.2)).getD 0 ≤ V.size := by
      cases star with
      | none => exact Nat.zero_le _
      | some q => have := (h.inv.ok : _ ∧ _ ∧ _).2.1; simp; omega
    have : 1 * (P.size + 1) ≤ (V.size + 1 - (star.map (·.2)).getD 0) * (P.size + 1) := Nat.mul_le_mul_right _ (by omega)
    omega
  | succ n ih =>
    intro p v star a h hn
    obtain ⟨inv, s, f, rfl, hst⟩ := h
    have hp := inv.hp
    have hv := inv.hv
    rw [len_bl] at hp hv
    have hf : (star.map (·.2)).getD 0 ≤ v := by
      cases star with
      | none => exact Nat.zero_le _
      | some q => exact (inv.ok : _ ∧ _ ∧ _).2.1
    by_cases hve : v = V.size
    · refine ⟨.inr (((p : Int), P, ()), ()), loopT_inr ?_, .inr ⟨p, hp, rfl, inv.onEnd (by rw [len_bl]; exact hve)⟩⟩
      have : decide ((v : Int) < (V.size : Int)) = false := decide_eq_false (by omega)
      simp only [l26_0_2, this, sumE, sS]
    · have hvlt : decide ((v : Int) < (V.size : Int)) = true := decide_eq_true (by omega)
      have hvb : decide ((0 : Int) ≤ (v : Int) ∧ (v : Int) < (V.size : Int)) = true := decide_eq_true (by omega)
      obtain ⟨x, hx, _⟩ := drop_at (l := bl V) (i := v) (by rw [len_bl]; omega)
      have bx := byte_at hx
      have w1 : w64 ((v : Int) + 1) = ((v + 1 : Nat) : Int) := w64_nat (by omega)
      have w2 : w64 ((p : Int) + 1) = ((p + 1 : Nat) : Int) := w64_nat (by omega)
      -- a miss
      have miss : (∀ c, (bl P)[p]? = some c → c ≠ 42 ∧ (c == 63 || c == x) = false) → l26_0_2 (((p : Int), (v : Int), s, f, V, P, ()), ()) = (bif decide (s ≥ 0) then some (.inl ((w64 (s + 1), w64 (f + 1), s, w64 (f + 1), V, P, ()), ())) else some (.inr (.inl ((false, ()), ())))) →
          ∃ d, loopT l26_0_2 (((p : Int), (v : Int), s, f, V, P, ()), ()) = some d ∧ ((d = .inl ((false, ()), ()) ∧ likeS P V = false) ∨ ∃ q : Nat, q ≤ P.size ∧ d = .inr (((q : Int), P, ()), ()) ∧ likeS P V = ((bl P).drop q).all (· == 42)) := by
        intro hm hstep
        cases star with
        | none =>
          have hs : s = -1 := hst
          subst hs
          exact ⟨_, loopT_inr hstep, .inl ⟨rfl, inv.onFail hx hm⟩⟩
        | some q =>
          obtain ⟨q1, q2⟩ := q
          obtain ⟨rfl, rfl⟩ : s = ((q1 : Nat) : Int) ∧ f = ((q2 : Nat) : Int) := hst
          have hq := (inv.ok : _ ∧ _ ∧ _)
          have hq1 : q1 + 1 ≤ p := hq.1
          have hq2 : q2 ≤ v := hq.2.1
          rw [decide_eq_true (show ((q1 : Nat) : Int) ≥ 0 by omega), w64_nat (by omega), w64_nat (by omega)] at hstep
          rw [loopT_inl hstep]
          refine ih (q1 + 1) (q2 + 1) (some (q1, q2 + 1)) _ ⟨inv.onMiss hx hm, _, _, rfl, ⟨rfl, rfl⟩⟩ ?_
          unfold lsMu at hn ⊢
          simp only [Option.map_some, Option.getD_some] at hn ⊢
          have e : V.size + 1 - q2 = (V.size + 1 - (q2 + 1)) + 1 := by omega
          rw [e, Nat.succ_mul] at hn
          omega
      by_cases hpe : p < P.size
      · have hplt : decide ((p : Int) < (P.size : Int)) = true := decide_eq_true (by omega)
        have hpb : decide ((0 : Int) ≤ (p : Int) ∧ (p : Int) < (P.size : Int)) = true := decide_eq_true (by omega)
        obtain ⟨c, hc, _⟩ := drop_at (l := bl P) (i := p) (by rw [len_bl]; omega)
        have bc := byte_at hc
        by_cases h42 : c = 42
        · subst h42
          rw [show loopT l26_0_2 (((p : Int), (v : Int), s, f, V, P, ()), ()) = loopT l26_0_2 ((((p + 1 : Nat) : Int), (v : Int), (p : Int), (v : Int), V, P, ()), ()) from loopT_inl (by
            simp only [l26_0_2, hvlt, hplt, hpb, bc, u8_42, sumE, sS, w2])]
          refine ih (p + 1) v (some (p, v)) _ ⟨inv.onStar hc, _, _, rfl, ⟨rfl, rfl⟩⟩ ?_
          unfold lsMu at hn ⊢
          simp only [Option.map_some, Option.getD_some]
          have := Nat.mul_le_mul_right (P.size + 1) (show V.size + 1 - v ≤ V.size + 1 - (star.map (·.2)).getD 0 by omega)
          omega
        · by_cases hm : (c == 63 || c == x) = true
          · rw [show loopT l26_0_2 (((p : Int), (v : Int), s, f, V, P, ()), ()) = loopT l26_0_2 ((((p + 1 : Nat) : Int), ((v + 1 : Nat) : Int), s, f, V, P, ()), ()) from loopT_inl (by
              simp only [l26_0_2, hvlt, hplt, hpb, hvb, bc, bx, u8_42, u8_63, u8_beq, decide_eq_false h42, sumE, sS, w2]
              rcases Bool.or_eq_true_iff.1 hm with h | h
              · simp only [h, sumE, sS, w1, w2]
              · cases (c == 63) <;> simp only [h, sumE, sS, w1, w2])]
            refine ih (p + 1) (v + 1) star _ ⟨inv.onByte hc hx h42 hm, s, f, rfl, hst⟩ ?_
            unfold lsMu at hn ⊢
            omega
          · have hm : (c == 63 || c == x) = false := by simpa using hm
            refine miss (fun d hd => ?_) ?_
            · rw [hc] at hd; cases hd; exact ⟨h42, hm⟩
            · rw [Bool.or_eq_false_iff] at hm
              simp only [l26_0_2, hvlt, hplt, hpb, hvb, bc, bx, u8_42, u8_63, u8_beq, decide_eq_false h42, hm.1, hm.2, sumE, sS]
      · have hplt : decide ((p : Int) < (P.size : Int)) = false := decide_eq_false (by omega)
        refine miss (fun d hd => ?_) ?_
        · have := (List.getElem?_eq_some_iff.1 hd).1; rw [len_bl] at this; omega
        · simp only [l26_0_2, hvlt, hplt, sumE, sS]

theorem m26_eq (P V : ByteArray) (hP : P.size ≤ 4294967295) (hV : V.size ≤ 4294967295) : m26 ((P, V, ()), ()) = some ((likeS P V, ()), ()) := by
  obtain ⟨d, h1, h2⟩ := like_loop P V hP hV _ 0 0 none (((0 : Int), (0 : Int), (-1), (0 : Int), V, P, ()), ()) ⟨LInv.start _ _, -1, 0, rfl, rfl⟩ (Nat.le_refl _)
  unfold m26
  refine bind_of _ h1 ?_
  rcases h2 with ⟨rfl, h⟩ | ⟨q, hq, rfl, h⟩
  · rw [h]; rfl
  · have ex : bl (P.extract q P.size) = (bl P).drop q := by
      rw [extract_bl, List.take_of_length_le]
      rw [List.length_drop, len_bl]; exact Nat.le_refl _
    have hsz : (P.extract q P.size).size ≤ P.size := by rw [← len_bl, ex, List.length_drop, len_bl]; omega
    obtain ⟨t, ht, he⟩ := m91_eq (P.extract q P.size) (by omega)
    simp only [sumE, sS, decide_eq_true (show (0 : Int) ≤ (q : Int) by omega), Int.toNat_natCast, decide_eq_true (show q ≤ P.size ∧ P.size ≤ P.size by omega), ht, toList_bl, he, ex, h]

/-! ### The reference's patterns -/
def cell (c : UInt8) (V : List UInt8) (r r' : List Bool) (k : Nat) : Bool :=
  if c = 42 then (r[k]?.getD false || (decide (0 < k) && r'[k - 1]?.getD false)) else (decide (0 < k) && r[k - 1]?.getD false && (c == 63 || some c == V[k - 1]?))

theorem row_loop (P V : ByteArray) (c : UInt8) (i : Nat) (hc : (bl P)[i]? = some c) (hi : i < P.size) (hV : V.size ≤ 4294967295) (hP : P.size ≤ 4294967295) (r : List Bool) (hr : r.length = V.size + 1) :
    ∀ (n k : Nat) (N : List Bool), k + n = V.size + 1 → N.length = V.size + 1 → (∀ j, j < k → N[j]?.getD false = cell c (bl V) r N j) → (∀ j, k ≤ j → N[j]?.getD false = false) →
      ∃ N', loopT l27_0_8 (((k : Int), V, (i : Int), P, ()), (N, r, ())) = some ((V, P, (i : Int), ()), (N', ())) ∧ N'.length = V.size + 1 ∧ ∀ j, j ≤ V.size → N'[j]?.getD false = cell c (bl V) r N' j := by
  intro n
  induction n with
  | zero =>
    intro k N h hN h1 _
    refine ⟨N, loopT_inr ?_, hN, fun j hj => h1 j (by omega)⟩
    have : decide ((k : Int) ≤ (V.size : Int)) = false := decide_eq_false (by omega)
    simp only [l27_0_8, this, sumE, sS]
  | succ n ih =>
    intro k N h hN h1 h2
    have hle : decide ((k : Int) ≤ (V.size : Int)) = true := decide_eq_true (by omega)
    have hib : decide ((0 : Int) ≤ (i : Int) ∧ (i : Int) < (P.size : Int)) = true := decide_eq_true (by omega)
    have hkr : decide ((0 : Int) ≤ (k : Int) ∧ (k : Int) < (r.length : Int)) = true := decide_eq_true (by omega)
    have hkN : decide ((0 : Int) ≤ (k : Int) ∧ (k : Int) < (N.length : Int)) = true := decide_eq_true (by omega)
    have hkN2 : decide (k < N.length) = true := decide_eq_true (by omega)
    have w1 : w64 ((k : Int) + 1) = ((k + 1 : Nat) : Int) := w64_nat (by omega)
    have bc := byte_at hc
    have bn := byte_n hc
    -- the next state
    have next : ∀ b : Bool, b = cell c (bl V) r N k → ∃ N', loopT l27_0_8 ((((k + 1 : Nat) : Int), V, (i : Int), P, ()), (N.set k b, r, ())) = some ((V, P, (i : Int), ()), (N', ())) ∧ N'.length = V.size + 1 ∧ ∀ j, j ≤ V.size → N'[j]?.getD false = cell c (bl V) r N' j := by
      intro b hb
      have same : ∀ j, j < k → (N.set k b)[j]? = N[j]? := fun j hj => by rw [List.getElem?_set_ne (by omega)]
      refine ih (k + 1) (N.set k b) (by omega) (by simpa using hN) (fun j hj => ?_) (fun j hj => by rw [List.getElem?_set_ne (by omega)]; exact h2 j (by omega))
      rcases Nat.lt_or_ge j k with hlt | hge
      · rw [same j hlt, h1 j hlt]
        unfold cell
        cases j with
        | zero => rfl
        | succ j => simp only [Nat.add_sub_cancel, same j (by omega)]
      · have : j = k := by omega
        subst this
        rw [List.getElem?_set_self (by omega), Option.getD_some]
        refine hb.trans ?_
        unfold cell
        cases j with
        | zero => rfl
        | succ j => simp only [Nat.add_sub_cancel, same j (by omega)]
    obtain ⟨rk, hrk⟩ := getD_some (l := r) (i := k) (by omega)
    by_cases h42 : c = 42
    · have hcell : cell c (bl V) r N k = (rk || (decide (0 < k) && N[k - 1]?.getD false)) := by unfold cell; rw [if_pos h42, hrk]; rfl
      cases rk with
      | true =>
        obtain ⟨N', e1, e2⟩ := next true (by rw [hcell]; rfl)
        refine ⟨N', ?_, e2⟩
        rw [← e1]
        refine loopT_inl ?_
        simp only [l27_0_8, hle, hib, bc, bn, u8_42, decide_eq_true h42, hkr, Int.toNat_natCast, hrk, hkN, hkN2, sumE, sS, w1]
      | false =>
        rw [Bool.false_or] at hcell
        by_cases hk0 : k = 0
        · subst hk0
          obtain ⟨N', e1, e2⟩ := next false (by rw [hcell]; rfl)
          refine ⟨N', ?_, e2⟩
          rw [← e1]
          refine loopT_inl ?_
          have hg : decide (((0 : Nat) : Int) > 0) = false := rfl
          simp only [l27_0_8, hle, hib, bc, bn, u8_42, decide_eq_true h42, hkr, Int.toNat_natCast, hrk, hkN, hkN2, hg, sumE, sS, w1]
        · obtain ⟨b, hb⟩ := getD_some (l := N) (i := k - 1) (by omega)
          have hg : decide ((k : Int) > 0) = true := decide_eq_true (by omega)
          have hw : w64 ((k : Int) - 1) = ((k - 1 : Nat) : Int) := by rw [w64_id (by omega) (by omega)]; omega
          have hk1 : decide ((0 : Int) ≤ ((k - 1 : Nat) : Int) ∧ ((k - 1 : Nat) : Int) < (N.length : Int)) = true := decide_eq_true (by omega)
          rw [decide_eq_true (show 0 < k by omega), hb, Option.getD_some, Bool.true_and] at hcell
          obtain ⟨N', e1, e2⟩ := next b hcell.symm
          refine ⟨N', ?_, e2⟩
          rw [← e1]
          refine loopT_inl ?_
          simp only [l27_0_8, hle, hib, bc, bn, u8_42, decide_eq_true h42, hkr, Int.toNat_natCast, hrk, hkN, hkN2, hg, hw, hk1, hb, sumE, sS, w1]
    · have hcell : cell c (bl V) r N k = (decide (0 < k) && r[k - 1]?.getD false && (c == 63 || some c == (bl V)[k - 1]?)) := by unfold cell; rw [if_neg h42]
      by_cases hk0 : k = 0
      · subst hk0
        have hset : N.set 0 false = N := by
          refine List.ext_getElem? fun j => ?_
          cases j with
          | zero =>
            rw [List.getElem?_set_self (by omega)]
            obtain ⟨b, hb⟩ := getD_some (l := N) (i := 0) (by omega)
            have := h2 0 (Nat.le_refl _)
            rw [hb] at this ⊢
            exact congrArg some this.symm
          | succ j => rw [List.getElem?_set_ne (by omega)]
        obtain ⟨N', e1, e2⟩ := next false (by rw [hcell]; rfl)
        rw [hset] at e1
        refine ⟨N', ?_, e2⟩
        rw [← e1]
        refine loopT_inl ?_
        have hg : decide (((0 : Nat) : Int) > 0) = false := rfl
        simp only [l27_0_8, hle, hib, bc, bn, u8_42, decide_eq_false h42, hg, sumE, sS, w1]
      · obtain ⟨b, hb⟩ := getD_some (l := r) (i := k - 1) (by omega)
        obtain ⟨x, hx⟩ := getD_some (l := bl V) (i := k - 1) (by rw [len_bl]; omega)
        have hg : decide ((k : Int) > 0) = true := decide_eq_true (by omega)
        have hw : w64 ((k : Int) - 1) = ((k - 1 : Nat) : Int) := by rw [w64_id (by omega) (by omega)]; omega
        have hk1 : decide ((0 : Int) ≤ ((k - 1 : Nat) : Int) ∧ ((k - 1 : Nat) : Int) < (r.length : Int)) = true := decide_eq_true (by omega)
        have hk2 : decide ((0 : Int) ≤ ((k - 1 : Nat) : Int) ∧ ((k - 1 : Nat) : Int) < (V.size : Int)) = true := decide_eq_true (by omega)
        rw [decide_eq_true (show 0 < k by omega), hb, Option.getD_some, Bool.true_and, hx] at hcell
        have hso : (some c == some x) = (c == x) := rfl
        rw [hso] at hcell
        cases b with
        | false =>
          obtain ⟨N', e1, e2⟩ := next false (by rw [hcell]; rfl)
          refine ⟨N', ?_, e2⟩
          rw [← e1]
          refine loopT_inl ?_
          simp only [l27_0_8, hle, hib, bc, bn, u8_42, decide_eq_false h42, hg, hw, hk1, Int.toNat_natCast, hb, hkN, hkN2, sumE, sS, w1]
        | true =>
          rw [Bool.true_and] at hcell
          cases h63 : (c == 63) with
          | true =>
            obtain ⟨N', e1, e2⟩ := next true (by rw [hcell, h63]; rfl)
            refine ⟨N', ?_, e2⟩
            rw [← e1]
            refine loopT_inl ?_
            simp only [l27_0_8, hle, hib, bc, bn, u8_42, u8_63, h63, decide_eq_false h42, hg, hw, hk1, Int.toNat_natCast, hb, hkN, hkN2, sumE, sS, w1]
          | false =>
            obtain ⟨N', e1, e2⟩ := next (c == x) (by rw [hcell, h63]; rfl)
            refine ⟨N', ?_, e2⟩
            rw [← e1]
            refine loopT_inl ?_
            simp only [l27_0_8, hle, hib, bc, bn, u8_42, u8_63, h63, decide_eq_false h42, hg, hw, hk1, hk2, byte_n hx, byte_at hx, u8_beq, Int.toNat_natCast, hb, hkN, hkN2, sumE, sS, w1]


theorem ref_loop (P V : ByteArray) (hP : P.size ≤ 4294967295) (hV : V.size ≤ 4294967294) : ∀ (n i : Nat) (r : List Bool), i + n = P.size → RInv (bl P) (bl V) i r →
    ∃ r', loopT l27_0_4 ((V, (i : Int), P, ()), (r, ())) = some ((V, ()), (r', ())) ∧ RInv (bl P) (bl V) P.size r' := by
  intro n
  induction n with
  | zero =>
    intro i r h hr
    refine ⟨r, loopT_inr ?_, by rw [show P.size = i by omega]; exact hr⟩
    have : decide ((i : Int) < (P.size : Int)) = false := decide_eq_false (by omega)
    simp only [l27_0_4, this, sumE, sS]
  | succ n ih =>
    intro i r h hr
    obtain ⟨c, hc, _⟩ := drop_at (l := bl P) (i := i) (by rw [len_bl]; omega)
    have hlt : decide ((i : Int) < (P.size : Int)) = true := decide_eq_true (by omega)
    have wv : w64 ((V.size : Int) + 1) = ((V.size + 1 : Nat) : Int) := w64_nat (by omega)
    have hb : decide ((0 : Int) ≤ ((V.size + 1 : Nat) : Int) ∧ ((V.size + 1 : Nat) : Int) ≤ ((V.size + 1 : Nat) : Int) ∧ ((V.size + 1 : Nat) : Int) ≤ 4294967296) = true := decide_eq_true (by omega)
    have hrl : r.length = V.size + 1 := by rw [hr.1, len_bl]
    obtain ⟨N', e1, e2, e3⟩ := row_loop P V c i hc (by omega) (by omega) hP r hrl (V.size + 1) 0 (List.replicate (V.size + 1) false) (by omega) (by simp) (fun j hj => by omega) (fun j _ => by
      rw [List.getElem?_replicate]
      split <;> rfl)
    obtain ⟨r', e4, e5⟩ := ih (i + 1) N' (by omega) (RInv.step hr hc ⟨by rw [e2, len_bl], fun k hk => e3 k (by rw [len_bl] at hk; exact hk)⟩)
    refine ⟨r', ?_, e5⟩
    rw [← e4]
    refine loopT_inl ?_
    simp only [l27_0_4, hlt, wv, hb, Int.toNat_natCast, sumE, sS]
    refine bind_of _ e1 ?_
    simp only [w64_nat (show i < 9223372036854775807 by omega)]

theorem m27_eq (P V : ByteArray) (hP : P.size ≤ 4294967295) (hV : V.size ≤ 4294967294) : m27 ((P, V, ()), ()) = some ((likeS P V, ()), ()) := by
  have wv : w64 ((V.size : Int) + 1) = ((V.size + 1 : Nat) : Int) := w64_nat (by omega)
  have hb : decide ((0 : Int) ≤ ((V.size + 1 : Nat) : Int) ∧ ((V.size + 1 : Nat) : Int) ≤ ((V.size + 1 : Nat) : Int) ∧ ((V.size + 1 : Nat) : Int) ≤ 4294967296) = true := decide_eq_true (by omega)
  have hl : (List.replicate (V.size + 1) false).length = V.size + 1 := by simp
  have h0 : decide ((0 : Int) ≤ 0 ∧ (0 : Int) < ((V.size + 1 : Nat) : Int)) = true := decide_eq_true (by omega)
  have h1 : decide (0 < V.size + 1) = true := decide_eq_true (by omega)
  have hst : (List.replicate (V.size + 1) false).set 0 true = true :: List.replicate (bl V).length false := by rw [List.replicate_succ, List.set_cons_zero, len_bl]
  obtain ⟨r', e1, e2⟩ := ref_loop P V hP hV P.size 0 _ (by omega) (RInv.start (bl P) (bl V))
  have hd := RInv.done (P := bl P) (V := bl V) (r := r') (by rw [len_bl]; exact e2)
  rw [len_bl] at hd
  have hrl : r'.length = V.size + 1 := by rw [e2.1, len_bl]
  obtain ⟨b, hb2⟩ := getD_some (l := r') (i := V.size) (by omega)
  rw [hb2, Option.getD_some] at hd
  subst hd
  have h3 : decide ((0 : Int) ≤ (V.size : Int) ∧ (V.size : Int) < (r'.length : Int)) = true := decide_eq_true (by omega)
  unfold m27
  simp only [wv, hb, Int.toNat_natCast, hl, h0, h1, hst, sumE, sS]
  refine bind_of _ e1 ?_
  simp only [h3, hb2, Int.toNat_natCast, sumE, sS]
  rfl

/-! ### Match, All -/
def matchM (m : MT) (l : List LT) : Bool :=
  let v := getL l m.1
  if m.2.1 = 0 then decide (v = m.2.2.1) else if m.2.1 = 1 then !decide (v = m.2.2.1) else if m.2.1 = 2 then likeS m.2.2.1 v else if m.2.1 = 3 then !likeS m.2.2.1 v else false

def allM (ms : List MT) (l : List LT) : Bool := ms.all fun m => matchM m l

/-- No value is long. -/
def LSz (l : List LT) : Prop := l.length ≤ 9223372036854775807 ∧ ∀ x ∈ l, x.2.1.size ≤ 4294967294

def PSz (m : MT) : Prop := m.2.2.1.size ≤ 4294967295

theorem findL_mem {k v : ByteArray} : ∀ {l : List LT}, findL k l = some v → ∃ x ∈ l, x.2.1 = v
  | [], h => by cases h
  | x :: l, h => by
    simp only [findL] at h
    split at h
    · cases h; exact ⟨x, by simp, rfl⟩
    · obtain ⟨y, h1, h2⟩ := findL_mem h; exact ⟨y, by simp [h1], h2⟩

theorem get_size {l : List LT} (h : LSz l) (k : ByteArray) : (getL l k).size ≤ 4294967294 := by
  unfold getL
  cases hf : findL k l with
  | none => exact Nat.zero_le _
  | some v =>
    obtain ⟨x, h1, rfl⟩ := findL_mem hf
    exact h.2 x h1

theorem m24_eq (m : MT) (l : List LT) (hm : PSz m) (hl : LSz l) : m24 ((m, l, ()), ()) = some ((matchM m l, ()), ()) := by
  have hg := get_size hl m.1
  unfold m24 matchM
  simp only [m38_eq l m.1 hl.1, m26_eq m.2.2.1 _ hm (show (getL l m.1).size ≤ 4294967295 by omega), sumE, sS, beq_decide, toList_bl, beq_bl]
  by_cases h0 : m.2.1 = 0
  · simp only [decide_eq_true h0, if_pos h0, sumE, sS]
  · by_cases h1 : m.2.1 = 1
    · simp only [decide_eq_false h0, decide_eq_true h1, if_neg h0, if_pos h1, sumE, sS]
    · by_cases h2 : m.2.1 = 2
      · simp only [decide_eq_false h0, decide_eq_false h1, decide_eq_true h2, if_neg h0, if_neg h1, if_pos h2, sumE, sS]
      · by_cases h3 : m.2.1 = 3
        · simp only [decide_eq_false h0, decide_eq_false h1, decide_eq_false h2, decide_eq_true h3, if_neg h0, if_neg h1, if_neg h2, if_pos h3, sumE, sS]
        · simp only [decide_eq_false h0, decide_eq_false h1, decide_eq_false h2, decide_eq_false h3, if_neg h0, if_neg h1, if_neg h2, if_neg h3, sumE, sS]

theorem m25_eq (m : MT) (l : List LT) (hm : PSz m) (hl : LSz l) : m25 ((m, l, ()), ()) = some ((matchM m l, ()), ()) := by
  have hg := get_size hl m.1
  unfold m25 matchM
  simp only [m44_eq l m.1 hl.1, m27_eq m.2.2.1 _ hm hg, sumE, sS, beq_decide, toList_bl, beq_bl]
  by_cases h0 : m.2.1 = 0
  · simp only [decide_eq_true h0, if_pos h0, sumE, sS]
  · by_cases h1 : m.2.1 = 1
    · simp only [decide_eq_false h0, decide_eq_true h1, if_neg h0, if_pos h1, sumE, sS]
    · by_cases h2 : m.2.1 = 2
      · simp only [decide_eq_false h0, decide_eq_false h1, decide_eq_true h2, if_neg h0, if_neg h1, if_pos h2, sumE, sS]
      · by_cases h3 : m.2.1 = 3
        · simp only [decide_eq_false h0, decide_eq_false h1, decide_eq_false h2, decide_eq_true h3, if_neg h0, if_neg h1, if_neg h2, if_pos h3, sumE, sS]
        · simp only [decide_eq_false h0, decide_eq_false h1, decide_eq_false h2, decide_eq_false h3, if_neg h0, if_neg h1, if_neg h2, if_neg h3, sumE, sS]

def PSs (ms : List MT) : Prop := ms.length ≤ 9223372036854775807 ∧ ∀ m ∈ ms, PSz m

theorem loop30 (ms : List MT) (l : List LT) (hm : PSs ms) (hl : LSz l) : ∀ (k i : Nat), i + k = ms.length →
    ∃ j : Nat, loopT l30_2_2 (((i : Int), ms, (ms.length : Int), ()), ((l, ()), ())) = some (if allM (ms.drop i) l then .inr ((), ((l, ()), ())) else .inl (((j : Int), ()), ((l, ()), ()))) := by
  intro k
  induction k with
  | zero =>
    intro i h
    refine ⟨0, ?_⟩
    rw [List.drop_eq_nil_of_le (by omega)]
    refine loopT_inr ?_
    have : decide ((i : Int) < (ms.length : Int)) = false := decide_eq_false (by omega)
    simp only [l30_2_2, this, sumE, sS, allM, List.all_nil, if_true]
  | succ k ih =>
    intro i h
    obtain ⟨e, he, hd⟩ := drop_at (l := ms) (i := i) (by omega)
    have hlt : decide ((i : Int) < (ms.length : Int)) = true := decide_eq_true (by omega)
    have hle := hm.1
    have hme := m24_eq e l (hm.2 e (List.mem_of_getElem? he)) hl
    rw [hd]
    unfold allM
    rw [List.all_cons]
    cases hq : matchM e l
    · refine ⟨i, loopT_inr ?_⟩
      simp only [l30_2_2, rowAt_G, rowG_nat he, hlt, hme, hq, sumE, sS]
      rfl
    · obtain ⟨j, hj⟩ := ih (i + 1) (by omega)
      refine ⟨j, ?_⟩
      rw [Bool.true_and]
      unfold allM at hj
      rw [← hj]
      refine loopT_inl ?_
      simp only [l30_2_2, rowAt_G, rowG_nat he, hlt, hme, hq, sumE, sS, w64_nat (show i < 9223372036854775807 by omega)]

theorem m30_eq (ms : List MT) (l : List LT) (hm : PSs ms) (hl : LSz l) : m30 ((ms, l, ()), ()) = some ((allM ms l, ()), ()) := by
  obtain ⟨j, h⟩ := loop30 ms l hm hl ms.length 0 (by omega)
  rw [List.drop_zero] at h
  unfold m30
  rw [show loopT l30_2_2 ((0, ms, (ms.length : Int), ()), ((l, ()), ())) = _ from h]
  cases allM ms l
  · simp only [sumE, sS, Bool.false_eq_true, if_false, decide_eq_true (show (j : Int) ≥ 0 by omega)]
  · simp only [sumE, sS, if_true]

theorem loop31 (ms : List MT) (l : List LT) (hm : PSs ms) (hl : LSz l) : ∀ (k i : Nat), i + k = ms.length →
    loopT l31_0_2 (((i : Int), l, ms, ()), ()) = some (if allM (ms.drop i) l then .inr ((), ()) else .inl ((false, ()), ())) := by
  intro k
  induction k with
  | zero =>
    intro i h
    rw [List.drop_eq_nil_of_le (by omega)]
    refine loopT_inr ?_
    have : decide ((i : Int) < (ms.length : Int)) = false := decide_eq_false (by omega)
    simp only [l31_0_2, this, sumE, sS, allM, List.all_nil, if_true]
  | succ k ih =>
    intro i h
    obtain ⟨e, he, hd⟩ := drop_at (l := ms) (i := i) (by omega)
    have hlt : decide ((i : Int) < (ms.length : Int)) = true := decide_eq_true (by omega)
    have hle := hm.1
    have hme := m25_eq e l (hm.2 e (List.mem_of_getElem? he)) hl
    rw [hd]
    unfold allM
    rw [List.all_cons]
    cases hq : matchM e l
    · refine loopT_inr ?_
      simp only [l31_0_2, rowAt_G, rowG_nat he, hlt, hme, hq, sumE, sS]
      rfl
    · rw [Bool.true_and]
      have hj := ih (i + 1) (by omega)
      unfold allM at hj
      rw [← hj]
      refine loopT_inl ?_
      simp only [l31_0_2, rowAt_G, rowG_nat he, hlt, hme, hq, sumE, sS, w64_nat (show i < 9223372036854775807 by omega)]

theorem m31_eq (ms : List MT) (l : List LT) (hm : PSs ms) (hl : LSz l) : m31 ((ms, l, ()), ()) = some ((allM ms l, ()), ()) := by
  have h := loop31 ms l hm hl ms.length 0 (by omega)
  rw [List.drop_zero] at h
  unfold m31
  refine bind_of _ h ?_
  cases allM ms l <;> rfl

end Go.Proofs.YtcblbcpnfidndaaDoor

namespace Go.Proofs.YtcblbcpnfidndaaDoor
open Go Go.Abs Go.Lab
theorem sane20 : m18 ((), ()) = some ((true, ()), ()) := by kernel_rfl

end Go.Proofs.YtcblbcpnfidndaaDoor

namespace Go.Proofs.YtcblbcpnfidndaaDoor
open Go Go.Abs Go.Lab
abbrev Dice := List Int × Int × Unit

def DOK (d : Dice) : Prop := 0 ≤ d.2.1 ∧ d.2.1 ≤ d.1.length ∧ d.1.length ≤ 500

theorem dok0 {l : List Int} (h : l.length ≤ 500) : DOK (l, 0, ()) := ⟨Int.le_refl _, Int.natCast_nonneg _, h⟩

theorem next_spec (n : Int) (d : Dice) (hd : DOK d) (hn : n ≤ 9223372036854775807) :
    ∃ (r : Int) (d' : Dice), m39 ((n, ()), ((d, ()), ())) = some ((r, ()), ((d', ()), ())) ∧ DOK d' ∧ (1 ≤ n → 0 ≤ r ∧ r < n) ∧ (n < 1 → r = 0) := by
  obtain ⟨l, at_, u⟩ := d
  obtain ⟨h1, h2, h3⟩ := hd
  simp only at h1 h2 h3
  unfold m39
  simp only [rowAt_G]
  by_cases c1 : at_ ≥ (l.length : Int)
  · refine ⟨0, (l, at_, ()), ?_, ⟨h1, h2, h3⟩, fun h => ⟨by omega, by omega⟩, fun _ => rfl⟩
    simp only [decide_eq_true c1, sumE, sS]
  · by_cases c2 : n < 1
    · refine ⟨0, (l, at_, ()), ?_, ⟨h1, h2, h3⟩, fun h => ⟨by omega, by omega⟩, fun _ => rfl⟩
      simp only [decide_eq_false c1, decide_eq_true c2, sumE, sS]
    · have hat : w64 (at_ + 1) = at_ + 1 := w64_id (by omega) (by omega)
      have hne : n ≠ 0 := by omega
      obtain ⟨e, he⟩ := getD_some (l := l) (i := at_.toNat) (by omega)
      have hb := Int.tmod_lt_of_pos e (show (0 : Int) < n by omega)
      have hb2 : -n < e.tmod n := by
        have := Int.lt_tmod_of_pos e (show (0 : Int) < n by omega)
        omega
      by_cases c3 : e.tmod n < 0
      · refine ⟨e.tmod n + n, (l, at_ + 1, ()), ?_, ⟨by simp only; omega, by simp only; omega, h3⟩, fun h => ⟨by omega, by omega⟩, fun h => by omega⟩
        simp only [decide_eq_false c1, decide_eq_false c2, sumE, sS, rowG_int h1 he, decide_eq_true hne, decide_eq_true c3, hat, w64_id (x := e.tmod n + n) (by omega) (by omega)]
      · refine ⟨e.tmod n, (l, at_ + 1, ()), ?_, ⟨by simp only; omega, by simp only; omega, h3⟩, fun h => ⟨by omega, by omega⟩, fun h => by omega⟩
        simp only [decide_eq_false c1, decide_eq_false c2, sumE, sS, rowG_int h1 he, decide_eq_true hne, decide_eq_false c3, hat]

/-- The element of a row that is typed out. -/
theorem at_list {A B : Type} (l : List A) {n : Int} (h0 : 0 ≤ n) (h1 : n < l.length) (F : A → Option B) : ∃ e, e ∈ l ∧ (bif decide ((0 : Int) ≤ n ∧ (n : Int) < l.length) then (l[n.toNat]?).bind F else none) = F e := by
  obtain ⟨e, he⟩ := getD_some (l := l) (i := n.toNat) (by omega)
  exact ⟨e, List.mem_of_getElem? he, by rw [decide_eq_true (And.intro h0 h1), he]; rfl⟩

/-- A matcher that is right, and short. -/
def GoodM (m : MT) : Prop := rightM m = true ∧ m.1.size ≤ 64 ∧ m.2.2.1.size ≤ 64 ∧ 0 ≤ m.2.1 ∧ m.2.1 ≤ 3

theorem GoodM.p {m : MT} (h : GoodM m) : PSz m := by have := h.2.2.1; unfold PSz; omega

theorem GoodM.z {m : MT} (h : GoodM m) : MSz m := by have := h.2.1; have := h.2.2.1; unfold MSz; omega

theorem keys5 : ∀ k ∈ [(bs [97, 112, 112]), (bs [104, 111, 115, 116]), (bs [115, 101, 118]), (bs [116, 101, 97, 109]), (bs [122, 111, 110, 101])], keyS k = true ∧ k.size ≤ 64 := by decide +kernel

theorem vals8 : ∀ v ∈ [(bs [97]), (bs [98]), ByteArray.empty, (bs [42]), (bs [99, 114, 105, 116]), (bs [63]), (bs [119, 101, 98, 45, 42]), (bs [97, 34, 98, 92])], valS v = true ∧ v.size ≤ 64 := by decide +kernel

theorem matcher_spec (d : Dice) (hd : DOK d) : ∃ (m : MT) (d' : Dice), m86 ((), ((d, ()), ())) = some ((), ((d', ()), ((m, ()), ()))) ∧ DOK d' ∧ GoodM m := by
  obtain ⟨a, d1, e1, hd1, b1, _⟩ := next_spec 5 d hd (by omega)
  have b1 := b1 (by omega)
  obtain ⟨o, d2, e2, hd2, b2, _⟩ := next_spec 4 d1 hd1 (by omega)
  have b2 := b2 (by omega)
  obtain ⟨c, d3, e3, hd3, b3, _⟩ := next_spec 8 d2 hd2 (by omega)
  have b3 := b3 (by omega)
  unfold m86
  simp only [e1, Option.bind_some]
  obtain ⟨k, hk, ek⟩ := at_list [(bs [97, 112, 112]), (bs [104, 111, 115, 116]), (bs [115, 101, 118]), (bs [116, 101, 97, 109]), (bs [122, 111, 110, 101])] b1.1 b1.2 (fun e11 => (m39 ((4, ()), ((d1, ()), ()))).bind fun u12 =>
    (m39 ((8, ()), ((u12.2.1.1, ()), ()))).bind fun u13 =>
    bif (decide ((0 : Int) ≤ u13.1.1 ∧ (u13.1.1 : Int) < [(bs [97]), (bs [98]), ByteArray.empty, (bs [42]), (bs [99, 114, 105, 116]), (bs [63]), (bs [119, 101, 98, 45, 42]), (bs [97, 34, 98, 92])].length)) then
    ([(bs [97]), (bs [98]), ByteArray.empty, (bs [42]), (bs [99, 114, 105, 116]), (bs [63]), (bs [119, 101, 98, 45, 42]), (bs [97, 34, 98, 92])][u13.1.1.toNat]?).bind fun e14 =>
    some (((), ((u13.2.1.1, ()), (((e11, (u12.1.1, (e14, ()))), ()), ()))) : (Unit) × (((List Int × Int × Unit) × Unit) × (MT × Unit) × Unit))
    else none)
  rw [ek]
  simp only [e2, e3, Option.bind_some]
  obtain ⟨v, hv, ev⟩ := at_list [(bs [97]), (bs [98]), ByteArray.empty, (bs [42]), (bs [99, 114, 105, 116]), (bs [63]), (bs [119, 101, 98, 45, 42]), (bs [97, 34, 98, 92])] b3.1 b3.2 (fun e14 => some (((), ((d3, ()), (((k, (o, (e14, ()))), ()), ()))) : (Unit) × (((List Int × Int × Unit) × Unit) × (MT × Unit) × Unit)))
  rw [ev]
  have h1 := keys5 k hk
  have h2 := vals8 v hv
  refine ⟨(k, o, v, ()), d3, rfl, hd3, ?_, h1.2, h2.2, b2.1, by simp only; omega⟩
  unfold rightM
  simp only [h1.1, h2.1, decide_eq_true b2.1, decide_eq_true (show o ≤ 3 by omega), Bool.and_self]

theorem matchers_loop : ∀ (n : Nat) (i : Int) (d : Dice) (l : List MT), DOK d → i = n → l.length + n ≤ 1000 → (∀ m ∈ l, GoodM m) →
    ∃ (l' : List MT) (d' : Dice), loopT l21_0_3 ((i, ()), ((d, ()), (l, ()))) = some ((), ((d', ()), (l', ()))) ∧ DOK d' ∧ l'.length = l.length + n ∧ ∀ m ∈ l', GoodM m := by
  intro n
  induction n with
  | zero =>
    intro i d l hd hi hl hg
    refine ⟨l, d, loopT_inr ?_, hd, rfl, hg⟩
    have : decide (i > 0) = false := decide_eq_false (by omega)
    simp only [l21_0_3, this, sumE, sS]
  | succ n ih =>
    intro i d l hd hi hl hg
    obtain ⟨m, d1, e1, hd1, hm⟩ := matcher_spec d hd
    obtain ⟨l', d', e2, hd', hl', hg'⟩ := ih (i - 1) d1 (l ++ [m]) hd1 (by omega) (by simp; omega) (fun x hx => by
      rcases List.mem_append.1 hx with h | h
      · exact hg x h
      · simp at h; subst h; exact hm)
    refine ⟨l', d', ?_, hd', by rw [hl']; simp; omega, hg'⟩
    rw [← e2]
    refine loopT_inl ?_
    have h0 : decide (i > 0) = true := decide_eq_true (by omega)
    have h1 : decide (l.length + ([m] : List MT).length ≤ 4294967296) = true := decide_eq_true (by simp; omega)
    simp only [l21_0_3, h0, e1, sumE, sS, h1, w64_id (x := i - 1) (by omega) (by omega)]

theorem matchers_spec (n : Int) (d : Dice) (hd : DOK d) (h0 : 0 ≤ n) (hn : n ≤ 900) : ∃ (l : List MT) (d' : Dice), m21 ((n, ()), ((d, ()), ())) = some ((), ((d', ()), (l, ()))) ∧ DOK d' ∧ (l.length : Int) ≤ n ∧ ∀ m ∈ l, GoodM m := by
  obtain ⟨a, d1, e1, hd1, b1, _⟩ := next_spec (w64 (n + 1)) d hd (by rw [w64_id (by omega) (by omega)]; omega)
  rw [w64_id (x := n + 1) (by omega) (by omega)] at e1 b1
  have b1 := b1 (by omega)
  obtain ⟨l', d', e2, hd', hl', hg'⟩ := matchers_loop a.toNat a d1 [] hd1 (by omega) (by simp; omega) (fun m hm => by cases hm)
  refine ⟨l', d', ?_, hd', by rw [hl']; simp; omega, hg'⟩
  unfold m21
  simp only [w64_id (x := n + 1) (by omega) (by omega), e1, Option.bind_some, e2]

/-- Labels that are short. -/
def GoodL (l : List LT) : Prop := l.length ≤ 4 ∧ ∀ x ∈ l, x.1.size ≤ 64 ∧ x.2.1.size ≤ 64

theorem GoodL.z {l : List LT} (h : GoodL l) : LSz l := ⟨by have := h.1; omega, fun x hx => by have := (h.2 x hx).2; omega⟩

abbrev keys4 : List ByteArray := [(bs [97, 112, 112]), (bs [104, 111, 115, 116]), (bs [115, 101, 118]), (bs [116, 101, 97, 109])]

abbrev vals6 : List ByteArray := [ByteArray.empty, (bs [97]), (bs [98]), (bs [99, 114, 105, 116]), (bs [97, 34, 98, 92]), (bs [119, 101, 98, 45, 49])]

abbrev arr4 : ByteArray × ByteArray × ByteArray × ByteArray × Unit := ((bs [97, 112, 112]), ((bs [104, 111, 115, 116]), ((bs [115, 101, 118]), ((bs [116, 101, 97, 109]), ()))))

theorem vals6_ok : ∀ v ∈ vals6, valS v = true ∧ v.size ≤ 64 := by decide +kernel

theorem keys4_ok : ∀ k ∈ keys4, keyS k = true ∧ k.size ≤ 64 := by decide +kernel

/-- What the dice's labels are made of: keys in order, values of a few. -/
def FromKeys (ks : List ByteArray) (l : List LT) : Prop := (l.map (·.1)).Sublist ks ∧ ∀ x ∈ l, x.2.1 ∈ vals6 ∧ x.2.1 ≠ ByteArray.empty

theorem labels_loop : ∀ (n i : Nat) (d : Dice) (l : List LT), i + n = 4 → DOK d → FromKeys (keys4.take i) l →
    ∃ (l' : List LT) (d' : Dice), loopT l20_0_3 (((i : Int), arr4, ()), ((d, ()), (l, ()))) = some ((), ((d', ()), (l', ()))) ∧ DOK d' ∧ FromKeys keys4 l' := by
  intro n
  induction n with
  | zero =>
    intro i d l hi hd hl
    refine ⟨l, d, loopT_inr ?_, hd, by rw [show i = 4 by omega] at hl; exact hl⟩
    have : decide ((i : Int) < 4) = false := decide_eq_false (by omega)
    simp only [l20_0_3, this, sumE, sS]
  | succ n ih =>
    intro i d l hi hd hl
    obtain ⟨k, hk⟩ := getD_some (l := keys4) (i := i) (by show i < 4; omega)
    obtain ⟨a, d1, e1, hd1, b1, _⟩ := next_spec 6 d hd (by omega)
    have b1 := b1 (by omega)
    obtain ⟨v, hv⟩ := getD_some (l := vals6) (i := a.toNat) (by show a.toNat < 6; omega)
    have h0 : decide ((i : Int) < 4) = true := decide_eq_true (by omega)
    have hb : decide ((0 : Int) ≤ a ∧ (a : Int) < vals6.length) = true := decide_eq_true ⟨b1.1, b1.2⟩
    have htk : keys4.take (i + 1) = keys4.take i ++ [k] := by rw [List.take_add_one, hk]; rfl
    have hw : w64 ((i : Int) + 1) = ((i + 1 : Nat) : Int) := w64_nat (by omega)
    have hlen : l.length ≤ 4 := by
      have := hl.1.length_le
      rw [List.length_map, List.length_take] at this
      omega
    by_cases he : v = ByteArray.empty
    · obtain ⟨l', d', e2, hd', hl'⟩ := ih (i + 1) d1 l (by omega) hd1 ⟨by rw [htk]; exact hl.1.trans (List.sublist_append_left _ _), hl.2⟩
      refine ⟨l', d', ?_, hd', hl'⟩
      rw [← e2]
      refine loopT_inl ?_
      simp only [l20_0_3, h0, rowAt_G, rowG_nat hk, e1, hb, hv, toList_bl, beq_bl, decide_eq_true he, sumE, sS, hw]
    · obtain ⟨l', d', e2, hd', hl'⟩ := ih (i + 1) d1 (l ++ [(k, v, ())]) (by omega) hd1 ⟨by rw [htk, List.map_append]; exact hl.1.append (List.Sublist.refl _), fun x hx => by
        rcases List.mem_append.1 hx with h | h
        · exact hl.2 x h
        · simp only [List.mem_singleton] at h; subst h; exact ⟨List.mem_of_getElem? hv, he⟩⟩
      refine ⟨l', d', ?_, hd', hl'⟩
      rw [← e2]
      refine loopT_inl ?_
      have h1 : decide (l.length + ([(k, (v, ()))] : List LT).length ≤ 4294967296) = true := decide_eq_true (by simp; omega)
      simp only [l20_0_3, h0, rowAt_G, rowG_nat hk, e1, hb, hv, toList_bl, beq_bl, decide_eq_false he, sumE, sS, h1, hw]

theorem labels_spec (d : Dice) (hd : DOK d) : ∃ (l : List LT) (d' : Dice), m20 ((), ((d, ()), ())) = some ((), ((d', ()), (l, ()))) ∧ DOK d' ∧ FromKeys keys4 l := by
  obtain ⟨l, d', h1, h2, h3⟩ := labels_loop 4 0 d [] (by omega) hd ⟨List.nil_sublist _, fun x hx => by cases hx⟩
  refine ⟨l, d', ?_, h2, h3⟩
  unfold m20
  refine bind_of _ h1 rfl

theorem from_good {l : List LT} (h : FromKeys keys4 l) : GoodL l := by
  refine ⟨by have := h.1.length_le; rw [List.length_map] at this; exact this, fun x hx => ⟨?_, (vals6_ok _ (h.2 x hx).1).2⟩⟩
  exact (keys4_ok _ (h.1.subset (List.mem_map_of_mem hx))).2

theorem light (l : List Int) : m17 ((l, ()), ()) = some ((decide (l.length ≤ 500), ()), ()) := by
  unfold m17
  rw [show decide ((l.length : Int) ≤ 500) = decide (l.length ≤ 500) from decide_eq_decide.2 (by omega)]

theorem roll (l : List Int) : m19 ((l, ()), ()) = some ((), (((l, 0, ()), ()), ())) := rfl

end Go.Proofs.YtcblbcpnfidndaaDoor

namespace Go.Proofs.YtcblbcpnfidndaaDoor
open Go Go.Abs Go.Lab
abbrev RuT : Type := List MT × List MT × List ByteArray × Unit

abbrev big : Nat := 9223372036854775807

/-- The sizes of a rule, of alerts. -/
def RSz (r : RuT) : Prop := PSs r.1 ∧ PSs r.2.1 ∧ r.2.2.1.length ≤ big

/-! ### The dice's rules -/
def GoodR (r : RuT) : Prop := r.1.length ≤ 8 ∧ r.2.1.length ≤ 8 ∧ (∀ m ∈ r.1, GoodM m) ∧ (∀ m ∈ r.2.1, GoodM m) ∧ r.2.2.1.Sublist keys4 ∧ r.1 ≠ [] ∧ r.2.1 ≠ []

theorem GoodR.z {r : RuT} (h : GoodR r) : RSz r := by
  obtain ⟨h1, h2, h3, h4, h5, _⟩ := h
  refine ⟨⟨by omega, fun m hm => (h3 m hm).p⟩, ⟨by omega, fun m hm => (h4 m hm).p⟩, ?_⟩
  have := h5.length_le
  rw [show keys4.length = 4 from rfl] at this
  unfold big; omega

end Go.Proofs.YtcblbcpnfidndaaDoor

namespace Go.Proofs.YtcblbcpnfidndaaDoor
open Go Go.Abs Go.Lab
/-! ### Loops over a row -/
def runL {S E B : Type} (step : Nat → S → E → S ⊕ B) (fin : S → B) : Nat → List E → S → B
  | _, [], s => fin s
  | i, e :: r, s => match step i s e with
    | .inl s' => runL step fin (i + 1) r s'
    | .inr b => b

theorem loop_list {A B S E : Type} {f : A → Option (A ⊕ B)} (l : List E) (st : Nat → S → A) (step : Nat → S → E → S ⊕ B) (fin : S → B) (I : Nat → S → Prop)
    (h1 : ∀ i e s, l[i]? = some e → i < l.length → I i s → f (st i s) = some (match step i s e with | .inl s' => .inl (st (i + 1) s') | .inr b => .inr b))
    (hI : ∀ i e s s', l[i]? = some e → I i s → step i s e = .inl s' → I (i + 1) s')
    (h2 : ∀ s, I l.length s → f (st l.length s) = some (.inr (fin s))) :
    ∀ (k i : Nat) (s : S), i + k = l.length → I i s → loopT f (st i s) = some (runL step fin i (l.drop i) s) := by
  intro k
  induction k with
  | zero =>
    intro i s h hi
    obtain rfl : i = l.length := by omega
    rw [List.drop_length]
    exact loopT_inr (h2 s hi)
  | succ k ih =>
    intro i s h hi
    obtain ⟨e, he, hd⟩ := drop_at (l := l) (i := i) (by omega)
    have q := h1 i e s he (by omega) hi
    rw [hd]
    unfold runL
    cases hs : step i s e with
    | inl s' =>
      rw [hs] at q
      simp only
      rw [← ih (i + 1) s' (by omega) (hI i e s s' he hi hs)]
      exact loopT_inl q
    | inr b =>
      rw [hs] at q
      exact loopT_inr q

theorem loop_list0 {A B S E : Type} {f : A → Option (A ⊕ B)} (l : List E) (st : Nat → S → A) (step : Nat → S → E → S ⊕ B) (fin : S → B)
    (h1 : ∀ i e s, l[i]? = some e → i < l.length → f (st i s) = some (match step i s e with | .inl s' => .inl (st (i + 1) s') | .inr b => .inr b))
    (h2 : ∀ s, f (st l.length s) = some (.inr (fin s))) (s : S) : loopT f (st 0 s) = some (runL step fin 0 l s) := by
  have := loop_list l st step fin (fun _ _ => True) (fun i e s he hl _ => h1 i e s he hl) (fun _ _ _ _ _ _ _ => trivial) (fun s _ => h2 s) l.length 0 s (by omega) trivial
  rwa [List.drop_zero] at this

theorem runL_fold {S E B : Type} (g : S → E → S) (fin : S → B) : ∀ (l : List E) (i : Nat) (s : S), runL (fun _ s e => .inl (g s e)) fin i l s = fin (l.foldl g s) := by
  intro l
  induction l with
  | nil => intro i s; rfl
  | cons e r ih => intro i s; exact ih (i + 1) (g s e)

/-- A loop that goes through the whole row. -/
theorem loop_thru {A B E : Type} {f : A → Option (A ⊕ B)} (l : List E) (st : Nat → A) (fin : B)
    (h1 : ∀ i e, l[i]? = some e → i < l.length → f (st i) = some (.inl (st (i + 1)))) (h2 : f (st l.length) = some (.inr fin)) : loopT f (st 0) = some fin := by
  have := loop_list0 (S := Unit) l (fun i _ => st i) (fun _ _ _ => .inl ()) (fun _ => fin) (fun i e _ he hi => h1 i e he hi) (fun _ => h2) ()
  exact this.trans (congrArg some (runL_fold (fun _ _ => ()) (fun _ => fin) l 0 ()))

/-- A loop of a known number of rounds. -/
theorem loop_ind {A B : Type} {f : A → Option (A ⊕ B)} {Q : B → Prop} (I : Nat → A → Prop) (n : Nat)
    (h1 : ∀ i a, i < n → I i a → ∃ a', f a = some (.inl a') ∧ I (i + 1) a') (h2 : ∀ a, I n a → ∃ b, f a = some (.inr b) ∧ Q b) : ∀ a, I 0 a → ∃ b, loopT f a = some b ∧ Q b := by
  have : ∀ (k i : Nat) a, i + k = n → I i a → ∃ b, loopT f a = some b ∧ Q b := by
    intro k
    induction k with
    | zero =>
      intro i a h hi
      obtain rfl : i = n := by omega
      obtain ⟨b, h, hq⟩ := h2 a hi
      exact ⟨b, loopT_inr h, hq⟩
    | succ k ih =>
      intro i a h hi
      obtain ⟨a', h, hi'⟩ := h1 i a (by omega) hi
      obtain ⟨b, hb, hq⟩ := ih (i + 1) a' (by omega) hi'
      exact ⟨b, by rw [← hb]; exact loopT_inl h, hq⟩
  exact fun a h => this n 0 a (by omega) h

theorem lt_t {i n : Nat} (h : i < n) : decide ((i : Int) < (n : Int)) = true := decide_eq_true (by omega)

theorem lt_f (n : Nat) : decide ((n : Int) < (n : Int)) = false := decide_eq_false (by omega)

/-! ### Silences -/
abbrev SiT : Type := Int × Int × Int × Int × List MT × Unit

def SSz (s : SiT) : Prop := s.2.2.2.2.1.length ≤ 4294967296 ∧ ∀ m ∈ s.2.2.2.2.1, PSz m ∧ MSz m

def SSs (l : List SiT) : Prop := l.length ≤ 1000 ∧ ∀ s ∈ l, SSz s

theorem SSz.p {s : SiT} (h : SSz s) : PSs s.2.2.2.2.1 := ⟨by have := h.1; omega, fun m hm => (h.2 m hm).1⟩

theorem SSs.at {l : List SiT} (h : SSs l) {i : Nat} {e : SiT} (he : l[i]? = some e) : SSz e := h.2 e (List.mem_of_getElem? he)

def chkS (last : Int) (s : SiT) : Int :=
  bif decide (s.1 < 1) || decide (s.1 ≤ last) then 6
  else bif decide (s.2.1 < 0) || (decide (s.2.1 ≥ s.2.2.1) || (decide (s.2.2.1 > 8589934592) || decide (s.2.2.2.1 < 0))) then 1
  else bif (s.2.2.2.2.1.length : Int) == 0 then 7
  else bif decide ((s.2.2.2.2.1.length : Int) > 8) then 5
  else bif s.2.2.2.2.1.all rightM then 0 else 8

def goS : Int → List SiT → Int
  | _, [] => 0
  | last, s :: r => bif chkS last s != 0 then chkS last s else goS s.1 r

/-- What is wrong with silences. -/
def chkE (l : List SiT) : Int := bif decide ((l.length : Int) > 24) then 5 else goS 0 l

end Go.Proofs.YtcblbcpnfidndaaDoor

namespace Go.Proofs.YtcblbcpnfidndaaDoor
open Go Go.Abs Go.Lab
def addE (l : List SiT) (s : SiT) : Int × List SiT := bif chkE (l ++ [s]) != 0 then (chkE (l ++ [s]), []) else (0, l ++ [s])

end Go.Proofs.YtcblbcpnfidndaaDoor

namespace Go.Proofs.YtcblbcpnfidndaaDoor
open Go Go.Abs Go.Lab
/-- A silence of the dice. -/
def GoodS (s : SiT) : Prop := 0 ≤ s.2.1 ∧ s.2.1 < s.2.2.1 ∧ s.2.2.1 ≤ 2000 ∧ 0 ≤ s.2.2.2.1 ∧ s.2.2.2.2.1 ≠ [] ∧ s.2.2.2.2.1.length ≤ 8 ∧ ∀ m ∈ s.2.2.2.2.1, GoodM m

theorem GoodS.z {s : SiT} (h : GoodS s) : SSz s := ⟨by have := h.2.2.2.2.2.1; omega, fun m hm => ⟨(h.2.2.2.2.2.2 m hm).p, (h.2.2.2.2.2.2 m hm).z⟩⟩

/-- Silences of the dice. -/
def GoodSs (l : List SiT) : Prop := l.length ≤ 3 ∧ goS 0 l = 0 ∧ ∀ s ∈ l, s.1 ≤ 2 * (l.length : Int) ∧ GoodS s

theorem GoodSs.z {l : List SiT} (h : GoodSs l) : SSs l := ⟨by have := h.1; omega, fun s hs => (h.2.2 s hs).2.z⟩

end Go.Proofs.YtcblbcpnfidndaaDoor

namespace Go.Proofs.YtcblbcpnfidndaaDoor
open Go Go.Abs Go.Lab
/-! ### A row whose elements are looked at with the one before -/
def okP {E : Type} (bad : Option E → E → Bool) : Option E → List E → Bool
  | _, [] => true
  | p, e :: r => !bad p e && okP bad (some e) r

/-- At most, in the order of bytes. -/
def leB (a b : ByteArray) : Bool := Op.bytesLess a.toList b.toList || a.toList == b.toList

def badK (p : Option ByteArray) (k : ByteArray) : Bool := !keyS k || (match p with | none => false | some q => leB k q)

/-- Keys, ascending. -/
def keysOK (l : List ByteArray) : Bool := okP badK none l

theorem add_zero {l : List SiT} {s : SiT} (h : (addE l s).1 = 0) : (addE l s).2 = l ++ [s] ∧ chkE (l ++ [s]) = 0 := by
  unfold addE at h ⊢
  cases hc : (chkE (l ++ [s]) != 0)
  · exact ⟨rfl, by simpa using hc⟩
  · rw [hc] at h
    rw [show chkE (l ++ [s]) = 0 from h] at hc
    cases hc

end Go.Proofs.YtcblbcpnfidndaaDoor

namespace Go.Proofs.YtcblbcpnfidndaaDoor
open Go Go.Abs Go.Lab
theorem bl_app (a b : ByteArray) : bl (a ++ b) = bl a ++ bl b := by
  show (a ++ b).data.toList = _
  rw [ByteArray.data_append, Array.toList_append]

theorem sz_app (a b : ByteArray) : (a ++ b).size = a.size + b.size := ByteArray.size_append

theorem mk_app (a b : List UInt8) : mkB a ++ mkB b = mkB (a ++ b) := bl_inj (by rw [bl_app, bl_mk, bl_mk, bl_mk])

theorem app_mk (s : ByteArray) (b : List UInt8) : s ++ mkB b = mkB (bl s ++ b) := bl_inj (by rw [bl_app, bl_mk, bl_mk])

theorem empty_mk : ByteArray.empty = mkB [] := rfl

theorem drop_e {A : Type} {o : Option A} {x : A} (h : ∃ r, o = some r ∧ r = x) : o = some x := by
  obtain ⟨r, h1, rfl⟩ := h
  exact h1

theorem keyS_sz {s : ByteArray} (h : keyS s = true) : s.size ≤ 24 := by
  have := (key_all (s := bl s) h).2.1
  rwa [len_bl] at this

theorem valS_sz {s : ByteArray} (h : valS s = true) : s.size ≤ 64 := by
  have h : valL (bl s) = true := h
  unfold valL at h
  rw [Bool.and_eq_true] at h
  have := of_decide_eq_true h.2
  rwa [len_bl] at this

/-! ### Quoted values, parts, texts -/
theorem esc_app : ∀ (a b : List UInt8), esc (a ++ b) = esc a ++ esc b
  | [], b => rfl
  | c :: a, b => by
    rw [List.cons_append]
    simp only [esc]
    rw [esc_app a b]
    split <;> rfl

theorem quote_size (s : ByteArray) : (hQuote s).size ≤ 2 * s.size + 2 := by
  unfold hQuote
  rw [size_mk]
  have := esc_len s.data.toList
  have e : s.data.toList.length = s.size := len_bl s
  simp
  omega

theorem m93_eq (s : ByteArray) (hs : s.size ≤ 1048576) : m93 ((s, ()), ()) = some ((hQuote s, ()), ()) := by
  have h := loop_ind (f := l93_0_3) (Q := fun b => b = ((mkB (34 :: esc (bl s)), ()), ())) (fun i st => st = (((i : Int), s, mkB (34 :: esc ((bl s).take i)), ()), ())) s.size ?_ ?_ _ rfl
  · obtain ⟨b, h1, rfl⟩ := h
    unfold m93
    refine bind_of _ (show loopT l93_0_3 ((0, s, bs [34], ()), ()) = _ from h1) ?_
    have hl := esc_len (bl s)
    rw [len_bl] at hl
    have hb : decide ((mkB (34 :: esc (bl s))).size + 1 ≤ 4294967296) = true := decide_eq_true (by rw [size_mk, List.length_cons]; omega)
    simp only [hb, sumE, sS]
    unfold hQuote
    rw [show bs [34] = mkB [34] from rfl, mk_app]
    rfl
  · rintro i _ hi rfl
    obtain ⟨c, hc⟩ := getD_some (l := bl s) (i := i) (by rw [len_bl]; exact hi)
    have hlt : decide ((i : Int) < (s.size : Int)) = true := decide_eq_true (by omega)
    have hbd : decide ((0 : Int) ≤ (i : Int) ∧ (i : Int) < (s.size : Int)) = true := decide_eq_true (by omega)
    have hw : w64 ((i : Int) + 1) = ((i + 1 : Nat) : Int) := w64_nat (by omega)
    have h0 : decide ((0 : Int) ≤ (i : Int)) = true := decide_eq_true (by omega)
    have h1 : decide ((0 : Int) ≤ ((i + 1 : Nat) : Int)) = true := decide_eq_true (by omega)
    have h2 : decide (i ≤ i + 1 ∧ i + 1 ≤ s.size) = true := decide_eq_true (by omega)
    have hx : s.extract i (i + 1) = mkB [c] := bl_inj (by
      have hcl : i < (bl s).length := by rw [len_bl]; exact hi
      rw [extract_bl, bl_mk, List.drop_eq_getElem_cons hcl, show i + 1 - i = 1 by omega, List.take_succ_cons, List.take_zero]
      rw [(List.getElem?_eq_some_iff.1 hc).2])
    have htk : (bl s).take (i + 1) = (bl s).take i ++ [c] := by rw [List.take_add_one, hc]; rfl
    have hl := esc_len ((bl s).take i)
    rw [List.length_take] at hl
    have hsz : ∀ b : List UInt8, b.length ≤ 2 → decide ((mkB (34 :: (esc ((bl s).take i) ++ b))).size + 1 ≤ 4294967296) = true := fun b hb => decide_eq_true (by rw [size_mk]; simp; omega)
    have hs0 : decide ((mkB (34 :: esc ((bl s).take i))).size + 1 ≤ 4294967296) = true := by have := hsz [] (by simp); rwa [List.append_nil] at this
    have hs1 : (mkB [c]).size = 1 := rfl
    have hs92 : mkB (34 :: esc ((bl s).take i)) ++ bs [92] = mkB (34 :: (esc ((bl s).take i) ++ [92])) := by
      rw [show bs [92] = mkB [92] from rfl, mk_app]; rfl
    have e34 : (u8 c == 34) = decide (c = 34) := by
      by_cases h : c = 34
      · subst h; rfl
      · rw [decide_eq_false h]
        exact beq_eq_false_iff_ne.2 fun e => h (UInt8.toNat_inj.1 (by unfold u8 at e; show c.toNat = 34; omega))
    have e92 : (u8 c == 92) = decide (c = 92) := by
      by_cases h : c = 92
      · subst h; rfl
      · rw [decide_eq_false h]
        exact beq_eq_false_iff_ne.2 fun e => h (UInt8.toNat_inj.1 (by unfold u8 at e; show c.toNat = 92; omega))
    refine ⟨_, ?_, rfl⟩
    rw [htk, esc_app]
    simp only [l93_0_3, hlt, hbd, byte_at hc, e34, e92, sumE, sS]
    by_cases c34 : c = 34
    · have he : esc [c] = [92, c] := by simp [esc, c34]
      simp only [decide_eq_true c34, sumE, sS, hs0, hs92, h0, hw, h1, Int.toNat_natCast, h2, hx, hs1, hsz [92] (by simp), mk_app, he]
      simp
    · by_cases c92 : c = 92
      · have he : esc [c] = [92, c] := by simp [esc, c92]
        simp only [decide_eq_false c34, decide_eq_true c92, sumE, sS, hs0, hs92, h0, hw, h1, Int.toNat_natCast, h2, hx, hs1, hsz [92] (by simp), mk_app, he]
        simp
      · have he : esc [c] = [c] := by simp [esc, c34, c92]
        simp only [decide_eq_false c34, decide_eq_false c92, sumE, sS, hs0, h0, hw, h1, Int.toNat_natCast, h2, hx, hs1, mk_app, he]
        simp
  · rintro _ rfl
    refine ⟨_, ?_, rfl⟩
    have : decide ((s.size : Int) < (s.size : Int)) = false := decide_eq_false (by omega)
    simp only [l93_0_3, this, sumE, sS]
    rw [List.take_of_length_le (by rw [len_bl]; exact Nat.le_refl _)]

theorem join_commas : ∀ l : List (List UInt8), Lib.join l [44] = commas l
  | [] => rfl
  | [x] => Lib.join_one x [44]
  | x :: y :: l => by
    rw [Lib.join_cons, commas_cons x (by simp), ← join_commas (y :: l), Lib.join_cons]
    simp [Lib.joinTail]

theorem commas_snoc : ∀ (l : List (List UInt8)) (x : List UInt8), l ≠ [] → commas (l ++ [x]) = commas l ++ 44 :: x
  | [], _, h => absurd rfl h
  | [a], x, _ => rfl
  | a :: b :: l, x, _ => by
    rw [List.cons_append, commas_cons a (by simp), commas_snoc (b :: l) x (by simp), commas_cons a (by simp)]
    simp

end Go.Proofs.YtcblbcpnfidndaaDoor

namespace Go.Proofs.YtcblbcpnfidndaaDoor
open Go Go.Abs Go.Lab
abbrev RtT : Type := Int × List MT × Int × List ByteArray × Int × Int × Int × Bool × Unit

/-- The sizes of a route, of routes. -/
def TrSz (r : RtT) : Prop := (r.2.1.length ≤ big ∧ ∀ m ∈ r.2.1, MSz m) ∧ r.2.2.2.1.length ≤ big ∧ ∀ k ∈ r.2.2.2.1, k.size ≤ big

def chkRange (r : RtT) : Bool := decide (r.2.2.1 < 0) || (decide (r.2.2.2.2.1 < 0) || (decide (r.2.2.2.2.1 > r.2.2.2.2.2.1) || (decide (r.2.2.2.2.2.1 > r.2.2.2.2.2.2.1) || (decide (r.2.2.2.2.2.2.1 > 604800) || (r.2.2.2.2.2.2.1 == 0)))))

def chkOne (r : RtT) : Int :=
  bif decide ((r.2.1.length : Int) > 8) || decide ((r.2.2.2.1.length : Int) > 12) then 5
  else bif !r.2.1.all rightM || !keysOK r.2.2.2.1 then 8 else bif chkRange r then 1 else 0

def TsSz (l : List RtT) : Prop := l.length ≤ 1048576 ∧ ∀ r ∈ l, TrSz r

/-- What right routes are. -/
structure TOK (l : List RtT) : Prop where
  pos : 0 < l.length
  len : l.length ≤ 24
  root : ∀ r, l[0]? = some r → r.1 = -1 ∧ r.2.1 = []
  par : ∀ (k : Nat) (r : RtT), l[k]? = some r → 0 < k → 0 ≤ r.1 ∧ r.1 < (k : Int)
  one : ∀ r ∈ l, r.2.1.length ≤ 8 ∧ (∀ m ∈ r.2.1, rightM m = true) ∧ keysOK r.2.2.2.1 = true ∧ r.2.2.2.1.length ≤ 12

/-! ### Children -/
def isCh (l : List RtT) (i : Int) (k : Nat) : Bool := match l[k]? with | some r => r.1 == i | none => false

def chN (l : List RtT) (i : Int) : List Nat := (List.range l.length).filter (isCh l i)

end Go.Proofs.YtcblbcpnfidndaaDoor

namespace Go.Proofs.YtcblbcpnfidndaaDoor
open Go Go.Abs Go.Lab
/-! ### Rows that ascend -/
theorem asc_keys : ∀ {l : List ByteArray} {p : Option ByteArray}, (∀ k ∈ l, keyS k = true) → l.Pairwise (fun a b => leB b a = false) → (∀ q, p = some q → ∀ k ∈ l, leB k q = false) → okP badK p l = true
  | [], _, _, _, _ => rfl
  | k :: l, p, h1, h2, h3 => by
    unfold okP
    have h2 := List.pairwise_cons.1 h2
    rw [asc_keys (p := some k) (fun y hy => h1 y (List.mem_cons_of_mem _ hy)) h2.2 (fun q hq y hy => by cases hq; exact h2.1 y hy), Bool.and_true]
    unfold badK
    rw [h1 k (List.mem_cons_self ..)]
    cases p with
    | none => rfl
    | some q => simp only; rw [h3 q rfl k (List.mem_cons_self ..)]; rfl

theorem keys4_asc : keys4.Pairwise (fun a b => leB b a = false) := by decide +kernel

theorem sub_keys {l : List ByteArray} (h : l.Sublist keys4) : keysOK l = true := asc_keys (fun k hk => (keys4_ok k (h.subset hk)).1) (keys4_asc.sublist h) (fun q hq => by cases hq)

/-! ### The dice's routes -/
def GoodT (r : RtT) : Prop := (r.2.1.length ≤ 8 ∧ ∀ m ∈ r.2.1, GoodM m) ∧ r.2.2.2.1.Sublist keys4 ∧ chkRange r = false ∧ r.2.2.2.2.2.1 ≤ 1000 ∧ 0 ≤ r.2.2.2.2.2.1 ∧ 0 ≤ r.2.2.2.2.2.2.1 ∧ r.2.2.2.2.2.2.1 ≤ 10000

theorem GoodT.z {r : RtT} (h : GoodT r) : TrSz r := by
  obtain ⟨⟨h1, h2⟩, h3, _⟩ := h
  have h4 := h3.length_le
  rw [show keys4.length = 4 from rfl] at h4
  exact ⟨⟨by unfold big; omega, fun m hm => (h2 m hm).z⟩, by unfold big; omega, fun k hk => by have := (keys4_ok k (h3.subset hk)).2; unfold big; omega⟩

theorem GoodT.one {r : RtT} (h : GoodT r) : chkOne r = 0 := by
  obtain ⟨⟨h1, h2⟩, h3, h4, _⟩ := h
  have h5 := h3.length_le
  rw [show keys4.length = 4 from rfl] at h5
  unfold chkOne
  rw [decide_eq_false (show ¬ (r.2.1.length : Int) > 8 by omega), decide_eq_false (show ¬ (r.2.2.2.1.length : Int) > 12 by omega), List.all_eq_true.2 (fun m hm => (h2 m hm).1), sub_keys h3, h4]
  rfl

/-- Routes of the dice. -/
structure GoodTs (l : List RtT) : Prop where
  pos : 0 < l.length
  len : l.length ≤ 24
  root : ∀ r, l[0]? = some r → r.1 = -1 ∧ r.2.1 = []
  par : ∀ (k : Nat) (r : RtT), l[k]? = some r → 0 < k → 0 ≤ r.1 ∧ r.1 < (k : Int)
  good : ∀ r ∈ l, GoodT r

theorem GoodTs.z {l : List RtT} (h : GoodTs l) : TsSz l := ⟨by have := h.len; omega, fun r hr => (h.good r hr).z⟩

end Go.Proofs.YtcblbcpnfidndaaDoor

namespace Go.Proofs.YtcblbcpnfidndaaDoor
open Go Go.Abs Go.Lab
def mch (l : List RtT) (x : List LT) (k : Nat) : Bool := match l[k]? with | some r => allM r.2.1 x | none => false

def cnt (l : List RtT) (k : Nat) : Bool := match l[k]? with | some r => r.2.2.2.2.2.2.2.1 | none => false

/-- The way from a route down to another. -/
inductive Down (l : List RtT) (x : List LT) : Nat → Nat → Prop where
  | here (i : Nat) (h : ∀ c ∈ chN l (i : Int), mch l x c = false) : Down l x i i
  | step (i k j : Nat) (hk : k ∈ chN l (i : Int)) (hm : mch l x k = true) (hs : ∀ c ∈ chN l (i : Int), c < k → mch l x c = true → cnt l c = true) (h : Down l x k j) : Down l x i j

end Go.Proofs.YtcblbcpnfidndaaDoor

namespace Go.Proofs.YtcblbcpnfidndaaDoor
open Go Go.Abs Go.Lab
/-! ### A beginning -/
def preL (p s : List UInt8) : Bool := s.take p.length == p

theorem ext_all (s : ByteArray) (k : Nat) : bl (s.extract k s.size) = (bl s).drop k := by
  rw [extract_bl, List.take_of_length_le (by rw [List.length_drop, len_bl]; omega)]

theorem ext_mk (s : ByteArray) (k : Nat) : s.extract k s.size = mkB ((bl s).drop k) := bl_inj (by rw [ext_all, bl_mk])

theorem ext_take (s : ByteArray) (k : Nat) : s.extract 0 k = mkB ((bl s).take k) := bl_inj (by rw [extract_bl, bl_mk, List.drop_zero, Nat.sub_zero])

theorem m156_eq (s p : ByteArray) : m156 ((s, p, ()), ()) = some ((preL (bl p) (bl s), ()), ()) := by
  unfold m156
  by_cases h : (s.size : Int) ≥ (p.size : Int)
  · have h0 : decide ((0 : Int) ≤ (p.size : Int)) = true := decide_eq_true (by omega)
    have h1 : decide (0 ≤ p.size ∧ p.size ≤ s.size) = true := decide_eq_true (by omega)
    simp only [decide_eq_true h, h0, Int.toNat_natCast, h1, ext_take, toList_bl, bl_mk, sumE, sS]
    unfold preL
    rw [len_bl]
  · have : preL (bl p) (bl s) = false := by
      unfold preL
      refine beq_eq_false_iff_ne.2 fun e => ?_
      have := congrArg List.length e
      rw [List.length_take, len_bl, len_bl] at this
      omega
    simp only [decide_eq_false h, this, sumE, sS]

theorem pre_len {p s : List UInt8} (h : preL p s = true) : p.length ≤ s.length := by
  have := congrArg List.length (eq_of_beq h)
  rw [List.length_take] at this
  omega

theorem m138_eq (s p : ByteArray) : m138 ((s, p, ()), ()) = some ((if preL (bl p) (bl s) then (mkB ((bl s).drop p.size), true, ()) else (s, false, ())), ()) := by
  unfold m138
  simp only [m156_eq, sumE, sS]
  cases h : preL (bl p) (bl s)
  · simp only [sumE, sS, Bool.false_eq_true, if_false]
  · have hl := pre_len h
    rw [len_bl, len_bl] at hl
    have h0 : decide ((0 : Int) ≤ (p.size : Int)) = true := decide_eq_true (by omega)
    have h1 : decide (p.size ≤ s.size ∧ s.size ≤ s.size) = true := decide_eq_true (by omega)
    simp only [h0, Int.toNat_natCast, h1, ext_mk, sumE, sS, if_true]

theorem m103_eq (s p : ByteArray) : m103 ((s, p, ()), ()) = some ((if preL (bl p) (bl s) then (mkB ((bl s).drop p.size), true, ()) else (s, false, ())), ()) := by
  unfold m103
  simp only [m138_eq, sumE, sS]

theorem m136_eq (s p : ByteArray) : m136 ((s, p, ()), ()) = some ((if preL (bl p) (bl s) then mkB ((bl s).drop p.size) else s, ()), ()) := by
  unfold m136
  simp only [m156_eq, sumE, sS]
  cases h : preL (bl p) (bl s)
  · simp only [sumE, sS, Bool.false_eq_true, if_false]
  · have hl := pre_len h
    rw [len_bl, len_bl] at hl
    have h0 : decide ((0 : Int) ≤ (p.size : Int)) = true := decide_eq_true (by omega)
    have h1 : decide (p.size ≤ s.size ∧ s.size ≤ s.size) = true := decide_eq_true (by omega)
    simp only [h0, Int.toNat_natCast, h1, ext_mk, sumE, sS, if_true]

theorem m101_eq (s p : ByteArray) : m101 ((s, p, ()), ()) = some ((if preL (bl p) (bl s) then mkB ((bl s).drop p.size) else s, ()), ()) := by
  unfold m101
  simp only [m136_eq, sumE, sS]

/-! ### Quoted values -/
theorem unq_size (s : ByteArray) : (hUnq s).1.size ≤ s.size ∧ (hUnq s).2.1.size ≤ s.size ∧ ((hUnq s).2.2 = true → (hUnq s).2.1.size + 2 ≤ s.size) := by
  have hl : (bl s).length = s.size := len_bl s
  rw [show hUnq s = hUnqL (bl s) from rfl]
  unfold hUnqL
  split
  · rename_i r he
    rw [he, List.length_cons] at hl
    cases hq : unq r with
    | none => exact ⟨Nat.zero_le _, Nat.zero_le _, fun h => by cases h⟩
    | some p =>
      obtain ⟨a, b⟩ := unq_le (v := p.1) (r := p.2) hq
      simp only [size_mk]
      exact ⟨by omega, by omega, fun _ => by omega⟩
  · exact ⟨Nat.zero_le _, Nat.zero_le _, fun h => by cases h⟩

theorem unq_at (v r : List UInt8) : hUnq (mkB (34 :: (esc v ++ 34 :: r))) = (mkB v, mkB r, true) := by
  show hUnqL (34 :: (esc v ++ 34 :: r)) = _
  unfold hUnqL
  simp only [unq_esc]

def trimC (s : ByteArray) : ByteArray := if preL [44] (bl s) then mkB ((bl s).drop 1) else s

theorem trim_size (s : ByteArray) : (trimC s).size ≤ s.size := by
  unfold trimC
  split
  · rw [size_mk, List.length_drop, len_bl]; omega
  · exact Nat.le_refl _

end Go.Proofs.YtcblbcpnfidndaaDoor
