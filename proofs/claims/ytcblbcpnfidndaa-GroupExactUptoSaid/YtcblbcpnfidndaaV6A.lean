/- Lemmas for the statement of the last text of this claim. -/
import Derived.Test.YtcblbcpnfidndaaChecked
import Derived.Test.YtcblbcpnfidndaaPxS
import Derived.WalkKit
import Derived.ProofKit
import Derived.Deep.RegionLaw
import Derived.Deep.LoopGhost
import Derived.Lib.Walk
import Derived.Maps.Own
import Derived.Shelf.RegionOpenPlain
import Derived.Shelf.Spec.SlicesInsert
import Derived.Shelf.Strings.OnBuilder
import Derived.Test.YtcblbcpnfidndaaPxO
import Derived.Test.YtcblbcpnfidndaaPlD
import Derived.BigCall
import Derived.Lib.LazyBuf
import Derived.Test.YtcblbcpnfidndaaPxQ
import Derived.Test.YtcblbcpnfidndaaPxP
set_option linter.unusedSimpArgs false
set_option linter.unusedVariables false
namespace Go.Proofs.Ytcblbcpnfidndaa
open Go Go.Abs Go.RowKit
abbrev zM : Value := .agg #[.string ⟨#[]⟩, .slice none 0 0, .int .i64 0, .int .i64 0, .bool false, .bool false]

theorem info54 : ∃ i0, Try.prog.info? 54 = some i0 ∧ i0.zero = some zM ∧ i0.size = 6 ∧ i0.bytes = 64 := by
  obtain ⟨i0, h0, h1, h2, h3⟩ := info_parts (P := Try.prog) (e := 54) (z := zM) (size := 6) (bytes := 64) (by kernel_rfl)
  exact ⟨i0, h0, h1, h2, h3⟩

theorem mixed23 : Try.prog.follows .mixedOrders = true := by kernel_rfl

theorem size54 (w : World) : (sizeOf 54).run Try.prog w = .ok 6 w := by
  obtain ⟨i0, h0, _, h2, _⟩ := info54
  simp [sizeOf, typeInfo, h0, h2]

/-- Cells of a row. -/
def cut (cs : Array Value) (o k : Nat) : Array Value := ((List.range k).map fun j => cs.getD (o + j) undef).toArray

theorem cut_size (cs : Array Value) (o k : Nat) : (cut cs o k).size = k := by simp [cut]

theorem cut_get (cs : Array Value) (o k : Nat) {j : Nat} (h : j < k) : (cut cs o k).getD j undef = cs.getD (o + j) undef := by
  simp [cut, Array.getD_eq_getD_getElem?, h]

theorem cut_cells {w : World} {b o n c : Nat} {cs : Array Value} {T : TypeId} (hh : w.heap[b]? = some (.cells cs T (0, 0))) (h : o + n * 6 ≤ cs.size) : Cells Try.prog w 6 n (.slice (some ⟨b, o, none⟩) n c) (cut cs o (n * 6)) :=
  cells_row (fun j => cs.getD (o + j) undef) fun j hj => (by
    have : o + j < cs.size := by omega
    simp [World.cell?, hh, Array.getD, this])

/-- Cells that are written over some of a row. -/
def lay (cs : Array Value) (o : Nat) (vs : Array Value) : Array Value := (cs.toList.take o ++ vs.toList ++ cs.toList.drop (o + vs.toList.length)).toArray

theorem lay_size {cs vs : Array Value} {o : Nat} (h : o + vs.size ≤ cs.size) : (lay cs o vs).size = cs.size := row_written_size cs o vs.toList (by simpa using h)

theorem lay_get {cs vs : Array Value} {o : Nat} (h : o + vs.size ≤ cs.size) (i : Nat) : (lay cs o vs).getD i undef = if o ≤ i ∧ i < o + vs.size then vs.getD (i - o) undef else cs.getD i undef := by
  have := row_written cs o vs.toList (by simpa using h) i
  unfold lay
  rw [this]
  simp only [Array.length_toList]
  split
  · simp [Array.getD_eq_getD_getElem?, List.getD_eq_getElem?_getD]
  · rfl

theorem store_lay {w : World} {b o : Nat} {cs vs : Array Value} {T : TypeId} (hh : w.heap[b]? = some (.cells cs T (0, 0))) (h : o + vs.size ≤ cs.size) (h1 : ∀ k, k < vs.size → (vs.getD k undef).oneCell' = true) :
    (storeCells ⟨b, o, none⟩ vs.toList).run Try.prog w = .ok () (w.setRow b (lay cs o vs)) := by
  have := run_storeCells_at Try.prog b o T vs.toList 0 cs w hh (by simpa using h) (fun v hv => by
    obtain ⟨k, hk, rfl⟩ := List.mem_iff_getElem.1 hv
    have := h1 k (by simpa using hk)
    have hk' : k < vs.size := by simpa using hk
    rw [Array.getD, dif_pos hk'] at this
    simpa using this)
  simpa [lay] using this

set_option maxHeartbeats 4000000 in
set_option maxRecDepth 1000000 in
theorem ins_end (w : World) (b n cap b2 cap2 : Nat) (cs xs : Array Value) (T T2 : TypeId) (hh : w.heap[b]? = some (.cells cs T (0, 0))) (hk : cap * 6 ≤ cs.size) (hroom : n + 1 ≤ cap) (hn : n ≤ 4294967295)
    (hh2 : w.heap[b2]? = some (.cells xs T2 (0, 0))) (hk2 : cap2 * 6 ≤ xs.size) (hone : ∀ k, k < 6 → (xs.getD k undef).oneCell' = true) (hc2 : 1 ≤ cap2) :
    Calls Try.prog 44 #[.slice (some ⟨b, 0, none⟩) n cap, .int .i64 n, .slice (some ⟨b2, 0, none⟩) 1 cap2] w fun e w' => e = .returned (.slice (some ⟨b, 0, none⟩) (n + 1) cap) ∧ w' = w.setRow b (lay cs (n * 6) (cut xs 0 6)) := by
  obtain ⟨i0, hi0, hz0, hz1, hz2⟩ := info54
  have hc : Cells Try.prog w i0.size 1 (.slice (some ⟨b2, 0, none⟩) 1 cap2) (cut xs 0 6) := by rw [hz1]; exact cut_cells hh2 (by omega)
  have hrun : ∀ ty, (Builtin.append_ #[35, 35] ty #[.slice (some ⟨b, 0, none⟩) n cap, .slice (some ⟨b2, 0, none⟩) 1 cap2]).run Try.prog w = .ok (.slice (some ⟨b, 0, none⟩) (n + 1) cap) (w.setRow b (lay cs (n * 6) (cut xs 0 6))) := fun ty =>
    run_append_room' Try.underlying35 hi0 hc hroom (fun a ha => by
      cases ha
      have ha : (⟨b, 0, none⟩ : Addr).add (n * i0.size) = ⟨b, n * 6, none⟩ := by rw [hz1, addr_add]; simp
      rw [ha]
      exact store_lay hh (by rw [cut_size]; omega) (fun k hk => by rw [cut_size] at hk; rw [cut_get _ _ _ hk, Nat.zero_add]; exact hone k hk)) (fun h => by cases h)
  have mixed := mixed23
  have hz : ¬ ((1 : Int) = 0) := by omega
  clear hh hk hh2 hk2 hone hc hz0 hz1 hz2 hi0
  go_enter Try.func44, Try.ntmps44
  go_wp2_with (at_builtin; refine Lib.wpList_append_run _ rfl _ _ _ _ rfl _ _ rfl rfl _ _ (hrun _) ?_)
  go_ret
  exact ⟨rfl, rfl⟩

set_option maxHeartbeats 4000000 in
set_option maxRecDepth 1000000 in
theorem ins_grow (w : World) (base : Option Addr) (n cap b2 cap2 : Nat) (olds xs : Array Value) (T2 : TypeId) (hcap : n ≤ cap) (hroom : cap < n + 1) (hn : n ≤ 4294967295) (ho : Cells Try.prog w 6 n (.slice base n cap) olds)
    (hh2 : w.heap[b2]? = some (.cells xs T2 (0, 0))) (hk2 : cap2 * 6 ≤ xs.size) (hc2 : 1 ≤ cap2) :
    Calls Try.prog 44 #[.slice base n cap, .int .i64 n, .slice (some ⟨b2, 0, none⟩) 1 cap2] w fun e w' => ∃ nc rest, n + 1 ≤ nc ∧ rest.size = (nc - (n + 1)) * 6 ∧ e = .returned (.slice (some ⟨w.heap.size, 0, none⟩) (n + 1) nc) ∧
      w' = w.drew.alloc (.cells (olds ++ cut xs 0 6 ++ rest) 54) := by
  suffices h : Calls Try.prog 44 #[.slice base n cap, .int .i64 n, .slice (some ⟨b2, 0, none⟩) 1 cap2] w fun e w' => ∃ nc rest arr, n + 1 ≤ nc ∧ rest.size = (nc - (n + 1)) * 6 ∧ arr = olds ++ cut xs 0 6 ++ rest ∧ e = .returned (.slice (some ⟨w.heap.size, 0, none⟩) (n + 1) nc) ∧ w' = w.drew.alloc (.cells arr 54) from
    h.mono (by rintro e w' ⟨nc, rest, arr, g1, g2, rfl, g3, g4⟩; exact ⟨nc, rest, g1, g2, g3, g4⟩)
  obtain ⟨i0, hi0, hz0, hz1, hz2⟩ := info54
  have hc : Cells Try.prog w i0.size 1 (.slice (some ⟨b2, 0, none⟩) 1 cap2) (cut xs 0 6) := by rw [hz1]; exact cut_cells hh2 (by omega)
  have key : ∃ nc rest, n + 1 ≤ nc ∧ rest.size = (nc - (n + 1)) * 6 ∧ ∀ ty, (Builtin.append_ #[35, 35] ty #[.slice base n cap, .slice (some ⟨b2, 0, none⟩) 1 cap2]).run Try.prog w = .ok (.slice (some ⟨w.heap.size, 0, none⟩) (n + 1) nc) (w.drew.alloc (.cells (olds ++ cut xs 0 6 ++ rest) 54)) := by
    obtain ⟨nc, rest, g1, g2, g3⟩ := run_append_more (ty := 0) Try.underlying35 hi0 hz0 (by rw [hz1]; exact ho) hc hroom (by omega) (by rw [hz2]; omega) (by rw [hz1]; rfl)
    refine ⟨nc, rest, g1, by rw [g2, hz1], fun ty => ?_⟩
    exact g3
  obtain ⟨nc, rest, g1, g2, hrun⟩ := key
  obtain ⟨arr, harr⟩ : ∃ arr, arr = olds ++ cut xs 0 6 ++ rest := ⟨_, rfl⟩
  rw [← harr] at hrun
  have hq : Hid (arr = olds ++ cut xs 0 6 ++ rest) := harr
  clear harr
  have mixed := mixed23
  have hz : ¬ ((1 : Int) = 0) := by omega
  clear ho hh2 hk2 hc hz0 hz1 hz2 hi0
  go_enter Try.func44, Try.ntmps44
  cases base with
  | none =>
    go_wp2_with (at_builtin; refine Lib.wpList_append_run _ rfl _ _ _ _ rfl _ _ rfl rfl _ _ (hrun _) ?_)
    all_goals (go_ret; exact ⟨nc, rest, arr, g1, g2, hq.out, rfl, rfl⟩)
  | some a =>
    obtain ⟨ab, ao, asp⟩ := a
    go_wp2_with (at_builtin; refine Lib.wpList_append_run _ rfl _ _ _ _ rfl _ _ rfl rfl _ _ (hrun _) ?_)
    all_goals (go_ret; exact ⟨nc, rest, arr, g1, g2, hq.out, rfl, rfl⟩)

end Go.Proofs.Ytcblbcpnfidndaa

namespace Go.Proofs.Ytcblbcpnfidndaa
open Go Go.Abs Go.RowKit
theorem copy_run {w : World} {b o dn dc : Nat} {cs : Array Value} {T : TypeId} (hh : w.heap[b]? = some (.cells cs T (0, 0))) {a : Option Addr} {m c k : Nat} {news : Array Value} (hm : min m dn = k)
    (hf : Cells Try.prog w 6 k (.slice a k c) news) (hfit : o + news.size ≤ cs.size) (h1 : ∀ j, j < news.size → (news.getD j undef).oneCell' = true) (ty : TypeId) :
    (Builtin.copy_ #[35, 35] ty #[.slice (some ⟨b, o, none⟩) dn dc, .slice a m c]).run Try.prog w = .ok (goInt k) (w.setRow b (lay cs o news)) := by
  have hl : (Builtin.lenOf (.slice a m c)).run Try.prog w = .ok m w := rfl
  have hf' : (Builtin.firstCells 6 k (.slice a m c)).run Try.prog w = .ok news w := by
    have := hf.2 w rfl
    cases a <;> exact this
  have hm' : Nat.min m dn = k := hm
  have hst := store_lay hh hfit h1
  simp [Builtin.copy_, run_underlying Try.underlying35, hl, hm', hf', size54, hst, goInt]

set_option maxHeartbeats 4000000 in
set_option maxRecDepth 1000000 in
theorem ins_shift (w : World) (b n cap i b2 cap2 : Nat) (cs xs : Array Value) (T T2 : TypeId) (hh : w.heap[b]? = some (.cells cs T (0, 0))) (hk : cap * 6 ≤ cs.size) (hone : ∀ k, k < n * 6 → (cs.getD k undef).oneCell' = true) (hi : i < n) (hroom : n + 1 ≤ cap) (hn : n ≤ 4294967295)
    (hne : b2 ≠ b) (hh2 : w.heap[b2]? = some (.cells xs T2 (0, 0))) (hk2 : cap2 * 6 ≤ xs.size) (hone2 : ∀ k, k < 6 → (xs.getD k undef).oneCell' = true) (hc2 : 1 ≤ cap2) :
    Calls Try.prog 44 #[.slice (some ⟨b, 0, none⟩) n cap, .int .i64 i, .slice (some ⟨b2, 0, none⟩) 1 cap2] w fun e w' => e = .returned (.slice (some ⟨b, 0, none⟩) (n + 1) cap) ∧
      w' = (w.drew.setRow b (lay cs ((i + 1) * 6) (cut cs (i * 6) ((n - i) * 6)))).setRow b (lay (lay cs ((i + 1) * 6) (cut cs (i * 6) ((n - i) * 6))) (i * 6) (cut xs 0 6)) := by
  have hov : ∀ lb cb, (callFunc 77 #[.slice (some ⟨b2, 0, none⟩) 1 cap2, .slice (some ⟨b, (i + 1) * 6, none⟩) lb cb]).run Try.prog w = .ok (.value (.bool false)) w := fun lb cb => by
    rw [run_callFunc_extern Try.func77 (by kernel_rfl) (by kernel_rfl) (by kernel_rfl) (e := Extern.SlicesOverlaps.overlaps #[35, 35] #[4]) (by kernel_rfl),
      Lib.run_overlaps_apart w 35 4 54 Try.underlying35 6 size54 ⟨b2, 0, none⟩ ⟨b, (i + 1) * 6, none⟩ 1 cap2 lb cb hne T2 T xs.size cs.size (by simp [World.shape?, hh2]) (by simp [World.shape?, hh]) (by omega) (by simp [World.frozen?, hh2]) (by simp [World.frozen?, hh2])]
    rfl
  have hdrew : w.drew.heap[b]? = some (.cells cs T (0, 0)) := hh
  have hs1 : (cut cs (i * 6) ((n - i) * 6)).size = (n - i) * 6 := cut_size _ _ _
  have hfit1 : (i + 1) * 6 + (cut cs (i * 6) ((n - i) * 6)).size ≤ cs.size := by rw [hs1]; omega
  have hcp1 : ∀ ty dc sc, (Builtin.copy_ #[35, 35] ty #[.slice (some ⟨b, (i + 1) * 6, none⟩) (n - i) dc, .slice (some ⟨b, i * 6, none⟩) (n + 1 - i) sc]).run Try.prog w.drew = .ok (goInt (n - i : Nat)) (w.drew.setRow b (lay cs ((i + 1) * 6) (cut cs (i * 6) ((n - i) * 6)))) := fun ty dc sc =>
    copy_run hdrew (by omega) (cut_cells hdrew (by omega)) hfit1 (fun j hj => by rw [hs1] at hj; rw [cut_get _ _ _ hj]; exact hone _ (by omega)) ty
  obtain ⟨c1, hc1⟩ : ∃ c1, c1 = lay cs ((i + 1) * 6) (cut cs (i * 6) ((n - i) * 6)) := ⟨_, rfl⟩
  have hc1s : c1.size = cs.size := by rw [hc1]; exact lay_size hfit1
  rw [← hc1] at hcp1 ⊢
  have hW1 : (w.drew.setRow b c1).heap[b]? = some (.cells c1 T (0, 0)) := setRow_heap _ _ _ _ _ _ hdrew
  have hW2 : (w.drew.setRow b c1).heap[b2]? = some (.cells xs T2 (0, 0)) := by rw [setRow_other _ _ _ _ hne]; exact hh2
  have hcp2 : ∀ ty dc, (Builtin.copy_ #[35, 35] ty #[.slice (some ⟨b, i * 6, none⟩) (n + 1 - i) dc, .slice (some ⟨b2, 0, none⟩) 1 cap2]).run Try.prog (w.drew.setRow b c1) = .ok (goInt 1) ((w.drew.setRow b c1).setRow b (lay c1 (i * 6) (cut xs 0 6))) := fun ty dc =>
    copy_run (k := 1) hW1 (by omega) (cut_cells hW2 (by omega)) (by rw [cut_size]; omega) (fun j hj => by rw [cut_size] at hj; rw [cut_get _ _ _ hj, Nat.zero_add]; exact hone2 _ hj) ty
  obtain ⟨c2, hc2'⟩ : ∃ c2, c2 = lay c1 (i * 6) (cut xs 0 6) := ⟨_, rfl⟩
  rw [← hc2'] at hcp2 ⊢
  have mixed := mixed23
  have hz1 : ¬ ((1 : Int) = 0) := by omega
  have hz2 : ¬ ((i : Int) = (n : Int)) := by omega
  have hw1 : IntKind.i64.wrap ((i : Int) + 1) = (i : Int) + 1 := by rw [IntKind.wrap_i64]; omega
  have hb1 : (0 : Int) ≤ (i : Int) + 1 := by omega
  have hin : i ≤ n := by omega
  have htn : ((i : Int) + 1).toNat = i + 1 := by omega
  have hb2 : ¬ (cap = i + 1) := by omega
  have hb3 : (i : Int) ≤ (n : Int) + 1 := by omega
  have hb4 : ¬ (cap = i) := by omega
  clear hh hk hone hh2 hk2 hone2 hc2 hdrew hs1 hfit1 hc1 hc1s hW1 hW2 hc2'
  go_enter Try.func44, Try.ntmps44
  go_wp2_with (simp only [hov])
  go_region_law_o (refine step_copy_runI rfl _ _ 35 35 rfl _ _ (by simp [Act.eval, Act.put]) (by simp [Act.eval, Act.put]) (hcp1 _ _ _) ?_)
  go_wp2_with (at_builtin; refine wpList_copy_runI _ rfl _ _ 35 35 rfl _ _ rfl rfl (hcp2 _ _) ?_)
  go_ret
  exact ⟨rfl, rfl⟩

end Go.Proofs.Ytcblbcpnfidndaa

namespace Go.Proofs.Ytcblbcpnfidndaa
open Go Go.Abs Go.RowKit
/-- append(s, make([]T, m)...) where there is no room. -/
theorem run_append_zeros_more {P : Program} {w : World} {t tn ty e : TypeId} {i : TypeInfo} {z : Value} (ht : P.underlying t = some (.slice e)) (htn : P.underlying tn = some (.int .i64)) (hi : P.info? e = some i) (hz : i.zero = some z)
    {base : Option Addr} {n cap m : Nat} {olds : Array Value} (ho : Cells P w i.size n (.slice base n cap) olds) (h0 : 0 < m) (hs : 0 < i.size)
    (hg : cap < n + m) (h63 : n + m ≤ 4294967296) (hb : i.bytes ≤ 32768) :
    (Builtin.append_ #[t, tn] ty #[.slice base n cap, .int .i64 (m : Nat)]).run P w =
      .ok (.slice (some ⟨w.heap.size, 0, none⟩) (n + m) (grownCap w (n + m) cap e)) (w.drew.alloc (.cells (olds ++ Builtin.zeroCells z.cells m ++ Builtin.zeroCells z.cells (grownCap w (n + m) cap e - (n + m))) e)) := by
  have h1 : ¬ (n + m ≤ cap) := by omega
  have h2 : ¬ (9223372036854775807 < ((n : Int) + (m : Int))) := by omega
  have hfit : Builtin.nextslicecap (n + m) cap * i.bytes ≤ 281474976710656 := by
    refine growslice_fits hg ?_
    calc (n + m) * i.bytes ≤ 4294967296 * 32768 := Nat.mul_le_mul h63 hb
      _ = 140737488355328 := rfl
  have h3 : ¬ (281474976710656 < Builtin.nextslicecap (n + m) cap * i.bytes) := by omega
  have ho' := ho.2 w.drew rfl
  have hm : m ≠ 0 := by omega
  have hw : IntKind.i64.wrap (m : Int) = m := by rw [IntKind.wrap_i64]; omega
  have h63' : ¬ (9223372036854775807 < (m : Int)) := by omega
  have hmb : m * i.bytes ≤ 140737488355328 := by
    calc m * i.bytes ≤ 4294967296 * 32768 := Nat.mul_le_mul (by omega) hb
      _ = 140737488355328 := rfl
  have h48i : ¬ (281474976710656 < (m : Int) * (i.bytes : Int)) := by
    rw [← Int.natCast_mul]
    omega
  have hneg : ¬ ((m : Int) < 0) := by omega
  have hns : ¬ (m * i.size = 0) := Nat.mul_ne_zero hm (by omega)
  have hnm : ¬ (n + m = 0) := by omega
  simp [Builtin.append_, run_underlying ht, run_underlying htn, sizeOf, typeInfo, zeroValue, hi, hz, asInt, asIntOf, hw, hm, hneg, hns, h63', h48i, h1, h2, h3, Question.forced, ho', newRow, grownCap]

set_option maxHeartbeats 4000000 in
set_option maxRecDepth 1000000 in
theorem ins_mid (w : World) (b n i b2 cap2 : Nat) (cs xs : Array Value) (T T2 : TypeId) (hh : w.heap[b]? = some (.cells cs T (0, 0))) (hk : n * 6 ≤ cs.size) (hone : ∀ k, k < n * 6 → (cs.getD k undef).oneCell' = true) (hi : i < n) (hn : n ≤ 4294967295)
    (hh2 : w.heap[b2]? = some (.cells xs T2 (0, 0))) (hk2 : cap2 * 6 ≤ xs.size) (hone2 : ∀ k, k < 6 → (xs.getD k undef).oneCell' = true) (hc2 : 1 ≤ cap2) :
    Calls Try.prog 44 #[.slice (some ⟨b, 0, none⟩) n n, .int .i64 i, .slice (some ⟨b2, 0, none⟩) 1 cap2] w fun e w' => ∃ (nc : Nat) (arr : Array Value), n + 1 ≤ nc ∧ arr.size = nc * 6 ∧ (∀ k, k < i * 6 → arr.getD k undef = cs.getD k undef) ∧
      e = .returned (.slice (some ⟨w.heap.size, 0, none⟩) (n + 1) nc) ∧
      w'.heap = (((w.drew.alloc (.cells arr 54)).setRow w.heap.size (lay arr (i * 6) (cut xs 0 6))).setRow w.heap.size (lay (lay arr (i * 6) (cut xs 0 6)) ((i + 1) * 6) (cut cs (i * 6) ((n - i) * 6)))).heap ∧ w'.os = w.os ∧ w'.tape = w.tape ∧ w'.output = w.output := by
  obtain ⟨i0, hi0, hz0, hz1', hz2'⟩ := info54
  have ho : Cells Try.prog w i0.size i (.slice (some ⟨b, 0, none⟩) i n) (cut cs 0 (i * 6)) := by rw [hz1']; exact cut_cells hh (by omega)
  have hm : i + (n + 1 - i) = n + 1 := by omega
  have hrun0 : ∀ ty, (Builtin.append_ #[35, 3] ty #[.slice (some ⟨b, 0, none⟩) i n, .int .i64 (n + 1 - i : Nat)]).run Try.prog w = _ := fun ty =>
    run_append_zeros_more (ty := ty) Try.underlying35 (by kernel_rfl : Try.prog.underlying 3 = some (.int .i64)) hi0 hz0 ho (by omega) (by rw [hz1']; omega) (by omega) (by omega) (by rw [hz2']; omega)
  rw [hm] at hrun0
  have hint : ((n + 1 - i : Nat) : Int) = (n : Int) + 1 - i := by omega
  rw [hint] at hrun0
  have hnc := grownCap_ge w (n + 1) n 54
  obtain ⟨nc, hnc'⟩ : ∃ nc, nc = grownCap w (n + 1) n 54 := ⟨_, rfl⟩
  rw [← hnc'] at hrun0 hnc
  obtain ⟨arr, harr⟩ : ∃ arr, arr = cut cs 0 (i * 6) ++ Builtin.zeroCells zM.cells (n + 1 - i) ++ Builtin.zeroCells zM.cells (nc - (n + 1)) := ⟨_, rfl⟩
  rw [← harr] at hrun0
  have hsz : arr.size = nc * 6 := by
    rw [harr]
    simp only [Array.size_append, cut_size]
    have e6 : ∀ k, (Builtin.zeroCells zM.cells k).size = k * 6 := fun k => by simp [Builtin.zeroCells, zM, Value.cells]
    rw [e6, e6]
    omega
  have hlow : ∀ k, k < i * 6 → arr.getD k undef = cs.getD k undef := by
    intro k hk'
    have h1 : k < (cut cs 0 (i * 6)).size := by rw [cut_size]; exact hk'
    rw [harr, Array.append_assoc, Array.getD_eq_getD_getElem?, Array.getElem?_append_left h1, ← Array.getD_eq_getD_getElem?, cut_get _ _ _ hk', Nat.zero_add]
  have hB : ∀ k, k < w.heap.size → (w.drew.alloc (.cells arr 54)).heap[k]? = w.heap[k]? := fun k hk' => heap_alloc_old w.drew _ hk'
  have hb : b < w.heap.size := (Array.getElem?_eq_some_iff.1 hh).1
  have hb2 : b2 < w.heap.size := (Array.getElem?_eq_some_iff.1 hh2).1
  have hN : (w.drew.alloc (.cells arr 54)).heap[w.heap.size]? = some (.cells arr 54 (0, 0)) := heap_alloc_new w.drew _
  have hcp1 : ∀ W : World, W.heap = (w.drew.alloc (.cells arr 54)).heap → ∀ ty dc, (Builtin.copy_ #[35, 35] ty #[.slice (some ⟨w.heap.size, i * 6, none⟩) (n + 1 - i) dc, .slice (some ⟨b2, 0, none⟩) 1 cap2]).run Try.prog W = .ok (goInt 1) (W.setRow w.heap.size (lay arr (i * 6) (cut xs 0 6))) := fun W hW ty dc =>
    copy_run (k := 1) (by rw [hW]; exact hN) (by omega) (cut_cells (by rw [hW]; exact (hB b2 hb2).trans hh2) (by omega)) (by rw [cut_size]; omega) (fun j hj => by rw [cut_size] at hj; rw [cut_get _ _ _ hj, Nat.zero_add]; exact hone2 _ hj) ty
  obtain ⟨a1, ha1⟩ : ∃ a1, a1 = lay arr (i * 6) (cut xs 0 6) := ⟨_, rfl⟩
  have ha1s : a1.size = arr.size := by rw [ha1]; exact lay_size (by rw [cut_size]; omega)
  rw [← ha1] at hcp1
  have hN1 : ((w.drew.alloc (.cells arr 54)).setRow w.heap.size a1).heap[w.heap.size]? = some (.cells a1 54 (0, 0)) := setRow_heap _ _ _ _ _ _ hN
  have hO1 : ((w.drew.alloc (.cells arr 54)).setRow w.heap.size a1).heap[b]? = some (.cells cs T (0, 0)) := by rw [setRow_other _ _ _ _ (by omega)]; exact (hB b hb).trans hh
  have hs2 : (cut cs (i * 6) ((n - i) * 6)).size = (n - i) * 6 := cut_size _ _ _
  have hcp2 : ∀ W : World, W.heap = ((w.drew.alloc (.cells arr 54)).setRow w.heap.size a1).heap → ∀ ty dc sc, (Builtin.copy_ #[35, 35] ty #[.slice (some ⟨w.heap.size, (i + 1) * 6, none⟩) (n - i) dc, .slice (some ⟨b, i * 6, none⟩) (n - i) sc]).run Try.prog W = .ok (goInt (n - i : Nat)) (W.setRow w.heap.size (lay a1 ((i + 1) * 6) (cut cs (i * 6) ((n - i) * 6)))) := fun W hW ty dc sc =>
    copy_run (by rw [hW]; exact hN1) (by omega) (cut_cells (by rw [hW]; exact hO1) (by omega)) (by rw [hs2]; omega) (fun j hj => by rw [hs2] at hj; rw [cut_get _ _ _ hj]; exact hone _ (by omega)) ty
  obtain ⟨a2, ha2⟩ : ∃ a2, a2 = lay a1 ((i + 1) * 6) (cut cs (i * 6) ((n - i) * 6)) := ⟨_, rfl⟩
  rw [← ha2] at hcp2
  suffices hgoal : Calls Try.prog 44 #[.slice (some ⟨b, 0, none⟩) n n, .int .i64 i, .slice (some ⟨b2, 0, none⟩) 1 cap2] w fun e w' => e = .returned (.slice (some ⟨w.heap.size, 0, none⟩) (n + 1) nc) ∧ w'.heap = (((w.drew.alloc (.cells arr 54)).setRow w.heap.size a1).setRow w.heap.size a2).heap ∧ w'.os = w.os ∧ w'.tape = w.tape ∧ w'.output = w.output from
    hgoal.mono (by rintro e w' ⟨g1, g2, g3⟩; exact ⟨nc, arr, hnc, hsz, hlow, g1, by rw [g2, ha2, ha1], g3⟩)
  have mixed := mixed23
  have hz1 : ¬ ((1 : Int) = 0) := by omega
  have hz2 : ¬ ((i : Int) = (n : Int)) := by omega
  have hin : i ≤ n := by omega
  have hgt : ¬ ((n : Int) + 1 ≤ (n : Int)) := by omega
  have hw1 : IntKind.i64.wrap ((i : Int) + 1) = (i : Int) + 1 := by rw [IntKind.wrap_i64]; omega
  have hb1 : (0 : Int) ≤ (i : Int) + 1 := by omega
  have htn : ((i : Int) + 1).toNat = i + 1 := by omega
  have hb3 : (i : Int) + 1 ≤ (n : Int) + 1 := by omega
  have hb4 : ¬ (nc = i) := by omega
  have hb5 : ¬ (nc = i + 1) := by omega
  have hb6 : ¬ (n = i) := by omega
  clear hh hk hone hh2 hk2 hone2 hc2 hz1' hz2' hi0 hz0 ho hint hnc hnc' harr hsz hlow hB hb hb2 hN ha1 ha1s hN1 hO1 hs2 ha2 hm
  go_enter Try.func44, Try.ntmps44
  go_wp2_with (at_builtin; refine Lib.wpList_append_run _ rfl _ _ _ _ rfl _ _ rfl rfl _ _ (hrun0 _) ?_)
  rename_i K1 h1
  rw [hcp1 (w.alloc (.cells arr 54)).drew rfl]
  simp only [Result.andThen, Oper.upon]
  apply h1
  go_wp2_with fail
  go_region_law_o (refine step_copy_runI rfl _ _ 35 35 rfl (.slice (some ⟨w.heap.size, (i + 1) * 6, none⟩) (n - i) (nc - (i + 1))) (.slice (some ⟨b, i * 6, none⟩) (n - i) (n - i)) (by simp [Act.eval, Act.put, hb5, hb6]) (by simp [Act.eval, Act.put, hb5, hb6]) (hcp2 ((w.alloc (.cells arr 54)).drew.setRow w.heap.size a1).drew rfl _ _ _) ?_)
  go_wp2
  go_ret
  exact ⟨rfl, rfl, rfl, rfl, rfl⟩

end Go.Proofs.Ytcblbcpnfidndaa

namespace Go.Proofs.Ytcblbcpnfidndaa
open Go Go.Abs Go.RowKit
theorem lay_at {cs : Array Value} {o : Nat} {vs : Array Value} (h : o + vs.size ≤ cs.size) (i : Nat) : (lay cs o vs).getD i undef = if o ≤ i ∧ i < o + vs.size then vs.getD (i - o) undef else cs.getD i undef := lay_get h i

theorem get_app {a b : Array Value} {k : Nat} : (a ++ b).getD k undef = if k < a.size then a.getD k undef else b.getD (k - a.size) undef := by
  simp only [Array.getD_eq_getD_getElem?, Array.getElem?_append]
  split <;> rfl

theorem hand44 (t : Ty) (ht : t.size = 6) : CallOK Try.prog 44 (insertS t) := by
  refine insert_ok (entered Try.func44 rfl (by decide)) (fun w a b2 cap2 xs T2 hh2 hk2 hone2 hc2 => ?_) (fun w b n cap i b2 cap2 cs xs T T2 hh hk hone hi hn hn32 hne hh2 hk2 hone2 hc2 => ?_)
  · rw [ht] at hk2 hone2 ⊢
    refine (ins_grow w a 0 0 b2 cap2 #[] xs T2 (Nat.le_refl _) (by omega) (by omega) cells_zero hh2 hk2 hc2).mono ?_
    rintro e w' ⟨nc, rest, g1, g2, rfl, rfl⟩
    refine ⟨_, nc, _, _, rfl, g1, heap_alloc_new w.drew _, ?_, fun k hk => by omega, fun k hk => ?_, fun k _ hk => by omega, rfl, rfl, rfl, .inr ⟨Nat.le_refl _, by simp, fun k hk => heap_alloc_old w.drew _ hk⟩⟩
    · simp only [Array.size_append, cut_size, g2]; simp; omega
    · rw [Nat.zero_mul, Nat.zero_add, Array.append_assoc, get_app]
      rw [if_neg (by simp), get_app, if_pos (by rw [cut_size]; simp; omega)]
      simp only [List.size_toArray, List.length_nil, Nat.sub_zero]
      rw [cut_get _ _ _ hk, Nat.zero_add]
  · rw [ht] at hk hone hk2 hone2 ⊢
    have hx : (cut xs 0 6).size = 6 := cut_size _ _ _
    have hxg : ∀ k, k < 6 → (cut xs 0 6).getD k undef = xs.getD k undef := fun k hk => by rw [cut_get _ _ _ hk, Nat.zero_add]
    by_cases hroom : n + 1 ≤ cap
    · by_cases hin : i = n
      · subst hin
        have hfit : i * 6 + (cut xs 0 6).size ≤ cs.size := by rw [hx]; omega
        refine (ins_end w b i cap b2 cap2 cs xs T T2 hh hk hroom (by omega) hh2 hk2 hone2 hc2).mono ?_
        rintro e w' ⟨rfl, rfl⟩
        refine ⟨b, cap, _, T, rfl, hroom, setRow_heap _ _ _ _ _ _ hh, by rw [lay_size hfit]; exact hk, fun k hk' => ?_, fun k hk' => ?_, fun k h1 h2 => by omega, rfl, rfl, rfl, .inl ⟨rfl, lay_size hfit, by simp, fun k hk' => setRow_other _ _ _ _ hk'⟩⟩
        · rw [lay_at hfit, if_neg (by omega)]
        · rw [lay_at hfit, hx, if_pos (by omega), show i * 6 + k - i * 6 = k by omega, hxg k hk']
      · have hs1 : (cut cs (i * 6) ((n - i) * 6)).size = (n - i) * 6 := cut_size _ _ _
        have hfit1 : (i + 1) * 6 + (cut cs (i * 6) ((n - i) * 6)).size ≤ cs.size := by rw [hs1]; omega
        have hz1 := lay_size hfit1
        have hfit2 : i * 6 + (cut xs 0 6).size ≤ (lay cs ((i + 1) * 6) (cut cs (i * 6) ((n - i) * 6))).size := by rw [hz1, hx]; omega
        have hdrew : w.drew.heap[b]? = some (.cells cs T (0, 0)) := hh
        refine (ins_shift w b n cap i b2 cap2 cs xs T T2 hh hk hone (by omega) hroom (by omega) hne hh2 hk2 hone2 hc2).mono ?_
        rintro e w' ⟨rfl, rfl⟩
        refine ⟨b, cap, _, T, rfl, hroom, setRow_heap _ _ _ _ _ _ (setRow_heap _ _ _ _ _ _ hdrew), by rw [lay_size hfit2, hz1]; exact hk, fun k hk' => ?_, fun k hk' => ?_, fun k h1 h2 => ?_, rfl, rfl, rfl, .inl ⟨rfl, (lay_size hfit2).trans hz1, by simp, fun k hk' => ?_⟩⟩
        · rw [lay_at hfit2, if_neg (by omega), lay_at hfit1, if_neg (by omega)]
        · rw [lay_at hfit2, hx, if_pos (by omega), show i * 6 + k - i * 6 = k by omega, hxg k hk']
        · rw [lay_at hfit2, hx, if_neg (by omega), lay_at hfit1, hs1, if_pos (by omega), cut_get _ _ _ (by omega)]
          congr 1
          omega
        · rw [setRow_other _ _ _ _ hk', setRow_other _ _ _ _ hk']; rfl
    · have hcn : cap = n := by omega
      subst hcn
      by_cases hin : i = cap
      · subst hin
        refine (ins_grow w (some ⟨b, 0, none⟩) i i b2 cap2 _ xs T2 (Nat.le_refl _) (by omega) (by omega) (cut_cells hh (by omega)) hh2 hk2 hc2).mono ?_
        rintro e w' ⟨nc, rest, g1, g2, rfl, rfl⟩
        refine ⟨_, nc, _, _, rfl, g1, heap_alloc_new w.drew _, ?_, fun k hk' => ?_, fun k hk' => ?_, fun k h1 h2 => by omega, rfl, rfl, rfl, .inr ⟨Nat.le_refl _, by simp, fun k hk => heap_alloc_old w.drew _ hk⟩⟩
        · simp only [Array.size_append, cut_size, g2]; omega
        · rw [Array.append_assoc, get_app, if_pos (by rw [cut_size]; exact hk'), cut_get _ _ _ hk', Nat.zero_add]
        · rw [Array.append_assoc, get_app, if_neg (by rw [cut_size]; omega), get_app, cut_size, if_pos (by rw [hx]; omega), show i * 6 + k - i * 6 = k by omega, hxg k hk']
      · refine (ins_mid w b cap i b2 cap2 cs xs T T2 hh hk hone (by omega) (by omega) hh2 hk2 hone2 hc2).mono ?_
        rintro e w' ⟨nc, arr, g1, g2, g3, rfl, g4, g5, g6, g7⟩
        have hs1 : (cut cs (i * 6) ((cap - i) * 6)).size = (cap - i) * 6 := cut_size _ _ _
        have hfit1 : i * 6 + (cut xs 0 6).size ≤ arr.size := by rw [hx]; omega
        have hz1 := lay_size hfit1
        have hfit2 : (i + 1) * 6 + (cut cs (i * 6) ((cap - i) * 6)).size ≤ (lay arr (i * 6) (cut xs 0 6)).size := by rw [hz1, hs1]; omega
        have hN : (w.drew.alloc (.cells arr 54)).heap[w.heap.size]? = some (.cells arr 54 (0, 0)) := heap_alloc_new w.drew _
        refine ⟨w.heap.size, nc, _, 54, rfl, g1, by rw [g4]; exact setRow_heap _ _ _ _ _ _ (setRow_heap _ _ _ _ _ _ hN), by rw [lay_size hfit2, hz1, g2]; exact Nat.le_refl _, fun k hk' => ?_, fun k hk' => ?_, fun k h1 h2 => ?_, g5, g6, g7, .inr ⟨Nat.le_refl _, by rw [g4]; simp, fun k hk' => ?_⟩⟩
        · rw [lay_at hfit2, if_neg (by omega), lay_at hfit1, if_neg (by omega), g3 k hk']
        · rw [lay_at hfit2, if_neg (by omega), lay_at hfit1, hx, if_pos (by omega), show i * 6 + k - i * 6 = k by omega, hxg k hk']
        · rw [lay_at hfit2, hs1, if_pos (by omega), cut_get _ _ _ (by omega)]
          congr 1
          omega
        · rw [g4, setRow_other _ _ _ _ (by omega), setRow_other _ _ _ _ (by omega)]
          exact heap_alloc_old w.drew _ hk'

end Go.Proofs.Ytcblbcpnfidndaa

namespace Go.Proofs.Ytcblbcpnfidndaa
open Go Go.Shelf Go.RowKit
def shr : Shelf.Ren :=
{ f := fun x => match x with
    | 156 => 71
    | 165 => 87
    | 166 => 88
    | 167 => 85
    | 169 => 86
    | 240 => 95
    | 241 => 96
    | 276 => 103
    | 277 => 104
    | n => n
  t := fun x => match x with
    | 31 => 28
    | 9 => 9
    | 3 => 3
    | 4 => 4
    | 0 => 0
    | 20 => 20
    | 72 => 111
    | 76 => 117
    | 70 => 108
    | 37 => 109
    | 75 => 113
    | 127 => 126
    | 164 => 129
    | 5 => 5
    | 80 => 115
    | 21 => 21
    | 46 => 119
    | n => n
  g := fun x => x }

set_option maxRecDepth 100000 in
theorem lays_n167 : Lays.n167 Try.prog shr :=
{ mixed := Eq.refl true,
  f167 := Eq.trans Try.func85 (congrArg some (Eq.refl (Body.n167 shr))),
  f240 := Eq.trans Try.func95 (congrArg some (Eq.refl (Body.n240 shr))),
  f276 := Eq.trans Try.func103 (congrArg some (Eq.refl (Body.n276 shr))),
  t0 := Try.underlying0,
  a0 := Try.isAgg0,
  z0 := Try.sizeOf0,
  v0 := Try.zeroValue0,
  t4 := Try.underlying4,
  a4 := Try.isAgg4,
  z4 := Try.sizeOf4,
  v4 := Try.zeroValue4,
  t5 := Try.underlying5,
  a5 := Try.isAgg5,
  z5 := Try.sizeOf5,
  v5 := Try.zeroValue5,
  t9 := Try.underlying9,
  a9 := Try.isAgg9,
  z9 := Try.sizeOf9,
  v9 := Try.zeroValue9,
  t20 := Try.underlying20,
  a20 := Try.isAgg20,
  z20 := Try.sizeOf20,
  v20 := Try.zeroValue20,
  t37 := Try.underlying109,
  a37 := Try.isAgg109,
  z37 := Try.sizeOf109,
  v37 := Try.zeroValue109,
  t70 := Try.underlying108,
  a70 := Try.isAgg108,
  z70 := Try.sizeOf108,
  v70 := Try.zeroValue108,
  t72 := Try.underlying111,
  a72 := Try.isAgg111,
  z72 := Try.sizeOf111,
  v72 := Try.zeroValue111,
  t75 := Try.underlying113,
  a75 := Try.isAgg113,
  z75 := Try.sizeOf113,
  v75 := Try.zeroValue113,
  t164 := Try.underlying129,
  a164 := Try.isAgg129,
  z164 := Try.sizeOf129,
  v164 := Try.zeroValue129 }

set_option maxRecDepth 100000 in
theorem lays_n169 : Lays.n169 Try.prog shr :=
{ mixed := Eq.refl true,
  f169 := Eq.trans Try.func86 (congrArg some (Eq.refl (Body.n169 shr))),
  t0 := Try.underlying0,
  a0 := Try.isAgg0,
  z0 := Try.sizeOf0,
  v0 := Try.zeroValue0,
  t3 := Try.underlying3,
  a3 := Try.isAgg3,
  z3 := Try.sizeOf3,
  v3 := Try.zeroValue3,
  t9 := Try.underlying9,
  a9 := Try.isAgg9,
  z9 := Try.sizeOf9,
  v9 := Try.zeroValue9,
  t37 := Try.underlying109,
  a37 := Try.isAgg109,
  z37 := Try.sizeOf109,
  v37 := Try.zeroValue109,
  t70 := Try.underlying108,
  a70 := Try.isAgg108,
  z70 := Try.sizeOf108,
  v70 := Try.zeroValue108,
  t72 := Try.underlying111,
  a72 := Try.isAgg111,
  z72 := Try.sizeOf111,
  v72 := Try.zeroValue111,
  t127 := Try.underlying126,
  a127 := Try.isAgg126,
  z127 := Try.sizeOf126,
  v127 := Try.zeroValue126 }

set_option maxRecDepth 100000 in
theorem lays_n156 : Lays.n156 Try.prog shr :=
{ mixed := Eq.refl true,
  f156 := Eq.trans Try.func71 (congrArg some (Eq.refl (Body.n156 shr))),
  f165 := Eq.trans Try.func87 (congrArg some (Eq.refl (Body.n165 shr))),
  f166 := Eq.trans Try.func88 (congrArg some (Eq.refl (Body.n166 shr))),
  f169 := Eq.trans Try.func86 (congrArg some (Eq.refl (Body.n169 shr))),
  f240 := Eq.trans Try.func95 (congrArg some (Eq.refl (Body.n240 shr))),
  f241 := Eq.trans Try.func96 (congrArg some (Eq.refl (Body.n241 shr))),
  f276 := Eq.trans Try.func103 (congrArg some (Eq.refl (Body.n276 shr))),
  f277 := Eq.trans Try.func104 (congrArg some (Eq.refl (Body.n277 shr))),
  t0 := Try.underlying0,
  a0 := Try.isAgg0,
  z0 := Try.sizeOf0,
  v0 := Try.zeroValue0,
  t3 := Try.underlying3,
  a3 := Try.isAgg3,
  z3 := Try.sizeOf3,
  v3 := Try.zeroValue3,
  t4 := Try.underlying4,
  a4 := Try.isAgg4,
  z4 := Try.sizeOf4,
  v4 := Try.zeroValue4,
  t9 := Try.underlying9,
  a9 := Try.isAgg9,
  z9 := Try.sizeOf9,
  v9 := Try.zeroValue9,
  t20 := Try.underlying20,
  a20 := Try.isAgg20,
  z20 := Try.sizeOf20,
  v20 := Try.zeroValue20,
  t31 := Try.underlying28,
  a31 := Try.isAgg28,
  z31 := Try.sizeOf28,
  v31 := Try.zeroValue28,
  t37 := Try.underlying109,
  a37 := Try.isAgg109,
  z37 := Try.sizeOf109,
  v37 := Try.zeroValue109,
  t70 := Try.underlying108,
  a70 := Try.isAgg108,
  z70 := Try.sizeOf108,
  v70 := Try.zeroValue108,
  t72 := Try.underlying111,
  a72 := Try.isAgg111,
  z72 := Try.sizeOf111,
  v72 := Try.zeroValue111,
  t75 := Try.underlying113,
  a75 := Try.isAgg113,
  z75 := Try.sizeOf113,
  v75 := Try.zeroValue113,
  t76 := Try.underlying117,
  a76 := Try.isAgg117,
  z76 := Try.sizeOf117,
  v76 := Try.zeroValue117,
  t127 := Try.underlying126,
  a127 := Try.isAgg126,
  z127 := Try.sizeOf126,
  v127 := Try.zeroValue126,
  t164 := Try.underlying129,
  a164 := Try.isAgg129,
  z164 := Try.sizeOf129,
  v164 := Try.zeroValue129 }

set_option maxRecDepth 100000 in
theorem bextra : Builder.Extra Try.prog shr :=
{ sizeBuilder := Eq.refl (some 2), liesBuilder := Eq.refl true, t5 := Try.underlying5, a5 := Try.isAgg5, z5 := Try.sizeOf5, v5 := Try.zeroValue5,
  infoByte := Eq.refl (some (some (Value.int IntKind.u8 0), 1, 1)), cellsByte := Eq.refl 1, sizeByte := Eq.refl (some 1), neB5 := by decide }

open Go.Abs
theorem kept_below {w w' : World} (h : Below w.heap.size w w') : Kept w w' := ⟨h.os, h.tape, h.output, h.size, h.block⟩

theorem row_str {w : World} {X : XT} {v : Value} {l : List ByteArray} {tg : Bool} {ℓ : Lens} (h : PR w X v (d1 ℓ (.row .str l tg))) :
    (l = [] ∧ ∃ a cap, v = .slice a 0 cap) ∨ ∃ b o cap, v = .slice (some ⟨b, o, none⟩) l.length cap ∧ l.length ≤ cap ∧ ∀ (j : Nat) (x : ByteArray), l[j]? = some x → w.cell? ⟨b, o + j, none⟩ = some (.string x) := by
  have e : d1 ℓ (.row .str l tg) = .lst (lsz 1 (l.map fun x => AV.str x)) (l.map fun x => AV.str x) tg := rfl
  rw [e] at h
  cases hl : l with
  | nil =>
    left
    rw [hl] at h
    refine ⟨rfl, ?_⟩
    simp only [List.map_nil] at h
    cases h with
    | lst0 a cap sz t ht => exact ⟨a, cap, rfl⟩
    | lst b o n cap sz t xs f hn hc ht hsz hx hr => simp at hn; subst hn; exact ⟨_, cap, rfl⟩
  | cons y r =>
    right
    rw [← hl]
    have hz : lsz 1 (l.map fun x => AV.str x) = 1 := by rw [hl]; rfl
    rw [hz] at h
    generalize hxs : (l.map fun x => AV.str x) = xs at h
    have hlen : xs.length = l.length := by rw [← hxs]; simp
    cases h with
    | lst0 a cap sz t ht => rw [hl] at hlen; simp at hlen
    | lst b o n cap sz t xs f hn hc ht hsz hx hr =>
      refine ⟨b, o, cap, by rw [← hlen, hn], by omega, fun j x hj => ?_⟩
      have hxj : xs[j]? = some (.str x) := by rw [← hxs, List.getElem?_map, hj]; rfl
      obtain ⟨_, h2, _⟩ := hx j _ hxj 0 (.str x) rfl
      have h3 := hr j _ hxj 0 (.str x) rfl
      have h4 : f j 0 = .string x := PR.strInv h3
      rw [h4] at h2
      simpa using h2

set_option maxRecDepth 100000 in
theorem hand71 : CallOK Try.prog 71 (pureC hfJoin) := pure_ok (entered Try.func71 rfl (by decide)) (by
  intro args v h
  unfold hfJoin at h
  split at h
  · rename_i l tg sep
    obtain ⟨hc, h⟩ := Tr.mean_need h
    have hc := of_decide_eq_true hc
    have := Tr.mean_ret h
    subst this
    refine ⟨_, rfl, fun w X vals hsz hv => ?_⟩
    have h0 := row_str (hv 0 _ rfl)
    have h1 := PR.strInv (hv 1 _ rfl)
    have hvv := two_vals (vals := vals) (by simpa using hsz)
    rw [h1] at hvv
    have hsz2 : (Lib.join (List.map (fun x => x.data.toList) (show List ByteArray from l)) sep.data.toList).length ≤ 140737488355328 := by
      have := hc.2
      rwa [show (hJoin (show List ByteArray from l) sep).size = (Lib.join (List.map (fun x => x.data.toList) (show List ByteArray from l)) sep.data.toList).length from by simp [hJoin, mkB, ByteArray.size]] at this
    rcases h0 with ⟨hl, a, cap, e⟩ | ⟨b, o, cap, e, hle, hcell⟩
    · rw [hvv, e]
      refine (Any.strings_Join_none (ρ := shr) lays_n156 bextra a cap sep w).mono ?_
      rintro e w' ⟨rfl, rfl⟩
      refine ⟨?_, Kept.refl _⟩
      have hl : (show List ByteArray from l) = [] := hl
      show Ending.returned _ = Ending.returned (.string (hJoin (show List ByteArray from l) sep))
      rw [hl]; rfl
    · rw [hvv, e]
      have hb : l ≠ [] → b < w.heap.size := fun hne => by
        cases hl : (show List ByteArray from l) with
        | nil => exact absurd hl hne
        | cons y r =>
          have := hcell 0 y (by show (show List ByteArray from l)[0]? = _; rw [hl]; rfl)
          rcases Nat.lt_or_ge b w.heap.size with h' | h'
          · exact h'
          · simp [World.cell?, Array.getElem?_eq_none h'] at this
      by_cases hne : l = []
      · have hl : (show List ByteArray from l) = [] := hne
        have e0 : List.length (show List ByteArray from l) = 0 := by rw [hl]; rfl
        show Calls Try.prog 71 #[.slice (some ⟨b, o, none⟩) (List.length (show List ByteArray from l)) cap, .string sep] w _
        rw [e0]
        refine (Any.strings_Join_none (ρ := shr) lays_n156 bextra (some ⟨b, o, none⟩) cap sep w).mono ?_
        rintro e w' ⟨rfl, rfl⟩
        refine ⟨?_, Kept.refl _⟩
        show Ending.returned _ = Ending.returned (.string (hJoin (show List ByteArray from l) sep))
        rw [hl]; rfl
      · refine (Any.strings_Join (ρ := shr) lays_n156 bextra b o cap (show List ByteArray from l) sep w hcell (hb hne) (Nat.le_trans hc.1 (by decide)) hle hsz2).mono ?_
        rintro e w' ⟨rfl, hbw⟩
        exact ⟨rfl, kept_below hbw⟩
  · exact (Tr.mean_fail h).elim)

theorem wByte (B b : Nat) (bs : List Value) (c : Int) (w : World) (h : Lib.IsBuilder 111 5 B b bs w) (hlen : bs.length + 1 ≤ 140737488355328) (hBw : B ≤ w.heap.size) :
    Calls Try.prog 85 #[.pointer (some ⟨b, 0, none⟩), .int .u8 c] w fun e w' => e = .returned .nilIface ∧ (Lib.BuilderAt 111 5 B b (.pointer (some ⟨b, 0, none⟩)) (bs ++ [.int .u8 c]) w' ∧ Below B w w') :=
  Any.Builder_WriteByte (ρ := shr) lays_n167 bextra B b bs c w h hlen hBw

theorem bString (B b : Nat) (l : List UInt8) (w : World) (h : Lib.IsBuilder 111 5 B b (Lib.byteCells l) w) (hBw : B ≤ w.heap.size) :
    Calls Try.prog 86 #[.pointer (some ⟨b, 0, none⟩)] w fun e w' => e = .returned (.string ⟨l.toArray⟩) ∧ Below B w w' :=
  Any.Builder_String_any (ρ := shr) lays_n169 bextra B b l w h hBw

theorem esc_snoc : ∀ (l : List UInt8) (c : UInt8), Lab.esc (l ++ [c]) = Lab.esc l ++ (if c = 34 ∨ c = 92 then [92, c] else [c])
  | [], c => by simp only [List.nil_append, Lab.esc]
  | d :: l, c => by
    simp only [List.cons_append, Lab.esc, esc_snoc l c]
    split <;> simp

theorem take_snoc (s : ByteArray) (k : Nat) (h : k < s.size) : s.data.toList.take (k + 1) = s.data.toList.take k ++ [s[k]] := by
  have h' : k < s.data.toList.length := by rw [Array.length_toList]; exact h
  rw [List.take_add_one, List.getElem?_eq_getElem h']
  rfl

set_option maxHeartbeats 4000000 in
set_option maxRecDepth 1000000 in
theorem quoted_calls (s : ByteArray) (w : World) (hs : s.size ≤ 4294967296) :
    Calls Try.prog 70 #[.string s] w fun e w' => e = .returned (.string (hQuote s)) ∧ Below w.heap.size w w' := by
  go_enter Try.func70, Try.ntmps70
  go_wp2_with (go_at_call 85; refine (wByte w.heap.size w.heap.size [] 34 _ (Lib.fresh_isBuilder 111 5 w) (by simp) (by simp)).mono ?_)
  rintro e w1 ⟨rfl, h1, b1⟩
  have b1 : Below w.heap.size w w1 := ((Below.refl _ w).alloc (Nat.le_refl _) _).trans b1
  go_wp2
  go_loopw [8] (fun v wr => ∃ k : Nat, k ≤ s.size ∧ v = .int .i64 k ∧ Lib.BuilderAt 111 5 w.heap.size w.heap.size (.pointer (some ⟨w.heap.size, 0, none⟩)) (Lib.byteCells (34 :: Lab.esc (s.data.toList.take k))) wr ∧ Below w.heap.size w wr) (fun v wr => s.size - (intOf v).toNat)
  case atStart => exact ⟨0, Nat.zero_le _, rfl, by simpa [Lab.esc, Lib.byteCells] using h1, b1⟩
  case round =>
    obtain ⟨k, hk, rfl, hI, hbw⟩ := hrel
    by_cases hp : k < s.size
    · have hsn := take_snoc s k hp
      have hlen : (Lib.byteCells (34 :: Lab.esc (s.data.toList.take k))).length ≤ 2 * k + 1 := by
        have := Lab.esc_len (s.data.toList.take k)
        rw [Lib.byteCells_length]
        simp only [List.length_cons, List.length_take] at this ⊢
        omega
      have hle : w.heap.size ≤ wr.heap.size := hbw.size
      have two : ∀ (w2 w3 : World), s[k] = 34 ∨ s[k] = 92 → Lib.BuilderAt 111 5 w.heap.size w.heap.size (.pointer (some ⟨w.heap.size, 0, none⟩)) (Lib.byteCells (34 :: Lab.esc (s.data.toList.take k)) ++ [Value.int .u8 92] ++ [Value.int .u8 s[k].toNat]) w3 →
          Lib.BuilderAt 111 5 w.heap.size w.heap.size (.pointer (some ⟨w.heap.size, 0, none⟩)) (Lib.byteCells (34 :: Lab.esc (s.data.toList.take (k + 1)))) w3 := by
        intro w2 w3 hq h
        rw [hsn, esc_snoc, if_pos hq]
        simpa [Lib.byteCells] using h
      have one : ∀ (w3 : World), ¬ (s[k] = 34 ∨ s[k] = 92) → Lib.BuilderAt 111 5 w.heap.size w.heap.size (.pointer (some ⟨w.heap.size, 0, none⟩)) (Lib.byteCells (34 :: Lab.esc (s.data.toList.take k)) ++ [Value.int .u8 s[k].toNat]) w3 →
          Lib.BuilderAt 111 5 w.heap.size w.heap.size (.pointer (some ⟨w.heap.size, 0, none⟩)) (Lib.byteCells (34 :: Lab.esc (s.data.toList.take (k + 1)))) w3 := by
        intro w3 hq h
        rw [hsn, esc_snoc, if_neg hq]
        simpa [Lib.byteCells] using h
      have byte34 : ((s[k].toNat : Int) = 34) → s[k] = 34 := fun h => UInt8.toNat_inj.1 (by show s[k].toNat = 34; omega)
      have byte92 : ((s[k].toNat : Int) = 92) → s[k] = 92 := fun h => UInt8.toNat_inj.1 (by show s[k].toNat = 92; omega)
      have both : ((s[k].toNat : Int) == 34) = true ∨ ((s[k].toNat : Int) == 92) = true → s[k] = 34 ∨ s[k] = 92 := by
        rintro (h | h)
        · exact .inl (byte34 (by simpa using h))
        · exact .inr (byte92 (by simpa using h))
      have neither : ((s[k].toNat : Int) == 34) = false ∧ ((s[k].toNat : Int) == 92) = false → ¬ (s[k] = 34 ∨ s[k] = 92) := by
        intro h h2
        rcases h2 with h2 | h2 <;> rw [h2] at h
        · cases h.1
        · cases h.2
      go_wp2_with (go_at_call 85; fail)
      · have hq : s[k] = 34 ∨ s[k] = 92 := .inl (byte34 (by assumption))
        refine (wByte w.heap.size w.heap.size _ 92 wr (Or.inr hI) (by omega) hle).mono ?_
        rintro e w2 ⟨rfl, h2, b2⟩
        go_wp2_with (go_at_call 85; fail)
        refine (wByte w.heap.size w.heap.size _ _ w2 (Or.inr h2) (by simp only [List.length_append, List.length_singleton]; omega) (by have := b2.size; omega)).mono ?_
        rintro e w3 ⟨rfl, h3, b3⟩
        go_wp2
        go_roundw
        case rel => exact ⟨k + 1, by omega, by simp, two w2 w3 hq (by rw [show (s[k].toNat : Int) = 34 from by assumption]; exact h3), (hbw.trans b2).trans b3⟩
        case measure => simp [intOf]; omega
      · have hq : s[k] = 34 ∨ s[k] = 92 := both (by assumption)
        refine (wByte w.heap.size w.heap.size _ 92 wr (Or.inr hI) (by omega) hle).mono ?_
        rintro e w2 ⟨rfl, h2, b2⟩
        go_wp2_with (go_at_call 85; fail)
        refine (wByte w.heap.size w.heap.size _ _ w2 (Or.inr h2) (by simp only [List.length_append, List.length_singleton]; omega) (by have := b2.size; omega)).mono ?_
        rintro e w3 ⟨rfl, h3, b3⟩
        go_wp2
        go_roundw
        case rel => exact ⟨k + 1, by omega, by simp, two w2 w3 hq h3, (hbw.trans b2).trans b3⟩
        case measure => simp [intOf]; omega
      · have hq : ¬ (s[k] = 34 ∨ s[k] = 92) := neither (by assumption)
        refine (wByte w.heap.size w.heap.size _ _ wr (Or.inr hI) (by omega) hle).mono ?_
        rintro e w3 ⟨rfl, h3, b3⟩
        go_wp2
        go_roundw
        case rel => exact ⟨k + 1, by omega, by simp, one w3 hq h3, hbw.trans b3⟩
        case measure => simp [intOf]; omega
    · have hk2 : k = s.size := by omega
      subst hk2
      have hI2 : Lib.BuilderAt 111 5 w.heap.size w.heap.size (.pointer (some ⟨w.heap.size, 0, none⟩)) (Lib.byteCells (34 :: Lab.esc s.data.toList)) wr := by
        have e : s.data.toList.take s.size = s.data.toList := List.take_of_length_le (by rw [Array.length_toList]; exact Nat.le_refl _)
        rw [e] at hI; exact hI
      have hlen : (Lib.byteCells (34 :: Lab.esc s.data.toList)).length ≤ 2 * s.size + 1 := by
        have := Lab.esc_len s.data.toList
        have e : s.data.toList.length = s.size := Array.length_toList
        rw [e] at this
        rw [Lib.byteCells_length, List.length_cons]
        omega
      have hle : w.heap.size ≤ wr.heap.size := hbw.size
      go_wp2_with (go_at_call 85; fail)
      refine (wByte w.heap.size w.heap.size _ 34 wr (Or.inr hI2) (by omega) hle).mono ?_
      rintro e w2 ⟨rfl, h2, b2⟩
      go_wp2_with (go_at_call 86; fail)
      have h2' : Lib.BuilderAt 111 5 w.heap.size w.heap.size (.pointer (some ⟨w.heap.size, 0, none⟩)) (Lib.byteCells (34 :: (Lab.esc s.data.toList ++ [34]))) w2 := by
        simpa [Lib.byteCells] using h2
      refine (bString w.heap.size w.heap.size _ w2 (Or.inr h2') (by have := b2.size; omega)).mono ?_
      rintro e w3 ⟨rfl, b3⟩
      go_wp2
      go_ret
      exact ⟨rfl, (hbw.trans b2).trans b3⟩

theorem hand70 : CallOK Try.prog 70 (pureC hfQuote) := pure_ok (entered Try.func70 rfl (by decide)) (by
  intro args v h
  unfold hfQuote at h
  split at h
  · rename_i s
    obtain ⟨hc, h⟩ := Tr.mean_need h
    have hc := of_decide_eq_true hc
    have := Tr.mean_ret h
    subst this
    refine ⟨_, rfl, fun w X vals hsz hv => ?_⟩
    have h0 := PR.strInv (hv 0 _ rfl)
    have hvv := one_val (vals := vals) (by simpa using hsz)
    rw [h0] at hvv
    rw [hvv]
    refine (quoted_calls s w hc).mono ?_
    rintro e w' ⟨rfl, hb⟩
    exact ⟨rfl, kept_below hb⟩
  · exact (Tr.mean_fail h).elim)

end Go.Proofs.Ytcblbcpnfidndaa

namespace Go.Proofs.Ytcblbcpnfidndaa
open Go Go.Abs Go.RowKit
/-! ### slices.Delete -/

theorem run_clear_cells {P : Program} (w : World) (t e ty : TypeId) (z : Value) (ht : P.underlying t = some (.slice e)) (hv : ∀ w, (zeroValue e).run P w = .ok z w) (b o n c : Nat) (hn : 0 < n) (vs : List Value) (hvs : (Builtin.zeroCells z.cells n).toList = vs)
    (h1 : ∀ v ∈ vs, v.oneCell' = true) (hc : ∀ j, j < vs.length → (w.cell? ⟨b, o + j, none⟩).isSome = true) (hf : ∀ j, j < vs.length → w.frozen? ⟨b, o + j, none⟩ = false) :
    (Builtin.clear_ #[t] ty #[.slice (some ⟨b, o, none⟩) n c]).run P w = .ok (.tuple #[]) (w.setCells b o vs) := by
  have hst := run_storeCells_cells (P := P) b o vs 0 w (by simpa using hc) (by simpa using hf) h1
  simp only [Nat.add_zero] at hst
  obtain ⟨m, rfl⟩ : ∃ m, n = m + 1 := ⟨n - 1, by omega⟩
  simp [Builtin.clear_, run_underlying ht, hv, hvs, hst]

theorem setCells_frame (b : Nat) : ∀ (vs : List Value) (o : Nat) (w : World), (w.setCells b o vs).os = w.os ∧ (w.setCells b o vs).tape = w.tape ∧ (w.setCells b o vs).output = w.output ∧ (w.setCells b o vs).heap.size = w.heap.size ∧ ∀ k, k ≠ b → (w.setCells b o vs).heap[k]? = w.heap[k]?
  | [], _, _ => ⟨rfl, rfl, rfl, rfl, fun _ _ => rfl⟩
  | v :: r, o, w => by
    obtain ⟨h1, h2, h3, h4, h5⟩ := setCells_frame b r (o + 1) (w.setCell ⟨b, o, none⟩ v)
    rw [World.setCells]
    refine ⟨h1, h2, h3, h4.trans (by simp [World.setCell]), fun k hk => (h5 k hk).trans ?_⟩
    simp only [World.setCell]
    rw [Array.getElem?_modify, if_neg (fun e => hk e.symm)]

theorem cell_row {w : World} {b : Nat} {cs : Array Value} {T : TypeId} (h : w.heap[b]? = some (.cells cs T (0, 0))) {o : Nat} (ho : o < cs.size) : w.cell? ⟨b, o, none⟩ = some (cs.getD o undef) ∧ w.frozen? ⟨b, o, none⟩ = false := by
  constructor
  · simp [World.cell?, h, Array.getD, ho]
  · simp [World.frozen?, h]

theorem row_of {w : World} {b : Nat} {cs : Array Value} {T : TypeId} (h : w.heap[b]? = some (.cells cs T (0, 0))) : w.rowIs b T cs.size (fun k => cs.getD k undef) :=
  ⟨cs, h, rfl, fun i hi => by simp [Array.getD, hi]⟩

set_option maxHeartbeats 4000000 in
set_option maxRecDepth 1000000 in
theorem del_calls (w : World) (b n cap i j : Nat) (cs : Array Value) (T : TypeId) (hh : w.heap[b]? = some (.cells cs T (0, 0))) (hk : cap * 6 ≤ cs.size) (hone : ∀ k, k < n * 6 → (cs.getD k undef).oneCell' = true) (hij : i < j) (hj : j ≤ n) (hn : n ≤ cap) (hm : n ≤ 4294967296) :
    Calls Try.prog 76 #[.slice (some ⟨b, 0, none⟩) n cap, .int .i64 i, .int .i64 j] w (MakesDel 6 b n cap i j w cs T) := by
  have hic : i ≤ cap := by omega
  have hjc : j ≤ cap := by omega
  obtain ⟨i0, hi0, hz0, hz1, _⟩ := info_parts (P := Try.prog) (e := 54) (z := .agg #[.string ⟨#[]⟩, .slice none 0 0, .int .i64 0, .int .i64 0, .bool false, .bool false]) (size := 6) (bytes := 64) (by kernel_rfl)
  have hv54 : ∀ w, (zeroValue 54).run Try.prog w = .ok (.agg #[.string ⟨#[]⟩, .slice none 0 0, .int .i64 0, .int .i64 0, .bool false, .bool false]) w := fun w => by simp [zeroValue, typeInfo, hi0, hz0]
  -- the cells that are moved
  obtain ⟨news, hnews⟩ : ∃ news : List Value, news = (List.range ((n - j) * 6)).map (fun k => cs.getD (j * 6 + k) undef) := ⟨_, rfl⟩
  have hlen : news.length = (n - j) * 6 := by rw [hnews]; simp
  have hget : ∀ k, k < (n - j) * 6 → news[k]? = some (cs.getD (j * 6 + k) undef) := by intro k hk'; rw [hnews]; simp [hk']
  have hin : ∀ k, k < cap * 6 → k < cs.size := fun k hk' => by omega
  have hdrew : w.drew.heap[b]? = some (.cells cs T (0, 0)) := hh
  obtain ⟨A, hA, hsrc⟩ : ∃ A : Addr, (if cap = j then (some (⟨b, 0, none⟩ : Addr)) else some ⟨b, j * 6, none⟩) = some A ∧ Hid (∀ k u, news[k]? = some u → w.drew.cell? (A.add k) = some u) := by
    by_cases h : cap = j
    · refine ⟨⟨b, 0, none⟩, by simp [h], fun k u hu => ?_⟩
      have h0 : news.length = 0 := by rw [hlen]; omega
      rw [List.length_eq_zero_iff.1 h0] at hu
      simp at hu
    · refine ⟨⟨b, j * 6, none⟩, by simp [h], fun k u hu => ?_⟩
      have hk' := (List.getElem?_eq_some_iff.1 hu).1
      rw [hlen] at hk'
      rw [hget k hk'] at hu
      rw [addr_add]
      rw [← hu]
      exact (cell_row hdrew (hin _ (by omega))).1
  have s2 : Hid (∀ u ∈ news, u.oneCell' = true) := by
    intro u hu
    rw [hnews] at hu
    simp only [List.mem_map, List.mem_range] at hu
    obtain ⟨k, hk', rfl⟩ := hu
    exact hone _ (by omega)
  have s3 : Hid (∀ k, k < news.length → (w.drew.cell? ⟨b, 0 + i * 6 + k, none⟩).isSome = true ∧ w.drew.frozen? ⟨b, 0 + i * 6 + k, none⟩ = false) := by
    intro k hk'
    rw [hlen] at hk'
    rw [Nat.zero_add]
    obtain ⟨c1, c2⟩ := cell_row hdrew (o := i * 6 + k) (hin _ (by omega))
    exact ⟨by rw [c1]; rfl, c2⟩
  have s1 : Hid (news.length = (n - j) * 6) := hlen
  obtain ⟨W1, hW1⟩ : ∃ W1, W1 = w.drew.setCells b (0 + i * 6) news := ⟨_, rfl⟩
  have hW : Hid (W1 = w.drew.setCells b (0 + i * 6) news) := hW1
  have hrow1 : W1.rowIs b T cs.size (fun k => if 0 + i * 6 ≤ k ∧ k < 0 + i * 6 + news.length then news[k - (0 + i * 6)]?.getD default else cs.getD k undef) := by
    rw [hW1]; exact rowIs_setCells news (0 + i * 6) w.drew _ (row_of hdrew)
  have hfrm1 := setCells_frame b news (0 + i * 6) w.drew
  rw [← hW1] at hfrm1
  -- what is cleared
  obtain ⟨zs, hzs⟩ : ∃ zs, zs = (Builtin.zeroCells (Value.agg #[.string ⟨#[]⟩, .slice none 0 0, .int .i64 0, .int .i64 0, .bool false, .bool false]).cells (n - (i + (n - j)))).toList := ⟨_, rfl⟩
  have hzl : zs.length = (n - (i + (n - j))) * 6 := by rw [hzs]; simp [Builtin.zeroCells, Value.cells]
  have hz1' : ∀ v ∈ zs, v.oneCell' = true := by
    intro v hv
    rw [hzs] at hv
    simp only [Builtin.zeroCells, Value.cells, Array.toList_map, List.mem_map] at hv
    obtain ⟨k, _, rfl⟩ := hv
    have hk6 : k % 6 < 6 := Nat.mod_lt _ (by omega)
    simp only [List.size_toArray, List.length_cons, List.length_nil]
    generalize k % 6 = q at hk6
    match q, hk6 with
    | 0, _ => rfl
    | 1, _ => rfl
    | 2, _ => rfl
    | 3, _ => rfl
    | 4, _ => rfl
    | 5, _ => rfl
  obtain ⟨c1, hc1, hc1s, hc1g⟩ := hrow1
  have hcl : ∀ ty, (Builtin.clear_ #[35] ty #[.slice (some ⟨b, (i + (n - j)) * 6, none⟩) (n - (i + (n - j))) (cap - (i + (n - j)))]).run Try.prog W1 = .ok (.tuple #[]) (W1.setCells b ((i + (n - j)) * 6) zs) :=
    fun ty => run_clear_cells W1 35 54 ty _ Try.underlying35 hv54 b _ _ _ (by omega) zs hzs.symm hz1' (fun q hq => by rw [(cell_row hc1 (by omega)).1]; rfl) (fun q hq => (cell_row hc1 (by omega)).2)
  have hrow2 := rowIs_setCells zs ((i + (n - j)) * 6) W1 _ ⟨c1, hc1, hc1s, hc1g⟩
  have hfrm2 := setCells_frame b zs ((i + (n - j)) * 6) W1
  obtain ⟨c2, hc2, hc2s, hc2g⟩ := hrow2
  have fin : Aside (MakesDel 6 b n cap i j w cs T (.returned (.slice (some ⟨b, 0, none⟩) (i + (n - j)) cap)) (W1.setCells b ((i + (n - j)) * 6) zs)) := by
    refine ⟨c2, by rw [show n - (j - i) = i + (n - j) by omega], hc2, hc2s, fun k hk' => ?_, fun k hk' hk2 => ?_, hfrm2.1.trans hfrm1.1, hfrm2.2.1.trans hfrm1.2.1, hfrm2.2.2.1.trans hfrm1.2.2.1, hfrm2.2.2.2.1.trans hfrm1.2.2.2.1, fun k hk' => (hfrm2.2.2.2.2 k hk').trans (hfrm1.2.2.2.2 k hk')⟩
    · have := hc2g k (by omega)
      simp only at this
      rw [if_neg (by omega), if_neg (by omega)] at this
      rw [Array.getD_eq_getD_getElem?, this]
      rfl
    · have := hc2g k (by omega)
      simp only at this
      rw [if_neg (by omega), if_pos (by omega), hget _ (by omega)] at this
      rw [Array.getD_eq_getD_getElem?, this]
      simp only [Option.getD_some]
      congr 1
      omega
  have mixed : Try.prog.follows .mixedOrders = true := by kernel_rfl
  clear hh hk hone hnews hget hlen hin hdrew hfrm1 hfrm2 hc1 hc1s hc1g hc2 hc2s hc2g hzs hzl hz1' hW1
  go_enter Try.func76, Try.ntmps76
  go_wp2_with fail
  go_region_law_o (refine step_append_room rfl (.tmp 22) (.tmp 25) 35 rfl 54 i0 6 Try.underlying35 hi0 hz1 b 0 i cap (by simp [Act.eval, Act.put]) A (n - j) (cap - j) news (by simp [Act.eval, Act.put, hA]) s1.out hsrc.out s2.out (by omega) s3.out ?_; rw [← hW.out])
  go_wp2
  go_ret
  exact fin.out

theorem hand76 (t : Ty) (ht : t.size = 6) : CallOK Try.prog 76 (delS t) :=
  del_ok (entered Try.func76 rfl (by decide)) (fun w b n cap i j cs T h1 h2 h3 h4 h5 h6 h7 => by
    rw [ht] at h2 h3 ⊢
    exact del_calls w b n cap i j cs T h1 h2 h3 h4 h5 h6 h7)

end Go.Proofs.Ytcblbcpnfidndaa

namespace Go.Proofs.Ytcblbcpnfidndaa
open Go Go.Abs
noncomputable section
abbrev Z3 : Abs.Ty := (.cons (.int .i64) (.cons (.row (.cons .str (.cons (.int .i64) (.cons .str .unit)))) (.cons (.int .i64) (.cons (.row .str) (.cons (.int .i64) (.cons (.int .i64) (.cons (.int .i64) (.cons .bool .unit))))))))

abbrev Y4 : Type := (Int × (List (ByteArray × Int × ByteArray × Unit)) × Int × (List ByteArray) × Int × Int × Int × Bool × Unit)

abbrev Y6 : Type := ((Int × ByteArray × Int × Int × Unit) × Unit)

abbrev Y8 : Type := ((Int × Int × Int × ByteArray × Unit) × Unit)

abbrev Y9 : Type := (List (ByteArray × ByteArray × Unit))

abbrev Z10 : Abs.Ty := (.cons (.row (.int .i64)) (.cons (.int .i64) .unit))

abbrev Y11 : Type := ((Int × Int × (List ByteArray) × Int × Int × Int × Bool × Unit) × Unit)

abbrev Y12 : Type := (((List Int) × Int × Unit) × Unit)

abbrev Z13 : Abs.Ty := (.cons .str (.cons .str .unit))

abbrev Z1 : Abs.Ty := (.cons .str (.cons (.row Z13) (.cons (.int .i64) (.cons (.int .i64) (.cons .bool (.cons .bool .unit))))))

abbrev Z5 : Abs.Ty := (.cons (.int .i64) (.cons .str (.cons (.row Z1) (.cons (.int .i64) (.cons (.int .i64) .unit)))))

abbrev Y14 : Type := ((Bool × Unit) × (Unit))

abbrev Z15 : Abs.Ty := (.cons (.int .i64) (.cons (.int .i64) (.cons (.int .i64) (.cons .str (.cons (.row .str) (.cons (.row .str) .unit))))))

abbrev Y16 : Type := (Int × Int × Int × ByteArray × (List ByteArray) × (List ByteArray) × Unit)

abbrev Y17 : Type := (ByteArray × Y9 × Int × Int × Bool × Bool × Unit)

abbrev Y2 : Type := (List Y17)

abbrev Y7 : Type := (Int × ByteArray × Y2 × Int × Int × Unit)

abbrev Y18 : Type := (Y6 × Y8 × (Y7 × Unit) × Y6 × Y8 × (Y4 × Unit) × Y2 × (List ByteArray) × (List ByteArray) × Unit)

abbrev Y19 : Type := (Y2 × Y8 × (List ByteArray) × (List ByteArray) × Unit)

abbrev Qs3 : Abs.Sh := (.agg (.dat (.int .i64) (.dat (.int .i64) (.dat (.int .i64) (.dat .str (.st .nil (.st .nil .nil)))))) .nil)

abbrev Qs5 : Abs.Sh := (.dat (.int .i64) .nil)

abbrev Qs1 : Abs.Sh := (.dat (.int .i64) Qs5)

abbrev Qs2 : Abs.Sh := (.agg (.dat (.int .i64) (.dat .str (.st .nil Qs1))) .nil)

abbrev Qb6 : Abs.Bks := (.arr Z1 false (.box 5 Qs2 (.box 5 (.agg (.dat (.int .i64) (.dat .str (.st (.own Z1 (0, 0)) Qs1))) .nil) .nil)))

abbrev Qx9 : Abs.Stt := (.ptr (0, 0) 5 0 0)

abbrev Qs11 : Abs.Sh := (.agg (.dat (.int .i64) (.dat (.int .i64) (.dat (.int .i64) (.dat .str (.st (.own .str (5, 0)) (.st (.own .str (6, 0)) .nil)))))) .nil)

abbrev Qs13 : Abs.Sh := (.agg (.dat (.int .i64) (.dat (.int .i64) (.dat (.int .i64) (.dat .str (.st (.own .str (6, 0)) (.st (.own .str (7, 0)) .nil)))))) .nil)

abbrev Qs14 : Abs.Sh := (.dat .bool .nil)

abbrev Qs4 : Abs.Sh := (.agg (.dat (.int .i64) (.st .nil (.dat (.int .i64) (.dat (.row .str) (.dat (.int .i64) (.dat (.int .i64) (.dat (.int .i64) Qs14))))))) .nil)

abbrev Qx15 : Abs.Stt := (.ptr (1, 0) 5 0 0)

abbrev Qb16 : Abs.Bks := (.arr .str false (.arr .str false .nil))

abbrev Qb7 : Abs.Bks := (.box 6 (.agg (.dat (.int .i64) (.dat (.int .i64) (.dat (.int .i64) (.dat .str (.st (.own .str (2, 0)) (.st (.own .str (3, 0)) .nil)))))) .nil) Qb16)

abbrev Qs18 : Abs.Sh := (.agg (.dat (.int .i64) (.dat (.int .i64) (.dat (.int .i64) (.dat .str (.st (.own .str (4, 0)) (.st (.own .str (5, 0)) .nil)))))) .nil)

abbrev Qx20 : Abs.Stt := (.ptr (2, 0) 5 0 0)

abbrev Qx25 : Abs.Stt := (.ptr (1, 0) 6 0 0)

abbrev Qx26 : Abs.Stt := (.ptr (3, 0) 5 0 0)

abbrev Qs27 : Abs.Sh := (.dat Z10 .nil)

abbrev Qs28 : Abs.Sh := (.agg (.dat (.int .i64) (.dat .str (.st (.own Z1 (7, 0)) Qs1))) .nil)

abbrev Qs29 : Abs.Sh := (.agg (.dat (.int .i64) (.dat .str (.st (.own Z1 (8, 0)) Qs1))) .nil)

abbrev Qs30 : Abs.Sh := (.dat Z3 .nil)

abbrev Qb23 : Abs.Bks := (.box 5 (.agg (.dat (.int .i64) (.dat .str (.st (.own Z1 (5, 0)) Qs1))) .nil) (.box 5 Qs2 (.box 6 Qs3 (.box 6 Qs13 (.box 8 Qs30 (.arr Z1 false Qb16))))))

abbrev Qs31 : Abs.Sh := (.dat .str .nil)

abbrev Qx32 : Abs.Stt := (.ptr (0, 0) 2 0 0)

abbrev Qs33 : Abs.Sh := (.dat Z5 .nil)

abbrev Qb8 : Abs.Bks := (.box 5 (.agg (.dat (.int .i64) (.dat .str (.st (.own Z1 (6, 0)) Qs1))) .nil) (.box 6 (.agg (.dat (.int .i64) (.dat (.int .i64) (.dat (.int .i64) (.dat .str (.st (.own .str (7, 0)) (.st (.own .str (8, 0)) .nil)))))) .nil) (.box 5 Qs33 (.box 5 Qs2 (.box 6 Qs3 (.box 8 Qs30 (.arr Z1 false Qb16)))))))

abbrev Qb19 : Abs.Bks := (.box 5 Qs33 .nil)

abbrev Qb34 : Abs.Bks := (.arr Z1 false .nil)

abbrev Qb10 : Abs.Bks := (.box 5 (.agg (.dat (.int .i64) (.dat .str (.st (.own Z1 (1, 0)) Qs1))) .nil) Qb34)

abbrev Qb12 : Abs.Bks := (.box 5 (.agg (.dat (.int .i64) (.dat .str (.st (.own Z1 (3, 0)) Qs1))) .nil) (.box 8 Qs30 (.box 5 Qs2 Qb34)))

abbrev Qb17 : Abs.Bks := (.box 5 (.agg (.dat (.int .i64) (.dat .str (.st (.own Z1 (2, 0)) Qs1))) .nil) Qb34)

abbrev Qb21 : Abs.Bks := (.box 8 Qs30 (.arr .str false (.arr .str false Qb34)))

abbrev Qb24 : Abs.Bks := (.box 2 Qs27 (.box 5 (.agg (.dat (.int .i64) (.dat .str (.st (.own Z1 (4, 0)) Qs1))) .nil) (.box 8 Qs30 (.box 5 Qs2 Qb34))))

abbrev Qb35 : Abs.Bks := (.box 8 Qs30 (.box 5 (.agg (.dat (.int .i64) (.dat .str (.st (.own Z1 (0, 0)) Qs1))) .nil) Qb16))

abbrev Qs36 : Abs.Sh := (.dat (.int .i64) (.st (.ptr (4, 0) 8 0 0) .nil))

abbrev Qs37 : Abs.Sh := (.agg (.dat (.int .i64) (.dat (.int .i64) (.dat (.int .i64) (.dat .str (.st (.own .str (3, 0)) (.st (.own .str (4, 0)) .nil)))))) .nil)

abbrev Qx38 : Abs.Stt := (.ptr (2, 0) 8 0 0)

abbrev Qb39 : Abs.Bks := (.box 2 Qs27 (.box 8 Qs4 (.box 8 Qs4 .nil)))

abbrev Qb40 : Abs.Bks := (.box 5 Qs2 (.box 6 Qs3 (.box 6 Qs11 (.box 5 (.agg (.dat (.int .i64) (.dat .str (.part Z1 (7, 0) Qs1))) .nil) Qb21))))

abbrev Qx41 : Abs.Stt := (.ptr (0, 0) 6 0 0)

abbrev Qx42 : Abs.Stt := (.ptr (2, 0) 6 0 0)

abbrev Qx43 : Abs.Stt := (.ptr (3, 0) 8 0 0)

abbrev Qs44 : Abs.Sh := (.st Qx9 (.st Qx15 .nil))

abbrev Qs45 : Abs.Sh := (.st Qx15 (.st Qx20 .nil))

abbrev Qb46 : Abs.Bks := (.box 2 Qs27 .nil)

abbrev Qx47 : Abs.Stt := (.ptr (1, 0) 8 0 0)

abbrev Qs22 : Abs.Sh := (.st Qx9 (.dat (.int .i64) (.st Qx47 (.dat (.int .i64) (.st Qx20 .nil)))))

abbrev Qx48 : Abs.Stt := (.ptr (0, 0) 8 0 0)

def note : FuncId → Abs.Note
  | 2 => ⟨true, [], false, fun _ => []⟩
  | 3 => ⟨true, [0, 1, 4, 5, 6, 7, 8, 9, 10, 11, 12, 13, 14, 15, 16, 18, 19, 20, 21, 24, 52, 61, 67, 82, 85, 86, 87, 88, 93, 97, 103, 115], false, fun | 7 => [(0, 1), (0, 8), (1, 8), (4, 8)] | 28 => [(0, 4), (1, 4), (0, 10), (1, 10), (4, 10), (6, 10)] | _ => []⟩
  | 4 => ⟨true, [0, 2, 3, 4, 5, 6, 7, 8, 9, 10, 11, 12, 13, 14, 17, 25, 34, 70, 71, 88, 108], false, fun | 21 => [(0, 3), (1, 3), (0, 5), (1, 5), (0, 12), (1, 12), (3, 12), (5, 12), (8, 12)] | _ => []⟩
  | 5 => ⟨true, [0, 2, 3, 4, 5, 6, 7, 8, 9, 11, 13, 15, 18, 33, 57, 63, 64, 65, 66, 72, 75, 76, 77, 78, 85], false, fun | 8 => [(1, 6), (1, 9), (4, 9), (6, 9), (8, 9)] | 12 => [(2, 4)] | _ => []⟩
  | 6 => ⟨true, [0, 1, 2, 3, 4, 6, 10, 11, 12, 13, 14, 15, 16, 17, 18, 20, 22, 24, 25, 26, 27, 28, 29, 30, 31, 32, 33, 34, 35, 36, 50, 68, 76, 81, 90, 98, 106, 123, 131, 132, 133, 146, 149, 150, 151, 164, 165, 166, 204, 233, 241, 292], false, fun | 9 => [(1, 4)] | 22 => [(1, 3)] | 28 => [(1, 2), (7, 8)] | 33 => [(4, 8), (5, 8)] | 49 => [(1, 6)] | _ => []⟩
  | 7 => ⟨true, [0, 2, 3, 4, 5, 6, 7, 8, 9, 10, 11, 12, 13, 15, 16, 18, 19, 21, 24, 32, 45, 46, 60, 71, 98, 100, 101, 102, 103, 107, 108, 109, 110, 123, 124, 125, 126, 161], false, fun | 19 => [(0, 4), (1, 4)] | _ => []⟩
  | 8 => ⟨true, [0, 2], false, fun _ => []⟩
  | 9 => ⟨true, [0, 1, 2, 3, 4, 5, 6, 7, 8, 11, 12, 14, 15, 16], false, fun | 2 => [(0, 1), (1, 2), (0, 7), (1, 7), (2, 7), (3, 7)] | 3 => [(0, 2), (1, 2)] | 5 => [(0, 2), (1, 2)] | _ => []⟩
  | 10 => ⟨true, [0, 2], false, fun _ => []⟩
  | 11 => ⟨true, [0, 2, 3, 4], false, fun _ => []⟩
  | 12 => ⟨true, [0, 1, 4], false, fun _ => []⟩
  | 13 => ⟨true, [0, 2, 3, 5, 6, 7, 8, 9, 17], false, fun _ => []⟩
  | 14 => ⟨true, [0, 1, 2, 3, 4, 5, 6, 10, 11, 12, 13, 14, 15, 16, 31, 46, 59, 68], false, fun _ => []⟩
  | 15 => ⟨true, [0, 1, 4], false, fun _ => []⟩
  | 16 => ⟨true, [0, 2, 3, 4, 7, 11, 15], false, fun | 9 => [(5, 12)] | _ => []⟩
  | 17 => ⟨true, [0, 1, 2, 3, 4, 5, 8, 9, 10, 11, 12, 13, 14, 15, 16, 17, 18, 29, 45, 56, 65, 66, 67, 68, 101], false, fun | 15 => [(1, 10)] | 23 => [(1, 2), (2, 4)] | _ => []⟩
  | 18 => ⟨true, [0, 1, 4], false, fun _ => []⟩
  | 19 => ⟨true, [0, 1, 4], false, fun _ => []⟩
  | 20 => ⟨true, [0, 1, 4, 5, 19, 40], false, fun _ => []⟩
  | 21 => ⟨true, [0, 1, 2, 4, 6, 7, 8, 9, 10, 19, 23, 24, 39, 48, 70], false, fun | 8 => [(0, 3), (1, 3), (0, 5), (1, 5)] | 12 => [(1, 6)] | 15 => [(0, 4), (1, 4), (0, 5), (1, 5)] | _ => []⟩
  | 22 => ⟨true, [0, 1, 2], true, fun _ => []⟩
  | 23 => ⟨true, [0, 1, 2, 3, 4, 25, 27, 28, 29, 30, 52], false, fun _ => []⟩
  | 24 => ⟨true, [0, 1, 2, 3, 4, 35, 40, 96], false, fun | 7 => [(7, 9)] | _ => []⟩
  | 25 => ⟨true, [0, 1, 2], true, fun _ => []⟩
  | 26 => ⟨true, [0, 1, 2], false, fun _ => []⟩
  | 27 => ⟨true, [0, 1, 2, 3, 4, 5, 6, 10, 11, 12, 13, 14, 15, 16, 29, 33, 47, 49, 55, 95, 109], false, fun | 15 => [(1, 5)] | _ => []⟩
  | 28 => ⟨true, [0, 1, 2, 3, 4, 5, 6, 7, 42, 47, 100], false, fun | 6 => [(1, 10), (4, 10), (6, 10), (9, 10), (1, 11), (4, 11), (6, 11), (9, 11), (10, 11), (6, 12), (9, 12)] | _ => []⟩
  | 29 => ⟨true, [0, 1, 2, 3, 4, 5, 8, 9, 10, 12, 13, 14, 15, 25, 38, 41, 42, 43, 44, 66], false, fun _ => []⟩
  | 30 => ⟨true, [0, 1, 2, 3, 4, 5, 8, 9, 10, 11, 12, 13, 21, 33, 41, 60, 73], false, fun _ => []⟩
  | 31 => ⟨true, [0, 1, 2, 3, 4, 5, 8, 9, 10, 11, 12, 13, 14, 15, 16, 17, 18, 19, 20, 21, 29, 34, 47, 62, 77, 82, 115, 116, 124, 136, 158, 181], false, fun | 41 => [(1, 2), (2, 4)] | _ => []⟩
  | 32 => ⟨true, [0, 1, 2, 3, 4, 5, 6, 50, 55, 68, 73, 86], false, fun _ => []⟩
  | 33 => ⟨true, [0, 1, 4], false, fun _ => []⟩
  | 34 => ⟨true, [0, 2], false, fun _ => []⟩
  | 35 => ⟨true, [0, 2, 3, 5, 6, 7, 8, 11], false, fun _ => []⟩
  | 36 => ⟨true, [0, 1, 2], false, fun _ => []⟩
  | 37 => ⟨true, [0, 2, 3, 4, 7, 8, 9, 10, 11, 44], false, fun _ => []⟩
  | 38 => ⟨true, [0, 1, 2, 6], false, fun _ => []⟩
  | 39 => ⟨true, [0, 2, 3, 5, 8, 9, 10, 11, 12], false, fun | 7 => [(2, 6)] | _ => []⟩
  | 40 => ⟨true, [0, 1, 2, 4, 5], false, fun _ => []⟩
  | 41 => ⟨true, [0, 1, 2, 3, 10, 11, 12], true, fun | 5 => [(1, 9)] | _ => []⟩
  | 42 => ⟨true, [0, 1, 2, 3, 4, 6, 10, 31, 38, 50], true, fun _ => []⟩
  | 43 => ⟨true, [0, 2, 4], false, fun _ => []⟩
  | 44 => ⟨true, [0, 1, 2, 6, 7, 8, 9, 16, 22, 31, 68], true, fun _ => []⟩
  | 45 => ⟨true, [0, 1, 2, 4, 6, 15, 29], false, fun _ => []⟩
  | 46 => ⟨true, [0, 1, 2, 4], true, fun _ => []⟩
  | 47 => ⟨true, [0, 2, 3, 6, 10, 54], false, fun _ => []⟩
  | 48 => ⟨true, [0, 2, 3, 4, 8, 20], false, fun _ => []⟩
  | 49 => ⟨true, [0, 1, 2, 3, 4, 5, 8, 9, 10, 11, 13, 14, 24, 25, 26, 27, 37, 42], true, fun | 13 => [(7, 11)] | _ => []⟩
  | 50 => ⟨true, [0, 1, 4, 5, 6, 7, 12, 19, 29], true, fun _ => []⟩
  | 51 => ⟨true, [0, 1, 2, 3], true, fun _ => []⟩
  | 52 => ⟨true, [0, 1, 4], false, fun _ => []⟩
  | 53 => ⟨true, [0, 1, 4], false, fun _ => []⟩
  | 54 => ⟨true, [0, 1, 2], false, fun _ => []⟩
  | 55 => ⟨true, [0, 2, 4], false, fun _ => []⟩
  | 56 => ⟨true, [0, 2], false, fun _ => []⟩
  | 57 => ⟨true, [0, 1, 2], false, fun | 1 => [(6, 8)] | _ => []⟩
  | 58 => ⟨true, [0, 2], false, fun _ => []⟩
  | 59 => ⟨true, [0, 1, 2], false, fun _ => []⟩
  | 60 => ⟨true, [0, 1, 4, 5, 6, 19], true, fun _ => []⟩
  | 61 => ⟨true, [0, 1, 2, 6], true, fun _ => []⟩
  | 62 => ⟨true, [0, 1, 2, 3, 4, 6, 7, 14, 30], true, fun _ => []⟩
  | 63 => ⟨true, [0, 1, 2, 3, 4, 5, 8, 9, 18], true, fun _ => []⟩
  | 64 => ⟨true, [0, 1, 4, 5, 10, 14, 25], false, fun _ => []⟩
  | 65 => ⟨true, [0, 1, 4, 5, 9, 17], false, fun _ => []⟩
  | 66 => ⟨true, [0, 2, 4], false, fun _ => []⟩
  | 67 => ⟨true, [0, 2, 3, 4, 5, 6, 10, 14, 15, 16, 17, 25, 33], false, fun _ => []⟩
  | 68 => ⟨true, [0, 2, 3, 4, 21, 23, 24, 25, 47], false, fun _ => []⟩
  | 69 => ⟨true, [0, 2, 3, 5, 6, 7, 18], false, fun _ => []⟩
  | 70 => ⟨true, [0, 2, 3, 4, 7, 8, 9, 20], false, fun _ => []⟩
  | 71 => ⟨true, [0, 1, 4, 5, 7, 8, 10, 12, 13, 15, 22, 29, 39, 40, 41, 42, 49, 63, 64, 65, 66], false, fun _ => []⟩
  | 72 => ⟨true, [0, 1, 2, 6, 7, 8, 9, 10, 11, 17, 31], false, fun _ => []⟩
  | 73 => ⟨true, [0, 1, 2, 4], true, fun _ => []⟩
  | 74 => ⟨true, [0, 1, 4, 5, 6, 11, 12, 13, 16, 19], false, fun _ => []⟩
  | 75 => ⟨true, [0, 2, 4], false, fun _ => []⟩
  | 76 => ⟨true, [0, 1, 2, 6, 7, 16], true, fun _ => []⟩
  | 78 => ⟨true, [0, 1], false, fun _ => []⟩
  | 79 => ⟨true, [0, 2, 3, 21, 25, 55], false, fun _ => []⟩
  | 80 => ⟨true, [0, 2, 3, 6, 10, 22], false, fun _ => []⟩
  | 81 => ⟨true, [0, 1, 4, 5, 7, 8, 9, 16], true, fun _ => []⟩
  | 82 => ⟨true, [0, 1, 4, 5, 7, 8, 9, 16], false, fun _ => []⟩
  | 83 => ⟨true, [0, 2, 3, 4, 7, 10, 14, 47, 54, 61], true, fun _ => []⟩
  | 84 => ⟨true, [0, 1, 2, 4, 5, 28, 39, 49], false, fun _ => []⟩
  | 85 => ⟨true, [0, 1, 4], false, fun _ => []⟩
  | 86 => ⟨true, [0, 2], false, fun _ => []⟩
  | 87 => ⟨true, [0, 1, 7, 21], false, fun _ => []⟩
  | 88 => ⟨true, [0, 1, 4, 5], false, fun _ => []⟩
  | 89 => ⟨true, [0, 2], false, fun _ => []⟩
  | 90 => ⟨true, [0, 1], false, fun _ => []⟩
  | 91 => ⟨true, [0, 1, 2, 3, 13, 18, 27, 28, 33], true, fun _ => []⟩
  | 92 => ⟨true, [0, 1, 4], false, fun _ => []⟩
  | 93 => ⟨true, [0, 1, 2], false, fun _ => []⟩
  | 94 => ⟨true, [0, 2, 3, 4, 5, 6, 7, 8, 27], false, fun _ => []⟩
  | 95 => ⟨true, [0, 6, 19], false, fun _ => []⟩
  | 96 => ⟨true, [0, 1, 4], false, fun | 0 => [(8, 12)] | _ => []⟩
  | 97 => ⟨true, [0, 2, 3, 9], false, fun _ => []⟩
  | 98 => ⟨true, [0, 1, 2], false, fun _ => []⟩
  | 99 => ⟨true, [0, 2, 3, 7, 31], false, fun _ => []⟩
  | 100 => ⟨true, [0, 1, 4, 5, 7, 8, 9, 16], false, fun _ => []⟩
  | 101 => ⟨true, [0, 1, 2], false, fun _ => []⟩
  | 102 => ⟨true, [0, 2], false, fun _ => []⟩
  | _ => ⟨false, [], false, fun _ => []⟩

theorem good : Abs.Good Try.prog note := Abs.good_of (by kernel_rfl)

theorem foll : (Try.prog).follows .mixedOrders = true := by kernel_rfl

def mvtab (f : FuncId) : Bool := [].contains f

def ctab : FuncId → Option Abs.SCall := Abs.ctabOf [(70, Abs.pureC Abs.hfQuote), (71, Abs.pureC Abs.hfJoin), (76, Abs.delS Z1), (44, Abs.insertS Z1)]

theorem ctab_ok : ∀ f q, ctab f = some q → Abs.CallOK Try.prog f q := Abs.ctabOf_ok _ (by
  intro p hp
  simp only [List.mem_cons, List.not_mem_nil, or_false] at hp
  rcases hp with rfl | rfl | rfl | rfl
  · exact hand70
  · exact hand71
  · exact hand76 Z1 rfl
  · exact hand44 Z1 rfl
)

theorem okW {l : List (FuncId × Abs.Spec)} {an : Nat → Abs.FAn} {f : FuncId} {sp : Abs.Spec} (hl : ∀ p ∈ l, Abs.SpecOK Try.prog p.1 p.2) (hon : (note f).on = true) (h : ∀ v, (Abs.bodyC Try.prog note ctab mvtab (Abs.tabOf l) an 12 f sp.keep sp.σi sp.σo v).mean = sp.m v) : Abs.SpecOK Try.prog f sp :=
  Abs.specOC_of (C := ctab) (mv := mvtab) ctab_ok (n := 12) good foll (Abs.tabOf_ok l hl) hon h

theorem al0 : ∀ p ∈ ([] : List (FuncId × Abs.Spec)), Abs.SpecOK Try.prog p.1 p.2 := fun _ h => by cases h

theorem alc {f : FuncId} {sp : Abs.Spec} {l : List (FuncId × Abs.Spec)} (h : Abs.SpecOK Try.prog f sp) (t : ∀ p ∈ l, Abs.SpecOK Try.prog p.1 p.2) : ∀ p ∈ (f, sp) :: l, Abs.SpecOK Try.prog p.1 p.2 := List.forall_mem_cons.2 ⟨h, t⟩

/- pagewatch/pagewatchmade.Light -/
def i8 : Abs.Sg := ⟨[0], (.dat (.row (.int .i64)) .nil), .nil⟩

def o8 : Abs.Sg := ⟨[2], Qs14, .nil⟩

def m8 (v : (((List Int) × Unit) × (Unit))) : Option Y14 :=
some (((decide (((v.1.1.length : Int) : Int) ≤ 500)), ()), ())

def sp8 : Abs.Spec := ⟨0, i8, o8, m8⟩

def an8 : Nat → Abs.FAn
  | _ => {}

theorem ok8 : Abs.SpecOK Try.prog 8 sp8 :=
  okW (an := an8) al0 rfl (by intro v; kernel_rfl)

/- pagewatch/group.New -/
def i15 : Abs.Sg := ⟨[0, 1], (.dat (.int .i64) Qs31), .nil⟩

def o15 : Abs.Sg := ⟨[4], (.st Qx9 .nil), (.box 5 Qs2 .nil)⟩

def m15 (v : ((Int × ByteArray × Unit) × (Unit))) : Option ((Unit) × (Y6 × Unit)) :=
some ((), (((v.1.1, (v.1.2.1, ((-1), ((-1), ())))), ()), ()))

def sp15 : Abs.Spec := ⟨0, i15, o15, m15⟩

def an15 : Nat → Abs.FAn
  | _ => {}

theorem ok15 : Abs.SpecOK Try.prog 15 sp15 :=
  okW (an := an15) al0 rfl (by intro v; kernel_rfl)

/- pagewatch/pagewatchlaw23.one -/
def i34 : Abs.Sg := ⟨[0], Qs31, .nil⟩

def o34 : Abs.Sg := ⟨[2], (.st (.own Z13 (0, 0)) .nil), (.arr Z13 false .nil)⟩

def m34 (v : ((ByteArray × Unit) × (Unit))) : Option ((Unit) × (Y9 × Unit)) :=
some ((), (([((bs [97]), (v.1.1, ()))] : List (ByteArray × ByteArray × Unit)), ()))

def sp34 : Abs.Spec := ⟨0, i34, o34, m34⟩

def an34 : Nat → Abs.FAn
  | _ => {}

theorem ok34 : Abs.SpecOK Try.prog 34 sp34 :=
  okW (an := an34) al0 rfl (by intro v; kernel_rfl)

/- pagewatch/group.in -/
def i38 : Abs.Sg := ⟨[0, 1, 2], (.dat (.int .i64) Qs1), .nil⟩

def o38 : Abs.Sg := ⟨[6], Qs14, .nil⟩

def m38 (v : ((Int × Int × Int × Unit) × (Unit))) : Option Y14 :=
((bif (decide ((v.1.1 : Int) ≥ v.1.2.1)) then (some (((decide ((v.1.1 : Int) ≤ v.1.2.2.1)), ()), ()))
else (some ((false, ()), ()))) : Option Y14).bind fun v1 =>
some ((v1.1.1, ()), ())

def sp38 : Abs.Spec := ⟨0, i38, o38, m38⟩

def an38 : Nat → Abs.FAn
  | 0 => Abs.FAn.mk (fun
    | 1 => some ⟨[6], Qs14, .nil⟩
    | _ => none) (fun _ => none) (fun _ => none) (fun _ _ => 0)
  | _ => {}

theorem ok38 : Abs.SpecOK Try.prog 38 sp38 :=
  okW (an := an38) al0 rfl (by intro v; kernel_rfl)

def l68_0_4 (v : ((Int × ByteArray × Int × Unit) × (Unit))) : Option (((Int × ByteArray × Int × Unit) × (Unit)) ⊕ (Y14 ⊕ ((Unit) × (Unit)))) :=
bif (decide ((v.1.1 : Int) < v.1.2.2.1)) then (bif (decide ((0 : Int) ≤ v.1.1 ∧ (v.1.1 : Int) < v.1.2.1.size)) then
((let x86 := (decide (((((v.1.2.1[v.1.1.toNat]?.getD 0).toNat : Nat) : Int) : Int) < 97))
bif x86 then (let x87 := (decide (((((v.1.2.1[v.1.1.toNat]?.getD 0).toNat : Nat) : Int) : Int) < 48))
bif x87 then (let x88 := (((((v.1.2.1[v.1.1.toNat]?.getD 0).toNat : Nat) : Int) : Int) != 95)
some ((x88, (v.1.2.1, (v.1.2.2.1, (v.1.1, ())))), ()))
else (let x89 := (decide (((((v.1.2.1[v.1.1.toNat]?.getD 0).toNat : Nat) : Int) : Int) > 57))
bif x89 then (let x90 := (((((v.1.2.1[v.1.1.toNat]?.getD 0).toNat : Nat) : Int) : Int) != 95)
some ((x90, (v.1.2.1, (v.1.2.2.1, (v.1.1, ())))), ()))
else (some ((false, (v.1.2.1, (v.1.2.2.1, (v.1.1, ())))), ()))))
else (let x91 := (decide (((((v.1.2.1[v.1.1.toNat]?.getD 0).toNat : Nat) : Int) : Int) > 122))
bif x91 then (let x92 := (decide (((((v.1.2.1[v.1.1.toNat]?.getD 0).toNat : Nat) : Int) : Int) < 48))
bif x92 then (let x93 := (((((v.1.2.1[v.1.1.toNat]?.getD 0).toNat : Nat) : Int) : Int) != 95)
some ((x93, (v.1.2.1, (v.1.2.2.1, (v.1.1, ())))), ()))
else (let x94 := (decide (((((v.1.2.1[v.1.1.toNat]?.getD 0).toNat : Nat) : Int) : Int) > 57))
bif x94 then (let x95 := (((((v.1.2.1[v.1.1.toNat]?.getD 0).toNat : Nat) : Int) : Int) != 95)
some ((x95, (v.1.2.1, (v.1.2.2.1, (v.1.1, ())))), ()))
else (some ((false, (v.1.2.1, (v.1.2.2.1, (v.1.1, ())))), ()))))
else (some ((false, (v.1.2.1, (v.1.2.2.1, (v.1.1, ())))), ())))) : Option ((Bool × ByteArray × Int × Int × Unit) × (Unit))).bind fun v96 =>
bif v96.1.1 then (some (.inr (.inl ((false, ()), ()))))
else (some (.inl (((w64 (v96.1.2.2.2.1 + 1)), (v96.1.2.1, (v96.1.2.2.1, ()))), ())))
else none)
else (some (.inr (.inr ((), ()))))

/- pagewatch/label.key -/
def i68 : Abs.Sg := ⟨[0], Qs31, .nil⟩

def o68 : Abs.Sg := ⟨[2], Qs14, .nil⟩

def m68 (v : ((ByteArray × Unit) × (Unit))) : Option Y14 :=
((bif (v.1.1.toList == ByteArray.empty.toList) then (some ((true, (v.1.1, ())), ()))
else (bif (decide (((v.1.1.size : Int) : Int) > 24)) then (some ((true, (v.1.1, ())), ()))
else (bif (decide ((0 : Int) ≤ 0 ∧ (0 : Int) < v.1.1.size)) then
let x83 := (decide (((((v.1.1[0]?.getD 0).toNat : Nat) : Int) : Int) < 97))
bif x83 then (some ((true, (v.1.1, ())), ()))
else (bif (decide ((0 : Int) ≤ 0 ∧ (0 : Int) < v.1.1.size)) then
let x84 := (decide (((((v.1.1[0]?.getD 0).toNat : Nat) : Int) : Int) > 122))
some ((x84, (v.1.1, ())), ())
else none)
else none))) : Option ((Bool × ByteArray × Unit) × (Unit))).bind fun v85 =>
bif v85.1.1 then (some ((false, ()), ()))
else ((loopT l68_0_4 ((0, (v85.1.2.1, ((v85.1.2.1.size : Int), ()))), ())).bind fun d97 =>
sumE d97 (fun d98 => (some ((d98.1.1, ()), ()))) (fun d99 => (some ((true, ()), ()))))

def sp68 : Abs.Spec := ⟨0, i68, o68, m68⟩

def an68 : Nat → Abs.FAn
  | 0 => Abs.FAn.mk (fun
    | 7 => some ⟨[47, 0, 23, 24], (.dat .bool (.dat .str Qs1)), .nil⟩
    | 1 => some ⟨[21, 0], (.dat .bool Qs31), .nil⟩
    | _ => none) (fun _ => none) (fun
    | 4 => some ⟨⟨[24, 0, 23], (.dat (.int .i64) (.dat .str Qs5)), .nil⟩, (.more .ret ⟨[2], Qs14, .nil⟩ (.one (.exit 0) ⟨[], .nil, .nil⟩))⟩
    | _ => none) (fun _ _ => 0)
  | _ => {}

theorem ok68 : Abs.SpecOK Try.prog 68 sp68 :=
  okW (an := an68) al0 rfl (by intro v; kernel_rfl)

def l69_0_2 (v : ((Int × ByteArray × Int × Unit) × (Unit))) : Option (((Int × ByteArray × Int × Unit) × (Unit)) ⊕ (Y14 ⊕ ((ByteArray × Unit) × (Unit)))) :=
bif (decide ((v.1.1 : Int) < v.1.2.2.1)) then (((bif (decide ((0 : Int) ≤ v.1.1 ∧ (v.1.1 : Int) < v.1.2.1.size)) then
let x24 := (decide (((((v.1.2.1[v.1.1.toNat]?.getD 0).toNat : Nat) : Int) : Int) < 32))
bif x24 then (some ((true, (v.1.2.1, (v.1.2.2.1, (v.1.1, ())))), ()))
else (bif (decide ((0 : Int) ≤ v.1.1 ∧ (v.1.1 : Int) < v.1.2.1.size)) then
let x25 := (decide (((((v.1.2.1[v.1.1.toNat]?.getD 0).toNat : Nat) : Int) : Int) > 126))
some ((x25, (v.1.2.1, (v.1.2.2.1, (v.1.1, ())))), ())
else none)
else none) : Option ((Bool × ByteArray × Int × Int × Unit) × (Unit))).bind fun v26 =>
bif v26.1.1 then (some (.inr (.inl ((false, ()), ()))))
else (some (.inl (((w64 (v26.1.2.2.2.1 + 1)), (v26.1.2.1, (v26.1.2.2.1, ()))), ()))))
else (some (.inr (.inr ((v.1.2.1, ()), ()))))

/- pagewatch/label.value -/
def i69 : Abs.Sg := ⟨[0], Qs31, .nil⟩

def o69 : Abs.Sg := ⟨[2], Qs14, .nil⟩

def m69 (v : ((ByteArray × Unit) × (Unit))) : Option Y14 :=
(loopT l69_0_2 ((0, (v.1.1, ((v.1.1.size : Int), ()))), ())).bind fun d27 =>
sumE d27 (fun d28 => (some ((d28.1.1, ()), ()))) (fun d29 => (some (((decide (((d29.1.1.size : Int) : Int) ≤ 64)), ()), ())))

def sp69 : Abs.Spec := ⟨0, i69, o69, m69⟩

def an69 : Nat → Abs.FAn
  | 0 => Abs.FAn.mk (fun
    | 4 => some ⟨[18, 0, 5, 6], (.dat .bool (.dat .str Qs1)), .nil⟩
    | _ => none) (fun _ => none) (fun
    | 2 => some ⟨⟨[6, 0, 5], (.dat (.int .i64) (.dat .str Qs5)), .nil⟩, (.more .ret ⟨[2], Qs14, .nil⟩ (.one (.exit 0) ⟨[0], Qs31, .nil⟩))⟩
    | _ => none) (fun _ _ => 0)
  | _ => {}

theorem ok69 : Abs.SpecOK Try.prog 69 sp69 :=
  okW (an := an69) al0 rfl (by intro v; kernel_rfl)

def l37_0_4 (v : ((Int × Y9 × Y9 × Int × Unit) × (Unit))) : Option (((Int × Y9 × Y9 × Int × Unit) × (Unit)) ⊕ (Y14 ⊕ ((Unit) × (Unit)))) :=
bif (decide ((v.1.1 : Int) < v.1.2.2.2.1)) then (Abs.rowAt v.1.2.2.1 v.1.1 fun e36 _ =>
(((m68 ((e36.1, ()), ())).bind fun u37 =>
bif (!u37.1.1) then (some ((true, (v.1.2.1, (v.1.2.2.1, (v.1.2.2.2.1, (v.1.1, ()))))), ()))
else ((m69 ((e36.2.1, ()), ())).bind fun u38 =>
bif (!u38.1.1) then (some ((true, (v.1.2.1, (v.1.2.2.1, (v.1.2.2.2.1, (v.1.1, ()))))), ()))
else (bif (e36.2.1.toList == ByteArray.empty.toList) then (some ((true, (v.1.2.1, (v.1.2.2.1, (v.1.2.2.2.1, (v.1.1, ()))))), ()))
else (bif (decide ((v.1.1 : Int) > 0)) then (Abs.rowAt v.1.2.1 (w64 (v.1.1 - 1)) fun e39 _ =>
some (((Op.bytesLess e36.1.toList e39.1.toList || e36.1.toList == e39.1.toList), (v.1.2.1, (v.1.2.2.1, (v.1.2.2.2.1, (v.1.1, ()))))), ()))
else (some ((false, (v.1.2.1, (v.1.2.2.1, (v.1.2.2.2.1, (v.1.1, ()))))), ())))))) : Option ((Bool × Y9 × Y9 × Int × Int × Unit) × (Unit))).bind fun v40 =>
bif v40.1.1 then (some (.inr (.inl ((false, ()), ()))))
else (some (.inl (((w64 (v40.1.2.2.2.2.1 + 1)), (v40.1.2.1, (v40.1.2.2.1, (v40.1.2.2.2.1, ())))), ()))))
else (some (.inr (.inr ((), ()))))

/- pagewatch/label.Valid -/
def i37 : Abs.Sg := ⟨[0], (.dat (.row Z13) .nil), .nil⟩

def o37 : Abs.Sg := ⟨[2], Qs14, .nil⟩

def m37 (v : ((Y9 × Unit) × (Unit))) : Option Y14 :=
bif (decide (((v.1.1.length : Int) : Int) > 12)) then (some ((false, ()), ()))
else ((loopT l37_0_4 ((0, (v.1.1, (v.1.1, ((v.1.1.length : Int), ())))), ())).bind fun d41 =>
sumE d41 (fun d42 => (some ((d42.1.1, ()), ()))) (fun d43 => (some ((true, ()), ()))))

def sp37 : Abs.Spec := ⟨0, i37, o37, m37⟩

def an37 : Nat → Abs.FAn
  | 0 => Abs.FAn.mk (fun
    | 6 => some ⟨[44, 0, 8, 9, 10], (.dat .bool (.dat (.row Z13) (.dat (.row Z13) Qs1))), .nil⟩
    | _ => none) (fun _ => none) (fun
    | 4 => some ⟨⟨[10, 0, 8, 9], (.dat (.int .i64) (.dat (.row Z13) (.dat (.row Z13) Qs5))), .nil⟩, (.more .ret ⟨[2], Qs14, .nil⟩ (.one (.exit 0) ⟨[], .nil, .nil⟩))⟩
    | _ => none) (fun _ _ => 0)
  | _ => {}

theorem ok37 : Abs.SpecOK Try.prog 37 sp37 :=
  okW (an := an37) (alc ok68 (alc ok69 al0)) rfl (by intro v; kernel_rfl)

/- 70 pagewatch/label.quoted: not told by a law: run where it is called -/

/- 71 strings.Join: not told by a law: run where it is called -/

def l39_0_5 (v : ((Int × Y9 × Int × Unit) × ((List ByteArray) × Unit))) : Option (((Int × Y9 × Int × Unit) × ((List ByteArray) × Unit)) ⊕ ((Unit) × ((List ByteArray) × Unit))) :=
bif (decide ((v.1.1 : Int) < v.1.2.2.1)) then (Abs.rowAt v.1.2.1 v.1.1 fun e21 _ =>
bif (decide (e21.1.size + 1 ≤ 4294967296)) then
bif (decide (e21.2.1.size ≤ 4294967296)) then
bif (decide ((e21.1 ++ (bs [61])).size + (hQuote e21.2.1).size ≤ 4294967296)) then
bif (decide (v.2.1.length + [((e21.1 ++ (bs [61])) ++ (hQuote e21.2.1))].length ≤ 4294967296)) then
let x22 := (v.2.1 ++ [((e21.1 ++ (bs [61])) ++ (hQuote e21.2.1))])
some (.inl (((w64 (v.1.1 + 1)), (v.1.2.1, (v.1.2.2.1, ()))), (x22, ())))
else none
else none
else none
else none)
else (some (.inr ((), (v.2.1, ()))))

/- pagewatch/label.Text -/
def i39 : Abs.Sg := ⟨[0], (.dat (.row Z13) .nil), .nil⟩

def o39 : Abs.Sg := ⟨[2], Qs31, .nil⟩

def m39 (v : ((Y9 × Unit) × (Unit))) : Option ((ByteArray × Unit) × (Unit)) :=
(m37 ((v.1.1, ()), ())).bind fun u20 =>
bif (!u20.1.1) then (some ((ByteArray.empty, ()), ()))
else ((loopT l39_0_5 ((0, (v.1.1, ((v.1.1.length : Int), ()))), ([], ()))).bind fun d23 =>
bif (decide (List.length d23.2.1 ≤ 4294967296 ∧ (hJoin d23.2.1 (bs [44])).size ≤ 140737488355328)) then
bif (decide (1 + (hJoin d23.2.1 (bs [44])).size ≤ 4294967296)) then
bif (decide (((bs [123]) ++ (hJoin d23.2.1 (bs [44]))).size + 1 ≤ 4294967296)) then
let x24 := (((bs [123]) ++ (hJoin d23.2.1 (bs [44]))) ++ (bs [125]))
some ((x24, ()), ())
else none
else none
else none)

def sp39 : Abs.Spec := ⟨0, i39, o39, m39⟩

def an39 : Nat → Abs.FAn
  | 0 => Abs.FAn.mk (fun _ => none) (fun _ => none) (fun
    | 5 => some ⟨⟨[11, 3, 9, 10], (.dat (.int .i64) (.st (.own .str (0, 0)) (.dat (.row Z13) Qs5))), (.arr .str false .nil)⟩, (.one (.exit 0) ⟨[3], (.st (.own .str (0, 0)) .nil), (.arr .str false .nil)⟩)⟩
    | _ => none) (fun _ _ => 0)
  | _ => {}

theorem ok39 : Abs.SpecOK Try.prog 39 sp39 :=
  okW (an := an39) (alc ok37 al0) rfl (by intro v; kernel_rfl)

/- pagewatch/group.member -/
def i57 : Abs.Sg := ⟨[0], (.dat Z1 .nil), .nil⟩

def o57 : Abs.Sg := ⟨[2], Qs14, .nil⟩

def m57 (v : ((Y17 × Unit) × (Unit))) : Option Y14 :=
(((m37 ((v.1.1.2.1, ()), ())).bind fun u9 =>
bif u9.1.1 then ((m39 ((v.1.1.2.1, ()), ())).bind fun u10 =>
bif (u10.1.1.toList == v.1.1.1.toList) then ((m38 ((v.1.1.2.2.1, (0, (8589934592, ()))), ())).bind fun u11 =>
bif u11.1.1 then ((m38 ((v.1.1.2.2.2.1, (0, (8589934592, ()))), ())).bind fun u12 =>
bif u12.1.1 then (bif v.1.1.2.2.2.2.1 then (some ((true, ()), ()))
else (some (((!v.1.1.2.2.2.2.2.1), ()), ())))
else (some ((false, ()), ())))
else (some ((false, ()), ())))
else (some ((false, ()), ())))
else (some ((false, ()), ()))) : Option Y14).bind fun v13 =>
some ((v13.1.1, ()), ())

def sp57 : Abs.Spec := ⟨0, i57, o57, m57⟩

def an57 : Nat → Abs.FAn
  | 0 => Abs.FAn.mk (fun
    | 1 => some ⟨[2], Qs14, .nil⟩
    | _ => none) (fun _ => none) (fun _ => none) (fun _ _ => 0)
  | _ => {}

theorem ok57 : Abs.SpecOK Try.prog 57 sp57 :=
  okW (an := an57) (alc ok37 (alc ok39 (alc ok38 al0))) rfl (by intro v; kernel_rfl)

def l23_0_4 (v : ((Int × Y2 × Int × Unit) × ((Y7 × Unit) × Unit))) : Option (((Int × Y2 × Int × Unit) × ((Y7 × Unit) × Unit)) ⊕ (Y14 ⊕ ((Unit) × (Unit)))) :=
bif (decide ((v.1.1 : Int) < v.1.2.2.1)) then (Abs.rowAt v.1.2.1 v.1.1 fun e49 _ =>
(((m57 ((e49, ()), ())).bind fun u50 =>
bif (!u50.1.1) then (some ((true, (v.1.2.1, (v.1.2.2.1, (v.1.1, ())))), ((v.2.1.1, ()), ())))
else (bif (decide ((v.1.1 : Int) > 0)) then (Abs.rowAt v.2.1.1.2.2.1 (w64 (v.1.1 - 1)) fun e51 _ =>
some (((Op.bytesLess e49.1.toList e51.1.toList || e49.1.toList == e51.1.toList), (v.1.2.1, (v.1.2.2.1, (v.1.1, ())))), ((v.2.1.1, ()), ())))
else (some ((false, (v.1.2.1, (v.1.2.2.1, (v.1.1, ())))), ((v.2.1.1, ()), ()))))) : Option ((Bool × Y2 × Int × Int × Unit) × ((Y7 × Unit) × Unit))).bind fun v52 =>
bif v52.1.1 then (some (.inr (.inl ((false, ()), ()))))
else (some (.inl (((w64 (v52.1.2.2.2.1 + 1)), (v52.1.2.1, (v52.1.2.2.1, ()))), ((v52.2.1.1, ()), ())))))
else (some (.inr (.inr ((), ()))))

/- pagewatch/group.Valid -/
def i23 : Abs.Sg := ⟨[0], Qs33, .nil⟩

def o23 : Abs.Sg := ⟨[2], Qs14, .nil⟩

def m23 (v : ((Y7 × Unit) × (Unit))) : Option Y14 :=
((let x45 := (decide (((v.1.1.2.2.1.length : Int) : Int) > 256))
bif x45 then (some ((true, ()), ((v.1.1, ()), ())))
else (bif (decide ((v.1.1.1 : Int) < 0)) then (some ((true, ()), ((v.1.1, ()), ())))
else ((m38 ((v.1.1.2.2.2.1, ((-1), (8589934592, ()))), ())).bind fun u46 =>
bif (!u46.1.1) then (some ((true, ()), ((v.1.1, ()), ())))
else ((m38 ((v.1.1.2.2.2.2.1, ((-1), (8589934592, ()))), ())).bind fun u47 =>
some (((!u47.1.1), ()), ((v.1.1, ()), ())))))) : Option ((Bool × Unit) × ((Y7 × Unit) × Unit))).bind fun v48 =>
bif v48.1.1 then (some ((false, ()), ()))
else ((loopT l23_0_4 ((0, (v48.2.1.1.2.2.1, ((v48.2.1.1.2.2.1.length : Int), ()))), ((v48.2.1.1, ()), ()))).bind fun d53 =>
sumE d53 (fun d54 => (some ((d54.1.1, ()), ()))) (fun d55 => (some ((true, ()), ()))))

def sp23 : Abs.Spec := ⟨0, i23, o23, m23⟩

def an23 : Nat → Abs.FAn
  | 0 => Abs.FAn.mk (fun
    | 6 => some ⟨[52, 1, 27, 28, 29], (.dat .bool (.st Qx9 (.dat (.row Z1) Qs1))), Qb19⟩
    | 1 => some ⟨[25, 1], (.dat .bool (.st Qx9 .nil)), Qb19⟩
    | _ => none) (fun _ => none) (fun
    | 4 => some ⟨⟨[29, 1, 27, 28], (.dat (.int .i64) (.st Qx9 (.dat (.row Z1) Qs5))), Qb19⟩, (.more .ret ⟨[2], Qs14, .nil⟩ (.one (.exit 0) ⟨[], .nil, .nil⟩))⟩
    | _ => none) (fun _ _ => 0)
  | _ => {}

theorem ok23 : Abs.SpecOK Try.prog 23 sp23 :=
  okW (an := an23) (alc ok38 (alc ok57 al0)) rfl (by intro v; kernel_rfl)

/- 100 slices.IndexFunc[[]pagewatch/api.Matcher,pagewatch/api.Matcher]: not told by a law: a parameter -/

/- 92 slices.ContainsFunc[[]pagewatch/api.Matcher,pagewatch/api.Matcher]: not told by a law: a parameter -/

/- pagewatch/label.Right -/
def i101 : Abs.Sg := ⟨[0], (.dat (.cons .str (.cons (.int .i64) (.cons .str .unit))) .nil), .nil⟩

def o101 : Abs.Sg := ⟨[2], Qs14, .nil⟩

def m101 (v : (((ByteArray × Int × ByteArray × Unit) × Unit) × (Unit))) : Option Y14 :=
(((m68 ((v.1.1.1, ()), ())).bind fun u5 =>
bif u5.1.1 then (bif (decide ((v.1.1.2.1 : Int) ≥ 0)) then (bif (decide ((v.1.1.2.1 : Int) ≤ 3)) then ((m69 ((v.1.1.2.2.1, ()), ())).bind fun u6 =>
some ((u6.1.1, ()), ()))
else (some ((false, ()), ())))
else (some ((false, ()), ())))
else (some ((false, ()), ()))) : Option Y14).bind fun v7 =>
some ((v7.1.1, ()), ())

def sp101 : Abs.Spec := ⟨0, i101, o101, m101⟩

def an101 : Nat → Abs.FAn
  | 0 => Abs.FAn.mk (fun
    | 1 => some ⟨[2], Qs14, .nil⟩
    | _ => none) (fun _ => none) (fun _ => none) (fun _ _ => 0)
  | _ => {}

theorem ok101 : Abs.SpecOK Try.prog 101 sp101 :=
  okW (an := an101) (alc ok68 (alc ok69 al0)) rfl (by intro v; kernel_rfl)

/- pagewatch/route.wrong -/
def i93 : Abs.Sg := ⟨[0], (.dat (.cons .str (.cons (.int .i64) (.cons .str .unit))) .nil), .nil⟩

def o93 : Abs.Sg := ⟨[2], Qs14, .nil⟩

def m93 (v : (((ByteArray × Int × ByteArray × Unit) × Unit) × (Unit))) : Option Y14 :=
(m101 ((v.1.1, ()), ())).bind fun u2 =>
some (((!u2.1.1), ()), ())

def sp93 : Abs.Spec := ⟨0, i93, o93, m93⟩

def an93 : Nat → Abs.FAn
  | _ => {}

theorem ok93 : Abs.SpecOK Try.prog 93 sp93 :=
  okW (an := an93) (alc ok101 al0) rfl (by intro v; kernel_rfl)

/- pagewatch/label.KeyIs -/
def i102 : Abs.Sg := ⟨[0], Qs31, .nil⟩

def o102 : Abs.Sg := ⟨[2], Qs14, .nil⟩

def m102 (v : ((ByteArray × Unit) × (Unit))) : Option Y14 :=
(m68 ((v.1.1, ()), ())).bind fun u2 =>
some ((u2.1.1, ()), ())

def sp102 : Abs.Spec := ⟨0, i102, o102, m102⟩

def an102 : Nat → Abs.FAn
  | _ => {}

theorem ok102 : Abs.SpecOK Try.prog 102 sp102 :=
  okW (an := an102) (alc ok68 al0) rfl (by intro v; kernel_rfl)

def l94_0_2 (v : ((Int × (List ByteArray) × (List ByteArray) × Int × Unit) × (Unit))) : Option (((Int × (List ByteArray) × (List ByteArray) × Int × Unit) × (Unit)) ⊕ (Y14 ⊕ ((Unit) × (Unit)))) :=
bif (decide ((v.1.1 : Int) < v.1.2.2.2.1)) then (Abs.rowAt v.1.2.2.1 v.1.1 fun e30 _ =>
(((m102 ((e30, ()), ())).bind fun u31 =>
bif (!u31.1.1) then (some ((true, (v.1.2.1, (v.1.2.2.1, (v.1.2.2.2.1, (v.1.1, ()))))), ()))
else (bif (decide ((v.1.1 : Int) > 0)) then (Abs.rowAt v.1.2.1 (w64 (v.1.1 - 1)) fun e32 _ =>
some (((Op.bytesLess e30.toList e32.toList || e30.toList == e32.toList), (v.1.2.1, (v.1.2.2.1, (v.1.2.2.2.1, (v.1.1, ()))))), ()))
else (some ((false, (v.1.2.1, (v.1.2.2.1, (v.1.2.2.2.1, (v.1.1, ()))))), ())))) : Option ((Bool × (List ByteArray) × (List ByteArray) × Int × Int × Unit) × (Unit))).bind fun v33 =>
bif v33.1.1 then (some (.inr (.inl ((false, ()), ()))))
else (some (.inl (((w64 (v33.1.2.2.2.2.1 + 1)), (v33.1.2.1, (v33.1.2.2.1, (v33.1.2.2.2.1, ())))), ()))))
else (some (.inr (.inr ((), ()))))

/- pagewatch/route.Keys -/
def i94 : Abs.Sg := ⟨[0], (.dat (.row .str) .nil), .nil⟩

def o94 : Abs.Sg := ⟨[2], Qs14, .nil⟩

def m94 (v : (((List ByteArray) × Unit) × (Unit))) : Option Y14 :=
(loopT l94_0_2 ((0, (v.1.1, (v.1.1, ((v.1.1.length : Int), ())))), ())).bind fun d34 =>
sumE d34 (fun d35 => (some ((d35.1.1, ()), ()))) (fun d36 => (some ((true, ()), ())))

def sp94 : Abs.Spec := ⟨0, i94, o94, m94⟩

def an94 : Nat → Abs.FAn
  | 0 => Abs.FAn.mk (fun
    | 4 => some ⟨[27, 0, 5, 6, 7], (.dat .bool (.dat (.row .str) (.dat (.row .str) Qs1))), .nil⟩
    | _ => none) (fun _ => none) (fun
    | 2 => some ⟨⟨[7, 0, 5, 6], (.dat (.int .i64) (.dat (.row .str) (.dat (.row .str) Qs5))), .nil⟩, (.more .ret ⟨[2], Qs14, .nil⟩ (.one (.exit 0) ⟨[], .nil, .nil⟩))⟩
    | _ => none) (fun _ _ => 0)
  | _ => {}

theorem ok94 : Abs.SpecOK Try.prog 94 sp94 :=
  okW (an := an94) (alc ok102 al0) rfl (by intro v; kernel_rfl)

def l84_2_2 (v : ((Int × (List (ByteArray × Int × ByteArray × Unit)) × Int × Unit) × (Unit))) : Option (((Int × (List (ByteArray × Int × ByteArray × Unit)) × Int × Unit) × (Unit)) ⊕ (((Int × Unit) × (Unit)) ⊕ ((Unit) × (Unit)))) :=
bif (decide ((v.1.1 : Int) < v.1.2.2.1)) then (Abs.rowAt v.1.2.1 v.1.1 fun e83 _ =>
(m93 ((e83, ()), ())).bind fun u84 =>
bif u84.1.1 then (some (.inr (.inl ((v.1.1, ()), ()))))
else (some (.inl (((w64 (v.1.1 + 1)), (v.1.2.1, (v.1.2.2.1, ()))), ()))))
else (some (.inr (.inr ((), ()))))

/- pagewatch/route.check -/
def i84 : Abs.Sg := ⟨[0, 1], (.dat Z3 Qs5), .nil⟩

def o84 : Abs.Sg := ⟨[4], Qs5, .nil⟩

def m84 (v : ((Y4 × Int × Unit) × (Unit))) : Option ((Int × Unit) × (Unit)) :=
((bif ((v.1.2.1 : Int) == 0) then (bif ((v.1.1.1 : Int) != (-1)) then (some ((true, ()), ((v.1.1, ()), ())))
else (bif (decide ((v.1.2.1 : Int) > 0)) then (bif (decide ((v.1.1.1 : Int) < 0)) then (some ((true, ()), ((v.1.1, ()), ())))
else (some (((decide ((v.1.1.1 : Int) ≥ v.1.2.1)), ()), ((v.1.1, ()), ()))))
else (some ((false, ()), ((v.1.1, ()), ())))))
else (bif (decide ((v.1.2.1 : Int) > 0)) then (bif (decide ((v.1.1.1 : Int) < 0)) then (some ((true, ()), ((v.1.1, ()), ())))
else (some (((decide ((v.1.1.1 : Int) ≥ v.1.2.1)), ()), ((v.1.1, ()), ()))))
else (some ((false, ()), ((v.1.1, ()), ()))))) : Option ((Bool × Unit) × ((Y4 × Unit) × Unit))).bind fun v79 =>
bif v79.1.1 then (some ((3, ()), ()))
else (((let x80 := (decide (((v79.2.1.1.2.1.length : Int) : Int) > 8))
bif x80 then (some ((true, ()), ((v79.2.1.1, ()), ())))
else (let x81 := (decide (((v79.2.1.1.2.2.2.1.length : Int) : Int) > 12))
some ((x81, ()), ((v79.2.1.1, ()), ())))) : Option ((Bool × Unit) × ((Y4 × Unit) × Unit))).bind fun v82 =>
bif v82.1.1 then (some ((5, ()), ()))
else ((((((loopT l84_2_2 ((0, (v82.2.1.1.2.1, ((v82.2.1.1.2.1.length : Int), ()))), ())).bind fun d85 =>
sumE d85 (fun d86 => (some (((decide ((d86.1.1 : Int) ≥ 0)), ()), ()))) (fun d87 => (some ((false, ()), ())))) : Option Y14).bind fun v88 =>
bif v88.1.1 then (some ((true, ()), ((v82.2.1.1, ()), ())))
else ((m94 ((v82.2.1.1.2.2.2.1, ()), ())).bind fun u89 =>
some (((!u89.1.1), ()), ((v82.2.1.1, ()), ())))) : Option ((Bool × Unit) × ((Y4 × Unit) × Unit))).bind fun v90 =>
bif v90.1.1 then (some ((8, ()), ()))
else (((bif (decide ((v90.2.1.1.2.2.1 : Int) < 0)) then (some ((true, ()), ()))
else (bif (decide ((v90.2.1.1.2.2.2.2.1 : Int) < 0)) then (some ((true, ()), ()))
else (let x91 := (decide ((v90.2.1.1.2.2.2.2.1 : Int) > v90.2.1.1.2.2.2.2.2.1))
bif x91 then (some ((true, ()), ()))
else (let x92 := (decide ((v90.2.1.1.2.2.2.2.2.1 : Int) > v90.2.1.1.2.2.2.2.2.2.1))
bif x92 then (some ((true, ()), ()))
else (let x93 := (decide ((v90.2.1.1.2.2.2.2.2.2.1 : Int) > 604800))
bif x93 then (some ((true, ()), ()))
else (some ((((v90.2.1.1.2.2.2.2.2.2.1 : Int) == 0), ()), ()))))))) : Option Y14).bind fun v94 =>
bif v94.1.1 then (some ((1, ()), ()))
else (some ((0, ()), ())))))

def sp84 : Abs.Spec := ⟨0, i84, o84, m84⟩

def an84 : Nat → Abs.FAn
  | 0 => Abs.FAn.mk (fun
    | 7 => some ⟨[49], Qs14, .nil⟩
    | 5 => some ⟨[39, 2], (.dat .bool (.st Qx48 .nil)), (.box 8 Qs30 .nil)⟩
    | 3 => some ⟨[28, 2], (.dat .bool (.st Qx48 .nil)), (.box 8 Qs30 .nil)⟩
    | 1 => some ⟨[5, 2], (.dat .bool (.st Qx48 .nil)), (.box 8 Qs30 .nil)⟩
    | _ => none) (fun _ => none) (fun _ => none) (fun
    | 5, 2 => 1
    | _, _ => 0)
  | 1 => Abs.FAn.mk (fun
    | 1 => some ⟨[4], Qs14, .nil⟩
    | _ => none) (fun _ => none) (fun _ => none) (fun
    | 1, 2 => 2
    | _, _ => 0)
  | 2 => Abs.FAn.mk (fun _ => none) (fun _ => none) (fun
    | 2 => some ⟨⟨[8, 0, 1, 7], (.dat (.int .i64) (.dat (.row (.cons .str (.cons (.int .i64) (.cons .str .unit)))) (.st (.clo 93 []) Qs5))), .nil⟩, (.more .ret ⟨[4], Qs5, .nil⟩ (.one (.exit 0) ⟨[], .nil, .nil⟩))⟩
    | _ => none) (fun _ _ => 0)
  | _ => {}

theorem ok84 : Abs.SpecOK Try.prog 84 sp84 :=
  okW (an := an84) (alc ok93 (alc ok94 al0)) rfl (by intro v; kernel_rfl)

def l67_0_6 (v : ((Int × (List Y4) × (List Y4) × Int × Unit) × (Unit))) : Option (((Int × (List Y4) × (List Y4) × Int × Unit) × (Unit)) ⊕ (((Int × Unit) × (Unit)) ⊕ (((List Y4) × Unit) × (Unit)))) :=
bif (decide ((v.1.1 : Int) < v.1.2.2.2.1)) then (Abs.rowAt v.1.2.1 v.1.1 fun e23 _ =>
(m84 ((e23, (v.1.1, ())), ())).bind fun u24 =>
bif ((u24.1.1 : Int) != 0) then (some (.inr (.inl ((u24.1.1, ()), ()))))
else (some (.inl (((w64 (v.1.1 + 1)), (v.1.2.1, (v.1.2.2.1, (v.1.2.2.2.1, ())))), ()))))
else (some (.inr (.inr ((v.1.2.2.1, ()), ()))))

/- pagewatch/route.Check -/
def i67 : Abs.Sg := ⟨[0], (.dat (.row Z3) .nil), .nil⟩

def o67 : Abs.Sg := ⟨[2], Qs5, .nil⟩

def m67 (v : (((List Y4) × Unit) × (Unit))) : Option ((Int × Unit) × (Unit)) :=
bif (((v.1.1.length : Int) : Int) == 0) then (some ((7, ()), ()))
else (bif (decide (((v.1.1.length : Int) : Int) > 24)) then (some ((5, ()), ()))
else ((loopT l67_0_6 ((0, (v.1.1, (v.1.1, ((v.1.1.length : Int), ())))), ())).bind fun d25 =>
sumE d25 (fun d26 => (some ((d26.1.1, ()), ()))) (fun d27 => (Abs.rowAt d27.1.1 0 fun e28 _ =>
bif (decide (((e28.2.1.length : Int) : Int) > 0)) then (some ((8, ()), ()))
else (some ((0, ()), ()))))))

def sp67 : Abs.Spec := ⟨0, i67, o67, m67⟩

def an67 : Nat → Abs.FAn
  | 0 => Abs.FAn.mk (fun _ => none) (fun _ => none) (fun
    | 6 => some ⟨⟨[16, 14, 0, 15], (.dat (.int .i64) (.dat (.row Z3) (.dat (.row Z3) Qs5))), .nil⟩, (.more .ret ⟨[2], Qs5, .nil⟩ (.one (.exit 1) ⟨[0], (.dat (.row Z3) .nil), .nil⟩))⟩
    | _ => none) (fun _ _ => 0)
  | _ => {}

theorem ok67 : Abs.SpecOK Try.prog 67 sp67 :=
  okW (an := an67) (alc ok84 al0) rfl (by intro v; kernel_rfl)

/- pagewatch/group.right -/
def i36 : Abs.Sg := ⟨[0], Qs30, .nil⟩

def o36 : Abs.Sg := ⟨[2], Qs14, .nil⟩

def m36 (v : ((Y4 × Unit) × (Unit))) : Option Y14 :=
(m67 ((([((-1), ([], v.1.1.2.2))] : List Y4), ()), ())).bind fun u2 =>
some ((((u2.1.1 : Int) == 0), ()), ())

def sp36 : Abs.Spec := ⟨0, i36, o36, m36⟩

def an36 : Nat → Abs.FAn
  | _ => {}

theorem ok36 : Abs.SpecOK Try.prog 36 sp36 :=
  okW (an := an36) (alc ok67 al0) rfl (by intro v; kernel_rfl)

/- 72 slices.BinarySearchFunc[[]pagewatch/api.Member,pagewatch/api.Member,string]: not told by a law: a parameter -/

/- cmp.isNaN[string] -/
def i89 : Abs.Sg := ⟨[0], Qs31, .nil⟩

def o89 : Abs.Sg := ⟨[2], Qs14, .nil⟩

def m89 (v : ((ByteArray × Unit) × (Unit))) : Option Y14 :=
some (((!(v.1.1.toList == v.1.1.toList)), ()), ())

def sp89 : Abs.Spec := ⟨0, i89, o89, m89⟩

def an89 : Nat → Abs.FAn
  | _ => {}

theorem ok89 : Abs.SpecOK Try.prog 89 sp89 :=
  okW (an := an89) al0 rfl (by intro v; kernel_rfl)

/- cmp.Compare[string] -/
def i74 : Abs.Sg := ⟨[0, 1], (.dat .str Qs31), .nil⟩

def o74 : Abs.Sg := ⟨[4], Qs5, .nil⟩

def m74 (v : ((ByteArray × ByteArray × Unit) × (Unit))) : Option ((Int × Unit) × (Unit)) :=
(m89 ((v.1.1, ()), ())).bind fun u6 =>
(m89 ((v.1.2.1, ()), ())).bind fun u7 =>
bif u6.1.1 then (bif u7.1.1 then (some ((0, ()), ()))
else (some (((-1), ()), ())))
else (bif u7.1.1 then (some ((1, ()), ()))
else (bif (Op.bytesLess v.1.1.toList v.1.2.1.toList) then (some (((-1), ()), ()))
else (bif (!(Op.bytesLess v.1.1.toList v.1.2.1.toList || v.1.1.toList == v.1.2.1.toList)) then (some ((1, ()), ()))
else (some ((0, ()), ())))))

def sp74 : Abs.Spec := ⟨0, i74, o74, m74⟩

def an74 : Nat → Abs.FAn
  | _ => {}

theorem ok74 : Abs.SpecOK Try.prog 74 sp74 :=
  okW (an := an74) (alc ok89 al0) rfl (by intro v; kernel_rfl)

/- pagewatch/group.find$1 -/
def i73 : Abs.Sg := ⟨[0, 1], (.dat Z1 Qs31), .nil⟩

def o73 : Abs.Sg := ⟨[4], Qs5, .nil⟩

def m73 (v : ((Y17 × ByteArray × Unit) × (Unit))) : Option ((Int × Unit) × (Unit)) :=
(m74 ((v.1.1.1, (v.1.2.1, ())), ())).bind fun u2 =>
some ((u2.1.1, ()), ())

def sp73 : Abs.Spec := ⟨0, i73, o73, m73⟩

def an73 : Nat → Abs.FAn
  | _ => {}

theorem ok73 : Abs.SpecOK Try.prog 73 sp73 :=
  okW (an := an73) (alc ok74 al0) rfl (by intro v; kernel_rfl)

def l40_1_3 (v : ((ByteArray × Y2 × Int × Int × Int × Unit) × (Unit))) : Option (((ByteArray × Y2 × Int × Int × Int × Unit) × (Unit)) ⊕ ((ByteArray × Int × Y2 × Int × Unit) × (Unit))) :=
bif (decide ((v.1.2.2.2.1 : Int) < v.1.2.2.1)) then (let x30 := (IntKind.wrap .u64 ((w64 (v.1.2.2.2.1 + v.1.2.2.1))))
bif (decide ((0 : Int) ≤ 1)) then
Abs.rowAt v.1.2.1 (w64 ((shrI .u64 (x30) (1)))) fun e31 _ =>
(m73 ((e31, (v.1.1, ())), ())).bind fun u32 =>
bif (decide ((u32.1.1 : Int) < 0)) then (some (.inl ((v.1.1, (v.1.2.1, (v.1.2.2.1, ((w64 ((w64 ((shrI .u64 (x30) (1)))) + 1)), (v.1.2.2.2.2.1, ()))))), ())))
else (some (.inl ((v.1.1, (v.1.2.1, ((w64 ((shrI .u64 (x30) (1)))), (v.1.2.2.2.1, (v.1.2.2.2.2.1, ()))))), ())))
else none)
else (some (.inr ((v.1.1, (v.1.2.2.2.1, (v.1.2.1, (v.1.2.2.2.2.1, ())))), ())))

/- pagewatch/group.find -/
def i40 : Abs.Sg := ⟨[0, 1], (.dat Z5 Qs31), .nil⟩

def o40 : Abs.Sg := ⟨[4, 5], (.dat (.int .i64) Qs14), .nil⟩

def m40 (v : ((Y7 × ByteArray × Unit) × (Unit))) : Option ((Int × Bool × Unit) × (Unit)) :=
(loopT l40_1_3 ((v.1.2.1, (v.1.1.2.2.1, ((v.1.1.2.2.1.length : Int), (0, ((v.1.1.2.2.1.length : Int), ()))))), ())).bind fun d33 =>
((bif (decide ((d33.1.2.1 : Int) < d33.1.2.2.2.1)) then (Abs.rowAt d33.1.2.2.1 d33.1.2.1 fun e34 _ =>
(m73 ((e34, (d33.1.1, ())), ())).bind fun u35 =>
some ((d33.1.2.1, (((u35.1.1 : Int) == 0), ())), ()))
else (some ((d33.1.2.1, (false, ())), ()))) : Option ((Int × Bool × Unit) × (Unit))).bind fun v36 =>
some ((v36.1.1, (v36.1.2.1, ())), ())

def sp40 : Abs.Spec := ⟨0, i40, o40, m40⟩

def an40 : Nat → Abs.FAn
  | 0 => Abs.FAn.mk (fun _ => none) (fun _ => none) (fun _ => none) (fun
    | 1, 3 => 1
    | _, _ => 0)
  | 1 => Abs.FAn.mk (fun
    | 8 => some ⟨[6, 7], (.dat (.int .i64) Qs14), .nil⟩
    | _ => none) (fun _ => none) (fun
    | 3 => some ⟨⟨[1, 0, 2, 10, 9, 8], (.dat .str (.dat (.row Z1) (.st (.clo 73 []) (.dat (.int .i64) Qs1)))), .nil⟩, (.one (.exit 0) ⟨[1, 9, 0, 2, 8], (.dat .str (.dat (.int .i64) (.dat (.row Z1) (.st (.clo 73 []) Qs5)))), .nil⟩)⟩
    | _ => none) (fun _ _ => 0)
  | _ => {}

theorem ok40 : Abs.SpecOK Try.prog 40 sp40 :=
  okW (an := an40) (alc ok73 al0) rfl (by intro v; kernel_rfl)

/- slices.Clone[[]pagewatch/api.Member,pagewatch/api.Member]: the copy of a row -/
def i75 : Abs.Sg := ⟨[0], (.dat (.row Z1) .nil), .nil⟩

def o75 : Abs.Sg := ⟨[2], (.st (.own Z1 (0, 0)) .nil), Qb34⟩

def m75 (v : ((Y2 × Unit) × (Unit))) : Option ((Unit) × (Y2 × Unit)) :=
bif (decide (v.1.1.length ≤ 4294967296)) then some ((), (v.1.1, ())) else none

def sp75 : Abs.Spec := ⟨0, i75, o75, m75⟩

theorem ok75 : Abs.SpecOK Try.prog 75 sp75 :=
  Abs.clone_ok (N := note) (t := Z1) foll (Abs.specOK_of (n := 12) (an := fun _ => {}) (T := Abs.tabOf []) good foll (Abs.tabOf_ok _ (fun _ h => by cases h)) rfl (by intro v; kernel_rfl)) (by kernel_rfl) (by kernel_rfl)

/- slices.Clone[[]pagewatch/api.Label,pagewatch/api.Label]: the copy of a row -/
def i43 : Abs.Sg := ⟨[0], (.dat (.row Z13) .nil), .nil⟩

def o43 : Abs.Sg := ⟨[2], (.st (.own Z13 (0, 0)) .nil), (.arr Z13 false .nil)⟩

def m43 (v : ((Y9 × Unit) × (Unit))) : Option ((Unit) × (Y9 × Unit)) :=
bif (decide (v.1.1.length ≤ 4294967296)) then some ((), (v.1.1, ())) else none

def sp43 : Abs.Spec := ⟨0, i43, o43, m43⟩

theorem ok43 : Abs.SpecOK Try.prog 43 sp43 :=
  Abs.clone_ok (N := note) (t := Z13) foll (Abs.specOK_of (n := 12) (an := fun _ => {}) (T := Abs.tabOf []) good foll (Abs.tabOf_ok _ (fun _ h => by cases h)) rfl (by intro v; kernel_rfl)) (by kernel_rfl) (by kernel_rfl)

def l41_0_3 (v : ((Int × Int × Unit) × (Y6 × Y6 × Y2 × Unit))) : Option (((Int × Int × Unit) × (Y6 × Y6 × Y2 × Unit)) ⊕ ((Unit) × (Y6 × Y6 × Y2 × Unit))) :=
bif (decide ((v.1.1 : Int) < v.1.2.1)) then (bif (decide ((0 : Int) ≤ v.1.1 ∧ (v.1.1 : Int) < v.2.2.2.1.length)) then
(v.2.2.2.1[v.1.1.toNat]?).bind fun e22 =>
(m43 ((e22.2.1, ()), ())).bind fun u23 =>
bif (decide ((0 : Int) ≤ v.1.1 ∧ (v.1.1 : Int) < v.2.2.2.1.length)) then
(v.2.2.2.1[v.1.1.toNat]?).bind fun e24 =>
some (.inl (((w64 (v.1.1 + 1)), (v.1.2.1, ())), (((v.2.1.1.1, (v.2.1.1.2.1, (v.2.1.1.2.2.1, (v.2.1.1.2.2.2.1, ())))), ()), (((v.2.2.1.1.1, (v.2.2.1.1.2.1, (v.2.2.1.1.2.2.1, (v.2.2.1.1.2.2.2.1, ())))), ()), ((v.2.2.2.1.set v.1.1.toNat (e24.1, (u23.2.1, e24.2.2))), ())))))
else none
else none)
else (some (.inr ((), (((v.2.2.1.1.1, (v.2.2.1.1.2.1, (v.2.2.1.1.2.2.1, (v.2.2.1.1.2.2.2.1, ())))), ()), (((v.2.1.1.1, (v.2.1.1.2.1, (v.2.1.1.2.2.1, (v.2.1.1.2.2.2.1, ())))), ()), (v.2.2.2.1, ()))))))

/- pagewatch/group.Copy -/
def i41 : Abs.Sg := ⟨[0], Qs33, .nil⟩

def o41 : Abs.Sg := ⟨[2], (.st Qx9 .nil), Qb10⟩

def m41 (v : ((Y7 × Unit) × (Unit))) : Option ((Unit) × (Y6 × Y2 × Unit)) :=
(m75 ((v.1.1.2.2.1, ()), ())).bind fun u21 =>
(loopT l41_0_3 ((0, (((u21.2.1.length : Nat) : Int), ())), (((v.1.1.1, (v.1.1.2.1, (v.1.1.2.2.2.1, (v.1.1.2.2.2.2.1, ())))), ()), (((0, (ByteArray.empty, (0, (0, ())))), ()), (u21.2.1, ()))))).bind fun d25 =>
some ((), (((d25.2.2.1.1.1, (d25.2.2.1.1.2.1, (d25.2.2.1.1.2.2.1, (d25.2.2.1.1.2.2.2.1, ())))), ()), (d25.2.2.2.1, ())))

def sp41 : Abs.Spec := ⟨0, i41, o41, m41⟩

def an41 : Nat → Abs.FAn
  | 0 => Abs.FAn.mk (fun _ => none) (fun _ => none) (fun
    | 3 => some ⟨⟨[11, 1, 2, 10], (.dat (.int .i64) (.st Qx9 (.st Qx15 Qs5))), (.box 5 (.agg (.dat (.int .i64) (.dat .str (.st (.own Z1 (2, 0)) Qs1))) .nil) (.box 5 Qs2 Qb34))⟩, (.one (.exit 0) ⟨[2, 1], Qs44, (.box 5 Qs2 Qb17)⟩)⟩
    | _ => none) (fun _ _ => 0)
  | _ => {}

theorem ok41 : Abs.SpecOK Try.prog 41 sp41 :=
  okW (an := an41) (alc ok75 (alc ok43 al0)) rfl (by intro v; kernel_rfl)

/- 76 slices.Delete[[]pagewatch/api.Member,pagewatch/api.Member]: not told by a law: run where it is called -/

/- pagewatch/group.limited -/
def i55 : Abs.Sg := ⟨[0], Qs5, .nil⟩

def o55 : Abs.Sg := ⟨[2], Qs5, .nil⟩

def m55 (v : ((Int × Unit) × (Unit))) : Option ((Int × Unit) × (Unit)) :=
bif (decide ((v.1.1 : Int) > 8589934592)) then (some (((-1), ()), ()))
else (some ((v.1.1, ()), ()))

def sp55 : Abs.Spec := ⟨0, i55, o55, m55⟩

def an55 : Nat → Abs.FAn
  | _ => {}

theorem ok55 : Abs.SpecOK Try.prog 55 sp55 :=
  okW (an := an55) al0 rfl (by intro v; kernel_rfl)

/- warnings: store: pointer &e3.4; Delete [row v.2.1.1.2.2.1, v.1.2.1, (w64 (v.1.2.1 + 1))] -/

/- warnings: store: pointer &e16.0 -/

/- 44 slices.Insert[[]pagewatch/api.Member,pagewatch/api.Member]: not told by a law: run where it is called -/

/- pagewatch/group.Empty -/
def i25 : Abs.Sg := ⟨[0], Qs33, .nil⟩

def o25 : Abs.Sg := ⟨[2], Qs14, .nil⟩

def m25 (v : ((Y7 × Unit) × (Unit))) : Option Y14 :=
some (((((v.1.1.2.2.1.length : Int) : Int) == 0), ()), ())

def sp25 : Abs.Spec := ⟨0, i25, o25, m25⟩

def an25 : Nat → Abs.FAn
  | _ => {}

theorem ok25 : Abs.SpecOK Try.prog 25 sp25 :=
  okW (an := an25) al0 rfl (by intro v; kernel_rfl)

/- pagewatch/group.Add -/
def i14 : Abs.Sg := ⟨[0, 1, 2, 3, 4], (.dat Z5 (.dat Z3 (.dat (.row Z13) (.dat .bool Qs5)))), .nil⟩

def o14 : Abs.Sg := ⟨[10, 11], (.st Qx9 Qs5), Qb10⟩

def m14 (v : ((Y7 × Y4 × Y9 × Bool × Int × Unit) × (Unit))) : Option ((Int × Unit) × (Y6 × Y2 × Unit)) :=
(((m23 ((v.1.1, ()), ())).bind fun u149 =>
bif (!u149.1.1) then (some ((true, (v.1.2.2.2.2.1, (v.1.2.2.2.1, (v.1.2.2.1, ())))), (((0, (ByteArray.empty, (0, (0, ())))), ()), ((v.1.1, ()), ((v.1.2.1, ()), ())))))
else ((m36 ((v.1.2.1, ()), ())).bind fun u150 =>
bif (!u150.1.1) then (some ((true, (v.1.2.2.2.2.1, (v.1.2.2.2.1, (v.1.2.2.1, ())))), (((0, (ByteArray.empty, (0, (0, ())))), ()), ((v.1.1, ()), ((v.1.2.1, ()), ())))))
else ((m37 ((v.1.2.2.1, ()), ())).bind fun u151 =>
some (((!u151.1.1), (v.1.2.2.2.2.1, (v.1.2.2.2.1, (v.1.2.2.1, ())))), (((0, (ByteArray.empty, (0, (0, ())))), ()), ((v.1.1, ()), ((v.1.2.1, ()), ()))))))) : Option ((Bool × Int × Bool × Y9 × Unit) × (Y6 × (Y7 × Unit) × (Y4 × Unit) × Unit))).bind fun v152 =>
bif v152.1.1 then (some ((8, ()), (((0, (ByteArray.empty, (0, (0, ())))), ()), ([], ()))))
else ((m38 ((v152.1.2.1, (0, (8589934592, ()))), ())).bind fun u153 =>
bif (!u153.1.1) then (some ((1, ()), (((0, (ByteArray.empty, (0, (0, ())))), ()), ([], ()))))
else ((m39 ((v152.1.2.2.2.1, ()), ())).bind fun u154 =>
(m40 ((v152.2.2.1.1, (u154.1.1, ())), ())).bind fun u155 =>
(m41 ((v152.2.2.1.1, ()), ())).bind fun u156 =>
((bif u155.1.2.1 then (bif (decide ((0 : Int) ≤ u155.1.1 ∧ (u155.1.1 : Int) < u156.2.2.1.length)) then
(u156.2.2.1[u155.1.1.toNat]?).bind fun e157 =>
((bif (decide ((0 : Int) ≤ u155.1.1 ∧ (u155.1.1 : Int) < (u156.2.2.1.set u155.1.1.toNat (e157.1, (e157.2.1, (e157.2.2.1, (v152.1.2.1, e157.2.2.2.2))))).length)) then
((u156.2.2.1.set u155.1.1.toNat (e157.1, (e157.2.1, (e157.2.2.1, (v152.1.2.1, e157.2.2.2.2)))))[u155.1.1.toNat]?).bind fun e158 =>
bif (e158.2.2.2.2.1 == v152.1.2.2.1) then (bif (decide ((u156.2.2.1.set u155.1.1.toNat (e157.1, (e157.2.1, (e157.2.2.1, (v152.1.2.1, e157.2.2.2.2))))).length = (u156.2.2.1.set u155.1.1.toNat (e157.1, (e157.2.1, (e157.2.2.1, (v152.1.2.1, e157.2.2.2.2))))).length) && true) then
some ((), (((v152.2.1.1.1, (v152.2.1.1.2.1, (v152.2.1.1.2.2.1, (v152.2.1.1.2.2.2.1, ())))), ()), (((u156.2.1.1.1, (u156.2.1.1.2.1, (u156.2.1.1.2.2.1, (u156.2.1.1.2.2.2.1, ())))), ()), ((u156.2.2.1.set u155.1.1.toNat (e157.1, (e157.2.1, (e157.2.2.1, (v152.1.2.1, e157.2.2.2.2))))), ()))))
else none)
else (bif v152.1.2.2.1 then (((u156.2.2.1.set u155.1.1.toNat (e157.1, (e157.2.1, (e157.2.2.1, (v152.1.2.1, e157.2.2.2.2)))))[u155.1.1.toNat]?).bind fun e159 =>
(((u156.2.2.1.set u155.1.1.toNat (e157.1, (e157.2.1, (e157.2.2.1, (v152.1.2.1, e157.2.2.2.2))))).set u155.1.1.toNat (e159.1, (e159.2.1, (e159.2.2.1, (e159.2.2.2.1, (true, e159.2.2.2.2.2))))))[u155.1.1.toNat]?).bind fun e160 =>
((((u156.2.2.1.set u155.1.1.toNat (e157.1, (e157.2.1, (e157.2.2.1, (v152.1.2.1, e157.2.2.2.2))))).set u155.1.1.toNat (e159.1, (e159.2.1, (e159.2.2.1, (e159.2.2.2.1, (true, e159.2.2.2.2.2)))))).set u155.1.1.toNat (e160.1, (e160.2.1, (e160.2.2.1, (e160.2.2.2.1, (e160.2.2.2.2.1, (true, ())))))))[u155.1.1.toNat]?).bind fun e161 =>
bif (decide (((((u156.2.2.1.set u155.1.1.toNat (e157.1, (e157.2.1, (e157.2.2.1, (v152.1.2.1, e157.2.2.2.2))))).set u155.1.1.toNat (e159.1, (e159.2.1, (e159.2.2.1, (e159.2.2.2.1, (true, e159.2.2.2.2.2)))))).set u155.1.1.toNat (e160.1, (e160.2.1, (e160.2.2.1, (e160.2.2.2.1, (e160.2.2.2.2.1, (true, ()))))))).set u155.1.1.toNat (e161.1, (e161.2.1, (v152.1.2.1, e161.2.2.2)))).length = (u156.2.2.1.set u155.1.1.toNat (e157.1, (e157.2.1, (e157.2.2.1, (v152.1.2.1, e157.2.2.2.2))))).length) && true) then
some ((), (((v152.2.1.1.1, (v152.2.1.1.2.1, (v152.2.1.1.2.2.1, (v152.2.1.1.2.2.2.1, ())))), ()), (((u156.2.1.1.1, (u156.2.1.1.2.1, (u156.2.1.1.2.2.1, (u156.2.1.1.2.2.2.1, ())))), ()), (((((u156.2.2.1.set u155.1.1.toNat (e157.1, (e157.2.1, (e157.2.2.1, (v152.1.2.1, e157.2.2.2.2))))).set u155.1.1.toNat (e159.1, (e159.2.1, (e159.2.2.1, (e159.2.2.2.1, (true, e159.2.2.2.2.2)))))).set u155.1.1.toNat (e160.1, (e160.2.1, (e160.2.2.1, (e160.2.2.2.1, (e160.2.2.2.2.1, (true, ()))))))).set u155.1.1.toNat (e161.1, (e161.2.1, (v152.1.2.1, e161.2.2.2)))), ()))))
else none)
else (((u156.2.2.1.set u155.1.1.toNat (e157.1, (e157.2.1, (e157.2.2.1, (v152.1.2.1, e157.2.2.2.2)))))[u155.1.1.toNat]?).bind fun e162 =>
bif (!e162.2.2.2.2.2.1) then (bif (decide ((0 : Int) ≤ u155.1.1 ∧ (u155.1.1 : Int) < (w64 (u155.1.1 + 1)) ∧ ((w64 (u155.1.1 + 1)) : Int) ≤ (u156.2.2.1.set u155.1.1.toNat (e157.1, (e157.2.1, (e157.2.2.1, (v152.1.2.1, e157.2.2.2.2))))).length ∧ (u156.2.2.1.set u155.1.1.toNat (e157.1, (e157.2.1, (e157.2.2.1, (v152.1.2.1, e157.2.2.2.2))))).length ≤ 4294967296)) then
bif (decide ((u156.2.2.1.set u155.1.1.toNat (e157.1, (e157.2.1, (e157.2.2.1, (v152.1.2.1, e157.2.2.2.2))))).length = (u156.2.2.1.set u155.1.1.toNat (e157.1, (e157.2.1, (e157.2.2.1, (v152.1.2.1, e157.2.2.2.2))))).length) && true) then
bif (decide ((u156.2.2.1.set u155.1.1.toNat (e157.1, (e157.2.1, (e157.2.2.1, (v152.1.2.1, e157.2.2.2.2))))).length = (u156.2.2.1.set u155.1.1.toNat (e157.1, (e157.2.1, (e157.2.2.1, (v152.1.2.1, e157.2.2.2.2))))).length) && true) then
some ((), (((v152.2.1.1.1, (v152.2.1.1.2.1, (v152.2.1.1.2.2.1, (v152.2.1.1.2.2.2.1, ())))), ()), (((u156.2.1.1.1, (u156.2.1.1.2.1, (u156.2.1.1.2.2.1, (u156.2.1.1.2.2.2.1, ())))), ()), (((u156.2.2.1.set u155.1.1.toNat (e157.1, (e157.2.1, (e157.2.2.1, (v152.1.2.1, e157.2.2.2.2))))).take u155.1.1.toNat ++ (u156.2.2.1.set u155.1.1.toNat (e157.1, (e157.2.1, (e157.2.2.1, (v152.1.2.1, e157.2.2.2.2))))).drop (w64 (u155.1.1 + 1)).toNat), ()))))
else none
else none
else none)
else (((u156.2.2.1.set u155.1.1.toNat (e157.1, (e157.2.1, (e157.2.2.1, (v152.1.2.1, e157.2.2.2.2)))))[u155.1.1.toNat]?).bind fun e163 =>
(((u156.2.2.1.set u155.1.1.toNat (e157.1, (e157.2.1, (e157.2.2.1, (v152.1.2.1, e157.2.2.2.2))))).set u155.1.1.toNat (e163.1, (e163.2.1, (e163.2.2.1, (e163.2.2.2.1, (false, e163.2.2.2.2.2))))))[u155.1.1.toNat]?).bind fun e164 =>
((((u156.2.2.1.set u155.1.1.toNat (e157.1, (e157.2.1, (e157.2.2.1, (v152.1.2.1, e157.2.2.2.2))))).set u155.1.1.toNat (e163.1, (e163.2.1, (e163.2.2.1, (e163.2.2.2.1, (false, e163.2.2.2.2.2)))))).set u155.1.1.toNat (e164.1, (e164.2.1, (e164.2.2.1, (e164.2.2.2.1, (e164.2.2.2.2.1, (false, ())))))))[u155.1.1.toNat]?).bind fun e165 =>
((bif ((u156.2.1.1.2.2.2.1 : Int) != (-1)) then (let x166 := (w64 (u156.2.1.1.2.2.2.1 + v152.2.2.2.1.1.2.2.2.2.2.1))
let x167 := (if (x166 : Int) > v152.1.2.1 then x166 else v152.1.2.1)
some ((x167, ()), (((u156.2.1.1.1, (u156.2.1.1.2.1, (u156.2.1.1.2.2.1, (u156.2.1.1.2.2.2.1, ())))), ()), (((((u156.2.2.1.set u155.1.1.toNat (e157.1, (e157.2.1, (e157.2.2.1, (v152.1.2.1, e157.2.2.2.2))))).set u155.1.1.toNat (e163.1, (e163.2.1, (e163.2.2.1, (e163.2.2.2.1, (false, e163.2.2.2.2.2)))))).set u155.1.1.toNat (e164.1, (e164.2.1, (e164.2.2.1, (e164.2.2.2.1, (e164.2.2.2.2.1, (false, ()))))))).set u155.1.1.toNat (e165.1, (e165.2.1, (v152.1.2.1, e165.2.2.2)))), ()))))
else (some (((w64 (v152.1.2.1 + v152.2.2.2.1.1.2.2.2.2.1)), ()), (((u156.2.1.1.1, (u156.2.1.1.2.1, (u156.2.1.1.2.2.1, (u156.2.1.1.2.2.2.1, ())))), ()), (((((u156.2.2.1.set u155.1.1.toNat (e157.1, (e157.2.1, (e157.2.2.1, (v152.1.2.1, e157.2.2.2.2))))).set u155.1.1.toNat (e163.1, (e163.2.1, (e163.2.2.1, (e163.2.2.2.1, (false, e163.2.2.2.2.2)))))).set u155.1.1.toNat (e164.1, (e164.2.1, (e164.2.2.1, (e164.2.2.2.1, (e164.2.2.2.2.1, (false, ()))))))).set u155.1.1.toNat (e165.1, (e165.2.1, (v152.1.2.1, e165.2.2.2)))), ()))))) : Option ((Int × Unit) × (Y6 × Y2 × Unit))).bind fun v168 =>
((bif ((v168.2.1.1.2.2.1 : Int) != (-1)) then (let x169 := (if (v168.2.1.1.2.2.1 : Int) < v168.1.1 then v168.2.1.1.2.2.1 else v168.1.1)
some ((x169, ()), (((v168.2.1.1.1, (v168.2.1.1.2.1, (v168.2.1.1.2.2.1, (v168.2.1.1.2.2.2.1, ())))), ()), (v168.2.2.1, ()))))
else (some ((v168.1.1, ()), (((v168.2.1.1.1, (v168.2.1.1.2.1, (v168.2.1.1.2.2.1, (v168.2.1.1.2.2.2.1, ())))), ()), (v168.2.2.1, ()))))) : Option ((Int × Unit) × (Y6 × Y2 × Unit))).bind fun v170 =>
(m55 ((v170.1.1, ()), ())).bind fun u171 =>
bif (decide (v170.2.2.1.length = ((((u156.2.2.1.set u155.1.1.toNat (e157.1, (e157.2.1, (e157.2.2.1, (v152.1.2.1, e157.2.2.2.2))))).set u155.1.1.toNat (e163.1, (e163.2.1, (e163.2.2.1, (e163.2.2.2.1, (false, e163.2.2.2.2.2)))))).set u155.1.1.toNat (e164.1, (e164.2.1, (e164.2.2.1, (e164.2.2.2.1, (e164.2.2.2.2.1, (false, ()))))))).set u155.1.1.toNat (e165.1, (e165.2.1, (v152.1.2.1, e165.2.2.2)))).length) && true) then
bif (decide (v170.2.2.1.length = (u156.2.2.1.set u155.1.1.toNat (e157.1, (e157.2.1, (e157.2.2.1, (v152.1.2.1, e157.2.2.2.2))))).length) && true) then
some ((), (((v152.2.1.1.1, (v152.2.1.1.2.1, (v152.2.1.1.2.2.1, (v152.2.1.1.2.2.2.1, ())))), ()), (((v170.2.1.1.1, (v170.2.1.1.2.1, (u171.1.1, (v170.2.1.1.2.2.2.1, ())))), ()), (v170.2.2.1, ()))))
else none
else none)))
else none) : Option ((Unit) × (Y6 × Y6 × Y2 × Unit))).bind fun v172 =>
some (.inl ((), (((v172.2.1.1.1, (v172.2.1.1.2.1, (v172.2.1.1.2.2.1, (v172.2.1.1.2.2.2.1, ())))), ()), (((v172.2.2.1.1.1, (v172.2.2.1.1.2.1, (v172.2.2.1.1.2.2.1, (v172.2.2.1.1.2.2.2.1, ())))), ()), (v172.2.2.2.1, ())))))
else none)
else (((bif v152.1.2.2.1 then (let x173 := ((((u156.2.2.1.length : Nat) : Int) : Int) == 256)
some ((x173, (v152.1.2.1, (u155.1.1, (v152.1.2.2.2.1, (u154.1.1, (v152.1.2.2.1, ())))))), (((v152.2.1.1.1, (v152.2.1.1.2.1, (v152.2.1.1.2.2.1, (v152.2.1.1.2.2.2.1, ())))), ()), (((u156.2.1.1.1, (u156.2.1.1.2.1, (u156.2.1.1.2.2.1, (u156.2.1.1.2.2.2.1, ())))), ()), ((v152.2.2.2.1.1, ()), (u156.2.2.1, ()))))))
else (some ((false, (v152.1.2.1, (u155.1.1, (v152.1.2.2.2.1, (u154.1.1, (v152.1.2.2.1, ())))))), (((v152.2.1.1.1, (v152.2.1.1.2.1, (v152.2.1.1.2.2.1, (v152.2.1.1.2.2.2.1, ())))), ()), (((u156.2.1.1.1, (u156.2.1.1.2.1, (u156.2.1.1.2.2.1, (u156.2.1.1.2.2.2.1, ())))), ()), ((v152.2.2.2.1.1, ()), (u156.2.2.1, ()))))))) : Option ((Bool × Int × Int × Y9 × ByteArray × Bool × Unit) × (Y6 × Y6 × (Y4 × Unit) × Y2 × Unit))).bind fun v174 =>
bif v174.1.1 then (some (.inr ((5, ()), (((0, (ByteArray.empty, (0, (0, ())))), ()), ()))))
else (bif v174.1.2.2.2.2.2.1 then ((m43 ((v174.1.2.2.2.1, ()), ())).bind fun u175 =>
bif (decide ((0 : Int) ≤ v174.1.2.2.1 ∧ (v174.1.2.2.1 : Int) ≤ v174.2.2.2.2.1.length ∧ v174.2.2.2.2.1.length ≤ 4294967295 ∧ ([(v174.1.2.2.2.2.1, (u175.2.1, (v174.1.2.1, (v174.1.2.1, (true, (false, ()))))))] : List Y17).length = 1)) then
bif (decide (v174.2.2.2.2.1.length = v174.2.2.2.2.1.length) && (decide (([(v174.1.2.2.2.2.1, (u175.2.1, (v174.1.2.1, (v174.1.2.1, (true, (false, ()))))))] : List Y17).length = ([(v174.1.2.2.2.2.1, (u175.2.1, (v174.1.2.1, (v174.1.2.1, (true, (false, ()))))))] : List Y17).length) && true)) then
((bif ((v174.2.2.1.1.2.2.2.1 : Int) != (-1)) then (let x176 := (w64 (v174.2.2.1.1.2.2.2.1 + v174.2.2.2.1.1.2.2.2.2.2.1))
let x177 := (if (x176 : Int) > v174.1.2.1 then x176 else v174.1.2.1)
some ((x177, ()), (((v174.2.2.1.1.1, (v174.2.2.1.1.2.1, (v174.2.2.1.1.2.2.1, (v174.2.2.1.1.2.2.2.1, ())))), ()), ((v174.2.2.2.2.1.take v174.1.2.2.1.toNat ++ ([(v174.1.2.2.2.2.1, (u175.2.1, (v174.1.2.1, (v174.1.2.1, (true, (false, ()))))))] : List Y17) ++ v174.2.2.2.2.1.drop v174.1.2.2.1.toNat), ()))))
else (some (((w64 (v174.1.2.1 + v174.2.2.2.1.1.2.2.2.2.1)), ()), (((v174.2.2.1.1.1, (v174.2.2.1.1.2.1, (v174.2.2.1.1.2.2.1, (v174.2.2.1.1.2.2.2.1, ())))), ()), ((v174.2.2.2.2.1.take v174.1.2.2.1.toNat ++ ([(v174.1.2.2.2.2.1, (u175.2.1, (v174.1.2.1, (v174.1.2.1, (true, (false, ()))))))] : List Y17) ++ v174.2.2.2.2.1.drop v174.1.2.2.1.toNat), ()))))) : Option ((Int × Unit) × (Y6 × Y2 × Unit))).bind fun v178 =>
((bif ((v178.2.1.1.2.2.1 : Int) != (-1)) then (let x179 := (if (v178.2.1.1.2.2.1 : Int) < v178.1.1 then v178.2.1.1.2.2.1 else v178.1.1)
some ((x179, ()), (((v178.2.1.1.1, (v178.2.1.1.2.1, (v178.2.1.1.2.2.1, (v178.2.1.1.2.2.2.1, ())))), ()), (v178.2.2.1, ()))))
else (some ((v178.1.1, ()), (((v178.2.1.1.1, (v178.2.1.1.2.1, (v178.2.1.1.2.2.1, (v178.2.1.1.2.2.2.1, ())))), ()), (v178.2.2.1, ()))))) : Option ((Int × Unit) × (Y6 × Y2 × Unit))).bind fun v180 =>
(m55 ((v180.1.1, ()), ())).bind fun u181 =>
bif (decide (v180.2.2.1.length = (v174.2.2.2.2.1.take v174.1.2.2.1.toNat ++ ([(v174.1.2.2.2.2.1, (u175.2.1, (v174.1.2.1, (v174.1.2.1, (true, (false, ()))))))] : List Y17) ++ v174.2.2.2.2.1.drop v174.1.2.2.1.toNat).length) && true) then
some (.inl ((), (((v174.2.1.1.1, (v174.2.1.1.2.1, (v174.2.1.1.2.2.1, (v174.2.1.1.2.2.2.1, ())))), ()), (((v180.2.1.1.1, (v180.2.1.1.2.1, (u181.1.1, (v180.2.1.1.2.2.2.1, ())))), ()), (v180.2.2.1, ())))))
else none
else none
else none)
else (some (.inl ((), (((v174.2.1.1.1, (v174.2.1.1.2.1, (v174.2.1.1.2.2.1, (v174.2.1.1.2.2.2.1, ())))), ()), (((v174.2.2.1.1.1, (v174.2.2.1.1.2.1, (v174.2.2.1.1.2.2.1, (v174.2.2.1.1.2.2.2.1, ())))), ()), (v174.2.2.2.2.1, ()))))))))) : Option (((Unit) × (Y6 × Y6 × Y2 × Unit)) ⊕ ((Int × Unit) × (Y6 × Unit)))).bind fun r184 =>
sumE r184 (fun v182 => (((let x185 := ((((v182.2.2.2.1.length : Nat) : Int) : Int) == 0)
bif (decide (v182.2.2.2.1.length = v182.2.2.2.1.length) && true) then
bif x185 then (some ((), (v182.2.2.2.1, (((0, (ByteArray.empty, (0, (0, ())))), ()), (((v182.2.2.1.1.1, (v182.2.2.1.1.2.1, ((-1), (v182.2.2.1.1.2.2.2.1, ())))), ()), ())))))
else (some ((), (v182.2.2.2.1, (((0, (ByteArray.empty, (0, (0, ())))), ()), (((v182.2.2.1.1.1, (v182.2.2.1.1.2.1, (v182.2.2.1.1.2.2.1, (v182.2.2.1.1.2.2.2.1, ())))), ()), ())))))
else none) : Option ((Unit) × (Y2 × Y6 × Y6 × Unit))).bind fun v186 =>
bif (decide (v186.2.1.length = v182.2.2.2.1.length) && true) then
some ((0, ()), (((v186.2.2.2.1.1.1, (v186.2.2.2.1.1.2.1, (v186.2.2.2.1.1.2.2.1, (v186.2.2.2.1.1.2.2.2.1, ())))), ()), (v186.2.1, ())))
else none)) (fun d183 => (some ((d183.1.1, ()), (((d183.2.1.1.1, (d183.2.1.1.2.1, (d183.2.1.1.2.2.1, (d183.2.1.1.2.2.2.1, ())))), ()), ([], ())))))))

def sp14 : Abs.Spec := ⟨0, i14, o14, m14⟩

def an14 : Nat → Abs.FAn
  | 0 => Abs.FAn.mk (fun
    | 11 => some ⟨[59, 10, 5, 4, 6, 13, 2, 12, 3], (.dat .bool (.st Qx9 (.st Qx15 (.dat (.int .i64) (.st Qx38 (.dat (.int .i64) (.dat (.row Z13) (.dat .str Qs14)))))))), (.box 5 Qs2 (.box 5 (.agg (.dat (.int .i64) (.dat .str (.st (.own Z1 (3, 0)) Qs1))) .nil) (.box 8 Qs30 Qb34)))⟩
    | 10 => some ⟨[10, 5], Qs44, (.box 5 Qs2 Qb17)⟩
    | 1 => some ⟨[16, 10, 5, 4, 3, 6, 2], (.dat .bool (.st Qx9 (.st Qx15 (.dat (.int .i64) (.dat .bool (.st Qx38 (.dat (.row Z13) .nil))))))), (.box 5 Qs2 (.box 5 Qs33 (.box 8 Qs30 .nil)))⟩
    | _ => none) (fun
    | 17 => some (⟨[10, 5], Qs44, (.box 5 Qs2 Qb17)⟩, some (.one .ret ⟨[10, 11], (.st Qx9 Qs5), (.box 5 Qs2 .nil)⟩))
    | _ => none) (fun _ => none) (fun
    | 17, 1 => 4
    | 16, 2 => 3
    | 10, 4 => 1
    | _, _ => 0)
  | 1 => Abs.FAn.mk (fun _ => none) (fun _ => none) (fun _ => none) (fun
    | 3, 3 => 2
    | _, _ => 0)
  | 2 => Abs.FAn.mk (fun _ => none) (fun
    | 6 => some (⟨[6, 0], (.dat (.int .i64) (.st Qx9 .nil)), Qb10⟩, none)
    | 4 => some (⟨[0, 6], (.st Qx9 Qs5), Qb10⟩, none)
    | _ => none) (fun _ => none) (fun _ _ => 0)
  | 3 => Abs.FAn.mk (fun _ => none) (fun
    | 6 => some (⟨[6, 0], (.dat (.int .i64) (.st Qx9 .nil)), Qb10⟩, none)
    | 4 => some (⟨[0, 6], (.st Qx9 Qs5), Qb10⟩, none)
    | _ => none) (fun _ => none) (fun _ _ => 0)
  | 4 => Abs.FAn.mk (fun _ => none) (fun
    | 3 => some (⟨[2, 1], Qs45, Qb6⟩, none)
    | _ => none) (fun _ => none) (fun
    | 1, 1 => 5
    | _, _ => 0)
  | _ => {}

theorem ok14 : Abs.SpecOK Try.prog 14 sp14 :=
  okW (an := an14) (alc ok23 (alc ok36 (alc ok37 (alc ok38 (alc ok39 (alc ok40 (alc ok41 (alc ok55 (alc ok43 al0))))))))) rfl (by intro v; kernel_rfl)

def l82_0_2 (v : ((Int × (List ByteArray) × ByteArray × Int × Unit) × (Unit))) : Option (((Int × (List ByteArray) × ByteArray × Int × Unit) × (Unit)) ⊕ (((Int × Unit) × (Unit)) ⊕ ((Unit) × (Unit)))) :=
bif (decide ((v.1.1 : Int) < v.1.2.2.2.1)) then (Abs.rowAt v.1.2.1 v.1.1 fun e13 _ =>
bif (v.1.2.2.1.toList == e13.toList) then (some (.inr (.inl ((v.1.1, ()), ()))))
else (some (.inl (((w64 (v.1.1 + 1)), (v.1.2.1, (v.1.2.2.1, (v.1.2.2.2.1, ())))), ()))))
else (some (.inr (.inr ((), ()))))

/- slices.Index[[]string,string] -/
def i82 : Abs.Sg := ⟨[0, 1], (.dat (.row .str) Qs31), .nil⟩

def o82 : Abs.Sg := ⟨[4], Qs5, .nil⟩

def m82 (v : (((List ByteArray) × ByteArray × Unit) × (Unit))) : Option ((Int × Unit) × (Unit)) :=
(loopT l82_0_2 ((0, (v.1.1, (v.1.2.1, ((v.1.1.length : Int), ())))), ())).bind fun d14 =>
sumE d14 (fun d15 => (some ((d15.1.1, ()), ()))) (fun d16 => (some (((-1), ()), ())))

def sp82 : Abs.Spec := ⟨0, i82, o82, m82⟩

def an82 : Nat → Abs.FAn
  | 0 => Abs.FAn.mk (fun _ => none) (fun _ => none) (fun
    | 2 => some ⟨⟨[8, 0, 1, 7], (.dat (.int .i64) (.dat (.row .str) (.dat .str Qs5))), .nil⟩, (.more .ret ⟨[4], Qs5, .nil⟩ (.one (.exit 0) ⟨[], .nil, .nil⟩))⟩
    | _ => none) (fun _ _ => 0)
  | _ => {}

theorem ok82 : Abs.SpecOK Try.prog 82 sp82 :=
  okW (an := an82) al0 rfl (by intro v; kernel_rfl)

/- slices.Contains[[]string,string] -/
def i52 : Abs.Sg := ⟨[0, 1], (.dat (.row .str) Qs31), .nil⟩

def o52 : Abs.Sg := ⟨[4], Qs14, .nil⟩

def m52 (v : (((List ByteArray) × ByteArray × Unit) × (Unit))) : Option Y14 :=
(m82 ((v.1.1, (v.1.2.1, ())), ())).bind fun u2 =>
some (((decide ((u2.1.1 : Int) ≥ 0)), ()), ())

def sp52 : Abs.Spec := ⟨0, i52, o52, m52⟩

def an52 : Nat → Abs.FAn
  | _ => {}

theorem ok52 : Abs.SpecOK Try.prog 52 sp52 :=
  okW (an := an52) (alc ok82 al0) rfl (by intro v; kernel_rfl)

/- 51 pagewatch/group.Look$1: not told by a law: a closure -/

/- 81 slices.IndexFunc[[]pagewatch/api.Member,pagewatch/api.Member]: not told by a law: a parameter -/

/- 50 slices.DeleteFunc[[]pagewatch/api.Member,pagewatch/api.Member]: not told by a law: a parameter -/

/- 53 slices.ContainsFunc[[]pagewatch/api.Member,pagewatch/api.Member]: not told by a law: a parameter -/

/- pagewatch/group.Look$2 -/
def i54 : Abs.Sg := ⟨[0], (.dat Z1 .nil), .nil⟩

def o54 : Abs.Sg := ⟨[2], Qs14, .nil⟩

def m54 (v : ((Y17 × Unit) × (Unit))) : Option Y14 :=
some (((!v.1.1.2.2.2.2.2.1), ()), ())

def sp54 : Abs.Spec := ⟨0, i54, o54, m54⟩

def an54 : Nat → Abs.FAn
  | _ => {}

theorem ok54 : Abs.SpecOK Try.prog 54 sp54 :=
  okW (an := an54) al0 rfl (by intro v; kernel_rfl)

def l17_1_4 (v : ((Int × Bool × (List ByteArray) × Int × Int × Unit) × (Y2 × Y8 × Y8 × (Y4 × Unit) × Y6 × (List ByteArray) × (List ByteArray) × Unit))) : Option (((Int × Bool × (List ByteArray) × Int × Int × Unit) × (Y2 × Y8 × Y8 × (Y4 × Unit) × Y6 × (List ByteArray) × (List ByteArray) × Unit)) ⊕ ((Bool × Int × Unit) × (Y2 × Y8 × Y8 × (Y4 × Unit) × Y6 × (List ByteArray) × (List ByteArray) × Unit))) :=
bif (decide ((v.1.1 : Int) < v.1.2.2.2.2.1)) then (((bif (decide ((0 : Int) ≤ v.1.1 ∧ (v.1.1 : Int) < v.2.1.length)) then
(v.2.1[v.1.1.toNat]?).bind fun e278 =>
(m52 ((v.1.2.2.1, (e278.1, ())), ())).bind fun u279 =>
bif u279.1.1 then (some ((v.1.2.1, (v.1.2.2.1, (v.1.2.2.2.1, (v.1.2.2.2.2.1, (v.1.1, ()))))), (v.2.1, (((v.2.2.1.1.1, (v.2.2.1.1.2.1, (v.2.2.1.1.2.2.1, (v.2.2.1.1.2.2.2.1, ())))), ()), (((v.2.2.2.1.1.1, (v.2.2.2.1.1.2.1, (v.2.2.2.1.1.2.2.1, (v.2.2.2.1.1.2.2.2.1, ())))), ()), ((v.2.2.2.2.1.1, ()), (((v.2.2.2.2.2.1.1.1, (v.2.2.2.2.2.1.1.2.1, (v.2.2.2.2.2.1.1.2.2.1, (v.2.2.2.2.2.1.1.2.2.2.1, ())))), ()), (v.2.2.2.2.2.2.1, (v.2.2.2.2.2.2.2.1, ())))))))))
else (bif e278.2.2.2.2.1 then (bif (decide (v.2.2.2.2.2.2.1.length + [e278.1].length ≤ 4294967296)) then
((bif v.1.2.1 then (some ((true, (v.1.2.2.1, (v.1.2.2.2.1, (v.1.2.2.2.2.1, (v.1.1, ()))))), (v.2.1, (((v.2.2.1.1.1, (v.2.2.1.1.2.1, (v.2.2.1.1.2.2.1, (v.2.2.1.1.2.2.2.1, ())))), ()), (((v.2.2.2.1.1.1, (v.2.2.2.1.1.2.1, (v.2.2.2.1.1.2.2.1, (v.2.2.2.1.1.2.2.2.1, ())))), ()), ((v.2.2.2.2.1.1, ()), (((v.2.2.2.2.2.1.1.1, (v.2.2.2.2.2.1.1.2.1, (v.2.2.2.2.2.1.1.2.2.1, (v.2.2.2.2.2.1.1.2.2.2.1, ())))), ()), ((v.2.2.2.2.2.2.1 ++ [e278.1]), (v.2.2.2.2.2.2.2.1, ())))))))))
else (some (((!e278.2.2.2.2.2.1), (v.1.2.2.1, (v.1.2.2.2.1, (v.1.2.2.2.2.1, (v.1.1, ()))))), (v.2.1, (((v.2.2.1.1.1, (v.2.2.1.1.2.1, (v.2.2.1.1.2.2.1, (v.2.2.1.1.2.2.2.1, ())))), ()), (((v.2.2.2.1.1.1, (v.2.2.2.1.1.2.1, (v.2.2.2.1.1.2.2.1, (v.2.2.2.1.1.2.2.2.1, ())))), ()), ((v.2.2.2.2.1.1, ()), (((v.2.2.2.2.2.1.1.1, (v.2.2.2.2.2.1.1.2.1, (v.2.2.2.2.2.1.1.2.2.1, (v.2.2.2.2.2.1.1.2.2.2.1, ())))), ()), ((v.2.2.2.2.2.2.1 ++ [e278.1]), (v.2.2.2.2.2.2.2.1, ())))))))))) : Option ((Bool × (List ByteArray) × Int × Int × Int × Unit) × (Y2 × Y8 × Y8 × (Y4 × Unit) × Y6 × (List ByteArray) × (List ByteArray) × Unit))).bind fun v280 =>
some ((v280.1.1, (v280.1.2.1, (v280.1.2.2.1, (v280.1.2.2.2.1, (v280.1.2.2.2.2.1, ()))))), (v280.2.1, (((v280.2.2.1.1.1, (v280.2.2.1.1.2.1, (v280.2.2.1.1.2.2.1, (v280.2.2.1.1.2.2.2.1, ())))), ()), (((v280.2.2.2.1.1.1, (v280.2.2.2.1.1.2.1, (v280.2.2.2.1.1.2.2.1, (v280.2.2.2.1.1.2.2.2.1, ())))), ()), ((v280.2.2.2.2.1.1, ()), (((v280.2.2.2.2.2.1.1.1, (v280.2.2.2.2.2.1.1.2.1, (v280.2.2.2.2.2.1.1.2.2.1, (v280.2.2.2.2.2.1.1.2.2.2.1, ())))), ()), (v280.2.2.2.2.2.2.1, (v280.2.2.2.2.2.2.2.1, ()))))))))
else none)
else (bif (decide (v.2.2.2.2.2.2.2.1.length + [e278.1].length ≤ 4294967296)) then
some ((v.1.2.1, (v.1.2.2.1, (v.1.2.2.2.1, (v.1.2.2.2.2.1, (v.1.1, ()))))), (v.2.1, (((v.2.2.1.1.1, (v.2.2.1.1.2.1, (v.2.2.1.1.2.2.1, (v.2.2.1.1.2.2.2.1, ())))), ()), (((v.2.2.2.1.1.1, (v.2.2.2.1.1.2.1, (v.2.2.2.1.1.2.2.1, (v.2.2.2.1.1.2.2.2.1, ())))), ()), ((v.2.2.2.2.1.1, ()), (((v.2.2.2.2.2.1.1.1, (v.2.2.2.2.2.1.1.2.1, (v.2.2.2.2.2.1.1.2.2.1, (v.2.2.2.2.2.1.1.2.2.2.1, ())))), ()), (v.2.2.2.2.2.2.1, ((v.2.2.2.2.2.2.2.1 ++ [e278.1]), ()))))))))
else none))
else none) : Option ((Bool × (List ByteArray) × Int × Int × Int × Unit) × (Y2 × Y8 × Y8 × (Y4 × Unit) × Y6 × (List ByteArray) × (List ByteArray) × Unit))).bind fun v281 =>
some (.inl (((w64 (v281.1.2.2.2.2.1 + 1)), (v281.1.1, (v281.1.2.1, (v281.1.2.2.1, (v281.1.2.2.2.1, ()))))), (v281.2.1, (((v281.2.2.1.1.1, (v281.2.2.1.1.2.1, (v281.2.2.1.1.2.2.1, (v281.2.2.1.1.2.2.2.1, ())))), ()), (((v281.2.2.2.1.1.1, (v281.2.2.2.1.1.2.1, (v281.2.2.2.1.1.2.2.1, (v281.2.2.2.1.1.2.2.2.1, ())))), ()), ((v281.2.2.2.2.1.1, ()), (((v281.2.2.2.2.2.1.1.1, (v281.2.2.2.2.2.1.1.2.1, (v281.2.2.2.2.2.1.1.2.2.1, (v281.2.2.2.2.2.1.1.2.2.2.1, ())))), ()), (v281.2.2.2.2.2.2.1, (v281.2.2.2.2.2.2.2.1, ()))))))))))
else (some (.inr ((v.1.2.1, (v.1.2.2.2.1, ())), (v.2.1, (((v.2.2.2.1.1.1, (v.2.2.2.1.1.2.1, (v.2.2.2.1.1.2.2.1, (v.2.2.2.1.1.2.2.2.1, ())))), ()), (((v.2.2.1.1.1, (v.2.2.1.1.2.1, (v.2.2.1.1.2.2.1, (v.2.2.1.1.2.2.2.1, ())))), ()), ((v.2.2.2.2.1.1, ()), (((v.2.2.2.2.2.1.1.1, (v.2.2.2.2.2.1.1.2.1, (v.2.2.2.2.2.1.1.2.2.1, (v.2.2.2.2.2.1.1.2.2.2.1, ())))), ()), (v.2.2.2.2.2.2.1, (v.2.2.2.2.2.2.2.1, ()))))))))))

def l17_3_2 (v : ((Int × Int × Unit) × Y19)) : Option (((Int × Int × Unit) × Y19) ⊕ (((Int × Unit) × Y19) ⊕ ((Unit) × Y19))) :=
bif (decide ((v.1.1 : Int) < v.1.2.1)) then (bif (decide ((0 : Int) ≤ v.1.1 ∧ (v.1.1 : Int) < v.2.1.length)) then
(v.2.1[v.1.1.toNat]?).bind fun e288 =>
(m52 ((v.2.2.2.2.1, (e288.1, ())), ())).bind fun u289 =>
bif (decide (v.2.2.2.1.length = v.2.2.2.1.length) && (decide (v.2.2.2.2.1.length = v.2.2.2.2.1.length) && true)) then
bif u289.1.1 then (some (.inr (.inl ((v.1.1, ()), (v.2.1, (((v.2.2.1.1.1, (v.2.2.1.1.2.1, (v.2.2.1.1.2.2.1, (v.2.2.1.1.2.2.2.1, ())))), ()), (v.2.2.2.1, (v.2.2.2.2.1, ()))))))))
else (some (.inl (((w64 (v.1.1 + 1)), (v.1.2.1, ())), (v.2.1, (((v.2.2.1.1.1, (v.2.2.1.1.2.1, (v.2.2.1.1.2.2.1, (v.2.2.1.1.2.2.2.1, ())))), ()), (v.2.2.2.1, (v.2.2.2.2.1, ())))))))
else none
else none)
else (some (.inr (.inr ((), (v.2.1, (((v.2.2.1.1.1, (v.2.2.1.1.2.1, (v.2.2.1.1.2.2.1, (v.2.2.1.1.2.2.2.1, ())))), ()), (v.2.2.2.1, (v.2.2.2.2.1, ()))))))))

def l17_2_5 (v : ((Int × Int × Unit) × Y19)) : Option (((Int × Int × Unit) × Y19) ⊕ ((Int × Unit) × Y19)) :=
let x294 := (decide ((v.1.1 : Int) < ((v.2.1.length : Nat) : Int)))
bif x294 then (((bif (decide ((0 : Int) ≤ v.1.1 ∧ (v.1.1 : Int) < v.2.1.length)) then
(v.2.1[v.1.1.toNat]?).bind fun e295 =>
(m52 ((v.2.2.2.2.1, (e295.1, ())), ())).bind fun u296 =>
bif (decide (v.2.2.2.1.length = v.2.2.2.1.length) && (decide (v.2.2.2.2.1.length = v.2.2.2.2.1.length) && true)) then
bif (!u296.1.1) then (bif (decide ((0 : Int) ≤ v.1.2.1 ∧ (v.1.2.1 : Int) < v.2.1.length)) then
bif (decide (v.1.2.1.toNat < v.2.1.length)) then
some (((w64 (v.1.2.1 + 1)), (v.1.1, ())), ((v.2.1.set v.1.2.1.toNat e295), (((v.2.2.1.1.1, (v.2.2.1.1.2.1, (v.2.2.1.1.2.2.1, (v.2.2.1.1.2.2.2.1, ())))), ()), (v.2.2.2.1, (v.2.2.2.2.1, ())))))
else none
else none)
else (some ((v.1.2.1, (v.1.1, ())), (v.2.1, (((v.2.2.1.1.1, (v.2.2.1.1.2.1, (v.2.2.1.1.2.2.1, (v.2.2.1.1.2.2.2.1, ())))), ()), (v.2.2.2.1, (v.2.2.2.2.1, ()))))))
else none
else none) : Option ((Int × Int × Unit) × Y19)).bind fun v297 =>
some (.inl (((w64 (v297.1.2.1 + 1)), (v297.1.1, ())), (v297.2.1, (((v297.2.2.1.1.1, (v297.2.2.1.1.2.1, (v297.2.2.1.1.2.2.1, (v297.2.2.1.1.2.2.2.1, ())))), ()), (v297.2.2.2.1, (v297.2.2.2.2.1, ())))))))
else (some (.inr ((v.1.2.1, ()), (v.2.1, (((v.2.2.1.1.1, (v.2.2.1.1.2.1, (v.2.2.1.1.2.2.1, (v.2.2.1.1.2.2.2.1, ())))), ()), (v.2.2.2.1, (v.2.2.2.2.1, ())))))))

def l17_0_13 (v : ((Int × (Nat × Nat) × Bool × Int × Int × Unit) × (Y8 × ((Int × ByteArray × (Nat × Nat) × Int × Int × Unit) × Unit) × Y2 × Y6 × Y8 × (Y4 × Unit) × (List ByteArray) × (List ByteArray) × Unit))) : Option (((Int × (Nat × Nat) × Bool × Int × Int × Unit) × (Y8 × ((Int × ByteArray × (Nat × Nat) × Int × Int × Unit) × Unit) × Y2 × Y6 × Y8 × (Y4 × Unit) × (List ByteArray) × (List ByteArray) × Unit)) ⊕ ((Bool × Int × Unit) × (Y6 × Y8 × Y8 × ((Int × ByteArray × (Nat × Nat) × Int × Int × Unit) × Unit) × (Y4 × Unit) × (List ByteArray) × (List ByteArray) × Y2 × Unit))) :=
bif (decide ((v.1.1 : Int) < v.1.2.2.2.2.1)) then (bif (decide ((0 : Int) ≤ v.1.1 ∧ (v.1.1 : Int) < v.1.2.1.2)) then
(v.2.2.2.1[(v.1.2.1.1 + v.1.1.toNat)]?).bind fun e301 =>
((bif e301.2.2.2.2.2.1 then (bif (decide ((0 : Int) ≤ v.1.1 ∧ (v.1.1 : Int) < v.2.2.1.1.2.2.1.2)) then
(v.2.2.2.1[(v.2.2.1.1.2.2.1.1 + v.1.1.toNat)]?).bind fun e302 =>
some (((v.1.2.1.1, v.1.2.1.2), (v.1.2.2.1, (v.1.2.2.2.1, (v.1.2.2.2.2.1, (v.1.1, ()))))), (((v.2.1.1.1, (v.2.1.1.2.1, (v.2.1.1.2.2.1, (v.2.1.1.2.2.2.1, ())))), ()), (((v.2.2.1.1.1, (v.2.2.1.1.2.1, ((v.2.2.1.1.2.2.1.1, v.2.2.1.1.2.2.1.2), (v.2.2.1.1.2.2.2.1, (v.2.2.1.1.2.2.2.2.1, ()))))), ()), ((v.2.2.2.1.set (v.2.2.1.1.2.2.1.1 + v.1.1.toNat) (e302.1, (e302.2.1, (e302.2.2.1, (e302.2.2.2.1, (e302.2.2.2.2.1, (true, ()))))))), (((v.2.2.2.2.1.1.1, (v.2.2.2.2.1.1.2.1, (v.2.2.2.2.1.1.2.2.1, (v.2.2.2.2.1.1.2.2.2.1, ())))), ()), (((v.2.2.2.2.2.1.1.1, (v.2.2.2.2.2.1.1.2.1, (v.2.2.2.2.2.1.1.2.2.1, (v.2.2.2.2.2.1.1.2.2.2.1, ())))), ()), ((v.2.2.2.2.2.2.1.1, ()), (v.2.2.2.2.2.2.2.1, (v.2.2.2.2.2.2.2.2.1, ())))))))))
else none)
else ((m52 ((v.2.2.2.2.2.2.2.1, (e301.1, ())), ())).bind fun u303 =>
bif (decide ((0 : Int) ≤ v.1.1 ∧ (v.1.1 : Int) < v.2.2.1.1.2.2.1.2)) then
(v.2.2.2.1[(v.2.2.1.1.2.2.1.1 + v.1.1.toNat)]?).bind fun e304 =>
some (((v.1.2.1.1, v.1.2.1.2), (v.1.2.2.1, (v.1.2.2.2.1, (v.1.2.2.2.2.1, (v.1.1, ()))))), (((v.2.1.1.1, (v.2.1.1.2.1, (v.2.1.1.2.2.1, (v.2.1.1.2.2.2.1, ())))), ()), (((v.2.2.1.1.1, (v.2.2.1.1.2.1, ((v.2.2.1.1.2.2.1.1, v.2.2.1.1.2.2.1.2), (v.2.2.1.1.2.2.2.1, (v.2.2.1.1.2.2.2.2.1, ()))))), ()), ((v.2.2.2.1.set (v.2.2.1.1.2.2.1.1 + v.1.1.toNat) (e304.1, (e304.2.1, (e304.2.2.1, (e304.2.2.2.1, (e304.2.2.2.2.1, (u303.1.1, ()))))))), (((v.2.2.2.2.1.1.1, (v.2.2.2.2.1.1.2.1, (v.2.2.2.2.1.1.2.2.1, (v.2.2.2.2.1.1.2.2.2.1, ())))), ()), (((v.2.2.2.2.2.1.1.1, (v.2.2.2.2.2.1.1.2.1, (v.2.2.2.2.2.1.1.2.2.1, (v.2.2.2.2.2.1.1.2.2.2.1, ())))), ()), ((v.2.2.2.2.2.2.1.1, ()), (v.2.2.2.2.2.2.2.1, (v.2.2.2.2.2.2.2.2.1, ())))))))))
else none)) : Option (((Nat × Nat) × Bool × Int × Int × Int × Unit) × (Y8 × ((Int × ByteArray × (Nat × Nat) × Int × Int × Unit) × Unit) × Y2 × Y6 × Y8 × (Y4 × Unit) × (List ByteArray) × (List ByteArray) × Unit))).bind fun v305 =>
some (.inl (((w64 (v305.1.2.2.2.2.1 + 1)), ((v305.1.1.1, v305.1.1.2), (v305.1.2.1, (v305.1.2.2.1, (v305.1.2.2.2.1, ()))))), (((v305.2.1.1.1, (v305.2.1.1.2.1, (v305.2.1.1.2.2.1, (v305.2.1.1.2.2.2.1, ())))), ()), (((v305.2.2.1.1.1, (v305.2.2.1.1.2.1, ((v305.2.2.1.1.2.2.1.1, v305.2.2.1.1.2.2.1.2), (v305.2.2.1.1.2.2.2.1, (v305.2.2.1.1.2.2.2.2.1, ()))))), ()), (v305.2.2.2.1, (((v305.2.2.2.2.1.1.1, (v305.2.2.2.2.1.1.2.1, (v305.2.2.2.2.1.1.2.2.1, (v305.2.2.2.2.1.1.2.2.2.1, ())))), ()), (((v305.2.2.2.2.2.1.1.1, (v305.2.2.2.2.2.1.1.2.1, (v305.2.2.2.2.2.1.1.2.2.1, (v305.2.2.2.2.2.1.1.2.2.2.1, ())))), ()), ((v305.2.2.2.2.2.2.1.1, ()), (v305.2.2.2.2.2.2.2.1, (v305.2.2.2.2.2.2.2.2.1, ()))))))))))
else none)
else (some (.inr ((v.1.2.2.1, (v.1.2.2.2.1, ())), (((v.2.2.2.2.1.1.1, (v.2.2.2.2.1.1.2.1, (v.2.2.2.2.1.1.2.2.1, (v.2.2.2.2.1.1.2.2.2.1, ())))), ()), (((v.2.2.2.2.2.1.1.1, (v.2.2.2.2.2.1.1.2.1, (v.2.2.2.2.2.1.1.2.2.1, (v.2.2.2.2.2.1.1.2.2.2.1, ())))), ()), (((v.2.1.1.1, (v.2.1.1.2.1, (v.2.1.1.2.2.1, (v.2.1.1.2.2.2.1, ())))), ()), (((v.2.2.1.1.1, (v.2.2.1.1.2.1, ((v.2.2.1.1.2.2.1.1, v.2.2.1.1.2.2.1.2), (v.2.2.1.1.2.2.2.1, (v.2.2.1.1.2.2.2.2.1, ()))))), ()), ((v.2.2.2.2.2.2.1.1, ()), (v.2.2.2.2.2.2.2.1, (v.2.2.2.2.2.2.2.2.1, (v.2.2.2.1, ())))))))))))

def l17_7_2 (v : ((Int × Y2 × Int × Unit) × (Unit))) : Option (((Int × Y2 × Int × Unit) × (Unit)) ⊕ (((Int × Unit) × (Unit)) ⊕ ((Unit) × (Unit)))) :=
bif (decide ((v.1.1 : Int) < v.1.2.2.1)) then (Abs.rowAt v.1.2.1 v.1.1 fun e308 _ =>
(m54 ((e308, ()), ())).bind fun u309 =>
bif u309.1.1 then (some (.inr (.inl ((v.1.1, ()), ()))))
else (some (.inl (((w64 (v.1.1 + 1)), (v.1.2.1, (v.1.2.2.1, ()))), ()))))
else (some (.inr (.inr ((), ()))))

/- pagewatch/group.Look -/
def i17 : Abs.Sg := ⟨[0, 1, 2, 3], (.dat Z5 (.dat Z3 (.dat (.int .i64) (.dat (.row .str) .nil)))), .nil⟩

def o17 : Abs.Sg := ⟨[8, 9, 10, 11], (.st Qx9 (.st Qx25 (.dat .bool Qs5))), (.box 5 (.agg (.dat (.int .i64) (.dat .str (.part Z1 (2, 0) Qs1))) .nil) (.box 6 Qs37 (.arr Z1 false Qb16)))⟩

def m17 (v : ((Y7 × Y4 × Int × (List ByteArray) × Unit) × (Unit))) : Option ((Bool × Int × Unit) × (((Int × ByteArray × (Nat × Nat) × Int × Int × Unit) × Unit) × Y8 × Y2 × (List ByteArray) × (List ByteArray) × Unit)) :=
(((m23 ((v.1.1, ()), ())).bind fun u272 =>
bif (!u272.1.1) then (some ((true, (v.1.2.2.1, (v.1.2.2.2.1, ()))), (((0, (ByteArray.empty, (0, (0, ())))), ()), (((0, (0, (0, (ByteArray.empty, ())))), ()), ((v.1.1, ()), ((v.1.2.1, ()), ()))))))
else ((m36 ((v.1.2.1, ()), ())).bind fun u273 =>
some (((!u273.1.1), (v.1.2.2.1, (v.1.2.2.2.1, ()))), (((0, (ByteArray.empty, (0, (0, ())))), ()), (((0, (0, (0, (ByteArray.empty, ())))), ()), ((v.1.1, ()), ((v.1.2.1, ()), ()))))))) : Option ((Bool × Int × (List ByteArray) × Unit) × (Y6 × Y8 × (Y7 × Unit) × (Y4 × Unit) × Unit))).bind fun v274 =>
bif v274.1.1 then (some ((false, (8, ())), (((0, (ByteArray.empty, ((0, 0), (0, (0, ()))))), ()), (((0, (0, (0, (ByteArray.empty, ())))), ()), ([], ([], ([], ())))))))
else ((m38 ((v274.1.2.1, (0, (8589934592, ()))), ())).bind fun u275 =>
bif (!u275.1.1) then (some ((false, (1, ())), (((0, (ByteArray.empty, ((0, 0), (0, (0, ()))))), ()), (((0, (0, (0, (ByteArray.empty, ())))), ()), ([], ([], ([], ())))))))
else ((m41 ((v274.2.2.2.1.1, ()), ())).bind fun u276 =>
((bif ((u276.2.1.1.2.2.1 : Int) == (-1)) then (some ((true, (v274.1.2.1, (v274.1.2.2.1, ()))), (((v274.2.1.1.1, (v274.2.1.1.2.1, (v274.2.1.1.2.2.1, (v274.2.1.1.2.2.2.1, ())))), ()), (((v274.2.2.1.1.1, (v274.2.2.1.1.2.1, (v274.2.2.1.1.2.2.1, (v274.2.2.1.1.2.2.2.1, ())))), ()), (((u276.2.1.1.1, (u276.2.1.1.2.1, (u276.2.1.1.2.2.1, (u276.2.1.1.2.2.2.1, ())))), ()), ((v274.2.2.2.2.1.1, ()), (u276.2.2.1, ())))))))
else (some (((decide ((u276.2.1.1.2.2.1 : Int) > v274.1.2.1)), (v274.1.2.1, (v274.1.2.2.1, ()))), (((v274.2.1.1.1, (v274.2.1.1.2.1, (v274.2.1.1.2.2.1, (v274.2.1.1.2.2.2.1, ())))), ()), (((v274.2.2.1.1.1, (v274.2.2.1.1.2.1, (v274.2.2.1.1.2.2.1, (v274.2.2.1.1.2.2.2.1, ())))), ()), (((u276.2.1.1.1, (u276.2.1.1.2.1, (u276.2.1.1.2.2.1, (u276.2.1.1.2.2.2.1, ())))), ()), ((v274.2.2.2.2.1.1, ()), (u276.2.2.1, ())))))))) : Option ((Bool × Int × (List ByteArray) × Unit) × (Y6 × Y8 × Y6 × (Y4 × Unit) × Y2 × Unit))).bind fun v277 =>
bif v277.1.1 then (some ((false, (0, ())), (((v277.2.2.2.1.1.1, (v277.2.2.2.1.1.2.1, ((0, v277.2.2.2.2.2.1.length), (v277.2.2.2.1.1.2.2.1, (v277.2.2.2.1.1.2.2.2.1, ()))))), ()), (((0, (0, (0, (ByteArray.empty, ())))), ()), (v277.2.2.2.2.2.1, ([], ([], ())))))))
else ((loopT l17_1_4 ((0, (false, (v277.1.2.2.1, (v277.1.2.1, (((v277.2.2.2.2.2.1.length : Nat) : Int), ()))))), (v277.2.2.2.2.2.1, (((v277.1.2.1, (v277.2.2.2.1.1.1, (v277.2.2.2.2.1.1.2.2.1, (v277.2.2.2.1.1.2.1, ())))), ()), (((0, (0, (0, (ByteArray.empty, ())))), ()), ((v277.2.2.2.2.1.1, ()), (((v277.2.2.2.1.1.1, (v277.2.2.2.1.1.2.1, (v277.2.2.2.1.1.2.2.1, (v277.2.2.2.1.1.2.2.2.1, ())))), ()), ([], ([], ()))))))))).bind fun d282 =>
((let x283 := (decide ((((d282.2.2.2.2.2.2.1.length : Nat) : Int) : Int) > 0))
bif x283 then (bif ((d282.2.2.2.2.2.1.1.2.2.2.1 : Int) != (-1)) then (let x284 := (w64 (d282.2.2.2.2.2.1.1.2.2.2.1 + d282.2.2.2.2.1.1.2.2.2.2.2.2.1))
some (((decide ((x284 : Int) ≤ d282.1.2.1)), (d282.1.1, ())), (d282.2.1, (((d282.2.2.1.1.1, (d282.2.2.1.1.2.1, (d282.2.2.1.1.2.2.1, (d282.2.2.1.1.2.2.2.1, ())))), ()), (((d282.2.2.2.1.1.1, (d282.2.2.2.1.1.2.1, (d282.2.2.2.1.1.2.2.1, (d282.2.2.2.1.1.2.2.2.1, ())))), ()), (d282.2.2.2.2.2.2.1, (d282.2.2.2.2.2.2.2.1, ())))))))
else (some ((false, (d282.1.1, ())), (d282.2.1, (((d282.2.2.1.1.1, (d282.2.2.1.1.2.1, (d282.2.2.1.1.2.2.1, (d282.2.2.1.1.2.2.2.1, ())))), ()), (((d282.2.2.2.1.1.1, (d282.2.2.2.1.1.2.1, (d282.2.2.2.1.1.2.2.1, (d282.2.2.2.1.1.2.2.2.1, ())))), ()), (d282.2.2.2.2.2.2.1, (d282.2.2.2.2.2.2.2.1, ()))))))))
else (some ((false, (d282.1.1, ())), (d282.2.1, (((d282.2.2.1.1.1, (d282.2.2.1.1.2.1, (d282.2.2.1.1.2.2.1, (d282.2.2.1.1.2.2.2.1, ())))), ()), (((d282.2.2.2.1.1.1, (d282.2.2.2.1.1.2.1, (d282.2.2.2.1.1.2.2.1, (d282.2.2.2.1.1.2.2.2.1, ())))), ()), (d282.2.2.2.2.2.2.1, (d282.2.2.2.2.2.2.2.1, ())))))))) : Option ((Bool × Bool × Unit) × (Y2 × Y8 × Y8 × (List ByteArray) × (List ByteArray) × Unit))).bind fun v285 =>
((bif v285.1.2.1 then (some ((true, ()), (v285.2.1, (((v285.2.2.2.1.1.1, (v285.2.2.2.1.1.2.1, (v285.2.2.2.1.1.2.2.1, (v285.2.2.2.1.1.2.2.2.1, ())))), ()), (v285.2.2.2.2.1, (v285.2.2.2.2.2.1, ()))))))
else (bif v285.1.1 then (some ((true, ()), (v285.2.1, (((v285.2.2.2.1.1.1, (v285.2.2.2.1.1.2.1, (v285.2.2.2.1.1.2.2.1, (v285.2.2.2.1.1.2.2.2.1, ())))), ()), (v285.2.2.2.2.1, (v285.2.2.2.2.2.1, ()))))))
else (let x286 := (decide ((((v285.2.2.2.2.2.1.length : Nat) : Int) : Int) > 0))
some ((x286, ()), (v285.2.1, (((v285.2.2.2.1.1.1, (v285.2.2.2.1.1.2.1, (v285.2.2.2.1.1.2.2.1, (v285.2.2.2.1.1.2.2.2.1, ())))), ()), (v285.2.2.2.2.1, (v285.2.2.2.2.2.1, ())))))))) : Option ((Bool × Unit) × Y19)).bind fun v287 =>
bif (decide (v287.2.1.length = v277.2.2.2.2.2.1.length) && true) then
((bif v287.1.1 then ((((((loopT l17_3_2 ((0, (((v287.2.1.length : Nat) : Int), ())), (v287.2.1, (((v287.2.2.1.1.1, (v287.2.2.1.1.2.1, (v287.2.2.1.1.2.2.1, (v287.2.2.1.1.2.2.2.1, ())))), ()), (v287.2.2.2.1, (v287.2.2.2.2.1, ())))))).bind fun d290 =>
sumE d290 (fun d291 => (bif (decide (d291.2.1.length = v287.2.1.length) && (decide (d291.2.2.2.1.length = v287.2.2.2.1.length) && (decide (d291.2.2.2.2.1.length = v287.2.2.2.2.1.length) && true))) then
some ((d291.1.1, ()), (d291.2.1, (((d291.2.2.1.1.1, (d291.2.2.1.1.2.1, (d291.2.2.1.1.2.2.1, (d291.2.2.1.1.2.2.2.1, ())))), ()), (d291.2.2.2.1, (d291.2.2.2.2.1, ())))))
else none)) (fun d292 => (bif (decide (d292.2.1.length = v287.2.1.length) && (decide (d292.2.2.2.1.length = v287.2.2.2.1.length) && (decide (d292.2.2.2.2.1.length = v287.2.2.2.2.1.length) && true))) then
some (((-1), ()), (d292.2.1, (((d292.2.2.1.1.1, (d292.2.2.1.1.2.1, (d292.2.2.1.1.2.2.1, (d292.2.2.1.1.2.2.2.1, ())))), ()), (d292.2.2.2.1, (d292.2.2.2.2.1, ())))))
else none))) : Option ((Int × Unit) × Y19)).bind fun v293 =>
bif ((v293.1.1 : Int) == (-1)) then (bif (decide (v293.2.1.length = v287.2.1.length) && (decide (v293.2.2.2.1.length = v287.2.2.2.1.length) && (decide (v293.2.2.2.2.1.length = v287.2.2.2.2.1.length) && true))) then
some ((v287.1.1, (v277.1.2.1, ())), (((v293.2.2.1.1.1, (v293.2.2.1.1.2.1, (v293.2.2.1.1.2.2.1, (v293.2.2.1.1.2.2.2.1, ())))), ()), (((v277.2.2.2.1.1.1, (v277.2.2.2.1.1.2.1, ((0, v293.2.1.length), (v277.2.2.2.1.1.2.2.1, (v277.1.2.1, ()))))), ()), (((v277.2.1.1.1, (v277.2.1.1.2.1, (v277.2.1.1.2.2.1, (v277.2.1.1.2.2.2.1, ())))), ()), (((v277.2.2.1.1.1, (v277.2.2.1.1.2.1, (v277.2.2.1.1.2.2.1, (v277.2.2.1.1.2.2.2.1, ())))), ()), ((v277.2.2.2.2.1.1, ()), (v293.2.2.2.1, (v293.2.2.2.2.1, (v293.2.1, ())))))))))
else none)
else ((loopT l17_2_5 (((w64 (v293.1.1 + 1)), (v293.1.1, ())), (v293.2.1, (((v293.2.2.1.1.1, (v293.2.2.1.1.2.1, (v293.2.2.1.1.2.2.1, (v293.2.2.1.1.2.2.2.1, ())))), ()), (v293.2.2.2.1, (v293.2.2.2.2.1, ())))))).bind fun d298 =>
bif (decide ((0 : Int) ≤ d298.1.1)) then
bif (decide (d298.1.1.toNat ≤ d298.2.1.length ∧ d298.2.1.length ≤ d298.2.1.length)) then
bif (decide (d298.1.1.toNat + (d298.2.1.length - d298.1.1.toNat) ≤ d298.2.1.length)) then
let x299 := (spliceL d298.2.1 d298.1.1.toNat (List.replicate (d298.2.1.length - d298.1.1.toNat) ((ByteArray.empty, ([], (0, (0, (false, (false, ())))))) : Y17)))
bif (decide ((0 : Int) ≤ d298.1.1)) then
bif (decide (0 ≤ d298.1.1.toNat ∧ d298.1.1.toNat ≤ x299.length)) then
bif (decide (x299.length = v287.2.1.length) && (decide (d298.2.2.2.1.length = v287.2.2.2.1.length) && (decide (d298.2.2.2.2.1.length = v287.2.2.2.2.1.length) && true))) then
some ((v287.1.1, (v277.1.2.1, ())), (((d298.2.2.1.1.1, (d298.2.2.1.1.2.1, (d298.2.2.1.1.2.2.1, (d298.2.2.1.1.2.2.2.1, ())))), ()), (((v277.2.2.2.1.1.1, (v277.2.2.2.1.1.2.1, ((0, d298.1.1.toNat), (v277.2.2.2.1.1.2.2.1, (v277.1.2.1, ()))))), ()), (((v277.2.1.1.1, (v277.2.1.1.2.1, (v277.2.1.1.2.2.1, (v277.2.1.1.2.2.2.1, ())))), ()), (((v277.2.2.1.1.1, (v277.2.2.1.1.2.1, (v277.2.2.1.1.2.2.1, (v277.2.2.1.1.2.2.2.1, ())))), ()), ((v277.2.2.2.2.1.1, ()), (d298.2.2.2.1, (d298.2.2.2.2.1, (x299, ())))))))))
else none
else none
else none
else none
else none
else none)) : Option ((Bool × Int × Unit) × (Y8 × ((Int × ByteArray × (Nat × Nat) × Int × Int × Unit) × Unit) × Y6 × Y8 × (Y4 × Unit) × (List ByteArray) × (List ByteArray) × Y2 × Unit))).bind fun v300 =>
(loopT l17_0_13 ((0, ((v300.2.2.1.1.2.2.1.1, v300.2.2.1.1.2.2.1.2), (v300.1.1, (v300.1.2.1, (((v300.2.2.1.1.2.2.1.2 : Nat) : Int), ()))))), (((v300.2.1.1.1, (v300.2.1.1.2.1, (v300.2.1.1.2.2.1, (v300.2.1.1.2.2.2.1, ())))), ()), (((v300.2.2.1.1.1, (v300.2.2.1.1.2.1, ((v300.2.2.1.1.2.2.1.1, v300.2.2.1.1.2.2.1.2), (v300.2.2.1.1.2.2.2.1, (v300.2.2.1.1.2.2.2.2.1, ()))))), ()), (v300.2.2.2.2.2.2.2.2.1, (((v300.2.2.2.1.1.1, (v300.2.2.2.1.1.2.1, (v300.2.2.2.1.1.2.2.1, (v300.2.2.2.1.1.2.2.2.1, ())))), ()), (((v300.2.2.2.2.1.1.1, (v300.2.2.2.2.1.1.2.1, (v300.2.2.2.2.1.1.2.2.1, (v300.2.2.2.2.1.1.2.2.2.1, ())))), ()), ((v300.2.2.2.2.2.1.1, ()), (v300.2.2.2.2.2.2.1, (v300.2.2.2.2.2.2.2.1, ())))))))))).bind fun d306 =>
some ((d306.1.1, (d306.1.2.1, ())), (((d306.2.1.1.1, (d306.2.1.1.2.1, (d306.2.1.1.2.2.1, (d306.2.1.1.2.2.2.1, ())))), ()), (((d306.2.2.1.1.1, (d306.2.2.1.1.2.1, (d306.2.2.1.1.2.2.1, (d306.2.2.1.1.2.2.2.1, ())))), ()), (((d306.2.2.2.1.1.1, (d306.2.2.2.1.1.2.1, (d306.2.2.2.1.1.2.2.1, (d306.2.2.2.1.1.2.2.2.1, ())))), ()), (((d306.2.2.2.2.1.1.1, (d306.2.2.2.2.1.1.2.1, ((d306.2.2.2.2.1.1.2.2.1.1, d306.2.2.2.2.1.1.2.2.1.2), (d306.2.2.2.2.1.1.2.2.2.1, (d306.2.2.2.2.1.1.2.2.2.2.1, ()))))), ()), ((d306.2.2.2.2.2.1.1, ()), (d306.2.2.2.2.2.2.1, (d306.2.2.2.2.2.2.2.1, (d306.2.2.2.2.2.2.2.2.1, ()))))))))))
else (some ((v287.1.1, (v277.1.2.1, ())), (((v277.2.1.1.1, (v277.2.1.1.2.1, (v277.2.1.1.2.2.1, (v277.2.1.1.2.2.2.1, ())))), ()), (((v277.2.2.1.1.1, (v277.2.2.1.1.2.1, (v277.2.2.1.1.2.2.1, (v277.2.2.1.1.2.2.2.1, ())))), ()), (((0, (0, (0, (ByteArray.empty, ())))), ()), (((v277.2.2.2.1.1.1, (v277.2.2.2.1.1.2.1, ((0, v287.2.1.length), (v277.2.2.2.1.1.2.2.1, (v277.2.2.2.1.1.2.2.2.1, ()))))), ()), ((v277.2.2.2.2.1.1, ()), ([], ([], (v287.2.1, ()))))))))))) : Option ((Bool × Int × Unit) × (Y6 × Y8 × Y8 × ((Int × ByteArray × (Nat × Nat) × Int × Int × Unit) × Unit) × (Y4 × Unit) × (List ByteArray) × (List ByteArray) × Y2 × Unit))).bind fun v307 =>
bif (decide (v307.2.2.2.2.1.1.2.2.1.1 + v307.2.2.2.2.1.1.2.2.1.2 ≤ v307.2.2.2.2.2.2.2.2.1.length)) then
(((loopT l17_7_2 ((0, (((v307.2.2.2.2.2.2.2.2.1.drop v307.2.2.2.2.1.1.2.2.1.1).take v307.2.2.2.2.1.1.2.2.1.2), ((((v307.2.2.2.2.2.2.2.2.1.drop v307.2.2.2.2.1.1.2.2.1.1).take v307.2.2.2.2.1.1.2.2.1.2).length : Int), ()))), ())).bind fun d310 =>
sumE d310 (fun d311 => (some (((decide ((d311.1.1 : Int) ≥ 0)), ()), ()))) (fun d312 => (some ((false, ()), ())))) : Option Y14).bind fun v313 =>
let x314 := (w64 (v307.2.2.2.2.1.1.2.2.2.2.1 + v307.2.2.2.2.2.1.1.2.2.2.2.2.2.1))
((((bif v313.1.1 then (some ((true, (v307.1.1, (v307.1.2.1, (x314, ())))), (((v307.2.1.1.1, (v307.2.1.1.2.1, (v307.2.1.1.2.2.1, (v307.2.1.1.2.2.2.1, ())))), ()), (((v307.2.2.1.1.1, (v307.2.2.1.1.2.1, (v307.2.2.1.1.2.2.1, (v307.2.2.1.1.2.2.2.1, ())))), ()), (((v307.2.2.2.1.1.1, (v307.2.2.2.1.1.2.1, (v307.2.2.2.1.1.2.2.1, (v307.2.2.2.1.1.2.2.2.1, ())))), ()), (((v307.2.2.2.2.1.1.1, (v307.2.2.2.2.1.1.2.1, ((v307.2.2.2.2.1.1.2.2.1.1, v307.2.2.2.2.1.1.2.2.1.2), (v307.2.2.2.2.1.1.2.2.2.1, (v307.2.2.2.2.1.1.2.2.2.2.1, ()))))), ()), ((v307.2.2.2.2.2.1.1, ()), (v307.2.2.2.2.2.2.1, (v307.2.2.2.2.2.2.2.1, (v307.2.2.2.2.2.2.2.2.1, ()))))))))))
else (some (((decide ((x314 : Int) ≤ v307.1.2.1)), (v307.1.1, (v307.1.2.1, (x314, ())))), (((v307.2.1.1.1, (v307.2.1.1.2.1, (v307.2.1.1.2.2.1, (v307.2.1.1.2.2.2.1, ())))), ()), (((v307.2.2.1.1.1, (v307.2.2.1.1.2.1, (v307.2.2.1.1.2.2.1, (v307.2.2.1.1.2.2.2.1, ())))), ()), (((v307.2.2.2.1.1.1, (v307.2.2.2.1.1.2.1, (v307.2.2.2.1.1.2.2.1, (v307.2.2.2.1.1.2.2.2.1, ())))), ()), (((v307.2.2.2.2.1.1.1, (v307.2.2.2.2.1.1.2.1, ((v307.2.2.2.2.1.1.2.2.1.1, v307.2.2.2.2.1.1.2.2.1.2), (v307.2.2.2.2.1.1.2.2.2.1, (v307.2.2.2.2.1.1.2.2.2.2.1, ()))))), ()), ((v307.2.2.2.2.2.1.1, ()), (v307.2.2.2.2.2.2.1, (v307.2.2.2.2.2.2.2.1, (v307.2.2.2.2.2.2.2.2.1, ()))))))))))) : Option ((Bool × Bool × Int × Int × Unit) × (Y6 × Y8 × Y8 × ((Int × ByteArray × (Nat × Nat) × Int × Int × Unit) × Unit) × (Y4 × Unit) × (List ByteArray) × (List ByteArray) × Y2 × Unit))).bind fun v315 =>
bif v315.1.1 then (let x316 := (w64 (v315.1.2.2.1 + v315.2.2.2.2.2.1.1.2.2.2.2.2.1))
some ((v315.1.2.1, (v315.1.2.2.1, (x316, ()))), (((v315.2.1.1.1, (v315.2.1.1.2.1, (v315.2.1.1.2.2.1, (v315.2.1.1.2.2.2.1, ())))), ()), (((v315.2.2.1.1.1, (v315.2.2.1.1.2.1, (v315.2.2.1.1.2.2.1, (v315.2.2.1.1.2.2.2.1, ())))), ()), (((v315.2.2.2.1.1.1, (v315.2.2.2.1.1.2.1, (v315.2.2.2.1.1.2.2.1, (v315.2.2.2.1.1.2.2.2.1, ())))), ()), (((v315.2.2.2.2.1.1.1, (v315.2.2.2.2.1.1.2.1, ((v315.2.2.2.2.1.1.2.2.1.1, v315.2.2.2.2.1.1.2.2.1.2), (v315.2.2.2.2.1.1.2.2.2.1, (v315.2.2.2.2.1.1.2.2.2.2.1, ()))))), ()), (v315.2.2.2.2.2.2.1, (v315.2.2.2.2.2.2.2.1, (v315.2.2.2.2.2.2.2.2.1, ())))))))))
else (some ((v315.1.2.1, (v315.1.2.2.1, (v315.1.2.2.2.1, ()))), (((v315.2.1.1.1, (v315.2.1.1.2.1, (v315.2.1.1.2.2.1, (v315.2.1.1.2.2.2.1, ())))), ()), (((v315.2.2.1.1.1, (v315.2.2.1.1.2.1, (v315.2.2.1.1.2.2.1, (v315.2.2.1.1.2.2.2.1, ())))), ()), (((v315.2.2.2.1.1.1, (v315.2.2.2.1.1.2.1, (v315.2.2.2.1.1.2.2.1, (v315.2.2.2.1.1.2.2.2.1, ())))), ()), (((v315.2.2.2.2.1.1.1, (v315.2.2.2.2.1.1.2.1, ((v315.2.2.2.2.1.1.2.2.1.1, v315.2.2.2.2.1.1.2.2.1.2), (v315.2.2.2.2.1.1.2.2.2.1, (v315.2.2.2.2.1.1.2.2.2.2.1, ()))))), ()), (v315.2.2.2.2.2.2.1, (v315.2.2.2.2.2.2.2.1, (v315.2.2.2.2.2.2.2.2.1, ())))))))))) : Option ((Bool × Int × Int × Unit) × (Y6 × Y8 × Y8 × ((Int × ByteArray × (Nat × Nat) × Int × Int × Unit) × Unit) × (List ByteArray) × (List ByteArray) × Y2 × Unit))).bind fun v317 =>
let x318 := (if ((w64 (v317.1.2.1 + 1)) : Int) > v317.1.2.2.1 then (w64 (v317.1.2.1 + 1)) else v317.1.2.2.1)
(m55 ((x318, ()), ())).bind fun u319 =>
((let x320 := ((((v317.2.2.2.2.1.1.2.2.1.2 : Nat) : Int) : Int) == 0)
bif (decide (v317.2.2.2.2.2.2.2.1.length = v317.2.2.2.2.2.2.2.1.length) && true) then
bif x320 then (some ((), (v317.2.2.2.2.2.2.2.1, (((0, (ByteArray.empty, (0, (0, ())))), ()), (((v317.2.2.2.2.1.1.1, (v317.2.2.2.2.1.1.2.1, ((v317.2.2.2.2.1.1.2.2.1.1, v317.2.2.2.2.1.1.2.2.1.2), ((-1), (v317.2.2.2.2.1.1.2.2.2.2.1, ()))))), ()), ())))))
else (some ((), (v317.2.2.2.2.2.2.2.1, (((0, (ByteArray.empty, (0, (0, ())))), ()), (((v317.2.2.2.2.1.1.1, (v317.2.2.2.2.1.1.2.1, ((v317.2.2.2.2.1.1.2.2.1.1, v317.2.2.2.2.1.1.2.2.1.2), (u319.1.1, (v317.2.2.2.2.1.1.2.2.2.2.1, ()))))), ()), ())))))
else none) : Option ((Unit) × (Y2 × Y6 × ((Int × ByteArray × (Nat × Nat) × Int × Int × Unit) × Unit) × Unit))).bind fun v321 =>
bif (decide (v321.2.1.length = v317.2.2.2.2.2.2.2.1.length) && true) then
some ((v317.1.1, (0, ())), (((v321.2.2.2.1.1.1, (v321.2.2.2.1.1.2.1, ((v321.2.2.2.1.1.2.2.1.1, v321.2.2.2.1.1.2.2.1.2), (v321.2.2.2.1.1.2.2.2.1, (v321.2.2.2.1.1.2.2.2.2.1, ()))))), ()), (((v317.2.2.2.1.1.1, (v317.2.2.2.1.1.2.1, (v317.2.2.2.1.1.2.2.1, (v317.2.2.2.1.1.2.2.2.1, ())))), ()), (v321.2.1, (v317.2.2.2.2.2.1, (v317.2.2.2.2.2.2.1, ()))))))
else none
else none
else none)))

def sp17 : Abs.Spec := ⟨0, i17, o17, m17⟩

def an17 : Nat → Abs.FAn
  | 0 => Abs.FAn.mk (fun
    | 20 => some ⟨[101, 8, 9, 13, 12, 4, 2, 5, 17], (.dat .bool (.st Qx9 (.st Qx25 (.dat .bool (.st Qx42 (.st Qx26 (.dat (.int .i64) (.st (.ptr (4, 0) 8 0 0) Qs5)))))))), Qb40⟩
    | 15 => some ⟨[12, 4, 65, 8, 9, 13, 2, 5, 66, 67], (.st Qx41 (.st Qx15 (.part Z1 (2, 0) (.st Qx26 (.st (.ptr (4, 0) 6 0 0) (.dat .bool (.dat (.int .i64) (.st (.ptr (5, 0) 8 0 0) Qs1)))))))), (.box 6 Qs13 (.box 5 (.agg (.dat (.int .i64) (.dat .str (.part Z1 (2, 0) Qs1))) .nil) (.arr Z1 false (.box 5 Qs2 (.box 6 Qs3 (.box 8 Qs30 Qb16))))))⟩
    | 11 => some ⟨[12, 4, 8, 9, 13, 2, 5], (.st Qx41 (.st Qx15 (.st Qx20 (.st (.ptr (3, 0) 6 0 0) (.dat .bool Qs36))))), (.box 6 Qs11 (.box 5 (.agg (.dat (.int .i64) (.dat .str (.part Z1 (7, 0) Qs1))) .nil) (.box 5 Qs2 (.box 6 Qs3 Qb21))))⟩
    | 6 => some ⟨[45, 8, 9, 4, 2, 5, 3], (.dat .bool (.st Qx9 (.st Qx25 (.st Qx20 (.dat (.int .i64) (.st Qx43 (.dat (.row .str) .nil))))))), (.box 5 Qs2 (.box 6 Qs3 (.box 5 (.agg (.dat (.int .i64) (.dat .str (.st (.own Z1 (4, 0)) Qs1))) .nil) (.box 8 Qs30 Qb34))))⟩
    | 1 => some ⟨[18, 8, 9, 4, 2, 5, 3], (.dat .bool (.st Qx9 (.st Qx25 (.st Qx20 (.dat (.int .i64) (.st Qx43 (.dat (.row .str) .nil))))))), (.box 5 Qs2 (.box 6 Qs3 (.box 5 Qs33 (.box 8 Qs30 .nil))))⟩
    | _ => none) (fun
    | 22 => some (⟨[8, 9, 13, 12, 4, 2, 17], (.st Qx9 (.st Qx25 (.dat .bool (.st Qx42 (.st Qx26 Qs1))))), (.box 5 Qs2 (.box 6 Qs3 (.box 6 Qs18 (.box 5 (.agg (.dat (.int .i64) (.dat .str (.part Z1 (6, 0) Qs1))) .nil) (.arr .str false (.arr .str false Qb34))))))⟩, none)
    | 18 => some (⟨[8, 9, 13, 12, 4, 2, 5], (.st Qx9 (.st Qx25 (.dat .bool (.st Qx42 (.st Qx26 Qs36))))), Qb40⟩, none)
    | _ => none) (fun
    | 13 => some ⟨⟨[67, 12, 4, 65, 8, 9, 13, 2, 5, 66], (.dat (.int .i64) (.st Qx41 (.st Qx15 (.part Z1 (2, 0) (.st Qx26 (.st (.ptr (4, 0) 6 0 0) (.dat .bool (.dat (.int .i64) (.st (.ptr (5, 0) 8 0 0) Qs5))))))))), (.box 6 Qs13 (.box 5 (.agg (.dat (.int .i64) (.dat .str (.part Z1 (2, 0) Qs1))) .nil) (.arr Z1 false (.box 5 Qs2 (.box 6 Qs3 (.box 8 Qs30 Qb16))))))⟩, (.one (.exit 1) ⟨[8, 9, 13, 12, 4, 2, 5], (.st Qx9 (.st Qx25 (.dat .bool (.st Qx42 (.st Qx26 Qs36))))), Qb40⟩)⟩
    | _ => none) (fun
    | 23, 1 => 8
    | 18, 2 => 6
    | 11, 3 => 2
    | 8, 4 => 1
    | _, _ => 0)
  | 1 => Abs.FAn.mk (fun
    | 13 => some ⟨[8, 9], (.st Qx25 Qs14), (.arr Z1 false Qb7)⟩
    | 12 => some ⟨[8, 10, 14, 11], (.st Qx25 (.st Qx42 (.dat .bool Qs14))), (.arr Z1 false (.box 6 Qs3 (.box 6 Qs37 Qb16)))⟩
    | 10 => some ⟨[11, 10, 3, 24, 8, 2, 5, 4, 25, 26], (.dat .bool (.st Qx25 (.dat (.row .str) (.st (.own Z1 (0, 0)) (.st Qx42 (.dat (.int .i64) (.st Qx43 (.st (.ptr (4, 0) 5 0 0) Qs1)))))))), (.arr Z1 false (.box 6 Qs11 (.box 6 Qs3 Qb35)))⟩
    | _ => none) (fun
    | 11 => some (⟨[11, 10, 3, 24, 8, 2, 5, 4, 25, 26], (.dat .bool (.st Qx25 (.dat (.row .str) (.st (.own Z1 (0, 0)) (.st Qx42 (.dat (.int .i64) (.st Qx43 (.st (.ptr (4, 0) 5 0 0) Qs1)))))))), (.arr Z1 false (.box 6 Qs11 (.box 6 Qs3 Qb35)))⟩, none)
    | _ => none) (fun
    | 4 => some ⟨⟨[26, 11, 10, 3, 24, 8, 2, 5, 4, 25], (.dat (.int .i64) (.dat .bool (.st Qx25 (.dat (.row .str) (.st (.own Z1 (0, 0)) (.st Qx42 (.dat (.int .i64) (.st Qx43 (.st (.ptr (4, 0) 5 0 0) Qs5))))))))), (.arr Z1 false (.box 6 Qs11 (.box 6 Qs3 Qb35)))⟩, (.one (.exit 0) ⟨[8, 10, 11, 2, 5, 4], (.st Qx25 (.st Qx42 (.dat .bool (.dat (.int .i64) (.st Qx43 (.st (.ptr (4, 0) 5 0 0) .nil)))))), (.arr Z1 false (.box 6 Qs3 (.box 6 Qs11 Qb35)))⟩)⟩
    | _ => none) (fun _ _ => 0)
  | 2 => Abs.FAn.mk (fun
    | 1 => some ⟨[0, 5, 1], (.st (.own Z1 (0, 0)) (.dat (.int .i64) (.st (.clo 51 [((1, 0), 6, 0, 0)]) .nil))), (.arr Z1 false Qb7)⟩
    | _ => none) (fun
    | 6 => some (⟨[5, 0, 1, 6], (.dat (.int .i64) (.st (.own Z1 (0, 0)) (.st (.clo 51 [((1, 0), 6, 0, 0)]) Qs5))), (.arr Z1 false Qb7)⟩, none)
    | _ => none) (fun
    | 5 => some ⟨⟨[6, 5, 0, 1], (.dat (.int .i64) (.dat (.int .i64) (.st (.own Z1 (0, 0)) (.st (.clo 51 [((1, 0), 6, 0, 0)]) .nil)))), (.arr Z1 false Qb7)⟩, (.one (.exit 0) ⟨[5, 0], (.dat (.int .i64) (.st (.own Z1 (0, 0)) .nil)), (.arr Z1 false Qb7)⟩)⟩
    | _ => none) (fun
    | 8, 2 => 5
    | 1, 2 => 3
    | _, _ => 0)
  | 3 => Abs.FAn.mk (fun _ => none) (fun _ => none) (fun
    | 2 => some ⟨⟨[8, 0, 1, 7], (.dat (.int .i64) (.st (.own Z1 (0, 0)) (.st (.clo 51 [((1, 0), 6, 0, 0)]) Qs5))), (.arr Z1 false Qb7)⟩, (.more .ret ⟨[4], Qs5, (.arr Z1 false Qb7)⟩ (.one (.exit 0) ⟨[], .nil, (.arr Z1 false Qb7)⟩))⟩
    | _ => none) (fun
    | 4, 5 => 4
    | _, _ => 0)
  | 6 => Abs.FAn.mk (fun
    | 1 => some ⟨[4], Qs14, .nil⟩
    | _ => none) (fun _ => none) (fun _ => none) (fun
    | 1, 2 => 7
    | _, _ => 0)
  | 7 => Abs.FAn.mk (fun _ => none) (fun _ => none) (fun
    | 2 => some ⟨⟨[8, 0, 1, 7], (.dat (.int .i64) (.dat (.row Z1) (.st (.clo 54 []) Qs5))), .nil⟩, (.more .ret ⟨[4], Qs5, .nil⟩ (.one (.exit 0) ⟨[], .nil, .nil⟩))⟩
    | _ => none) (fun _ _ => 0)
  | 8 => Abs.FAn.mk (fun _ => none) (fun
    | 3 => some (⟨[2, 1], Qs45, (.arr Z1 false (.box 5 Qs2 (.box 5 (.agg (.dat (.int .i64) (.dat .str (.part Z1 (0, 0) Qs1))) .nil) .nil)))⟩, none)
    | _ => none) (fun _ => none) (fun
    | 1, 1 => 9
    | _, _ => 0)
  | _ => {}

theorem ok17 : Abs.SpecOK Try.prog 17 sp17 :=
  okW (an := an17) (alc ok23 (alc ok36 (alc ok38 (alc ok41 (alc ok52 (alc ok54 (alc ok55 al0))))))) rfl (by intro v; kernel_rfl)

/- pagewatch/pagewatchlaw23.sane -/
def i9 : Abs.Sg := ⟨[], .nil, .nil⟩

def o9 : Abs.Sg := ⟨[0], Qs14, .nil⟩

def m9 (v : ((Unit) × (Unit))) : Option Y14 :=
(m15 ((0, ((bs [123, 125]), ())), ())).bind fun u37 =>
(m34 (((bs [120]), ()), ())).bind fun u38 =>
(m14 (((u37.2.1.1.1, (u37.2.1.1.2.1, ([], (u37.2.1.1.2.2.1, (u37.2.1.1.2.2.2.1, ()))))), (((-1), ([], (0, ([], (30, (300, (3600, (false, ())))))))), (u38.2.1, (true, (100, ()))))), ())).bind fun u39 =>
(m34 (((bs [121]), ()), ())).bind fun u40 =>
(m14 (((u39.2.1.1.1, (u39.2.1.1.2.1, (u39.2.2.1, (u39.2.1.1.2.2.1, (u39.2.1.1.2.2.2.1, ()))))), (((-1), ([], (0, ([], (30, (300, (3600, (false, ())))))))), (u40.2.1, (true, (110, ()))))), ())).bind fun u41 =>
(m17 (((u41.2.1.1.1, (u41.2.1.1.2.1, (u41.2.2.1, (u41.2.1.1.2.2.1, (u41.2.1.1.2.2.2.1, ()))))), (((-1), ([], (0, ([], (30, (300, (3600, (false, ())))))))), (130, ([], ())))), ())).bind fun u42 =>
(m34 (((bs [122]), ()), ())).bind fun u43 =>
bif (decide (u42.2.1.1.2.2.1.1 + u42.2.1.1.2.2.1.2 ≤ u42.2.2.2.1.length)) then
(m14 (((u42.2.1.1.1, (u42.2.1.1.2.1, (((u42.2.2.2.1.drop u42.2.1.1.2.2.1.1).take u42.2.1.1.2.2.1.2), (u42.2.1.1.2.2.2.1, (u42.2.1.1.2.2.2.2.1, ()))))), (((-1), ([], (0, ([], (30, (300, (3600, (false, ())))))))), (u43.2.1, (true, (140, ()))))), ())).bind fun u44 =>
(m17 (((u44.2.1.1.1, (u44.2.1.1.2.1, (u44.2.2.1, (u44.2.1.1.2.2.1, (u44.2.1.1.2.2.2.1, ()))))), (((-1), ([], (0, ([], (30, (300, (3600, (false, ())))))))), (429, ([], ())))), ())).bind fun u45 =>
(m17 (((u44.2.1.1.1, (u44.2.1.1.2.1, (u44.2.2.1, (u44.2.1.1.2.2.1, (u44.2.1.1.2.2.2.1, ()))))), (((-1), ([], (0, ([], (30, (300, (3600, (false, ())))))))), (430, ([], ())))), ())).bind fun u46 =>
((bif ((u39.1.1 : Int) == 0) then (bif ((u41.1.1 : Int) == 0) then (bif ((u42.1.2.1 : Int) == 0) then (bif ((u44.1.1 : Int) == 0) then (bif ((u45.1.2.1 : Int) == 0) then (bif ((u46.1.2.1 : Int) == 0) then (bif u42.1.1 then (bif (!u45.1.1) then (bif u46.1.1 then (let x47 := ((((u42.2.2.2.2.1.length : Nat) : Int) : Int) == 2)
bif x47 then (bif ((u42.2.2.1.1.1 : Int) == 130) then (let x48 := ((((u46.2.2.2.2.1.length : Nat) : Int) : Int) == 3)
bif x48 then (let x49 := ((((u46.2.2.2.2.2.1.length : Nat) : Int) : Int) == 0)
some ((x49, ()), ()))
else (some ((false, ()), ())))
else (some ((false, ()), ())))
else (some ((false, ()), ())))
else (some ((false, ()), ())))
else (some ((false, ()), ())))
else (some ((false, ()), ())))
else (some ((false, ()), ())))
else (some ((false, ()), ())))
else (some ((false, ()), ())))
else (some ((false, ()), ())))
else (some ((false, ()), ())))
else (some ((false, ()), ()))) : Option Y14).bind fun v50 =>
some ((v50.1.1, ()), ())
else none

def sp9 : Abs.Spec := ⟨0, i9, o9, m9⟩

def an9 : Nat → Abs.FAn
  | 0 => Abs.FAn.mk (fun
    | 8 => some ⟨[0], Qs14, .nil⟩
    | _ => none) (fun _ => none) (fun _ => none) (fun _ _ => 0)
  | _ => {}

theorem ok9 : Abs.SpecOK Try.prog 9 sp9 :=
  okW (an := an9) (alc ok15 (alc ok34 (alc ok14 (alc ok17 al0)))) rfl (by intro v; kernel_rfl)

/- pagewatch/pagewatchmade.Roll -/
def i10 : Abs.Sg := ⟨[0], (.dat (.row (.int .i64)) .nil), .nil⟩

def o10 : Abs.Sg := ⟨[2], (.st Qx32 .nil), Qb46⟩

def m10 (v : (((List Int) × Unit) × (Unit))) : Option ((Unit) × (Y12 × Unit)) :=
some ((), (((v.1.1, (0, ())), ()), ()))

def sp10 : Abs.Spec := ⟨0, i10, o10, m10⟩

def an10 : Nat → Abs.FAn
  | _ => {}

theorem ok10 : Abs.SpecOK Try.prog 10 sp10 :=
  okW (an := an10) al0 rfl (by intro v; kernel_rfl)

/- (*pagewatch/pagewatchmade.Dice).Next -/
def i20 : Abs.Sg := ⟨[0, 1], (.st Qx32 Qs5), Qb46⟩

def o20 : Abs.Sg := ⟨[4], Qs5, Qb46⟩

def m20 (v : ((Int × Unit) × (Y12 × Unit))) : Option ((Int × Unit) × (Y12 × Unit)) :=
((let x15 := (decide ((v.2.1.1.2.1 : Int) ≥ (v.2.1.1.1.length : Int)))
bif x15 then (some ((true, (v.1.1, ())), ((v.2.1.1, ()), ())))
else (some (((decide ((v.1.1 : Int) < 1)), (v.1.1, ())), ((v.2.1.1, ()), ())))) : Option ((Bool × Int × Unit) × (Y12 × Unit))).bind fun v16 =>
bif v16.1.1 then (some ((0, ()), ((v16.2.1.1, ()), ())))
else (Abs.rowAt v16.2.1.1.1 v16.2.1.1.2.1 fun e17 _ =>
bif (decide (v16.1.2.1 ≠ (0 : Int))) then
((let x18 := (decide ((((e17 : Int).tmod v16.1.2.1) : Int) < 0))
bif x18 then (some (((w64 (((e17 : Int).tmod v16.1.2.1) + v16.1.2.1)), ()), (((v16.2.1.1.1, ((w64 (v16.2.1.1.2.1 + 1)), ())), ()), ())))
else (some ((((e17 : Int).tmod v16.1.2.1), ()), (((v16.2.1.1.1, ((w64 (v16.2.1.1.2.1 + 1)), ())), ()), ())))) : Option ((Int × Unit) × (Y12 × Unit))).bind fun v19 =>
some ((v19.1.1, ()), ((v19.2.1.1, ()), ()))
else none)

def sp20 : Abs.Spec := ⟨1, i20, o20, m20⟩

def an20 : Nat → Abs.FAn
  | 0 => Abs.FAn.mk (fun
    | 1 => some ⟨[19, 1, 0], (.dat .bool (.dat (.int .i64) (.st Qx32 .nil))), Qb46⟩
    | _ => none) (fun
    | 7 => some (⟨[5], Qs5, Qb46⟩, none)
    | _ => none) (fun _ => none) (fun _ _ => 0)
  | _ => {}

theorem ok20 : Abs.SpecOK Try.prog 20 sp20 :=
  okW (an := an20) al0 rfl (by intro v; kernel_rfl)

/- (*pagewatch/pagewatchmade.Dice).Pick -/
def i19 : Abs.Sg := ⟨[0, 1], (.st Qx32 (.dat (.row (.int .i64)) .nil)), Qb46⟩

def o19 : Abs.Sg := ⟨[4], Qs5, Qb46⟩

def m19 (v : (((List Int) × Unit) × (Y12 × Unit))) : Option ((Int × Unit) × (Y12 × Unit)) :=
(m20 (((v.1.1.length : Int), ()), ((v.2.1.1, ()), ()))).bind fun u4 =>
Abs.rowAt v.1.1 u4.1.1 fun e5 _ =>
some ((e5, ()), ((u4.2.1.1, ()), ()))

def sp19 : Abs.Spec := ⟨1, i19, o19, m19⟩

def an19 : Nat → Abs.FAn
  | _ => {}

theorem ok19 : Abs.SpecOK Try.prog 19 sp19 :=
  okW (an := an19) (alc ok20 al0) rfl (by intro v; kernel_rfl)

/- (*pagewatch/pagewatchmade.Dice).Bool -/
def i18 : Abs.Sg := ⟨[0, 1], (.st Qx32 Qs5), Qb46⟩

def o18 : Abs.Sg := ⟨[4], Qs14, Qb46⟩

def m18 (v : ((Int × Unit) × (Y12 × Unit))) : Option ((Bool × Unit) × (Y12 × Unit)) :=
(m20 ((v.1.1, ()), ((v.2.1.1, ()), ()))).bind fun u2 =>
some ((((u2.1.1 : Int) == (w64 (v.1.1 - 1))), ()), ((u2.2.1.1, ()), ()))

def sp18 : Abs.Spec := ⟨1, i18, o18, m18⟩

def an18 : Nat → Abs.FAn
  | _ => {}

theorem ok18 : Abs.SpecOK Try.prog 18 sp18 :=
  okW (an := an18) (alc ok20 al0) rfl (by intro v; kernel_rfl)

def l35_0_3 (v : ((Int × (ByteArray × ByteArray × ByteArray × ByteArray × Unit) × Unit) × (Y12 × (List ByteArray) × Unit))) : Option (((Int × (ByteArray × ByteArray × ByteArray × ByteArray × Unit) × Unit) × (Y12 × (List ByteArray) × Unit)) ⊕ ((Unit) × (Y12 × (List ByteArray) × Unit))) :=
bif (decide ((v.1.1 : Int) < 4)) then (((Abs.rowAt ([v.1.2.1.1, v.1.2.1.2.1, v.1.2.1.2.2.1, v.1.2.1.2.2.2.1] : List ByteArray) v.1.1 fun e18 _ =>
(m18 ((3, ()), ((v.2.1.1, ()), ()))).bind fun u19 =>
bif u19.1.1 then (bif (decide (v.2.2.1.length + [e18].length ≤ 4294967296)) then
some ((v.1.2.1, (v.1.1, ())), ((u19.2.1.1, ()), ((v.2.2.1 ++ [e18]), ())))
else none)
else (some ((v.1.2.1, (v.1.1, ())), ((u19.2.1.1, ()), (v.2.2.1, ()))))) : Option (((ByteArray × ByteArray × ByteArray × ByteArray × Unit) × Int × Unit) × (Y12 × (List ByteArray) × Unit))).bind fun v20 =>
some (.inl (((w64 (v20.1.2.1 + 1)), (v20.1.1, ())), ((v20.2.1.1, ()), (v20.2.2.1, ())))))
else (some (.inr ((), ((v.2.1.1, ()), (v.2.2.1, ())))))

/- (*pagewatch/pagewatchmade.Dice).Keys -/
def i35 : Abs.Sg := ⟨[0], (.st Qx32 .nil), Qb46⟩

def o35 : Abs.Sg := ⟨[2], (.st (.own .str (1, 0)) .nil), (.box 2 Qs27 (.arr .str false .nil))⟩

def m35 (v : ((Unit) × (Y12 × Unit))) : Option ((Unit) × (Y12 × (List ByteArray) × Unit)) :=
(loopT l35_0_3 ((0, (((bs [97, 112, 112]), ((bs [104, 111, 115, 116]), ((bs [115, 101, 118]), ((bs [116, 101, 97, 109]), ())))), ())), ((v.2.1.1, ()), ([], ())))).bind fun d21 =>
some ((), ((d21.2.1.1, ()), (d21.2.2.1, ())))

def sp35 : Abs.Spec := ⟨1, i35, o35, m35⟩

def an35 : Nat → Abs.FAn
  | 0 => Abs.FAn.mk (fun _ => none) (fun
    | 7 => some (⟨[3, 0, 6, 7], (.st (.own .str (1, 0)) (.st Qx32 (.dat (.cons .str (.cons .str Z13)) Qs5))), (.box 2 Qs27 (.arr .str false .nil))⟩, none)
    | _ => none) (fun
    | 3 => some ⟨⟨[7, 3, 0, 6], (.dat (.int .i64) (.st (.own .str (1, 0)) (.st Qx32 (.dat (.cons .str (.cons .str Z13)) .nil)))), (.box 2 Qs27 (.arr .str false .nil))⟩, (.one (.exit 0) ⟨[3], (.st (.own .str (1, 0)) .nil), (.box 2 Qs27 (.arr .str false .nil))⟩)⟩
    | _ => none) (fun _ _ => 0)
  | _ => {}

theorem ok35 : Abs.SpecOK Try.prog 35 sp35 :=
  okW (an := an35) (alc ok18 al0) rfl (by intro v; kernel_rfl)

/- (*pagewatch/pagewatchmade.Dice).Route -/
def i11 : Abs.Sg := ⟨[0], (.st Qx32 .nil), Qb46⟩

def o11 : Abs.Sg := ⟨[2], (.st Qx47 .nil), (.box 2 Qs27 (.box 8 (.agg (.dat (.int .i64) (.st .nil (.dat (.int .i64) (.st (.own .str (2, 0)) (.dat (.int .i64) (.dat (.int .i64) (.dat (.int .i64) Qs14))))))) .nil) (.arr .str false .nil)))⟩

def m11 (v : ((Unit) × (Y12 × Unit))) : Option ((Unit) × (Y12 × ((Int × Int × Int × Int × Int × Bool × Unit) × Unit) × (List ByteArray) × Unit)) :=
(m19 (([0, 30, 10, 60], ()), ((v.2.1.1, ()), ()))).bind fun u14 =>
(m19 (([20, 300, 40], ()), ((u14.2.1.1, ()), ()))).bind fun u15 =>
(m20 ((3, ()), ((u15.2.1.1, ()), ()))).bind fun u16 =>
(m35 ((), ((u16.2.1.1, ()), ()))).bind fun u17 =>
(m19 (([0, 3600, 100], ()), ((u17.2.1.1, ()), ()))).bind fun u18 =>
(m18 ((2, ()), ((u18.2.1.1, ()), ()))).bind fun u19 =>
some ((), ((u19.2.1.1, ()), ((((-1), (u16.1.1, (u14.1.1, ((w64 (u14.1.1 + u15.1.1)), ((w64 ((w64 (u14.1.1 + u15.1.1)) + u18.1.1)), (u19.1.1, ())))))), ()), (u17.2.2.1, ()))))

def sp11 : Abs.Spec := ⟨1, i11, o11, m11⟩

def an11 : Nat → Abs.FAn
  | _ => {}

theorem ok11 : Abs.SpecOK Try.prog 11 sp11 :=
  okW (an := an11) (alc ok19 (alc ok20 (alc ok35 (alc ok18 al0)))) rfl (by intro v; kernel_rfl)

/- pagewatch/pagewatchref23.New -/
def i33 : Abs.Sg := ⟨[0, 1], (.dat (.int .i64) Qs31), .nil⟩

def o33 : Abs.Sg := ⟨[4], (.st Qx9 .nil), (.box 5 Qs2 .nil)⟩

def m33 (v : ((Int × ByteArray × Unit) × (Unit))) : Option ((Unit) × (Y6 × Unit)) :=
some ((), (((v.1.1, (v.1.2.1, ((-1), ((-1), ())))), ()), ()))

def sp33 : Abs.Spec := ⟨0, i33, o33, m33⟩

def an33 : Nat → Abs.FAn
  | _ => {}

theorem ok33 : Abs.SpecOK Try.prog 33 sp33 :=
  okW (an := an33) al0 rfl (by intro v; kernel_rfl)

/- (*pagewatch/pagewatchmade.Dice).Left -/
def i56 : Abs.Sg := ⟨[0], (.st Qx32 .nil), Qb46⟩

def o56 : Abs.Sg := ⟨[2], Qs14, Qb46⟩

def m56 (v : ((Unit) × (Y12 × Unit))) : Option ((Bool × Unit) × (Y12 × Unit)) :=
let x2 := (decide ((v.2.1.1.2.1 : Int) < (v.2.1.1.1.length : Int)))
some ((x2, ()), ((v.2.1.1, ()), ()))

def sp56 : Abs.Spec := ⟨1, i56, o56, m56⟩

def an56 : Nat → Abs.FAn
  | _ => {}

theorem ok56 : Abs.SpecOK Try.prog 56 sp56 :=
  okW (an := an56) al0 rfl (by intro v; kernel_rfl)

def l13_0_3 (v : ((Int × (ByteArray × ByteArray × ByteArray × ByteArray × Unit) × Unit) × (Y12 × Y9 × Unit))) : Option (((Int × (ByteArray × ByteArray × ByteArray × ByteArray × Unit) × Unit) × (Y12 × Y9 × Unit)) ⊕ ((Unit) × (Y12 × Y9 × Unit))) :=
bif (decide ((v.1.1 : Int) < 4)) then (((Abs.rowAt ([v.1.2.1.1, v.1.2.1.2.1, v.1.2.1.2.2.1, v.1.2.1.2.2.2.1] : List ByteArray) v.1.1 fun e29 _ =>
(m20 ((6, ()), ((v.2.1.1, ()), ()))).bind fun u30 =>
bif (decide ((0 : Int) ≤ u30.1.1 ∧ (u30.1.1 : Int) < [ByteArray.empty, (bs [97]), (bs [98]), (bs [99, 114, 105, 116]), (bs [97, 34, 98, 92]), (bs [119, 101, 98, 45, 49])].length)) then
([ByteArray.empty, (bs [97]), (bs [98]), (bs [99, 114, 105, 116]), (bs [97, 34, 98, 92]), (bs [119, 101, 98, 45, 49])][u30.1.1.toNat]?).bind fun e31 =>
bif (!(e31.toList == ByteArray.empty.toList)) then (bif (decide (v.2.2.1.length + ([(e29, (e31, ()))] : List (ByteArray × ByteArray × Unit)).length ≤ 4294967296)) then
let x32 := (v.2.2.1 ++ ([(e29, (e31, ()))] : List (ByteArray × ByteArray × Unit)))
some ((v.1.2.1, (v.1.1, ())), ((u30.2.1.1, ()), (x32, ())))
else none)
else (some ((v.1.2.1, (v.1.1, ())), ((u30.2.1.1, ()), (v.2.2.1, ()))))
else none) : Option (((ByteArray × ByteArray × ByteArray × ByteArray × Unit) × Int × Unit) × (Y12 × Y9 × Unit))).bind fun v33 =>
some (.inl (((w64 (v33.1.2.1 + 1)), (v33.1.1, ())), ((v33.2.1.1, ()), (v33.2.2.1, ())))))
else (some (.inr ((), ((v.2.1.1, ()), (v.2.2.1, ())))))

/- (*pagewatch/pagewatchmade.Dice).Labels -/
def i13 : Abs.Sg := ⟨[0], (.st Qx32 .nil), Qb46⟩

def o13 : Abs.Sg := ⟨[2], (.st (.own Z13 (1, 0)) .nil), (.box 2 Qs27 (.arr Z13 false .nil))⟩

def m13 (v : ((Unit) × (Y12 × Unit))) : Option ((Unit) × (Y12 × Y9 × Unit)) :=
(loopT l13_0_3 ((0, (((bs [97, 112, 112]), ((bs [104, 111, 115, 116]), ((bs [115, 101, 118]), ((bs [116, 101, 97, 109]), ())))), ())), ((v.2.1.1, ()), ([], ())))).bind fun d34 =>
some ((), ((d34.2.1.1, ()), (d34.2.2.1, ())))

def sp13 : Abs.Spec := ⟨1, i13, o13, m13⟩

def an13 : Nat → Abs.FAn
  | 0 => Abs.FAn.mk (fun _ => none) (fun
    | 8 => some (⟨[3, 0, 7, 8], (.st (.own Z13 (1, 0)) (.st Qx32 (.dat (.cons .str (.cons .str Z13)) Qs5))), (.box 2 Qs27 (.arr Z13 false .nil))⟩, none)
    | _ => none) (fun
    | 3 => some ⟨⟨[8, 3, 0, 7], (.dat (.int .i64) (.st (.own Z13 (1, 0)) (.st Qx32 (.dat (.cons .str (.cons .str Z13)) .nil)))), (.box 2 Qs27 (.arr Z13 false .nil))⟩, (.one (.exit 0) ⟨[3], (.st (.own Z13 (1, 0)) .nil), (.box 2 Qs27 (.arr Z13 false .nil))⟩)⟩
    | _ => none) (fun _ _ => 0)
  | _ => {}

theorem ok13 : Abs.SpecOK Try.prog 13 sp13 :=
  okW (an := an13) (alc ok20 al0) rfl (by intro v; kernel_rfl)

/- pagewatch/pagewatchref23.instant -/
def i58 : Abs.Sg := ⟨[0], Qs5, .nil⟩

def o58 : Abs.Sg := ⟨[2], Qs14, .nil⟩

def m58 (v : ((Int × Unit) × (Unit))) : Option Y14 :=
((bif (decide ((v.1.1 : Int) ≥ 0)) then (some (((decide ((v.1.1 : Int) ≤ 8589934592)), ()), ()))
else (some ((false, ()), ()))) : Option Y14).bind fun v1 =>
some ((v1.1.1, ()), ())

def sp58 : Abs.Spec := ⟨0, i58, o58, m58⟩

def an58 : Nat → Abs.FAn
  | 0 => Abs.FAn.mk (fun
    | 1 => some ⟨[2], Qs14, .nil⟩
    | _ => none) (fun _ => none) (fun _ => none) (fun _ _ => 0)
  | _ => {}

theorem ok58 : Abs.SpecOK Try.prog 58 sp58 :=
  okW (an := an58) al0 rfl (by intro v; kernel_rfl)

def l79_0_4 (v : ((Int × ByteArray × Unit) × (Unit))) : Option (((Int × ByteArray × Unit) × (Unit)) ⊕ (Y14 ⊕ ((Unit) × (Unit)))) :=
bif (decide ((v.1.1 : Int) < (v.1.2.1.size : Int))) then (((bif (decide ((0 : Int) ≤ v.1.1 ∧ (v.1.1 : Int) < v.1.2.1.size)) then
let x89 := (decide (((((v.1.2.1[v.1.1.toNat]?.getD 0).toNat : Nat) : Int) : Int) < 97))
bif x89 then (bif (decide ((0 : Int) ≤ v.1.1 ∧ (v.1.1 : Int) < v.1.2.1.size)) then
let x90 := (decide (((((v.1.2.1[v.1.1.toNat]?.getD 0).toNat : Nat) : Int) : Int) < 48))
bif x90 then (bif (decide ((0 : Int) ≤ v.1.1 ∧ (v.1.1 : Int) < v.1.2.1.size)) then
let x91 := (((((v.1.2.1[v.1.1.toNat]?.getD 0).toNat : Nat) : Int) : Int) != 95)
some ((x91, (v.1.2.1, (v.1.1, ()))), ())
else none)
else (bif (decide ((0 : Int) ≤ v.1.1 ∧ (v.1.1 : Int) < v.1.2.1.size)) then
let x92 := (decide (((((v.1.2.1[v.1.1.toNat]?.getD 0).toNat : Nat) : Int) : Int) > 57))
bif x92 then (bif (decide ((0 : Int) ≤ v.1.1 ∧ (v.1.1 : Int) < v.1.2.1.size)) then
let x93 := (((((v.1.2.1[v.1.1.toNat]?.getD 0).toNat : Nat) : Int) : Int) != 95)
some ((x93, (v.1.2.1, (v.1.1, ()))), ())
else none)
else (some ((false, (v.1.2.1, (v.1.1, ()))), ()))
else none)
else none)
else (bif (decide ((0 : Int) ≤ v.1.1 ∧ (v.1.1 : Int) < v.1.2.1.size)) then
let x94 := (decide (((((v.1.2.1[v.1.1.toNat]?.getD 0).toNat : Nat) : Int) : Int) > 122))
bif x94 then (bif (decide ((0 : Int) ≤ v.1.1 ∧ (v.1.1 : Int) < v.1.2.1.size)) then
let x95 := (decide (((((v.1.2.1[v.1.1.toNat]?.getD 0).toNat : Nat) : Int) : Int) < 48))
bif x95 then (bif (decide ((0 : Int) ≤ v.1.1 ∧ (v.1.1 : Int) < v.1.2.1.size)) then
let x96 := (((((v.1.2.1[v.1.1.toNat]?.getD 0).toNat : Nat) : Int) : Int) != 95)
some ((x96, (v.1.2.1, (v.1.1, ()))), ())
else none)
else (bif (decide ((0 : Int) ≤ v.1.1 ∧ (v.1.1 : Int) < v.1.2.1.size)) then
let x97 := (decide (((((v.1.2.1[v.1.1.toNat]?.getD 0).toNat : Nat) : Int) : Int) > 57))
bif x97 then (bif (decide ((0 : Int) ≤ v.1.1 ∧ (v.1.1 : Int) < v.1.2.1.size)) then
let x98 := (((((v.1.2.1[v.1.1.toNat]?.getD 0).toNat : Nat) : Int) : Int) != 95)
some ((x98, (v.1.2.1, (v.1.1, ()))), ())
else none)
else (some ((false, (v.1.2.1, (v.1.1, ()))), ()))
else none)
else none)
else (some ((false, (v.1.2.1, (v.1.1, ()))), ()))
else none)
else none) : Option ((Bool × ByteArray × Int × Unit) × (Unit))).bind fun v99 =>
bif v99.1.1 then (some (.inr (.inl ((false, ()), ()))))
else (some (.inl (((w64 (v99.1.2.2.1 + 1)), (v99.1.2.1, ())), ()))))
else (some (.inr (.inr ((), ()))))

/- pagewatch/pagewatchref20.Key -/
def i79 : Abs.Sg := ⟨[0], Qs31, .nil⟩

def o79 : Abs.Sg := ⟨[2], Qs14, .nil⟩

def m79 (v : ((ByteArray × Unit) × (Unit))) : Option Y14 :=
((bif (decide (((v.1.1.size : Int) : Int) < 1)) then (some ((true, (v.1.1, ())), ()))
else (bif (decide (((v.1.1.size : Int) : Int) > 24)) then (some ((true, (v.1.1, ())), ()))
else (bif (decide ((0 : Int) ≤ 0 ∧ (0 : Int) < v.1.1.size)) then
let x86 := (decide (((((v.1.1[0]?.getD 0).toNat : Nat) : Int) : Int) < 97))
bif x86 then (some ((true, (v.1.1, ())), ()))
else (bif (decide ((0 : Int) ≤ 0 ∧ (0 : Int) < v.1.1.size)) then
let x87 := (decide (((((v.1.1[0]?.getD 0).toNat : Nat) : Int) : Int) > 122))
some ((x87, (v.1.1, ())), ())
else none)
else none))) : Option ((Bool × ByteArray × Unit) × (Unit))).bind fun v88 =>
bif v88.1.1 then (some ((false, ()), ()))
else ((loopT l79_0_4 ((0, (v88.1.2.1, ())), ())).bind fun d100 =>
sumE d100 (fun d101 => (some ((d101.1.1, ()), ()))) (fun d102 => (some ((true, ()), ()))))

def sp79 : Abs.Spec := ⟨0, i79, o79, m79⟩

def an79 : Nat → Abs.FAn
  | 0 => Abs.FAn.mk (fun
    | 6 => some ⟨[55, 0, 3], (.dat .bool (.dat .str Qs5)), .nil⟩
    | 1 => some ⟨[21, 0], (.dat .bool Qs31), .nil⟩
    | _ => none) (fun _ => none) (fun
    | 4 => some ⟨⟨[3, 0], (.dat (.int .i64) Qs31), .nil⟩, (.more .ret ⟨[2], Qs14, .nil⟩ (.one (.exit 0) ⟨[], .nil, .nil⟩))⟩
    | _ => none) (fun _ _ => 0)
  | _ => {}

theorem ok79 : Abs.SpecOK Try.prog 79 sp79 :=
  okW (an := an79) al0 rfl (by intro v; kernel_rfl)

def l80_0_4 (v : ((Int × ByteArray × Unit) × (Unit))) : Option (((Int × ByteArray × Unit) × (Unit)) ⊕ (Y14 ⊕ ((Unit) × (Unit)))) :=
bif (decide ((v.1.1 : Int) < (v.1.2.1.size : Int))) then (((bif (decide ((0 : Int) ≤ v.1.1 ∧ (v.1.1 : Int) < v.1.2.1.size)) then
let x27 := (decide (((((v.1.2.1[v.1.1.toNat]?.getD 0).toNat : Nat) : Int) : Int) < 32))
bif x27 then (some ((true, (v.1.2.1, (v.1.1, ()))), ()))
else (bif (decide ((0 : Int) ≤ v.1.1 ∧ (v.1.1 : Int) < v.1.2.1.size)) then
let x28 := (decide (((((v.1.2.1[v.1.1.toNat]?.getD 0).toNat : Nat) : Int) : Int) > 126))
some ((x28, (v.1.2.1, (v.1.1, ()))), ())
else none)
else none) : Option ((Bool × ByteArray × Int × Unit) × (Unit))).bind fun v29 =>
bif v29.1.1 then (some (.inr (.inl ((false, ()), ()))))
else (some (.inl (((w64 (v29.1.2.2.1 + 1)), (v29.1.2.1, ())), ()))))
else (some (.inr (.inr ((), ()))))

/- pagewatch/pagewatchref20.value -/
def i80 : Abs.Sg := ⟨[0], Qs31, .nil⟩

def o80 : Abs.Sg := ⟨[2], Qs14, .nil⟩

def m80 (v : ((ByteArray × Unit) × (Unit))) : Option Y14 :=
bif (decide (((v.1.1.size : Int) : Int) > 64)) then (some ((false, ()), ()))
else ((loopT l80_0_4 ((0, (v.1.1, ())), ())).bind fun d30 =>
sumE d30 (fun d31 => (some ((d31.1.1, ()), ()))) (fun d32 => (some ((true, ()), ()))))

def sp80 : Abs.Spec := ⟨0, i80, o80, m80⟩

def an80 : Nat → Abs.FAn
  | 0 => Abs.FAn.mk (fun
    | 6 => some ⟨[22, 0, 3], (.dat .bool (.dat .str Qs5)), .nil⟩
    | _ => none) (fun _ => none) (fun
    | 4 => some ⟨⟨[3, 0], (.dat (.int .i64) Qs31), .nil⟩, (.more .ret ⟨[2], Qs14, .nil⟩ (.one (.exit 0) ⟨[], .nil, .nil⟩))⟩
    | _ => none) (fun _ _ => 0)
  | _ => {}

theorem ok80 : Abs.SpecOK Try.prog 80 sp80 :=
  okW (an := an80) al0 rfl (by intro v; kernel_rfl)

def l47_0_4 (v : ((Int × Y9 × Unit) × (Unit))) : Option (((Int × Y9 × Unit) × (Unit)) ⊕ (Y14 ⊕ ((Unit) × (Unit)))) :=
let x59 := (decide ((v.1.1 : Int) < (v.1.2.1.length : Int)))
bif x59 then (((Abs.rowAt v.1.2.1 v.1.1 fun e60 _ =>
(m79 ((e60.1, ()), ())).bind fun u61 =>
bif (!u61.1.1) then (some ((true, (v.1.2.1, (v.1.1, ()))), ()))
else (Abs.rowAt v.1.2.1 v.1.1 fun e62 _ =>
(m80 ((e62.2.1, ()), ())).bind fun u63 =>
bif (!u63.1.1) then (some ((true, (v.1.2.1, (v.1.1, ()))), ()))
else (Abs.rowAt v.1.2.1 v.1.1 fun e64 _ =>
bif (e64.2.1.toList == ByteArray.empty.toList) then (some ((true, (v.1.2.1, (v.1.1, ()))), ()))
else (bif (decide ((v.1.1 : Int) > 0)) then (Abs.rowAt v.1.2.1 v.1.1 fun e65 _ =>
Abs.rowAt v.1.2.1 (w64 (v.1.1 - 1)) fun e66 _ =>
some (((Op.bytesLess e65.1.toList e66.1.toList || e65.1.toList == e66.1.toList), (v.1.2.1, (v.1.1, ()))), ()))
else (some ((false, (v.1.2.1, (v.1.1, ()))), ())))))) : Option ((Bool × Y9 × Int × Unit) × (Unit))).bind fun v67 =>
bif v67.1.1 then (some (.inr (.inl ((false, ()), ()))))
else (some (.inl (((w64 (v67.1.2.2.1 + 1)), (v67.1.2.1, ())), ()))))
else (some (.inr (.inr ((), ()))))

/- pagewatch/pagewatchref20.Valid -/
def i47 : Abs.Sg := ⟨[0], (.dat (.row Z13) .nil), .nil⟩

def o47 : Abs.Sg := ⟨[2], Qs14, .nil⟩

def m47 (v : ((Y9 × Unit) × (Unit))) : Option Y14 :=
bif (decide (((v.1.1.length : Int) : Int) > 12)) then (some ((false, ()), ()))
else ((loopT l47_0_4 ((0, (v.1.1, ())), ())).bind fun d68 =>
sumE d68 (fun d69 => (some ((d69.1.1, ()), ()))) (fun d70 => (some ((true, ()), ()))))

def sp47 : Abs.Spec := ⟨0, i47, o47, m47⟩

def an47 : Nat → Abs.FAn
  | 0 => Abs.FAn.mk (fun
    | 6 => some ⟨[54, 0, 3], (.dat .bool (.dat (.row Z13) Qs5)), .nil⟩
    | _ => none) (fun _ => none) (fun
    | 4 => some ⟨⟨[3, 0], (.dat (.int .i64) (.dat (.row Z13) .nil)), .nil⟩, (.more .ret ⟨[2], Qs14, .nil⟩ (.one (.exit 0) ⟨[], .nil, .nil⟩))⟩
    | _ => none) (fun _ _ => 0)
  | _ => {}

theorem ok47 : Abs.SpecOK Try.prog 47 sp47 :=
  okW (an := an47) (alc ok79 (alc ok80 al0)) rfl (by intro v; kernel_rfl)

def l48_0_3 (v : ((Int × ByteArray × ByteArray × Unit) × (Unit))) : Option (((Int × ByteArray × ByteArray × Unit) × (Unit)) ⊕ ((ByteArray × Unit) × (Unit))) :=
bif (decide ((v.1.1 : Int) < (v.1.2.1.size : Int))) then (((((bif (decide ((0 : Int) ≤ v.1.1 ∧ (v.1.1 : Int) < v.1.2.1.size)) then
let x35 := (((((v.1.2.1[v.1.1.toNat]?.getD 0).toNat : Nat) : Int) : Int) == 34)
bif x35 then (some ((true, (v.1.2.1, (v.1.1, (v.1.2.2.1, ())))), ()))
else (bif (decide ((0 : Int) ≤ v.1.1 ∧ (v.1.1 : Int) < v.1.2.1.size)) then
let x36 := (((((v.1.2.1[v.1.1.toNat]?.getD 0).toNat : Nat) : Int) : Int) == 92)
some ((x36, (v.1.2.1, (v.1.1, (v.1.2.2.1, ())))), ())
else none)
else none) : Option ((Bool × ByteArray × Int × ByteArray × Unit) × (Unit))).bind fun v37 =>
bif v37.1.1 then (bif (decide (v37.1.2.2.2.1.size + 1 ≤ 4294967296)) then
some ((v37.1.2.1, (v37.1.2.2.1, ((v37.1.2.2.2.1 ++ (bs [92])), ()))), ())
else none)
else (some ((v37.1.2.1, (v37.1.2.2.1, (v37.1.2.2.2.1, ()))), ()))) : Option ((ByteArray × Int × ByteArray × Unit) × (Unit))).bind fun v38 =>
bif (decide ((0 : Int) ≤ v38.1.2.1)) then
bif (decide ((0 : Int) ≤ (w64 (v38.1.2.1 + 1)))) then
bif (decide (v38.1.2.1.toNat ≤ (w64 (v38.1.2.1 + 1)).toNat ∧ (w64 (v38.1.2.1 + 1)).toNat ≤ v38.1.1.size)) then
let x39 := (v38.1.1.extract v38.1.2.1.toNat (w64 (v38.1.2.1 + 1)).toNat)
bif (decide (v38.1.2.2.1.size + x39.size ≤ 4294967296)) then
some (.inl (((w64 (v38.1.2.1 + 1)), (v38.1.1, ((v38.1.2.2.1 ++ x39), ()))), ()))
else none
else none
else none
else none)
else (some (.inr ((v.1.2.2.1, ()), ())))

/- pagewatch/pagewatchref20.quote -/
def i48 : Abs.Sg := ⟨[0], Qs31, .nil⟩

def o48 : Abs.Sg := ⟨[2], Qs31, .nil⟩

def m48 (v : ((ByteArray × Unit) × (Unit))) : Option ((ByteArray × Unit) × (Unit)) :=
(loopT l48_0_3 ((0, (v.1.1, ((bs [34]), ()))), ())).bind fun d40 =>
bif (decide (d40.1.1.size + 1 ≤ 4294967296)) then
some (((d40.1.1 ++ (bs [34])), ()), ())
else none

def sp48 : Abs.Spec := ⟨0, i48, o48, m48⟩

def an48 : Nat → Abs.FAn
  | 0 => Abs.FAn.mk (fun
    | 5 => some ⟨[20, 0, 4, 3], (.dat .bool (.dat .str (.dat (.int .i64) Qs31))), .nil⟩
    | _ => none) (fun
    | 7 => some (⟨[0, 4, 3], (.dat .str (.dat (.int .i64) Qs31)), .nil⟩, none)
    | _ => none) (fun
    | 3 => some ⟨⟨[4, 0, 3], (.dat (.int .i64) (.dat .str Qs31)), .nil⟩, (.one (.exit 0) ⟨[3], Qs31, .nil⟩)⟩
    | _ => none) (fun _ _ => 0)
  | _ => {}

theorem ok48 : Abs.SpecOK Try.prog 48 sp48 :=
  okW (an := an48) al0 rfl (by intro v; kernel_rfl)

def l16_0_5 (v : ((Int × Y9 × ByteArray × Unit) × (Unit))) : Option (((Int × Y9 × ByteArray × Unit) × (Unit)) ⊕ ((ByteArray × Unit) × (Unit))) :=
let x36 := (decide ((v.1.1 : Int) < (v.1.2.1.length : Int)))
bif x36 then (((bif (decide ((v.1.1 : Int) > 0)) then (bif (decide (v.1.2.2.1.size + 1 ≤ 4294967296)) then
some ((v.1.2.1, (v.1.1, ((v.1.2.2.1 ++ (bs [44])), ()))), ())
else none)
else (some ((v.1.2.1, (v.1.1, (v.1.2.2.1, ()))), ()))) : Option ((Y9 × Int × ByteArray × Unit) × (Unit))).bind fun v37 =>
Abs.rowAt v37.1.1 v37.1.2.1 fun e38 _ =>
bif (decide (e38.1.size + 1 ≤ 4294967296)) then
Abs.rowAt v37.1.1 v37.1.2.1 fun e39 _ =>
(m48 ((e39.2.1, ()), ())).bind fun u40 =>
bif (decide ((e38.1 ++ (bs [61])).size + u40.1.1.size ≤ 4294967296)) then
bif (decide (v37.1.2.2.1.size + ((e38.1 ++ (bs [61])) ++ u40.1.1).size ≤ 4294967296)) then
let x41 := (v37.1.2.2.1 ++ ((e38.1 ++ (bs [61])) ++ u40.1.1))
some (.inl (((w64 (v37.1.2.1 + 1)), (v37.1.1, (x41, ()))), ()))
else none
else none
else none)
else (some (.inr ((v.1.2.2.1, ()), ())))

/- pagewatch/pagewatchref20.Text -/
def i16 : Abs.Sg := ⟨[0], (.dat (.row Z13) .nil), .nil⟩

def o16 : Abs.Sg := ⟨[2], Qs31, .nil⟩

def m16 (v : ((Y9 × Unit) × (Unit))) : Option ((ByteArray × Unit) × (Unit)) :=
(m47 ((v.1.1, ()), ())).bind fun u35 =>
bif (!u35.1.1) then (some ((ByteArray.empty, ()), ()))
else ((loopT l16_0_5 ((0, (v.1.1, ((bs [123]), ()))), ())).bind fun d42 =>
bif (decide (d42.1.1.size + 1 ≤ 4294967296)) then
some (((d42.1.1 ++ (bs [125])), ()), ())
else none)

def sp16 : Abs.Spec := ⟨0, i16, o16, m16⟩

def an16 : Nat → Abs.FAn
  | 0 => Abs.FAn.mk (fun _ => none) (fun
    | 9 => some (⟨[0, 4, 3], (.dat (.row Z13) (.dat (.int .i64) Qs31)), .nil⟩, none)
    | _ => none) (fun
    | 5 => some ⟨⟨[4, 0, 3], (.dat (.int .i64) (.dat (.row Z13) Qs31)), .nil⟩, (.one (.exit 0) ⟨[3], Qs31, .nil⟩)⟩
    | _ => none) (fun _ _ => 0)
  | _ => {}

theorem ok16 : Abs.SpecOK Try.prog 16 sp16 :=
  okW (an := an16) (alc ok47 (alc ok48 al0)) rfl (by intro v; kernel_rfl)

def l24_0_4 (v : ((Int × Unit) × ((Y7 × Unit) × Unit))) : Option (((Int × Unit) × ((Y7 × Unit) × Unit)) ⊕ (Y14 ⊕ ((Unit) × (Unit)))) :=
let x83 := (decide ((v.1.1 : Int) < (v.2.1.1.2.2.1.length : Int)))
bif x83 then (Abs.rowAt v.2.1.1.2.2.1 v.1.1 fun e84 _ =>
(((m47 ((e84.2.1, ()), ())).bind fun u85 =>
bif (!u85.1.1) then (some ((true, (v.1.1, ())), ((v.2.1.1, ()), ())))
else ((m16 ((e84.2.1, ()), ())).bind fun u86 =>
bif (!(u86.1.1.toList == e84.1.toList)) then (some ((true, (v.1.1, ())), ((v.2.1.1, ()), ())))
else ((m58 ((e84.2.2.1, ()), ())).bind fun u87 =>
bif (!u87.1.1) then (some ((true, (v.1.1, ())), ((v.2.1.1, ()), ())))
else ((m58 ((e84.2.2.2.1, ()), ())).bind fun u88 =>
bif (!u88.1.1) then (some ((true, (v.1.1, ())), ((v.2.1.1, ()), ())))
else (bif (!e84.2.2.2.2.1) then (bif e84.2.2.2.2.2.1 then (some ((true, (v.1.1, ())), ((v.2.1.1, ()), ())))
else (bif (decide ((v.1.1 : Int) > 0)) then (Abs.rowAt v.2.1.1.2.2.1 (w64 (v.1.1 - 1)) fun e89 _ =>
some (((Op.bytesLess e84.1.toList e89.1.toList || e84.1.toList == e89.1.toList), (v.1.1, ())), ((v.2.1.1, ()), ())))
else (some ((false, (v.1.1, ())), ((v.2.1.1, ()), ())))))
else (bif (decide ((v.1.1 : Int) > 0)) then (Abs.rowAt v.2.1.1.2.2.1 (w64 (v.1.1 - 1)) fun e90 _ =>
some (((Op.bytesLess e84.1.toList e90.1.toList || e84.1.toList == e90.1.toList), (v.1.1, ())), ((v.2.1.1, ()), ())))
else (some ((false, (v.1.1, ())), ((v.2.1.1, ()), ()))))))))) : Option ((Bool × Int × Unit) × ((Y7 × Unit) × Unit))).bind fun v91 =>
bif v91.1.1 then (some (.inr (.inl ((false, ()), ()))))
else (some (.inl (((w64 (v91.1.2.1 + 1)), ()), ((v91.2.1.1, ()), ())))))
else (some (.inr (.inr ((), ()))))

/- pagewatch/pagewatchref23.Valid -/
def i24 : Abs.Sg := ⟨[0], Qs33, .nil⟩

def o24 : Abs.Sg := ⟨[2], Qs14, .nil⟩

def m24 (v : ((Y7 × Unit) × (Unit))) : Option Y14 :=
((let x78 := (decide (((v.1.1.2.2.1.length : Int) : Int) > 256))
bif x78 then (some ((true, ()), ((v.1.1, ()), ())))
else (bif (decide ((v.1.1.1 : Int) < 0)) then (some ((true, ()), ((v.1.1, ()), ())))
else (bif ((v.1.1.2.2.2.1 : Int) != (-1)) then ((m58 ((v.1.1.2.2.2.1, ()), ())).bind fun u79 =>
bif (!u79.1.1) then (some ((true, ()), ((v.1.1, ()), ())))
else (bif ((v.1.1.2.2.2.2.1 : Int) != (-1)) then ((m58 ((v.1.1.2.2.2.2.1, ()), ())).bind fun u80 =>
some (((!u80.1.1), ()), ((v.1.1, ()), ())))
else (some ((false, ()), ((v.1.1, ()), ())))))
else (bif ((v.1.1.2.2.2.2.1 : Int) != (-1)) then ((m58 ((v.1.1.2.2.2.2.1, ()), ())).bind fun u81 =>
some (((!u81.1.1), ()), ((v.1.1, ()), ())))
else (some ((false, ()), ((v.1.1, ()), ()))))))) : Option ((Bool × Unit) × ((Y7 × Unit) × Unit))).bind fun v82 =>
bif v82.1.1 then (some ((false, ()), ()))
else ((loopT l24_0_4 ((0, ()), ((v82.2.1.1, ()), ()))).bind fun d92 =>
sumE d92 (fun d93 => (some ((d93.1.1, ()), ()))) (fun d94 => (some ((true, ()), ()))))

def sp24 : Abs.Spec := ⟨0, i24, o24, m24⟩

def an24 : Nat → Abs.FAn
  | 0 => Abs.FAn.mk (fun
    | 7 => some ⟨[96, 1, 3], (.dat .bool (.st Qx9 Qs5)), Qb19⟩
    | 1 => some ⟨[35, 1], (.dat .bool (.st Qx9 .nil)), Qb19⟩
    | _ => none) (fun _ => none) (fun
    | 4 => some ⟨⟨[3, 1], (.dat (.int .i64) (.st Qx9 .nil)), Qb19⟩, (.more .ret ⟨[2], Qs14, .nil⟩ (.one (.exit 0) ⟨[], .nil, .nil⟩))⟩
    | _ => none) (fun _ _ => 0)
  | _ => {}

theorem ok24 : Abs.SpecOK Try.prog 24 sp24 :=
  okW (an := an24) (alc ok58 (alc ok47 (alc ok16 al0))) rfl (by intro v; kernel_rfl)

/- pagewatch/pagewatchref20.Right -/
def i98 : Abs.Sg := ⟨[0], (.dat (.cons .str (.cons (.int .i64) (.cons .str .unit))) .nil), .nil⟩

def o98 : Abs.Sg := ⟨[2], Qs14, .nil⟩

def m98 (v : (((ByteArray × Int × ByteArray × Unit) × Unit) × (Unit))) : Option Y14 :=
(((m79 ((v.1.1.1, ()), ())).bind fun u5 =>
bif u5.1.1 then (bif (decide ((v.1.1.2.1 : Int) ≥ 0)) then (bif (decide ((v.1.1.2.1 : Int) ≤ 3)) then ((m80 ((v.1.1.2.2.1, ()), ())).bind fun u6 =>
some ((u6.1.1, ()), ()))
else (some ((false, ()), ())))
else (some ((false, ()), ())))
else (some ((false, ()), ()))) : Option Y14).bind fun v7 =>
some ((v7.1.1, ()), ())

def sp98 : Abs.Spec := ⟨0, i98, o98, m98⟩

def an98 : Nat → Abs.FAn
  | 0 => Abs.FAn.mk (fun
    | 1 => some ⟨[2], Qs14, .nil⟩
    | _ => none) (fun _ => none) (fun _ => none) (fun _ _ => 0)
  | _ => {}

theorem ok98 : Abs.SpecOK Try.prog 98 sp98 :=
  okW (an := an98) (alc ok79 (alc ok80 al0)) rfl (by intro v; kernel_rfl)

def l99_0_2 (v : ((Int × (List ByteArray) × Unit) × (Unit))) : Option (((Int × (List ByteArray) × Unit) × (Unit)) ⊕ (Y14 ⊕ ((Unit) × (Unit)))) :=
let x41 := (decide ((v.1.1 : Int) < (v.1.2.1.length : Int)))
bif x41 then (((Abs.rowAt v.1.2.1 v.1.1 fun e42 _ =>
(m79 ((e42, ()), ())).bind fun u43 =>
bif (!u43.1.1) then (some ((true, (v.1.2.1, (v.1.1, ()))), ()))
else (bif (decide ((v.1.1 : Int) > 0)) then (Abs.rowAt v.1.2.1 v.1.1 fun e44 _ =>
Abs.rowAt v.1.2.1 (w64 (v.1.1 - 1)) fun e45 _ =>
some (((Op.bytesLess e44.toList e45.toList || e44.toList == e45.toList), (v.1.2.1, (v.1.1, ()))), ()))
else (some ((false, (v.1.2.1, (v.1.1, ()))), ())))) : Option ((Bool × (List ByteArray) × Int × Unit) × (Unit))).bind fun v46 =>
bif v46.1.1 then (some (.inr (.inl ((false, ()), ()))))
else (some (.inl (((w64 (v46.1.2.2.1 + 1)), (v46.1.2.1, ())), ()))))
else (some (.inr (.inr ((), ()))))

/- pagewatch/pagewatchref20.Keys -/
def i99 : Abs.Sg := ⟨[0], (.dat (.row .str) .nil), .nil⟩

def o99 : Abs.Sg := ⟨[2], Qs14, .nil⟩

def m99 (v : (((List ByteArray) × Unit) × (Unit))) : Option Y14 :=
(loopT l99_0_2 ((0, (v.1.1, ())), ())).bind fun d47 =>
sumE d47 (fun d48 => (some ((d48.1.1, ()), ()))) (fun d49 => (some ((true, ()), ())))

def sp99 : Abs.Spec := ⟨0, i99, o99, m99⟩

def an99 : Nat → Abs.FAn
  | 0 => Abs.FAn.mk (fun
    | 4 => some ⟨[31, 0, 3], (.dat .bool (.dat (.row .str) Qs5)), .nil⟩
    | _ => none) (fun _ => none) (fun
    | 2 => some ⟨⟨[3, 0], (.dat (.int .i64) (.dat (.row .str) .nil)), .nil⟩, (.more .ret ⟨[2], Qs14, .nil⟩ (.one (.exit 0) ⟨[], .nil, .nil⟩))⟩
    | _ => none) (fun _ _ => 0)
  | _ => {}

theorem ok99 : Abs.SpecOK Try.prog 99 sp99 :=
  okW (an := an99) (alc ok79 al0) rfl (by intro v; kernel_rfl)

def l91_0_4 (v : ((Int × Unit) × ((Y4 × Unit) × Unit))) : Option (((Int × Unit) × ((Y4 × Unit) × Unit)) ⊕ (((Int × Unit) × (Unit)) ⊕ ((Unit) × ((Y4 × Unit) × Unit)))) :=
let x52 := (decide ((v.1.1 : Int) < (v.2.1.1.2.1.length : Int)))
bif x52 then (Abs.rowAt v.2.1.1.2.1 v.1.1 fun e53 _ =>
(m98 ((e53, ()), ())).bind fun u54 =>
bif (!u54.1.1) then (some (.inr (.inl ((8, ()), ()))))
else (some (.inl (((w64 (v.1.1 + 1)), ()), ((v.2.1.1, ()), ())))))
else (some (.inr (.inr ((), ((v.2.1.1, ()), ())))))

/- pagewatch/pagewatchref21.one -/
def i91 : Abs.Sg := ⟨[0], Qs30, .nil⟩

def o91 : Abs.Sg := ⟨[2], Qs5, .nil⟩

def m91 (v : ((Y4 × Unit) × (Unit))) : Option ((Int × Unit) × (Unit)) :=
((bif (decide (((v.1.1.2.1.length : Int) : Int) > 8)) then (some ((true, ()), ((v.1.1, ()), ())))
else (let x50 := (decide (((v.1.1.2.2.2.1.length : Int) : Int) > 12))
some ((x50, ()), ((v.1.1, ()), ())))) : Option ((Bool × Unit) × ((Y4 × Unit) × Unit))).bind fun v51 =>
bif v51.1.1 then (some ((5, ()), ()))
else ((loopT l91_0_4 ((0, ()), ((v51.2.1.1, ()), ()))).bind fun d55 =>
sumE d55 (fun d56 => (some ((d56.1.1, ()), ()))) (fun d57 => ((m99 ((d57.2.1.1.2.2.2.1, ()), ())).bind fun u58 =>
bif (!u58.1.1) then (some ((8, ()), ()))
else (((bif (decide ((d57.2.1.1.2.2.1 : Int) < 0)) then (some ((true, ()), ()))
else (bif (decide ((d57.2.1.1.2.2.2.2.1 : Int) < 0)) then (some ((true, ()), ()))
else (let x59 := (decide ((d57.2.1.1.2.2.2.2.1 : Int) > d57.2.1.1.2.2.2.2.2.1))
bif x59 then (some ((true, ()), ()))
else (let x60 := (decide ((d57.2.1.1.2.2.2.2.2.1 : Int) > d57.2.1.1.2.2.2.2.2.2.1))
bif x60 then (some ((true, ()), ()))
else (let x61 := (decide ((d57.2.1.1.2.2.2.2.2.2.1 : Int) > 604800))
bif x61 then (some ((true, ()), ()))
else (some ((((d57.2.1.1.2.2.2.2.2.2.1 : Int) == 0), ()), ()))))))) : Option Y14).bind fun v62 =>
bif v62.1.1 then (some ((1, ()), ()))
else (some ((0, ()), ()))))))

def sp91 : Abs.Spec := ⟨0, i91, o91, m91⟩

def an91 : Nat → Abs.FAn
  | 0 => Abs.FAn.mk (fun
    | 10 => some ⟨[33], Qs14, .nil⟩
    | 1 => some ⟨[13, 1], (.dat .bool (.st Qx48 .nil)), (.box 8 Qs30 .nil)⟩
    | _ => none) (fun _ => none) (fun
    | 4 => some ⟨⟨[3, 1], (.dat (.int .i64) (.st Qx48 .nil)), (.box 8 Qs30 .nil)⟩, (.more .ret ⟨[2], Qs5, .nil⟩ (.one (.exit 0) ⟨[1], (.st Qx48 .nil), (.box 8 Qs30 .nil)⟩))⟩
    | _ => none) (fun _ _ => 0)
  | _ => {}

theorem ok91 : Abs.SpecOK Try.prog 91 sp91 :=
  okW (an := an91) (alc ok98 (alc ok99 al0)) rfl (by intro v; kernel_rfl)

def l59_1_6 (v : ((Int × Unit) × ((List Y4) × Unit))) : Option (((Int × Unit) × ((List Y4) × Unit)) ⊕ (((Int × Unit) × ((List Y4) × Unit)) ⊕ ((Unit) × ((List Y4) × Unit)))) :=
let x95 := (decide ((v.1.1 : Int) < ((v.2.1.length : Nat) : Int)))
bif x95 then (((bif ((v.1.1 : Int) == 0) then (bif (decide ((0 : Int) ≤ v.1.1 ∧ (v.1.1 : Int) < v.2.1.length)) then
(v.2.1[v.1.1.toNat]?).bind fun e96 =>
bif ((e96.1 : Int) != (-1)) then (some ((true, (v.1.1, ())), (v.2.1, ())))
else (bif (decide ((v.1.1 : Int) > 0)) then (bif (decide ((0 : Int) ≤ v.1.1 ∧ (v.1.1 : Int) < v.2.1.length)) then
(v.2.1[v.1.1.toNat]?).bind fun e97 =>
bif (decide ((e97.1 : Int) < 0)) then (some ((true, (v.1.1, ())), (v.2.1, ())))
else (bif (decide ((0 : Int) ≤ v.1.1 ∧ (v.1.1 : Int) < v.2.1.length)) then
(v.2.1[v.1.1.toNat]?).bind fun e98 =>
some (((decide ((e98.1 : Int) ≥ v.1.1)), (v.1.1, ())), (v.2.1, ()))
else none)
else none)
else (some ((false, (v.1.1, ())), (v.2.1, ()))))
else none)
else (bif (decide ((v.1.1 : Int) > 0)) then (bif (decide ((0 : Int) ≤ v.1.1 ∧ (v.1.1 : Int) < v.2.1.length)) then
(v.2.1[v.1.1.toNat]?).bind fun e99 =>
bif (decide ((e99.1 : Int) < 0)) then (some ((true, (v.1.1, ())), (v.2.1, ())))
else (bif (decide ((0 : Int) ≤ v.1.1 ∧ (v.1.1 : Int) < v.2.1.length)) then
(v.2.1[v.1.1.toNat]?).bind fun e100 =>
some (((decide ((e100.1 : Int) ≥ v.1.1)), (v.1.1, ())), (v.2.1, ()))
else none)
else none)
else (some ((false, (v.1.1, ())), (v.2.1, ()))))) : Option ((Bool × Int × Unit) × ((List Y4) × Unit))).bind fun v101 =>
bif v101.1.1 then (some (.inr (.inl ((3, ()), (v101.2.1, ())))))
else (bif (decide ((0 : Int) ≤ v101.1.2.1 ∧ (v101.1.2.1 : Int) < v101.2.1.length)) then
(v101.2.1[v101.1.2.1.toNat]?).bind fun e102 =>
(m91 ((e102, ()), ())).bind fun u103 =>
bif ((u103.1.1 : Int) != 0) then (some (.inr (.inl ((u103.1.1, ()), (v101.2.1, ())))))
else (some (.inl (((w64 (v101.1.2.1 + 1)), ()), (v101.2.1, ()))))
else none))
else (some (.inr (.inr ((), (v.2.1, ())))))

/- pagewatch/pagewatchref23.right -/
def i59 : Abs.Sg := ⟨[0], Qs30, .nil⟩

def o59 : Abs.Sg := ⟨[2], Qs14, .nil⟩

def m59 (v : ((Y4 × Unit) × (Unit))) : Option Y14 :=
((let x93 := ((((([((-1), ([], v.1.1.2.2))] : List Y4).length : Nat) : Int) : Int) == 0)
bif x93 then (bif (decide (([((-1), ([], v.1.1.2.2))] : List Y4).length = ([((-1), ([], v.1.1.2.2))] : List Y4).length) && true) then
some ((false, ()), ())
else none)
else (let x94 := (decide ((((([((-1), ([], v.1.1.2.2))] : List Y4).length : Nat) : Int) : Int) > 24))
bif x94 then (bif (decide (([((-1), ([], v.1.1.2.2))] : List Y4).length = ([((-1), ([], v.1.1.2.2))] : List Y4).length) && true) then
some ((false, ()), ())
else none)
else ((loopT l59_1_6 ((0, ()), (([((-1), ([], v.1.1.2.2))] : List Y4), ()))).bind fun d104 =>
sumE d104 (fun d105 => (bif (decide (d105.2.1.length = ([((-1), ([], v.1.1.2.2))] : List Y4).length) && true) then
some ((((d105.1.1 : Int) == 0), ()), ())
else none)) (fun d106 => (bif (decide ((0 : Int) ≤ 0 ∧ (0 : Int) < d106.2.1.length)) then
(d106.2.1[0]?).bind fun e107 =>
bif (decide (((e107.2.1.length : Int) : Int) > 0)) then (bif (decide (d106.2.1.length = ([((-1), ([], v.1.1.2.2))] : List Y4).length) && true) then
some ((false, ()), ())
else none)
else (bif (decide (d106.2.1.length = ([((-1), ([], v.1.1.2.2))] : List Y4).length) && true) then
some ((true, ()), ())
else none)
else none))))) : Option Y14).bind fun v108 =>
some ((v108.1.1, ()), ())

def sp59 : Abs.Spec := ⟨0, i59, o59, m59⟩

def an59 : Nat → Abs.FAn
  | 0 => Abs.FAn.mk (fun
    | 2 => some ⟨[2], Qs14, .nil⟩
    | _ => none) (fun _ => none) (fun _ => none) (fun
    | 2, 2 => 1
    | _, _ => 0)
  | 1 => Abs.FAn.mk (fun
    | 8 => some ⟨[47, 0, 3], (.dat .bool (.st (.own Z3 (0, 0)) Qs5)), (.arr Z3 false .nil)⟩
    | _ => none) (fun _ => none) (fun
    | 6 => some ⟨⟨[3, 0], (.dat (.int .i64) (.st (.own Z3 (0, 0)) .nil)), (.arr Z3 false .nil)⟩, (.more .ret ⟨[2], Qs5, (.arr Z3 false .nil)⟩ (.one (.exit 0) ⟨[0], (.st (.own Z3 (0, 0)) .nil), (.arr Z3 false .nil)⟩))⟩
    | _ => none) (fun _ _ => 0)
  | _ => {}

theorem ok59 : Abs.SpecOK Try.prog 59 sp59 :=
  okW (an := an59) (alc ok91 al0) rfl (by intro v; kernel_rfl)

/- pagewatch/pagewatchref23.Copy -/
def i22 : Abs.Sg := ⟨[0], Qs33, .nil⟩

def o22 : Abs.Sg := ⟨[2], (.st Qx9 .nil), Qb10⟩

def m22 (v : ((Y7 × Unit) × (Unit))) : Option ((Unit) × (Y6 × Y2 × Unit)) :=
bif (decide (0 + v.1.1.2.2.1.length ≤ 4294967296)) then
some ((), (((v.1.1.1, (v.1.1.2.1, (v.1.1.2.2.2.1, (v.1.1.2.2.2.2.1, ())))), ()), (v.1.1.2.2.1, ())))
else none

def sp22 : Abs.Spec := ⟨0, i22, o22, m22⟩

def an22 : Nat → Abs.FAn
  | _ => {}

theorem ok22 : Abs.SpecOK Try.prog 22 sp22 :=
  okW (an := an22) al0 rfl (by intro v; kernel_rfl)

/- pagewatch/pagewatchref23.limited -/
def i66 : Abs.Sg := ⟨[0], Qs5, .nil⟩

def o66 : Abs.Sg := ⟨[2], Qs5, .nil⟩

def m66 (v : ((Int × Unit) × (Unit))) : Option ((Int × Unit) × (Unit)) :=
bif (decide ((v.1.1 : Int) > 8589934592)) then (some (((-1), ()), ()))
else (some ((v.1.1, ()), ()))

def sp66 : Abs.Spec := ⟨0, i66, o66, m66⟩

def an66 : Nat → Abs.FAn
  | _ => {}

theorem ok66 : Abs.SpecOK Try.prog 66 sp66 :=
  okW (an := an66) al0 rfl (by intro v; kernel_rfl)

/- 63 pagewatch/pagewatchref23.stop: not told by a law: no end: [] -/

def l27_1_2 (v : ((Int × ByteArray × Unit) × (Y2 × Unit))) : Option (((Int × ByteArray × Unit) × (Y2 × Unit)) ⊕ ((ByteArray × Int × Unit) × (Y2 × Unit))) :=
((let x214 := (decide ((v.1.1 : Int) < ((v.2.1.length : Nat) : Int)))
bif x214 then (bif (decide ((0 : Int) ≤ v.1.1 ∧ (v.1.1 : Int) < v.2.1.length)) then
(v.2.1[v.1.1.toNat]?).bind fun e215 =>
some (((Op.bytesLess e215.1.toList v.1.2.1.toList), (v.1.2.1, (v.1.1, ()))), (v.2.1, ()))
else none)
else (some ((false, (v.1.2.1, (v.1.1, ()))), (v.2.1, ())))) : Option ((Bool × ByteArray × Int × Unit) × (Y2 × Unit))).bind fun v216 =>
bif v216.1.1 then (some (.inl (((w64 (v216.1.2.2.1 + 1)), (v216.1.2.1, ())), (v216.2.1, ()))))
else (some (.inr ((v216.1.2.1, (v216.1.2.2.1, ())), (v216.2.1, ()))))

/- pagewatch/pagewatchref23.Add -/
def i27 : Abs.Sg := ⟨[0, 1, 2, 3, 4], (.dat Z5 (.dat Z3 (.dat (.row Z13) (.dat .bool Qs5)))), .nil⟩

def o27 : Abs.Sg := ⟨[10, 11], (.st Qx9 Qs5), Qb10⟩

def m27 (v : ((Y7 × Y4 × Y9 × Bool × Int × Unit) × (Unit))) : Option ((Int × Unit) × (Y6 × Y2 × Unit)) :=
(((m24 ((v.1.1, ()), ())).bind fun u207 =>
bif (!u207.1.1) then (some ((true, (v.1.2.2.2.2.1, (v.1.2.2.1, (v.1.2.2.2.1, ())))), (((0, (ByteArray.empty, (0, (0, ())))), ()), ((v.1.2.1, ()), ((v.1.1, ()), ())))))
else ((m59 ((v.1.2.1, ()), ())).bind fun u208 =>
bif (!u208.1.1) then (some ((true, (v.1.2.2.2.2.1, (v.1.2.2.1, (v.1.2.2.2.1, ())))), (((0, (ByteArray.empty, (0, (0, ())))), ()), ((v.1.2.1, ()), ((v.1.1, ()), ())))))
else ((m47 ((v.1.2.2.1, ()), ())).bind fun u209 =>
some (((!u209.1.1), (v.1.2.2.2.2.1, (v.1.2.2.1, (v.1.2.2.2.1, ())))), (((0, (ByteArray.empty, (0, (0, ())))), ()), ((v.1.2.1, ()), ((v.1.1, ()), ()))))))) : Option ((Bool × Int × Y9 × Bool × Unit) × (Y6 × (Y4 × Unit) × (Y7 × Unit) × Unit))).bind fun v210 =>
bif v210.1.1 then (some ((8, ()), (((0, (ByteArray.empty, (0, (0, ())))), ()), ([], ()))))
else ((m58 ((v210.1.2.1, ()), ())).bind fun u211 =>
bif (!u211.1.1) then (some ((1, ()), (((0, (ByteArray.empty, (0, (0, ())))), ()), ([], ()))))
else ((m22 ((v210.2.2.2.1.1, ()), ())).bind fun u212 =>
(m16 ((v210.1.2.2.1, ()), ())).bind fun u213 =>
(loopT l27_1_2 ((0, (u213.1.1, ())), (u212.2.2.1, ()))).bind fun d217 =>
((let x218 := (decide ((d217.1.2.1 : Int) < ((d217.2.1.length : Nat) : Int)))
bif x218 then (bif (decide ((0 : Int) ≤ d217.1.2.1 ∧ (d217.1.2.1 : Int) < d217.2.1.length)) then
(d217.2.1[d217.1.2.1.toNat]?).bind fun e219 =>
some ((d217.1.2.1, ((e219.1.toList == d217.1.1.toList), ())), (d217.2.1, ()))
else none)
else (some ((d217.1.2.1, (false, ())), (d217.2.1, ())))) : Option ((Int × Bool × Unit) × (Y2 × Unit))).bind fun v220 =>
bif (decide (v220.2.1.length = u212.2.2.1.length) && true) then
bif (!v220.1.2.1) then (bif (!v210.1.2.2.2.1) then (((bif ((((v220.2.1.length : Nat) : Int) : Int) == 0) then (some ((), (v220.2.1, (((0, (ByteArray.empty, (0, (0, ())))), ()), (((u212.2.1.1.1, (u212.2.1.1.2.1, ((-1), (u212.2.1.1.2.2.2.1, ())))), ()), ())))))
else (some ((), (v220.2.1, (((0, (ByteArray.empty, (0, (0, ())))), ()), (((u212.2.1.1.1, (u212.2.1.1.2.1, (u212.2.1.1.2.2.1, (u212.2.1.1.2.2.2.1, ())))), ()), ())))))) : Option ((Unit) × (Y2 × Y6 × Y6 × Unit))).bind fun v221 =>
bif (decide (v221.2.1.length = v220.2.1.length) && true) then
some ((0, ()), (((v221.2.2.2.1.1.1, (v221.2.2.2.1.1.2.1, (v221.2.2.2.1.1.2.2.1, (v221.2.2.2.1.1.2.2.2.1, ())))), ()), (v221.2.1, ())))
else none)
else (let x222 := (decide ((((v220.2.1.length : Nat) : Int) : Int) ≥ 256))
bif x222 then (some ((5, ()), (((0, (ByteArray.empty, (0, (0, ())))), ()), ([], ()))))
else (bif (decide (v220.2.1.length + ([(ByteArray.empty, ([], (0, (0, (false, (false, ()))))))] : List Y17).length ≤ 4294967296)) then
let x223 := (v220.2.1 ++ ([(ByteArray.empty, ([], (0, (0, (false, (false, ()))))))] : List Y17))
bif (decide ((0 : Int) ≤ (w64 (v220.1.1 + 1)))) then
bif (decide ((w64 (v220.1.1 + 1)).toNat ≤ x223.length ∧ x223.length ≤ x223.length)) then
bif (decide ((0 : Int) ≤ v220.1.1)) then
bif (decide (v220.1.1.toNat ≤ x223.length ∧ x223.length ≤ x223.length)) then
bif (decide (v220.1.1.toNat + (x223.length - v220.1.1.toNat) ≤ x223.length)) then
bif (decide ((w64 (v220.1.1 + 1)).toNat + (x223.length - (w64 (v220.1.1 + 1)).toNat) ≤ x223.length)) then
let x224 := (spliceL x223 (w64 (v220.1.1 + 1)).toNat (((x223.drop v220.1.1.toNat).take (x223.length - v220.1.1.toNat)).take (x223.length - (w64 (v220.1.1 + 1)).toNat)))
bif (decide (0 + v210.1.2.2.1.length ≤ 4294967296)) then
bif (decide ((0 : Int) ≤ v220.1.1 ∧ (v220.1.1 : Int) < x224.length)) then
bif (decide (v220.1.1.toNat < x224.length)) then
((bif ((u212.2.1.1.2.2.2.1 : Int) != (-1)) then (let x225 := (w64 (u212.2.1.1.2.2.2.1 + v210.2.2.1.1.2.2.2.2.2.1))
let x226 := (if (x225 : Int) > v210.1.2.1 then x225 else v210.1.2.1)
some ((x226, ()), ((x224.set v220.1.1.toNat (u213.1.1, (v210.1.2.2.1, (v210.1.2.1, (v210.1.2.1, (true, (false, ()))))))), (((0, (ByteArray.empty, (0, (0, ())))), ()), (((u212.2.1.1.1, (u212.2.1.1.2.1, (u212.2.1.1.2.2.1, (u212.2.1.1.2.2.2.1, ())))), ()), ())))))
else (some (((w64 (v210.1.2.1 + v210.2.2.1.1.2.2.2.2.1)), ()), ((x224.set v220.1.1.toNat (u213.1.1, (v210.1.2.2.1, (v210.1.2.1, (v210.1.2.1, (true, (false, ()))))))), (((0, (ByteArray.empty, (0, (0, ())))), ()), (((u212.2.1.1.1, (u212.2.1.1.2.1, (u212.2.1.1.2.2.1, (u212.2.1.1.2.2.2.1, ())))), ()), ())))))) : Option ((Int × Unit) × (Y2 × Y6 × Y6 × Unit))).bind fun v227 =>
((((bif ((v227.2.2.2.1.1.2.2.1 : Int) == (-1)) then (some ((true, (v227.1.1, ())), (v227.2.1, (((v227.2.2.1.1.1, (v227.2.2.1.1.2.1, (v227.2.2.1.1.2.2.1, (v227.2.2.1.1.2.2.2.1, ())))), ()), (((v227.2.2.2.1.1.1, (v227.2.2.2.1.1.2.1, (v227.2.2.2.1.1.2.2.1, (v227.2.2.2.1.1.2.2.2.1, ())))), ()), ())))))
else (let x228 := (decide ((v227.1.1 : Int) < v227.2.2.2.1.1.2.2.1))
some ((x228, (v227.1.1, ())), (v227.2.1, (((v227.2.2.1.1.1, (v227.2.2.1.1.2.1, (v227.2.2.1.1.2.2.1, (v227.2.2.1.1.2.2.2.1, ())))), ()), (((v227.2.2.2.1.1.1, (v227.2.2.2.1.1.2.1, (v227.2.2.2.1.1.2.2.1, (v227.2.2.2.1.1.2.2.2.1, ())))), ()), ())))))) : Option ((Bool × Int × Unit) × (Y2 × Y6 × Y6 × Unit))).bind fun v229 =>
bif v229.1.1 then ((m66 ((v229.1.2.1, ()), ())).bind fun u230 =>
some ((), (v229.2.1, (((v229.2.2.1.1.1, (v229.2.2.1.1.2.1, (v229.2.2.1.1.2.2.1, (v229.2.2.1.1.2.2.2.1, ())))), ()), (((v229.2.2.2.1.1.1, (v229.2.2.2.1.1.2.1, (u230.1.1, (v229.2.2.2.1.1.2.2.2.1, ())))), ()), ())))))
else (some ((), (v229.2.1, (((v229.2.2.1.1.1, (v229.2.2.1.1.2.1, (v229.2.2.1.1.2.2.1, (v229.2.2.1.1.2.2.2.1, ())))), ()), (((v229.2.2.2.1.1.1, (v229.2.2.2.1.1.2.1, (v229.2.2.2.1.1.2.2.1, (v229.2.2.2.1.1.2.2.2.1, ())))), ()), ())))))) : Option ((Unit) × (Y2 × Y6 × Y6 × Unit))).bind fun v231 =>
bif (decide (v231.2.1.length = (x224.set v220.1.1.toNat (u213.1.1, (v210.1.2.2.1, (v210.1.2.1, (v210.1.2.1, (true, (false, ()))))))).length) && true) then
some ((0, ()), (((v231.2.2.2.1.1.1, (v231.2.2.2.1.1.2.1, (v231.2.2.2.1.1.2.2.1, (v231.2.2.2.1.1.2.2.2.1, ())))), ()), (v231.2.1, ())))
else none
else none
else none
else none
else none
else none
else none
else none
else none
else none
else none)))
else (bif (decide ((0 : Int) ≤ v220.1.1 ∧ (v220.1.1 : Int) < v220.2.1.length)) then
(v220.2.1[v220.1.1.toNat]?).bind fun e232 =>
((((((v220.2.1.set v220.1.1.toNat (e232.1, (e232.2.1, (e232.2.2.1, (v210.1.2.1, e232.2.2.2.2)))))[v220.1.1.toNat]?).bind fun e233 =>
bif e233.2.2.2.2.1 then (some (((!v210.1.2.2.2.1), (v210.1.2.1, (v220.1.1, (v220.1.1.toNat, (v210.1.2.2.2.1, ()))))), (((v210.2.1.1.1, (v210.2.1.1.2.1, (v210.2.1.1.2.2.1, (v210.2.1.1.2.2.2.1, ())))), ()), ((v210.2.2.1.1, ()), (((u212.2.1.1.1, (u212.2.1.1.2.1, (u212.2.1.1.2.2.1, (u212.2.1.1.2.2.2.1, ())))), ()), ((v220.2.1.set v220.1.1.toNat (e232.1, (e232.2.1, (e232.2.2.1, (v210.1.2.1, e232.2.2.2.2))))), ()))))))
else (some ((false, (v210.1.2.1, (v220.1.1, (v220.1.1.toNat, (v210.1.2.2.2.1, ()))))), (((v210.2.1.1.1, (v210.2.1.1.2.1, (v210.2.1.1.2.2.1, (v210.2.1.1.2.2.2.1, ())))), ()), ((v210.2.2.1.1, ()), (((u212.2.1.1.1, (u212.2.1.1.2.1, (u212.2.1.1.2.2.1, (u212.2.1.1.2.2.2.1, ())))), ()), ((v220.2.1.set v220.1.1.toNat (e232.1, (e232.2.1, (e232.2.2.1, (v210.1.2.1, e232.2.2.2.2))))), ()))))))) : Option ((Bool × Int × Int × Nat × Bool × Unit) × (Y6 × (Y4 × Unit) × Y6 × Y2 × Unit))).bind fun v234 =>
bif v234.1.1 then (((bif (decide ((0 : Int) ≤ v234.1.2.2.1 ∧ (v234.1.2.2.1 : Int) < v234.2.2.2.2.1.length)) then
(v234.2.2.2.2.1[v234.1.2.2.1.toNat]?).bind fun e235 =>
bif (!e235.2.2.2.2.2.1) then (bif (decide ((0 : Int) ≤ v234.1.2.2.1)) then
bif (decide (0 ≤ v234.1.2.2.1.toNat ∧ v234.1.2.2.1.toNat ≤ v234.2.2.2.2.1.length)) then
bif (decide ((0 : Int) ≤ (w64 (v234.1.2.2.1 + 1)))) then
bif (decide ((w64 (v234.1.2.2.1 + 1)).toNat ≤ v234.2.2.2.2.1.length ∧ v234.2.2.2.2.1.length ≤ v234.2.2.2.2.1.length)) then
bif (decide ((w64 (v234.1.2.2.1 + 1)).toNat + (v234.2.2.2.2.1.length - (w64 (v234.1.2.2.1 + 1)).toNat) ≤ v234.2.2.2.2.1.length)) then
bif (decide (0 = 0 ∧ v234.1.2.2.1.toNat ≤ v234.2.2.2.2.1.length ∧ v234.1.2.2.1.toNat + ((v234.2.2.2.2.1.drop (w64 (v234.1.2.2.1 + 1)).toNat).take (v234.2.2.2.2.1.length - (w64 (v234.1.2.2.1 + 1)).toNat)).length ≤ 4294967296)) then
let x236 := (v234.2.2.2.2.1.take v234.1.2.2.1.toNat ++ ((v234.2.2.2.2.1.drop (w64 (v234.1.2.2.1 + 1)).toNat).take (v234.2.2.2.2.1.length - (w64 (v234.1.2.2.1 + 1)).toNat)))
((bif ((((x236.length : Nat) : Int) : Int) == 0) then (some ((), (x236, (((0, (ByteArray.empty, (0, (0, ())))), ()), (((v234.2.2.2.1.1.1, (v234.2.2.2.1.1.2.1, ((-1), (v234.2.2.2.1.1.2.2.2.1, ())))), ()), ())))))
else (some ((), (x236, (((0, (ByteArray.empty, (0, (0, ())))), ()), (((v234.2.2.2.1.1.1, (v234.2.2.2.1.1.2.1, (v234.2.2.2.1.1.2.2.1, (v234.2.2.2.1.1.2.2.2.1, ())))), ()), ())))))) : Option ((Unit) × (Y2 × Y6 × Y6 × Unit))).bind fun v237 =>
bif (decide (v237.2.1.length = x236.length) && true) then
bif (decide (v234.2.2.2.2.1.length = v234.2.2.2.2.1.length) && true) then
some ((0, ()), (((v237.2.2.2.1.1.1, (v237.2.2.2.1.1.2.1, (v237.2.2.2.1.1.2.2.1, (v237.2.2.2.1.1.2.2.2.1, ())))), ()), (v237.2.1, ())))
else none
else none
else none
else none
else none
else none
else none
else none)
else ((v234.2.2.2.2.1[v234.1.2.2.1.toNat]?).bind fun e238 =>
((v234.2.2.2.2.1.set v234.1.2.2.1.toNat (e238.1, (e238.2.1, (e238.2.2.1, (e238.2.2.2.1, (false, e238.2.2.2.2.2))))))[v234.1.2.2.1.toNat]?).bind fun e239 =>
(((v234.2.2.2.2.1.set v234.1.2.2.1.toNat (e238.1, (e238.2.1, (e238.2.2.1, (e238.2.2.2.1, (false, e238.2.2.2.2.2)))))).set v234.1.2.2.1.toNat (e239.1, (e239.2.1, (e239.2.2.1, (e239.2.2.2.1, (e239.2.2.2.2.1, (false, ())))))))[v234.1.2.2.1.toNat]?).bind fun e240 =>
((bif ((v234.2.2.2.1.1.2.2.2.1 : Int) != (-1)) then (let x241 := (w64 (v234.2.2.2.1.1.2.2.2.1 + v234.2.2.1.1.2.2.2.2.2.1))
let x242 := (if (x241 : Int) > v234.1.2.1 then x241 else v234.1.2.1)
some ((x242, ()), ((((v234.2.2.2.2.1.set v234.1.2.2.1.toNat (e238.1, (e238.2.1, (e238.2.2.1, (e238.2.2.2.1, (false, e238.2.2.2.2.2)))))).set v234.1.2.2.1.toNat (e239.1, (e239.2.1, (e239.2.2.1, (e239.2.2.2.1, (e239.2.2.2.2.1, (false, ()))))))).set v234.1.2.2.1.toNat (e240.1, (e240.2.1, (v234.1.2.1, e240.2.2.2)))), (((0, (ByteArray.empty, (0, (0, ())))), ()), (((v234.2.2.2.1.1.1, (v234.2.2.2.1.1.2.1, (v234.2.2.2.1.1.2.2.1, (v234.2.2.2.1.1.2.2.2.1, ())))), ()), ())))))
else (some (((w64 (v234.1.2.1 + v234.2.2.1.1.2.2.2.2.1)), ()), ((((v234.2.2.2.2.1.set v234.1.2.2.1.toNat (e238.1, (e238.2.1, (e238.2.2.1, (e238.2.2.2.1, (false, e238.2.2.2.2.2)))))).set v234.1.2.2.1.toNat (e239.1, (e239.2.1, (e239.2.2.1, (e239.2.2.2.1, (e239.2.2.2.2.1, (false, ()))))))).set v234.1.2.2.1.toNat (e240.1, (e240.2.1, (v234.1.2.1, e240.2.2.2)))), (((0, (ByteArray.empty, (0, (0, ())))), ()), (((v234.2.2.2.1.1.1, (v234.2.2.2.1.1.2.1, (v234.2.2.2.1.1.2.2.1, (v234.2.2.2.1.1.2.2.2.1, ())))), ()), ())))))) : Option ((Int × Unit) × (Y2 × Y6 × Y6 × Unit))).bind fun v243 =>
((((bif ((v243.2.2.2.1.1.2.2.1 : Int) == (-1)) then (some ((true, (v243.1.1, ())), (v243.2.1, (((v243.2.2.1.1.1, (v243.2.2.1.1.2.1, (v243.2.2.1.1.2.2.1, (v243.2.2.1.1.2.2.2.1, ())))), ()), (((v243.2.2.2.1.1.1, (v243.2.2.2.1.1.2.1, (v243.2.2.2.1.1.2.2.1, (v243.2.2.2.1.1.2.2.2.1, ())))), ()), ())))))
else (let x244 := (decide ((v243.1.1 : Int) < v243.2.2.2.1.1.2.2.1))
some ((x244, (v243.1.1, ())), (v243.2.1, (((v243.2.2.1.1.1, (v243.2.2.1.1.2.1, (v243.2.2.1.1.2.2.1, (v243.2.2.1.1.2.2.2.1, ())))), ()), (((v243.2.2.2.1.1.1, (v243.2.2.2.1.1.2.1, (v243.2.2.2.1.1.2.2.1, (v243.2.2.2.1.1.2.2.2.1, ())))), ()), ())))))) : Option ((Bool × Int × Unit) × (Y2 × Y6 × Y6 × Unit))).bind fun v245 =>
bif v245.1.1 then ((m66 ((v245.1.2.1, ()), ())).bind fun u246 =>
some ((), (v245.2.1, (((v245.2.2.1.1.1, (v245.2.2.1.1.2.1, (v245.2.2.1.1.2.2.1, (v245.2.2.1.1.2.2.2.1, ())))), ()), (((v245.2.2.2.1.1.1, (v245.2.2.2.1.1.2.1, (u246.1.1, (v245.2.2.2.1.1.2.2.2.1, ())))), ()), ())))))
else (some ((), (v245.2.1, (((v245.2.2.1.1.1, (v245.2.2.1.1.2.1, (v245.2.2.1.1.2.2.1, (v245.2.2.1.1.2.2.2.1, ())))), ()), (((v245.2.2.2.1.1.1, (v245.2.2.2.1.1.2.1, (v245.2.2.2.1.1.2.2.1, (v245.2.2.2.1.1.2.2.2.1, ())))), ()), ())))))) : Option ((Unit) × (Y2 × Y6 × Y6 × Unit))).bind fun v247 =>
bif (decide (v247.2.1.length = (((v234.2.2.2.2.1.set v234.1.2.2.1.toNat (e238.1, (e238.2.1, (e238.2.2.1, (e238.2.2.2.1, (false, e238.2.2.2.2.2)))))).set v234.1.2.2.1.toNat (e239.1, (e239.2.1, (e239.2.2.1, (e239.2.2.2.1, (e239.2.2.2.2.1, (false, ()))))))).set v234.1.2.2.1.toNat (e240.1, (e240.2.1, (v234.1.2.1, e240.2.2.2)))).length) && true) then
bif (decide (v247.2.1.length = v234.2.2.2.2.1.length) && true) then
some ((0, ()), (((v247.2.2.2.1.1.1, (v247.2.2.2.1.1.2.1, (v247.2.2.2.1.1.2.2.1, (v247.2.2.2.1.1.2.2.2.1, ())))), ()), (v247.2.1, ())))
else none
else none)
else none) : Option ((Int × Unit) × (Y6 × Y2 × Unit))).bind fun v248 =>
some (.inr ((v248.1.1, ()), (((v248.2.1.1.1, (v248.2.1.1.2.1, (v248.2.1.1.2.2.1, (v248.2.1.1.2.2.2.1, ())))), ()), (v248.2.2.1, ())))))
else ((((v234.2.2.2.2.1[v234.1.2.2.2.1]?).bind fun e249 =>
bif (!e249.2.2.2.2.1) then (some ((v234.1.2.2.2.2.1, (v234.1.2.1, (v234.1.2.2.2.1, ()))), (((v234.2.1.1.1, (v234.2.1.1.2.1, (v234.2.1.1.2.2.1, (v234.2.1.1.2.2.2.1, ())))), ()), (((v234.2.2.2.1.1.1, (v234.2.2.2.1.1.2.1, (v234.2.2.2.1.1.2.2.1, (v234.2.2.2.1.1.2.2.2.1, ())))), ()), (v234.2.2.2.2.1, ())))))
else (some ((false, (v234.1.2.1, (v234.1.2.2.2.1, ()))), (((v234.2.1.1.1, (v234.2.1.1.2.1, (v234.2.1.1.2.2.1, (v234.2.1.1.2.2.2.1, ())))), ()), (((v234.2.2.2.1.1.1, (v234.2.2.2.1.1.2.1, (v234.2.2.2.1.1.2.2.1, (v234.2.2.2.1.1.2.2.2.1, ())))), ()), (v234.2.2.2.2.1, ())))))) : Option ((Bool × Int × Nat × Unit) × (Y6 × Y6 × Y2 × Unit))).bind fun v250 =>
bif v250.1.1 then ((v250.2.2.2.1[v250.1.2.2.1]?).bind fun e251 =>
((v250.2.2.2.1.set v250.1.2.2.1 (e251.1, (e251.2.1, (e251.2.2.1, (e251.2.2.2.1, (true, e251.2.2.2.2.2))))))[v250.1.2.2.1]?).bind fun e252 =>
(((v250.2.2.2.1.set v250.1.2.2.1 (e251.1, (e251.2.1, (e251.2.2.1, (e251.2.2.2.1, (true, e251.2.2.2.2.2)))))).set v250.1.2.2.1 (e252.1, (e252.2.1, (e252.2.2.1, (e252.2.2.2.1, (e252.2.2.2.2.1, (true, ())))))))[v250.1.2.2.1]?).bind fun e253 =>
some (.inl ((), (((v250.2.1.1.1, (v250.2.1.1.2.1, (v250.2.1.1.2.2.1, (v250.2.1.1.2.2.2.1, ())))), ()), (((v250.2.2.1.1.1, (v250.2.2.1.1.2.1, (v250.2.2.1.1.2.2.1, (v250.2.2.1.1.2.2.2.1, ())))), ()), ((((v250.2.2.2.1.set v250.1.2.2.1 (e251.1, (e251.2.1, (e251.2.2.1, (e251.2.2.2.1, (true, e251.2.2.2.2.2)))))).set v250.1.2.2.1 (e252.1, (e252.2.1, (e252.2.2.1, (e252.2.2.2.1, (e252.2.2.2.2.1, (true, ()))))))).set v250.1.2.2.1 (e253.1, (e253.2.1, (v250.1.2.1, e253.2.2.2)))), ()))))))
else (some (.inl ((), (((v250.2.1.1.1, (v250.2.1.1.2.1, (v250.2.1.1.2.2.1, (v250.2.1.1.2.2.2.1, ())))), ()), (((v250.2.2.1.1.1, (v250.2.2.1.1.2.1, (v250.2.2.1.1.2.2.1, (v250.2.2.1.1.2.2.2.1, ())))), ()), (v250.2.2.2.1, ())))))))) : Option (((Unit) × (Y6 × Y6 × Y2 × Unit)) ⊕ ((Int × Unit) × (Y6 × Y2 × Unit)))).bind fun r256 =>
sumE r256 (fun v254 => (some ((0, ()), (((v254.2.2.1.1.1, (v254.2.2.1.1.2.1, (v254.2.2.1.1.2.2.1, (v254.2.2.1.1.2.2.2.1, ())))), ()), (v254.2.2.2.1, ()))))) (fun d255 => (some ((d255.1.1, ()), (((d255.2.1.1.1, (d255.2.1.1.2.1, (d255.2.1.1.2.2.1, (d255.2.1.1.2.2.2.1, ())))), ()), (d255.2.2.1, ())))))
else none)
else none))

def sp27 : Abs.Spec := ⟨0, i27, o27, m27⟩

def an27 : Nat → Abs.FAn
  | 0 => Abs.FAn.mk (fun
    | 21 => some ⟨[109, 10, 12, 4, 16], (.dat .bool (.st Qx9 (.st Qx15 (.dat (.int .i64) (.eptr (2, 0) 6 0 .nil))))), (.box 5 Qs2 Qb17)⟩
    | 20 => some ⟨[10, 11], (.st Qx9 Qs5), Qb10⟩
    | 19 => some ⟨[95, 10, 4, 14, 6, 12, 16, 3], (.dat .bool (.st Qx9 (.dat (.int .i64) (.dat (.int .i64) (.st Qx47 (.st Qx20 (.eptr (3, 0) 6 0 Qs14))))))), (.box 5 Qs2 (.box 8 Qs30 (.box 5 (.agg (.dat (.int .i64) (.dat .str (.st (.own Z1 (3, 0)) Qs1))) .nil) Qb34)))⟩
    | 1 => some ⟨[29, 10, 4, 6, 2, 3, 5], (.dat .bool (.st Qx9 (.dat (.int .i64) (.st Qx47 (.dat (.row Z13) (.dat .bool (.st Qx20 .nil))))))), (.box 5 Qs2 (.box 8 Qs30 Qb19))⟩
    | _ => none) (fun
    | 23 => some (⟨[10, 12], Qs44, (.box 5 Qs2 Qb17)⟩, some (.one .ret ⟨[10, 11], (.st Qx9 Qs5), Qb10⟩))
    | _ => none) (fun _ => none) (fun
    | 20, 4 => 4
    | 16, 3 => 3
    | 10, 1 => 2
    | 7, 3 => 1
    | _, _ => 0)
  | 1 => Abs.FAn.mk (fun
    | 4 => some ⟨[4, 5], (.dat (.int .i64) Qs14), Qb34⟩
    | 2 => some ⟨[19, 1, 0, 6], (.dat .bool (.dat .str (.st (.own Z1 (0, 0)) Qs5))), Qb34⟩
    | _ => none) (fun _ => none) (fun
    | 2 => some ⟨⟨[6, 1, 0], (.dat (.int .i64) (.dat .str (.st (.own Z1 (0, 0)) .nil))), Qb34⟩, (.one (.exit 0) ⟨[1, 6, 0], (.dat .str (.dat (.int .i64) (.st (.own Z1 (0, 0)) .nil))), Qb34⟩)⟩
    | _ => none) (fun _ _ => 0)
  | 2 => Abs.FAn.mk (fun _ => none) (fun
    | 3 => some (⟨[2, 1], Qs45, Qb6⟩, none)
    | _ => none) (fun _ => none) (fun _ _ => 0)
  | 3 => Abs.FAn.mk (fun
    | 4 => some ⟨[30, 6, 3, 7], (.dat .bool (.st Qx15 (.st Qx20 Qs5))), Qb6⟩
    | _ => none) (fun
    | 6 => some (⟨[6, 3], Qs45, Qb6⟩, none)
    | 4 => some (⟨[6, 3, 7], (.st Qx15 (.st Qx20 Qs5)), Qb6⟩, none)
    | _ => none) (fun _ => none) (fun _ _ => 0)
  | 4 => Abs.FAn.mk (fun _ => none) (fun _ => none) (fun _ => none) (fun
    | 6, 3 => 6
    | 4, 1 => 5
    | _, _ => 0)
  | 5 => Abs.FAn.mk (fun _ => none) (fun
    | 3 => some (⟨[2, 1], Qs45, Qb6⟩, none)
    | _ => none) (fun _ => none) (fun _ _ => 0)
  | 6 => Abs.FAn.mk (fun
    | 4 => some ⟨[30, 6, 3, 7], (.dat .bool (.st Qx15 (.st Qx20 Qs5))), Qb6⟩
    | _ => none) (fun
    | 6 => some (⟨[6, 3], Qs45, Qb6⟩, none)
    | 4 => some (⟨[6, 3, 7], (.st Qx15 (.st Qx20 Qs5)), Qb6⟩, none)
    | _ => none) (fun _ => none) (fun _ _ => 0)
  | _ => {}

theorem ok27 : Abs.SpecOK Try.prog 27 sp27 :=
  okW (an := an27) (alc ok24 (alc ok59 (alc ok47 (alc ok58 (alc ok22 (alc ok16 (alc ok66 al0))))))) rfl (by intro v; kernel_rfl)

def l65_0_2 (v : ((Int × ByteArray × (List ByteArray) × Unit) × (Unit))) : Option (((Int × ByteArray × (List ByteArray) × Unit) × (Unit)) ⊕ (Y14 ⊕ ((Unit) × (Unit)))) :=
let x18 := (decide ((v.1.1 : Int) < (v.1.2.2.1.length : Int)))
bif x18 then (Abs.rowAt v.1.2.2.1 v.1.1 fun e19 _ =>
bif (e19.toList == v.1.2.1.toList) then (some (.inr (.inl ((true, ()), ()))))
else (some (.inl (((w64 (v.1.1 + 1)), (v.1.2.1, (v.1.2.2.1, ()))), ()))))
else (some (.inr (.inr ((), ()))))

/- pagewatch/pagewatchref23.has -/
def i65 : Abs.Sg := ⟨[0, 1], (.dat (.row .str) Qs31), .nil⟩

def o65 : Abs.Sg := ⟨[4], Qs14, .nil⟩

def m65 (v : (((List ByteArray) × ByteArray × Unit) × (Unit))) : Option Y14 :=
(loopT l65_0_2 ((0, (v.1.2.1, (v.1.1, ()))), ())).bind fun d20 =>
sumE d20 (fun d21 => (some ((d21.1.1, ()), ()))) (fun d22 => (some ((false, ()), ())))

def sp65 : Abs.Spec := ⟨0, i65, o65, m65⟩

def an65 : Nat → Abs.FAn
  | 0 => Abs.FAn.mk (fun _ => none) (fun _ => none) (fun
    | 2 => some ⟨⟨[5, 1, 0], (.dat (.int .i64) (.dat .str (.dat (.row .str) .nil))), .nil⟩, (.more .ret ⟨[4], Qs14, .nil⟩ (.one (.exit 0) ⟨[], .nil, .nil⟩))⟩
    | _ => none) (fun _ _ => 0)
  | _ => {}

theorem ok65 : Abs.SpecOK Try.prog 65 sp65 :=
  okW (an := an65) al0 rfl (by intro v; kernel_rfl)

def l31_0_11 (v : ((Int × Bool × (List ByteArray) × Int × Unit) × (Y8 × (Y7 × Unit) × Y6 × Y6 × Y8 × (Y4 × Unit) × (List ByteArray) × (List ByteArray) × Y2 × Unit))) : Option (((Int × Bool × (List ByteArray) × Int × Unit) × (Y8 × (Y7 × Unit) × Y6 × Y6 × Y8 × (Y4 × Unit) × (List ByteArray) × (List ByteArray) × Y2 × Unit)) ⊕ ((Int × Bool × Unit) × Y18)) :=
let x188 := (decide ((v.1.1 : Int) < (v.2.2.1.1.2.2.1.length : Int)))
bif x188 then (((Abs.rowAt v.2.2.1.1.2.2.1 v.1.1 fun e189 _ =>
(m65 ((v.1.2.2.1, (e189.1, ())), ())).bind fun u190 =>
bif u190.1.1 then (some ((v.1.2.1, (v.1.2.2.1, (v.1.2.2.2.1, (v.1.1, ())))), (((v.2.1.1.1, (v.2.1.1.2.1, (v.2.1.1.2.2.1, (v.2.1.1.2.2.2.1, ())))), ()), ((v.2.2.1.1, ()), (((v.2.2.2.1.1.1, (v.2.2.2.1.1.2.1, (v.2.2.2.1.1.2.2.1, (v.2.2.2.1.1.2.2.2.1, ())))), ()), (((v.2.2.2.2.1.1.1, (v.2.2.2.2.1.1.2.1, (v.2.2.2.2.1.1.2.2.1, (v.2.2.2.2.1.1.2.2.2.1, ())))), ()), (((v.2.2.2.2.2.1.1.1, (v.2.2.2.2.2.1.1.2.1, (v.2.2.2.2.2.1.1.2.2.1, (v.2.2.2.2.2.1.1.2.2.2.1, ())))), ()), ((v.2.2.2.2.2.2.1.1, ()), (v.2.2.2.2.2.2.2.1, (v.2.2.2.2.2.2.2.2.1, (v.2.2.2.2.2.2.2.2.2.1, ())))))))))))
else (bif e189.2.2.2.2.1 then (bif (decide (v.2.2.2.2.2.2.2.1.length + [e189.1].length ≤ 4294967296)) then
((bif v.1.2.1 then (some ((true, (v.1.2.2.1, (v.1.2.2.2.1, (v.1.1, ())))), (((v.2.1.1.1, (v.2.1.1.2.1, (v.2.1.1.2.2.1, (v.2.1.1.2.2.2.1, ())))), ()), ((v.2.2.1.1, ()), (((v.2.2.2.1.1.1, (v.2.2.2.1.1.2.1, (v.2.2.2.1.1.2.2.1, (v.2.2.2.1.1.2.2.2.1, ())))), ()), (((v.2.2.2.2.1.1.1, (v.2.2.2.2.1.1.2.1, (v.2.2.2.2.1.1.2.2.1, (v.2.2.2.2.1.1.2.2.2.1, ())))), ()), (((v.2.2.2.2.2.1.1.1, (v.2.2.2.2.2.1.1.2.1, (v.2.2.2.2.2.1.1.2.2.1, (v.2.2.2.2.2.1.1.2.2.2.1, ())))), ()), ((v.2.2.2.2.2.2.1.1, ()), ((v.2.2.2.2.2.2.2.1 ++ [e189.1]), (v.2.2.2.2.2.2.2.2.1, (v.2.2.2.2.2.2.2.2.2.1, ())))))))))))
else (some (((!e189.2.2.2.2.2.1), (v.1.2.2.1, (v.1.2.2.2.1, (v.1.1, ())))), (((v.2.1.1.1, (v.2.1.1.2.1, (v.2.1.1.2.2.1, (v.2.1.1.2.2.2.1, ())))), ()), ((v.2.2.1.1, ()), (((v.2.2.2.1.1.1, (v.2.2.2.1.1.2.1, (v.2.2.2.1.1.2.2.1, (v.2.2.2.1.1.2.2.2.1, ())))), ()), (((v.2.2.2.2.1.1.1, (v.2.2.2.2.1.1.2.1, (v.2.2.2.2.1.1.2.2.1, (v.2.2.2.2.1.1.2.2.2.1, ())))), ()), (((v.2.2.2.2.2.1.1.1, (v.2.2.2.2.2.1.1.2.1, (v.2.2.2.2.2.1.1.2.2.1, (v.2.2.2.2.2.1.1.2.2.2.1, ())))), ()), ((v.2.2.2.2.2.2.1.1, ()), ((v.2.2.2.2.2.2.2.1 ++ [e189.1]), (v.2.2.2.2.2.2.2.2.1, (v.2.2.2.2.2.2.2.2.2.1, ())))))))))))) : Option ((Bool × (List ByteArray) × Int × Int × Unit) × (Y8 × (Y7 × Unit) × Y6 × Y6 × Y8 × (Y4 × Unit) × (List ByteArray) × (List ByteArray) × Y2 × Unit))).bind fun v191 =>
some ((v191.1.1, (v191.1.2.1, (v191.1.2.2.1, (v191.1.2.2.2.1, ())))), (((v191.2.1.1.1, (v191.2.1.1.2.1, (v191.2.1.1.2.2.1, (v191.2.1.1.2.2.2.1, ())))), ()), ((v191.2.2.1.1, ()), (((v191.2.2.2.1.1.1, (v191.2.2.2.1.1.2.1, (v191.2.2.2.1.1.2.2.1, (v191.2.2.2.1.1.2.2.2.1, ())))), ()), (((v191.2.2.2.2.1.1.1, (v191.2.2.2.2.1.1.2.1, (v191.2.2.2.2.1.1.2.2.1, (v191.2.2.2.2.1.1.2.2.2.1, ())))), ()), (((v191.2.2.2.2.2.1.1.1, (v191.2.2.2.2.2.1.1.2.1, (v191.2.2.2.2.2.1.1.2.2.1, (v191.2.2.2.2.2.1.1.2.2.2.1, ())))), ()), ((v191.2.2.2.2.2.2.1.1, ()), (v191.2.2.2.2.2.2.2.1, (v191.2.2.2.2.2.2.2.2.1, (v191.2.2.2.2.2.2.2.2.2.1, ()))))))))))
else none)
else (bif (decide (v.2.2.2.2.2.2.2.2.1.length + [e189.1].length ≤ 4294967296)) then
some ((true, (v.1.2.2.1, (v.1.2.2.2.1, (v.1.1, ())))), (((v.2.1.1.1, (v.2.1.1.2.1, (v.2.1.1.2.2.1, (v.2.1.1.2.2.2.1, ())))), ()), ((v.2.2.1.1, ()), (((v.2.2.2.1.1.1, (v.2.2.2.1.1.2.1, (v.2.2.2.1.1.2.2.1, (v.2.2.2.1.1.2.2.2.1, ())))), ()), (((v.2.2.2.2.1.1.1, (v.2.2.2.2.1.1.2.1, (v.2.2.2.2.1.1.2.2.1, (v.2.2.2.2.1.1.2.2.2.1, ())))), ()), (((v.2.2.2.2.2.1.1.1, (v.2.2.2.2.2.1.1.2.1, (v.2.2.2.2.2.1.1.2.2.1, (v.2.2.2.2.2.1.1.2.2.2.1, ())))), ()), ((v.2.2.2.2.2.2.1.1, ()), (v.2.2.2.2.2.2.2.1, ((v.2.2.2.2.2.2.2.2.1 ++ [e189.1]), (v.2.2.2.2.2.2.2.2.2.1, ()))))))))))
else none))) : Option ((Bool × (List ByteArray) × Int × Int × Unit) × (Y8 × (Y7 × Unit) × Y6 × Y6 × Y8 × (Y4 × Unit) × (List ByteArray) × (List ByteArray) × Y2 × Unit))).bind fun v192 =>
some (.inl (((w64 (v192.1.2.2.2.1 + 1)), (v192.1.1, (v192.1.2.1, (v192.1.2.2.1, ())))), (((v192.2.1.1.1, (v192.2.1.1.2.1, (v192.2.1.1.2.2.1, (v192.2.1.1.2.2.2.1, ())))), ()), ((v192.2.2.1.1, ()), (((v192.2.2.2.1.1.1, (v192.2.2.2.1.1.2.1, (v192.2.2.2.1.1.2.2.1, (v192.2.2.2.1.1.2.2.2.1, ())))), ()), (((v192.2.2.2.2.1.1.1, (v192.2.2.2.2.1.1.2.1, (v192.2.2.2.2.1.1.2.2.1, (v192.2.2.2.2.1.1.2.2.2.1, ())))), ()), (((v192.2.2.2.2.2.1.1.1, (v192.2.2.2.2.2.1.1.2.1, (v192.2.2.2.2.2.1.1.2.2.1, (v192.2.2.2.2.2.1.1.2.2.2.1, ())))), ()), ((v192.2.2.2.2.2.2.1.1, ()), (v192.2.2.2.2.2.2.2.1, (v192.2.2.2.2.2.2.2.2.1, (v192.2.2.2.2.2.2.2.2.2.1, ()))))))))))))
else (some (.inr ((v.1.2.2.2.1, (v.1.2.1, ())), (((v.2.2.2.1.1.1, (v.2.2.2.1.1.2.1, (v.2.2.2.1.1.2.2.1, (v.2.2.2.1.1.2.2.2.1, ())))), ()), (((v.2.1.1.1, (v.2.1.1.2.1, (v.2.1.1.2.2.1, (v.2.1.1.2.2.2.1, ())))), ()), ((v.2.2.1.1, ()), (((v.2.2.2.2.1.1.1, (v.2.2.2.2.1.1.2.1, (v.2.2.2.2.1.1.2.2.1, (v.2.2.2.2.1.1.2.2.2.1, ())))), ()), (((v.2.2.2.2.2.1.1.1, (v.2.2.2.2.2.1.1.2.1, (v.2.2.2.2.2.1.1.2.2.1, (v.2.2.2.2.2.1.1.2.2.2.1, ())))), ()), ((v.2.2.2.2.2.2.1.1, ()), (v.2.2.2.2.2.2.2.2.2.1, (v.2.2.2.2.2.2.2.1, (v.2.2.2.2.2.2.2.2.1, ()))))))))))))

def l31_0_25 (v : ((Int × Bool × Int × Unit) × Y18)) : Option (((Int × Bool × Int × Unit) × Y18) ⊕ ((Bool × Int × Unit) × (Y6 × Y6 × Y8 × Y8 × (Y4 × Unit) × Y2 × (List ByteArray) × (List ByteArray) × Unit))) :=
let x198 := (decide ((v.1.1 : Int) < (v.2.2.2.1.1.2.2.1.length : Int)))
bif x198 then (((Abs.rowAt v.2.2.2.1.1.2.2.1 v.1.1 fun e199 _ =>
(m65 ((v.2.2.2.2.2.2.2.2.2.1, (e199.1, ())), ())).bind fun u200 =>
bif u200.1.1 then (some ((v.1.2.1, (v.1.2.2.1, (v.1.1, ()))), (((v.2.1.1.1, (v.2.1.1.2.1, (v.2.1.1.2.2.1, (v.2.1.1.2.2.2.1, ())))), ()), (((v.2.2.1.1.1, (v.2.2.1.1.2.1, (v.2.2.1.1.2.2.1, (v.2.2.1.1.2.2.2.1, ())))), ()), ((v.2.2.2.1.1, ()), (((v.2.2.2.2.1.1.1, (v.2.2.2.2.1.1.2.1, (v.2.2.2.2.1.1.2.2.1, (v.2.2.2.2.1.1.2.2.2.1, ())))), ()), (((v.2.2.2.2.2.1.1.1, (v.2.2.2.2.2.1.1.2.1, (v.2.2.2.2.2.1.1.2.2.1, (v.2.2.2.2.2.1.1.2.2.2.1, ())))), ()), ((v.2.2.2.2.2.2.1.1, ()), (v.2.2.2.2.2.2.2.1, (v.2.2.2.2.2.2.2.2.1, (v.2.2.2.2.2.2.2.2.2.1, ())))))))))))
else (((bif e199.2.2.2.2.2.1 then (some ((v.1.2.1, (v.1.2.2.1, (v.1.1, ()))), (((v.2.1.1.1, (v.2.1.1.2.1, (v.2.1.1.2.2.1, (v.2.1.1.2.2.2.1, ())))), ()), (((v.2.2.1.1.1, (v.2.2.1.1.2.1, (v.2.2.1.1.2.2.1, (v.2.2.1.1.2.2.2.1, ())))), ()), ((v.2.2.2.1.1, ()), (((v.2.2.2.2.1.1.1, (v.2.2.2.2.1.1.2.1, (v.2.2.2.2.1.1.2.2.1, (v.2.2.2.2.1.1.2.2.2.1, ())))), ()), (((v.2.2.2.2.2.1.1.1, (v.2.2.2.2.2.1.1.2.1, (v.2.2.2.2.2.1.1.2.2.1, (v.2.2.2.2.2.1.1.2.2.2.1, ())))), ()), ((v.2.2.2.2.2.2.1.1, ()), (((e199.1, (e199.2.1, (e199.2.2.1, (e199.2.2.2.1, (e199.2.2.2.2.1, (true, ())))))), ()), (v.2.2.2.2.2.2.2.1, (v.2.2.2.2.2.2.2.2.1, (v.2.2.2.2.2.2.2.2.2.1, ()))))))))))))
else ((m65 ((v.2.2.2.2.2.2.2.2.1, (e199.1, ())), ())).bind fun u201 =>
some ((v.1.2.1, (v.1.2.2.1, (v.1.1, ()))), (((v.2.1.1.1, (v.2.1.1.2.1, (v.2.1.1.2.2.1, (v.2.1.1.2.2.2.1, ())))), ()), (((v.2.2.1.1.1, (v.2.2.1.1.2.1, (v.2.2.1.1.2.2.1, (v.2.2.1.1.2.2.2.1, ())))), ()), ((v.2.2.2.1.1, ()), (((v.2.2.2.2.1.1.1, (v.2.2.2.2.1.1.2.1, (v.2.2.2.2.1.1.2.2.1, (v.2.2.2.2.1.1.2.2.2.1, ())))), ()), (((v.2.2.2.2.2.1.1.1, (v.2.2.2.2.2.1.1.2.1, (v.2.2.2.2.2.1.1.2.2.1, (v.2.2.2.2.2.1.1.2.2.2.1, ())))), ()), ((v.2.2.2.2.2.2.1.1, ()), (((e199.1, (e199.2.1, (e199.2.2.1, (e199.2.2.2.1, (e199.2.2.2.2.1, (u201.1.1, ())))))), ()), (v.2.2.2.2.2.2.2.1, (v.2.2.2.2.2.2.2.2.1, (v.2.2.2.2.2.2.2.2.2.1, ()))))))))))))) : Option ((Bool × Int × Int × Unit) × (Y6 × Y8 × (Y7 × Unit) × Y6 × Y8 × (Y4 × Unit) × (Y17 × Unit) × Y2 × (List ByteArray) × (List ByteArray) × Unit))).bind fun v202 =>
bif (decide (v202.2.2.2.2.2.2.2.2.1.length + ([v202.2.2.2.2.2.2.2.1.1] : List Y17).length ≤ 4294967296)) then
let x203 := (v202.2.2.2.2.2.2.2.2.1 ++ ([v202.2.2.2.2.2.2.2.1.1] : List Y17))
some ((v202.1.1, (v202.1.2.1, (v202.1.2.2.1, ()))), (((v202.2.1.1.1, (v202.2.1.1.2.1, (v202.2.1.1.2.2.1, (v202.2.1.1.2.2.2.1, ())))), ()), (((v202.2.2.1.1.1, (v202.2.2.1.1.2.1, (v202.2.2.1.1.2.2.1, (v202.2.2.1.1.2.2.2.1, ())))), ()), ((v202.2.2.2.1.1, ()), (((v202.2.2.2.2.1.1.1, (v202.2.2.2.2.1.1.2.1, (v202.2.2.2.2.1.1.2.2.1, (v202.2.2.2.2.1.1.2.2.2.1, ())))), ()), (((v202.2.2.2.2.2.1.1.1, (v202.2.2.2.2.2.1.1.2.1, (v202.2.2.2.2.2.1.1.2.2.1, (v202.2.2.2.2.2.1.1.2.2.2.1, ())))), ()), ((v202.2.2.2.2.2.2.1.1, ()), (x203, (v202.2.2.2.2.2.2.2.2.2.1, (v202.2.2.2.2.2.2.2.2.2.2.1, ()))))))))))
else none)) : Option ((Bool × Int × Int × Unit) × Y18)).bind fun v204 =>
some (.inl (((w64 (v204.1.2.2.1 + 1)), (v204.1.1, (v204.1.2.1, ()))), (((v204.2.1.1.1, (v204.2.1.1.2.1, (v204.2.1.1.2.2.1, (v204.2.1.1.2.2.2.1, ())))), ()), (((v204.2.2.1.1.1, (v204.2.2.1.1.2.1, (v204.2.2.1.1.2.2.1, (v204.2.2.1.1.2.2.2.1, ())))), ()), ((v204.2.2.2.1.1, ()), (((v204.2.2.2.2.1.1.1, (v204.2.2.2.2.1.1.2.1, (v204.2.2.2.2.1.1.2.2.1, (v204.2.2.2.2.1.1.2.2.2.1, ())))), ()), (((v204.2.2.2.2.2.1.1.1, (v204.2.2.2.2.2.1.1.2.1, (v204.2.2.2.2.2.1.1.2.2.1, (v204.2.2.2.2.2.1.1.2.2.2.1, ())))), ()), ((v204.2.2.2.2.2.2.1.1, ()), (v204.2.2.2.2.2.2.2.1, (v204.2.2.2.2.2.2.2.2.1, (v204.2.2.2.2.2.2.2.2.2.1, ()))))))))))))
else (some (.inr ((v.1.2.1, (v.1.2.2.1, ())), (((v.2.1.1.1, (v.2.1.1.2.1, (v.2.1.1.2.2.1, (v.2.1.1.2.2.2.1, ())))), ()), (((v.2.2.2.2.1.1.1, (v.2.2.2.2.1.1.2.1, (v.2.2.2.2.1.1.2.2.1, (v.2.2.2.2.1.1.2.2.2.1, ())))), ()), (((v.2.2.2.2.2.1.1.1, (v.2.2.2.2.2.1.1.2.1, (v.2.2.2.2.2.1.1.2.2.1, (v.2.2.2.2.2.1.1.2.2.2.1, ())))), ()), (((v.2.2.1.1.1, (v.2.2.1.1.2.1, (v.2.2.1.1.2.2.1, (v.2.2.1.1.2.2.2.1, ())))), ()), ((v.2.2.2.2.2.2.1.1, ()), (v.2.2.2.2.2.2.2.1, (v.2.2.2.2.2.2.2.2.1, (v.2.2.2.2.2.2.2.2.2.1, ())))))))))))

def l31_0_34 (v : ((Int × Bool × Bool × Int × Unit) × (Y6 × Y6 × Y8 × Y8 × (Y4 × Unit) × Y2 × (List ByteArray) × (List ByteArray) × Unit))) : Option (((Int × Bool × Bool × Int × Unit) × (Y6 × Y6 × Y8 × Y8 × (Y4 × Unit) × Y2 × (List ByteArray) × (List ByteArray) × Unit)) ⊕ ((Bool × Int × Bool × Unit) × (Y6 × Y8 × Y8 × Y6 × (Y4 × Unit) × (List ByteArray) × (List ByteArray) × Y2 × Unit))) :=
let x207 := (decide ((v.1.1 : Int) < ((v.2.2.2.2.2.2.1.length : Nat) : Int)))
bif x207 then (((bif v.1.2.1 then (some ((true, (v.1.2.2.1, (v.1.2.2.2.1, (v.1.1, ())))), (((v.2.1.1.1, (v.2.1.1.2.1, (v.2.1.1.2.2.1, (v.2.1.1.2.2.2.1, ())))), ()), (((v.2.2.1.1.1, (v.2.2.1.1.2.1, (v.2.2.1.1.2.2.1, (v.2.2.1.1.2.2.2.1, ())))), ()), (((v.2.2.2.1.1.1, (v.2.2.2.1.1.2.1, (v.2.2.2.1.1.2.2.1, (v.2.2.2.1.1.2.2.2.1, ())))), ()), (((v.2.2.2.2.1.1.1, (v.2.2.2.2.1.1.2.1, (v.2.2.2.2.1.1.2.2.1, (v.2.2.2.2.1.1.2.2.2.1, ())))), ()), ((v.2.2.2.2.2.1.1, ()), (v.2.2.2.2.2.2.1, (v.2.2.2.2.2.2.2.1, (v.2.2.2.2.2.2.2.2.1, ()))))))))))
else (bif (decide ((0 : Int) ≤ v.1.1 ∧ (v.1.1 : Int) < v.2.2.2.2.2.2.1.length)) then
(v.2.2.2.2.2.2.1[v.1.1.toNat]?).bind fun e208 =>
some (((!e208.2.2.2.2.2.1), (v.1.2.2.1, (v.1.2.2.2.1, (v.1.1, ())))), (((v.2.1.1.1, (v.2.1.1.2.1, (v.2.1.1.2.2.1, (v.2.1.1.2.2.2.1, ())))), ()), (((v.2.2.1.1.1, (v.2.2.1.1.2.1, (v.2.2.1.1.2.2.1, (v.2.2.1.1.2.2.2.1, ())))), ()), (((v.2.2.2.1.1.1, (v.2.2.2.1.1.2.1, (v.2.2.2.1.1.2.2.1, (v.2.2.2.1.1.2.2.2.1, ())))), ()), (((v.2.2.2.2.1.1.1, (v.2.2.2.2.1.1.2.1, (v.2.2.2.2.1.1.2.2.1, (v.2.2.2.2.1.1.2.2.2.1, ())))), ()), ((v.2.2.2.2.2.1.1, ()), (v.2.2.2.2.2.2.1, (v.2.2.2.2.2.2.2.1, (v.2.2.2.2.2.2.2.2.1, ())))))))))
else none)) : Option ((Bool × Bool × Int × Int × Unit) × (Y6 × Y6 × Y8 × Y8 × (Y4 × Unit) × Y2 × (List ByteArray) × (List ByteArray) × Unit))).bind fun v209 =>
some (.inl (((w64 (v209.1.2.2.2.1 + 1)), (v209.1.1, (v209.1.2.1, (v209.1.2.2.1, ())))), (((v209.2.1.1.1, (v209.2.1.1.2.1, (v209.2.1.1.2.2.1, (v209.2.1.1.2.2.2.1, ())))), ()), (((v209.2.2.1.1.1, (v209.2.2.1.1.2.1, (v209.2.2.1.1.2.2.1, (v209.2.2.1.1.2.2.2.1, ())))), ()), (((v209.2.2.2.1.1.1, (v209.2.2.2.1.1.2.1, (v209.2.2.2.1.1.2.2.1, (v209.2.2.2.1.1.2.2.2.1, ())))), ()), (((v209.2.2.2.2.1.1.1, (v209.2.2.2.2.1.1.2.1, (v209.2.2.2.2.1.1.2.2.1, (v209.2.2.2.2.1.1.2.2.2.1, ())))), ()), ((v209.2.2.2.2.2.1.1, ()), (v209.2.2.2.2.2.2.1, (v209.2.2.2.2.2.2.2.1, (v209.2.2.2.2.2.2.2.2.1, ())))))))))))
else (some (.inr ((v.1.2.2.1, (v.1.2.2.2.1, (v.1.2.1, ()))), (((v.2.2.1.1.1, (v.2.2.1.1.2.1, (v.2.2.1.1.2.2.1, (v.2.2.1.1.2.2.2.1, ())))), ()), (((v.2.2.2.1.1.1, (v.2.2.2.1.1.2.1, (v.2.2.2.1.1.2.2.1, (v.2.2.2.1.1.2.2.2.1, ())))), ()), (((v.2.2.2.2.1.1.1, (v.2.2.2.2.1.1.2.1, (v.2.2.2.2.1.1.2.2.1, (v.2.2.2.2.1.1.2.2.2.1, ())))), ()), (((v.2.1.1.1, (v.2.1.1.2.1, (v.2.1.1.2.2.1, (v.2.1.1.2.2.2.1, ())))), ()), ((v.2.2.2.2.2.1.1, ()), (v.2.2.2.2.2.2.2.1, (v.2.2.2.2.2.2.2.2.1, (v.2.2.2.2.2.2.1, ())))))))))))

/- pagewatch/pagewatchref23.Look -/
def i31 : Abs.Sg := ⟨[0, 1, 2, 3], (.dat Z5 (.dat Z3 (.dat (.int .i64) (.dat (.row .str) .nil)))), .nil⟩

def o31 : Abs.Sg := ⟨[8, 9, 10, 11], (.st Qx9 (.st Qx25 (.dat .bool Qs5))), (.box 5 (.agg (.dat (.int .i64) (.dat .str (.st (.own Z1 (2, 0)) Qs1))) .nil) (.box 6 Qs37 (.arr Z1 false Qb16)))⟩

def m31 (v : ((Y7 × Y4 × Int × (List ByteArray) × Unit) × (Unit))) : Option ((Bool × Int × Unit) × (Y6 × Y8 × Y2 × (List ByteArray) × (List ByteArray) × Unit)) :=
(((m24 ((v.1.1, ()), ())).bind fun u181 =>
bif (!u181.1.1) then (some ((true, (v.1.2.2.2.1, (v.1.2.2.1, ()))), (((0, (ByteArray.empty, (0, (0, ())))), ()), (((0, (0, (0, (ByteArray.empty, ())))), ()), ((v.1.1, ()), ((v.1.2.1, ()), ()))))))
else ((m59 ((v.1.2.1, ()), ())).bind fun u182 =>
some (((!u182.1.1), (v.1.2.2.2.1, (v.1.2.2.1, ()))), (((0, (ByteArray.empty, (0, (0, ())))), ()), (((0, (0, (0, (ByteArray.empty, ())))), ()), ((v.1.1, ()), ((v.1.2.1, ()), ()))))))) : Option ((Bool × (List ByteArray) × Int × Unit) × (Y6 × Y8 × (Y7 × Unit) × (Y4 × Unit) × Unit))).bind fun v183 =>
bif v183.1.1 then (some ((false, (8, ())), (((0, (ByteArray.empty, (0, (0, ())))), ()), (((0, (0, (0, (ByteArray.empty, ())))), ()), ([], ([], ([], ())))))))
else ((m58 ((v183.1.2.2.1, ()), ())).bind fun u184 =>
bif (!u184.1.1) then (some ((false, (1, ())), (((0, (ByteArray.empty, (0, (0, ())))), ()), (((0, (0, (0, (ByteArray.empty, ())))), ()), ([], ([], ([], ())))))))
else ((m22 ((v183.2.2.2.1.1, ()), ())).bind fun u185 =>
((bif ((v183.2.2.2.1.1.2.2.2.1 : Int) == (-1)) then (some ((true, (v183.1.2.1, (v183.1.2.2.1, ()))), (((v183.2.1.1.1, (v183.2.1.1.2.1, (v183.2.1.1.2.2.1, (v183.2.1.1.2.2.2.1, ())))), ()), (((v183.2.2.1.1.1, (v183.2.2.1.1.2.1, (v183.2.2.1.1.2.2.1, (v183.2.2.1.1.2.2.2.1, ())))), ()), (((u185.2.1.1.1, (u185.2.1.1.2.1, (u185.2.1.1.2.2.1, (u185.2.1.1.2.2.2.1, ())))), ()), ((v183.2.2.2.1.1, ()), ((v183.2.2.2.2.1.1, ()), (u185.2.2.1, ()))))))))
else (let x186 := (decide ((v183.2.2.2.1.1.2.2.2.1 : Int) > v183.1.2.2.1))
some ((x186, (v183.1.2.1, (v183.1.2.2.1, ()))), (((v183.2.1.1.1, (v183.2.1.1.2.1, (v183.2.1.1.2.2.1, (v183.2.1.1.2.2.2.1, ())))), ()), (((v183.2.2.1.1.1, (v183.2.2.1.1.2.1, (v183.2.2.1.1.2.2.1, (v183.2.2.1.1.2.2.2.1, ())))), ()), (((u185.2.1.1.1, (u185.2.1.1.2.1, (u185.2.1.1.2.2.1, (u185.2.1.1.2.2.2.1, ())))), ()), ((v183.2.2.2.1.1, ()), ((v183.2.2.2.2.1.1, ()), (u185.2.2.1, ()))))))))) : Option ((Bool × (List ByteArray) × Int × Unit) × (Y6 × Y8 × Y6 × (Y7 × Unit) × (Y4 × Unit) × Y2 × Unit))).bind fun v187 =>
bif v187.1.1 then (some ((false, (0, ())), (((v187.2.2.2.1.1.1, (v187.2.2.2.1.1.2.1, (v187.2.2.2.1.1.2.2.1, (v187.2.2.2.1.1.2.2.2.1, ())))), ()), (((0, (0, (0, (ByteArray.empty, ())))), ()), (v187.2.2.2.2.2.2.1, ([], ([], ())))))))
else ((loopT l31_0_11 ((0, (false, (v187.1.2.1, (v187.1.2.2.1, ())))), (((v187.1.2.2.1, (v187.2.2.2.2.1.1.1, (v187.2.2.2.2.2.1.1.2.2.1, (v187.2.2.2.2.1.1.2.1, ())))), ()), ((v187.2.2.2.2.1.1, ()), (((v187.2.2.2.1.1.1, (v187.2.2.2.1.1.2.1, (v187.2.2.2.1.1.2.2.1, (v187.2.2.2.1.1.2.2.2.1, ())))), ()), (((v187.2.1.1.1, (v187.2.1.1.2.1, (v187.2.1.1.2.2.1, (v187.2.1.1.2.2.2.1, ())))), ()), (((v187.2.2.1.1.1, (v187.2.2.1.1.2.1, (v187.2.2.1.1.2.2.1, (v187.2.2.1.1.2.2.2.1, ())))), ()), ((v187.2.2.2.2.2.1.1, ()), ([], ([], (v187.2.2.2.2.2.2.1, ()))))))))))).bind fun d193 =>
((((let x194 := (decide ((((d193.2.2.2.2.2.2.2.2.1.length : Nat) : Int) : Int) > 0))
bif x194 then (bif ((d193.2.2.2.1.1.2.2.2.2.1 : Int) != (-1)) then (let x195 := (w64 (d193.2.2.2.1.1.2.2.2.2.1 + d193.2.2.2.2.2.2.1.1.2.2.2.2.2.2.1))
some (((decide ((x195 : Int) ≤ d193.1.1)), (d193.1.1, (d193.1.2.1, ()))), (((d193.2.1.1.1, (d193.2.1.1.2.1, (d193.2.1.1.2.2.1, (d193.2.1.1.2.2.2.1, ())))), ()), (((d193.2.2.1.1.1, (d193.2.2.1.1.2.1, (d193.2.2.1.1.2.2.1, (d193.2.2.1.1.2.2.2.1, ())))), ()), ((d193.2.2.2.1.1, ()), (((d193.2.2.2.2.1.1.1, (d193.2.2.2.2.1.1.2.1, (d193.2.2.2.2.1.1.2.2.1, (d193.2.2.2.2.1.1.2.2.2.1, ())))), ()), (((d193.2.2.2.2.2.1.1.1, (d193.2.2.2.2.2.1.1.2.1, (d193.2.2.2.2.2.1.1.2.2.1, (d193.2.2.2.2.2.1.1.2.2.2.1, ())))), ()), ((d193.2.2.2.2.2.2.1.1, ()), (d193.2.2.2.2.2.2.2.1, (d193.2.2.2.2.2.2.2.2.1, (d193.2.2.2.2.2.2.2.2.2.1, ())))))))))))
else (some ((false, (d193.1.1, (d193.1.2.1, ()))), (((d193.2.1.1.1, (d193.2.1.1.2.1, (d193.2.1.1.2.2.1, (d193.2.1.1.2.2.2.1, ())))), ()), (((d193.2.2.1.1.1, (d193.2.2.1.1.2.1, (d193.2.2.1.1.2.2.1, (d193.2.2.1.1.2.2.2.1, ())))), ()), ((d193.2.2.2.1.1, ()), (((d193.2.2.2.2.1.1.1, (d193.2.2.2.2.1.1.2.1, (d193.2.2.2.2.1.1.2.2.1, (d193.2.2.2.2.1.1.2.2.2.1, ())))), ()), (((d193.2.2.2.2.2.1.1.1, (d193.2.2.2.2.2.1.1.2.1, (d193.2.2.2.2.2.1.1.2.2.1, (d193.2.2.2.2.2.1.1.2.2.2.1, ())))), ()), ((d193.2.2.2.2.2.2.1.1, ()), (d193.2.2.2.2.2.2.2.1, (d193.2.2.2.2.2.2.2.2.1, (d193.2.2.2.2.2.2.2.2.2.1, ()))))))))))))
else (some ((false, (d193.1.1, (d193.1.2.1, ()))), (((d193.2.1.1.1, (d193.2.1.1.2.1, (d193.2.1.1.2.2.1, (d193.2.1.1.2.2.2.1, ())))), ()), (((d193.2.2.1.1.1, (d193.2.2.1.1.2.1, (d193.2.2.1.1.2.2.1, (d193.2.2.1.1.2.2.2.1, ())))), ()), ((d193.2.2.2.1.1, ()), (((d193.2.2.2.2.1.1.1, (d193.2.2.2.2.1.1.2.1, (d193.2.2.2.2.1.1.2.2.1, (d193.2.2.2.2.1.1.2.2.2.1, ())))), ()), (((d193.2.2.2.2.2.1.1.1, (d193.2.2.2.2.2.1.1.2.1, (d193.2.2.2.2.2.1.1.2.2.1, (d193.2.2.2.2.2.1.1.2.2.2.1, ())))), ()), ((d193.2.2.2.2.2.2.1.1, ()), (d193.2.2.2.2.2.2.2.1, (d193.2.2.2.2.2.2.2.2.1, (d193.2.2.2.2.2.2.2.2.2.1, ())))))))))))) : Option ((Bool × Int × Bool × Unit) × Y18)).bind fun v196 =>
bif v196.1.1 then (some ((true, (v196.1.2.1, ())), (((v196.2.1.1.1, (v196.2.1.1.2.1, (v196.2.1.1.2.2.1, (v196.2.1.1.2.2.2.1, ())))), ()), (((v196.2.2.1.1.1, (v196.2.2.1.1.2.1, (v196.2.2.1.1.2.2.1, (v196.2.2.1.1.2.2.2.1, ())))), ()), ((v196.2.2.2.1.1, ()), (((v196.2.2.2.2.1.1.1, (v196.2.2.2.2.1.1.2.1, (v196.2.2.2.2.1.1.2.2.1, (v196.2.2.2.2.1.1.2.2.2.1, ())))), ()), (((v196.2.2.2.2.2.1.1.1, (v196.2.2.2.2.2.1.1.2.1, (v196.2.2.2.2.2.1.1.2.2.1, (v196.2.2.2.2.2.1.1.2.2.2.1, ())))), ()), ((v196.2.2.2.2.2.2.1.1, ()), (v196.2.2.2.2.2.2.2.1, (v196.2.2.2.2.2.2.2.2.1, (v196.2.2.2.2.2.2.2.2.2.1, ())))))))))))
else (some ((v196.1.2.2.1, (v196.1.2.1, ())), (((v196.2.1.1.1, (v196.2.1.1.2.1, (v196.2.1.1.2.2.1, (v196.2.1.1.2.2.2.1, ())))), ()), (((v196.2.2.1.1.1, (v196.2.2.1.1.2.1, (v196.2.2.1.1.2.2.1, (v196.2.2.1.1.2.2.2.1, ())))), ()), ((v196.2.2.2.1.1, ()), (((v196.2.2.2.2.1.1.1, (v196.2.2.2.2.1.1.2.1, (v196.2.2.2.2.1.1.2.2.1, (v196.2.2.2.2.1.1.2.2.2.1, ())))), ()), (((v196.2.2.2.2.2.1.1.1, (v196.2.2.2.2.2.1.1.2.1, (v196.2.2.2.2.2.1.1.2.2.1, (v196.2.2.2.2.2.1.1.2.2.2.1, ())))), ()), ((v196.2.2.2.2.2.2.1.1, ()), (v196.2.2.2.2.2.2.2.1, (v196.2.2.2.2.2.2.2.2.1, (v196.2.2.2.2.2.2.2.2.2.1, ())))))))))))) : Option ((Bool × Int × Unit) × Y18)).bind fun v197 =>
((bif v197.1.1 then ((loopT l31_0_25 ((0, (v197.1.1, (v197.1.2.1, ()))), (((v197.2.1.1.1, (v197.2.1.1.2.1, (v197.2.1.1.2.2.1, (v197.1.2.1, ())))), ()), (((v197.2.2.1.1.1, (v197.2.2.1.1.2.1, (v197.2.2.1.1.2.2.1, (v197.2.2.1.1.2.2.2.1, ())))), ()), ((v197.2.2.2.1.1, ()), (((v197.2.2.2.2.1.1.1, (v197.2.2.2.2.1.1.2.1, (v197.2.2.2.2.1.1.2.2.1, (v197.2.2.2.2.1.1.2.2.2.1, ())))), ()), (((v197.2.2.2.2.2.1.1.1, (v197.2.2.2.2.2.1.1.2.1, (v197.2.2.2.2.2.1.1.2.2.1, (v197.2.2.2.2.2.1.1.2.2.2.1, ())))), ()), ((v197.2.2.2.2.2.2.1.1, ()), ([], (v197.2.2.2.2.2.2.2.2.1, (v197.2.2.2.2.2.2.2.2.2.1, ()))))))))))).bind fun d205 =>
some ((d205.1.1, (d205.1.2.1, ())), (((d205.2.1.1.1, (d205.2.1.1.2.1, (d205.2.1.1.2.2.1, (d205.2.1.1.2.2.2.1, ())))), ()), (((d205.2.2.1.1.1, (d205.2.2.1.1.2.1, (d205.2.2.1.1.2.2.1, (d205.2.2.1.1.2.2.2.1, ())))), ()), (((d205.2.2.2.1.1.1, (d205.2.2.2.1.1.2.1, (d205.2.2.2.1.1.2.2.1, (d205.2.2.2.1.1.2.2.2.1, ())))), ()), (((d205.2.2.2.2.1.1.1, (d205.2.2.2.2.1.1.2.1, (d205.2.2.2.2.1.1.2.2.1, (d205.2.2.2.2.1.1.2.2.2.1, ())))), ()), ((d205.2.2.2.2.2.1.1, ()), (d205.2.2.2.2.2.2.1, (d205.2.2.2.2.2.2.2.1, (d205.2.2.2.2.2.2.2.2.1, ()))))))))))
else (some ((v197.1.1, (v197.1.2.1, ())), (((v197.2.1.1.1, (v197.2.1.1.2.1, (v197.2.1.1.2.2.1, (v197.2.1.1.2.2.2.1, ())))), ()), (((v197.2.2.2.2.1.1.1, (v197.2.2.2.2.1.1.2.1, (v197.2.2.2.2.1.1.2.2.1, (v197.2.2.2.2.1.1.2.2.2.1, ())))), ()), (((v197.2.2.2.2.2.1.1.1, (v197.2.2.2.2.2.1.1.2.1, (v197.2.2.2.2.2.1.1.2.2.1, (v197.2.2.2.2.2.1.1.2.2.2.1, ())))), ()), (((0, (0, (0, (ByteArray.empty, ())))), ()), ((v197.2.2.2.2.2.2.1.1, ()), (v197.2.2.2.2.2.2.2.1, ([], ([], ()))))))))))) : Option ((Bool × Int × Unit) × (Y6 × Y6 × Y8 × Y8 × (Y4 × Unit) × Y2 × (List ByteArray) × (List ByteArray) × Unit))).bind fun v206 =>
(loopT l31_0_34 ((0, (false, (v206.1.1, (v206.1.2.1, ())))), (((v206.2.1.1.1, (v206.2.1.1.2.1, (v206.2.1.1.2.2.1, (v206.2.1.1.2.2.2.1, ())))), ()), (((v206.2.2.1.1.1, (v206.2.2.1.1.2.1, (v206.2.2.1.1.2.2.1, (v206.2.2.1.1.2.2.2.1, ())))), ()), (((v206.2.2.2.1.1.1, (v206.2.2.2.1.1.2.1, (v206.2.2.2.1.1.2.2.1, (v206.2.2.2.1.1.2.2.2.1, ())))), ()), (((v206.2.2.2.2.1.1.1, (v206.2.2.2.2.1.1.2.1, (v206.2.2.2.2.1.1.2.2.1, (v206.2.2.2.2.1.1.2.2.2.1, ())))), ()), ((v206.2.2.2.2.2.1.1, ()), (v206.2.2.2.2.2.2.1, (v206.2.2.2.2.2.2.2.1, (v206.2.2.2.2.2.2.2.2.1, ())))))))))).bind fun d210 =>
let x211 := (w64 (d210.2.2.2.2.1.1.2.2.2.1 + d210.2.2.2.2.2.1.1.2.2.2.2.2.2.1))
((((bif d210.1.2.2.1 then (some ((true, (d210.1.1, (d210.1.2.1, (x211, ())))), (((d210.2.1.1.1, (d210.2.1.1.2.1, (d210.2.1.1.2.2.1, (d210.2.1.1.2.2.2.1, ())))), ()), (((d210.2.2.1.1.1, (d210.2.2.1.1.2.1, (d210.2.2.1.1.2.2.1, (d210.2.2.1.1.2.2.2.1, ())))), ()), (((d210.2.2.2.1.1.1, (d210.2.2.2.1.1.2.1, (d210.2.2.2.1.1.2.2.1, (d210.2.2.2.1.1.2.2.2.1, ())))), ()), (((d210.2.2.2.2.1.1.1, (d210.2.2.2.2.1.1.2.1, (d210.2.2.2.2.1.1.2.2.1, (d210.2.2.2.2.1.1.2.2.2.1, ())))), ()), ((d210.2.2.2.2.2.1.1, ()), (d210.2.2.2.2.2.2.1, (d210.2.2.2.2.2.2.2.1, (d210.2.2.2.2.2.2.2.2.1, ()))))))))))
else (some (((decide ((x211 : Int) ≤ d210.1.2.1)), (d210.1.1, (d210.1.2.1, (x211, ())))), (((d210.2.1.1.1, (d210.2.1.1.2.1, (d210.2.1.1.2.2.1, (d210.2.1.1.2.2.2.1, ())))), ()), (((d210.2.2.1.1.1, (d210.2.2.1.1.2.1, (d210.2.2.1.1.2.2.1, (d210.2.2.1.1.2.2.2.1, ())))), ()), (((d210.2.2.2.1.1.1, (d210.2.2.2.1.1.2.1, (d210.2.2.2.1.1.2.2.1, (d210.2.2.2.1.1.2.2.2.1, ())))), ()), (((d210.2.2.2.2.1.1.1, (d210.2.2.2.2.1.1.2.1, (d210.2.2.2.2.1.1.2.2.1, (d210.2.2.2.2.1.1.2.2.2.1, ())))), ()), ((d210.2.2.2.2.2.1.1, ()), (d210.2.2.2.2.2.2.1, (d210.2.2.2.2.2.2.2.1, (d210.2.2.2.2.2.2.2.2.1, ()))))))))))) : Option ((Bool × Bool × Int × Int × Unit) × (Y6 × Y8 × Y8 × Y6 × (Y4 × Unit) × (List ByteArray) × (List ByteArray) × Y2 × Unit))).bind fun v212 =>
bif v212.1.1 then (let x213 := (w64 (v212.1.2.2.1 + v212.2.2.2.2.2.1.1.2.2.2.2.2.1))
some ((v212.1.2.1, (x213, (v212.1.2.2.1, ()))), (((v212.2.1.1.1, (v212.2.1.1.2.1, (v212.2.1.1.2.2.1, (v212.2.1.1.2.2.2.1, ())))), ()), (((v212.2.2.1.1.1, (v212.2.2.1.1.2.1, (v212.2.2.1.1.2.2.1, (v212.2.2.1.1.2.2.2.1, ())))), ()), (((v212.2.2.2.1.1.1, (v212.2.2.2.1.1.2.1, (v212.2.2.2.1.1.2.2.1, (v212.2.2.2.1.1.2.2.2.1, ())))), ()), (((v212.2.2.2.2.1.1.1, (v212.2.2.2.2.1.1.2.1, (v212.2.2.2.2.1.1.2.2.1, (v212.2.2.2.2.1.1.2.2.2.1, ())))), ()), (v212.2.2.2.2.2.2.1, (v212.2.2.2.2.2.2.2.1, (v212.2.2.2.2.2.2.2.2.1, ())))))))))
else (some ((v212.1.2.1, (v212.1.2.2.2.1, (v212.1.2.2.1, ()))), (((v212.2.1.1.1, (v212.2.1.1.2.1, (v212.2.1.1.2.2.1, (v212.2.1.1.2.2.2.1, ())))), ()), (((v212.2.2.1.1.1, (v212.2.2.1.1.2.1, (v212.2.2.1.1.2.2.1, (v212.2.2.1.1.2.2.2.1, ())))), ()), (((v212.2.2.2.1.1.1, (v212.2.2.2.1.1.2.1, (v212.2.2.2.1.1.2.2.1, (v212.2.2.2.1.1.2.2.2.1, ())))), ()), (((v212.2.2.2.2.1.1.1, (v212.2.2.2.2.1.1.2.1, (v212.2.2.2.2.1.1.2.2.1, (v212.2.2.2.2.1.1.2.2.2.1, ())))), ()), (v212.2.2.2.2.2.2.1, (v212.2.2.2.2.2.2.2.1, (v212.2.2.2.2.2.2.2.2.1, ())))))))))) : Option ((Bool × Int × Int × Unit) × (Y6 × Y8 × Y8 × Y6 × (List ByteArray) × (List ByteArray) × Y2 × Unit))).bind fun v214 =>
let x215 := (if (v214.1.2.1 : Int) > (w64 (v214.1.2.2.1 + 1)) then v214.1.2.1 else (w64 (v214.1.2.2.1 + 1)))
(m66 ((x215, ()), ())).bind fun u216 =>
((let x217 := ((((v214.2.2.2.2.2.2.2.1.length : Nat) : Int) : Int) == 0)
bif x217 then (some ((), (v214.2.2.2.2.2.2.2.1, (((0, (ByteArray.empty, (0, (0, ())))), ()), (((v214.2.2.2.2.1.1.1, (v214.2.2.2.2.1.1.2.1, ((-1), (v214.2.2.2.2.1.1.2.2.2.1, ())))), ()), ())))))
else (some ((), (v214.2.2.2.2.2.2.2.1, (((0, (ByteArray.empty, (0, (0, ())))), ()), (((v214.2.2.2.2.1.1.1, (v214.2.2.2.2.1.1.2.1, (u216.1.1, (v214.2.2.2.2.1.1.2.2.2.1, ())))), ()), ())))))) : Option ((Unit) × (Y2 × Y6 × Y6 × Unit))).bind fun v218 =>
bif (decide (v218.2.1.length = v214.2.2.2.2.2.2.2.1.length) && true) then
some ((v214.1.1, (0, ())), (((v218.2.2.2.1.1.1, (v218.2.2.2.1.1.2.1, (v218.2.2.2.1.1.2.2.1, (v218.2.2.2.1.1.2.2.2.1, ())))), ()), (((v214.2.2.2.1.1.1, (v214.2.2.2.1.1.2.1, (v214.2.2.2.1.1.2.2.1, (v214.2.2.2.1.1.2.2.2.1, ())))), ()), (v218.2.1, (v214.2.2.2.2.2.1, (v214.2.2.2.2.2.2.1, ()))))))
else none)))

def sp31 : Abs.Spec := ⟨0, i31, o31, m31⟩

def an31 : Nat → Abs.FAn
  | 0 => Abs.FAn.mk (fun
    | 38 => some ⟨[181, 8, 9, 14, 13, 12, 2, 5, 21], (.dat .bool (.st Qx9 (.st Qx25 (.dat .bool (.st Qx42 (.st Qx26 (.dat (.int .i64) (.st (.ptr (4, 0) 8 0 0) Qs5)))))))), (.box 5 Qs2 (.box 6 Qs3 (.box 6 Qs11 (.box 5 Qs28 Qb21))))⟩
    | 36 => some ⟨[12, 19, 8, 9, 14, 13, 2, 5, 20], (.st Qx9 (.dat .bool (.st Qx15 (.st Qx42 (.dat .bool (.st (.ptr (3, 0) 6 0 0) (.dat (.int .i64) (.st (.ptr (4, 0) 8 0 0) Qs5)))))))), Qb23⟩
    | 29 => some ⟨[12, 13, 4, 8, 9, 14, 2, 5, 17, 18], (.st Qx9 (.st Qx25 (.st Qx20 (.st Qx26 (.st (.ptr (4, 0) 6 0 0) (.dat .bool (.dat (.int .i64) (.st (.ptr (5, 0) 8 0 0) (.dat (.int .i64) (.st (.ptr (6, 0) 6 0 0) .nil)))))))))), (.box 5 Qs28 (.box 6 (.agg (.dat (.int .i64) (.dat (.int .i64) (.dat (.int .i64) (.dat .str (.st (.own .str (8, 0)) (.st (.own .str (9, 0)) .nil)))))) .nil) (.box 5 Qs33 (.box 5 Qs2 (.box 6 Qs3 (.box 8 Qs30 (.box 6 (.dat Z1 .nil) (.arr Z1 false Qb16))))))))⟩
    | 20 => some ⟨[115, 12, 13, 4, 8, 9, 2, 5, 14], (.dat .bool (.st Qx9 (.st Qx25 (.st Qx20 (.st Qx26 (.st (.ptr (4, 0) 6 0 0) (.dat (.int .i64) (.st (.ptr (5, 0) 8 0 0) Qs14)))))))), Qb8⟩
    | 19 => some ⟨[14, 13, 3, 4, 12, 8, 9, 2, 5, 15], (.dat .bool (.st Qx41 (.dat (.row .str) (.st Qx15 (.st Qx20 (.st Qx26 (.st (.ptr (4, 0) 6 0 0) (.dat (.int .i64) (.st (.ptr (5, 0) 8 0 0) Qs5))))))))), (.box 6 Qs13 (.box 5 Qs33 (.box 5 Qs29 (.box 5 Qs2 (.box 6 Qs3 Qb21)))))⟩
    | 6 => some ⟨[47, 8, 9, 12, 3, 4, 2, 5], (.dat .bool (.st Qx9 (.st Qx25 (.st Qx20 (.dat (.row .str) (.st Qx26 Qs36)))))), (.box 5 Qs2 (.box 6 Qs3 (.box 5 (.agg (.dat (.int .i64) (.dat .str (.st (.own Z1 (5, 0)) Qs1))) .nil) (.box 5 Qs33 (.box 8 Qs30 Qb34)))))⟩
    | 1 => some ⟨[29, 8, 9, 3, 4, 2, 5], (.dat .bool (.st Qx9 (.st Qx25 (.dat (.row .str) (.st Qx20 (.dat (.int .i64) (.st Qx43 .nil))))))), (.box 5 Qs2 (.box 6 Qs3 (.box 5 Qs33 (.box 8 Qs30 .nil))))⟩
    | _ => none) (fun
    | 40 => some (⟨[8, 9, 14, 13, 12, 21, 2], (.st Qx9 (.st Qx25 (.dat .bool (.st Qx42 (.st Qx26 Qs1))))), (.box 5 Qs2 (.box 6 Qs3 (.box 6 Qs18 (.box 5 (.agg (.dat (.int .i64) (.dat .str (.st (.own Z1 (6, 0)) Qs1))) .nil) (.arr .str false (.arr .str false Qb34))))))⟩, none)
    | 32 => some (⟨[12, 8, 9, 14, 13, 2, 5], (.st Qx9 (.st Qx15 (.st Qx42 (.dat .bool (.st (.ptr (3, 0) 6 0 0) Qs36))))), Qb23⟩, none)
    | 26 => some (⟨[12, 13, 4, 8, 9, 14, 2, 5, 17], (.st Qx9 (.st Qx25 (.st Qx20 (.st Qx26 (.st (.ptr (4, 0) 6 0 0) (.dat .bool (.dat (.int .i64) (.st (.ptr (5, 0) 8 0 0) Qs5)))))))), Qb8⟩, none)
    | 22 => some (⟨[12, 13, 4, 8, 9, 14, 2, 5], (.st Qx9 (.st Qx25 (.st Qx20 (.st Qx26 (.st (.ptr (4, 0) 6 0 0) (.dat .bool (.dat (.int .i64) (.st (.ptr (5, 0) 8 0 0) .nil)))))))), Qb8⟩, none)
    | 12 => some (⟨[14, 13, 3, 4, 12, 8, 9, 2, 5, 15], (.dat .bool (.st Qx41 (.dat (.row .str) (.st Qx15 (.st Qx20 (.st Qx26 (.st (.ptr (4, 0) 6 0 0) (.dat (.int .i64) (.st (.ptr (5, 0) 8 0 0) Qs5))))))))), (.box 6 Qs13 (.box 5 Qs33 (.box 5 Qs29 (.box 5 Qs2 (.box 6 Qs3 Qb21)))))⟩, none)
    | _ => none) (fun
    | 34 => some ⟨⟨[20, 12, 19, 8, 9, 14, 13, 2, 5], (.dat (.int .i64) (.st Qx9 (.dat .bool (.st Qx15 (.st Qx42 (.dat .bool (.st (.ptr (3, 0) 6 0 0) Qs36))))))), Qb23⟩, (.one (.exit 5) ⟨[8, 9, 14, 13, 12, 2, 5, 19], (.st Qx9 (.st Qx25 (.dat .bool (.st Qx42 (.st Qx26 (.dat (.int .i64) (.st (.ptr (4, 0) 8 0 0) Qs14))))))), (.box 5 Qs2 (.box 6 Qs3 (.box 6 Qs11 (.box 5 Qs28 Qb21))))⟩)⟩
    | 25 => some ⟨⟨[17, 12, 13, 4, 8, 9, 14, 2, 5], (.dat (.int .i64) (.st Qx9 (.st Qx25 (.st Qx20 (.st Qx26 (.st (.ptr (4, 0) 6 0 0) (.dat .bool (.dat (.int .i64) (.st (.ptr (5, 0) 8 0 0) .nil))))))))), Qb8⟩, (.one (.exit 3) ⟨[12, 8, 9, 14, 13, 2, 5], (.st Qx9 (.st Qx15 (.st Qx42 (.dat .bool (.st (.ptr (3, 0) 6 0 0) Qs36))))), Qb23⟩)⟩
    | 11 => some ⟨⟨[15, 14, 13, 3, 4, 12, 8, 9, 2, 5], (.dat (.int .i64) (.dat .bool (.st Qx41 (.dat (.row .str) (.st Qx15 (.st Qx20 (.st Qx26 (.st (.ptr (4, 0) 6 0 0) (.dat (.int .i64) (.st (.ptr (5, 0) 8 0 0) .nil)))))))))), (.box 6 Qs13 (.box 5 Qs33 (.box 5 Qs29 (.box 5 Qs2 (.box 6 Qs3 Qb21)))))⟩, (.one (.exit 0) ⟨[12, 13, 4, 8, 9, 2, 5, 14], (.st Qx9 (.st Qx25 (.st Qx20 (.st Qx26 (.st (.ptr (4, 0) 6 0 0) (.dat (.int .i64) (.st (.ptr (5, 0) 8 0 0) Qs14))))))), Qb8⟩)⟩
    | _ => none) (fun
    | 41, 1 => 1
    | _, _ => 0)
  | 1 => Abs.FAn.mk (fun _ => none) (fun
    | 3 => some (⟨[2, 1], Qs45, Qb6⟩, none)
    | _ => none) (fun _ => none) (fun _ _ => 0)
  | _ => {}

theorem ok31 : Abs.SpecOK Try.prog 31 sp31 :=
  okW (an := an31) (alc ok24 (alc ok59 (alc ok58 (alc ok22 (alc ok65 (alc ok66 al0)))))) rfl (by intro v; kernel_rfl)

def l30_0_7 (v : ((Int × Int × Int × Unit) × (Y6 × (Y4 × Unit) × Y6 × Y2 × Unit))) : Option (((Int × Int × Int × Unit) × (Y6 × (Y4 × Unit) × Y6 × Y2 × Unit)) ⊕ ((Unit) × (Y6 × Y6 × Y2 × Unit))) :=
let x174 := (decide ((v.1.1 : Int) < ((v.2.2.2.2.1.length : Nat) : Int)))
bif x174 then (((bif (decide ((0 : Int) ≤ v.1.1 ∧ (v.1.1 : Int) < v.2.2.2.2.1.length)) then
(v.2.2.2.2.1[v.1.1.toNat]?).bind fun e175 =>
((bif (decide ((v.1.2.2.1 : Int) > 0)) then (bif e175.2.2.2.2.1 then (let x176 := (decide ((e175.2.2.2.1 : Int) ≤ (w64 (v.1.2.1 - v.1.2.2.1))))
some ((x176, (v.1.1, (v.1.2.1, (v.1.2.2.1, ())))), (((v.2.1.1.1, (v.2.1.1.2.1, (v.2.1.1.2.2.1, (v.2.1.1.2.2.2.1, ())))), ()), ((v.2.2.1.1, ()), (((v.2.2.2.1.1.1, (v.2.2.2.1.1.2.1, (v.2.2.2.1.1.2.2.1, (v.2.2.2.1.1.2.2.2.1, ())))), ()), (v.2.2.2.2.1, ()))))))
else (some ((false, (v.1.1, (v.1.2.1, (v.1.2.2.1, ())))), (((v.2.1.1.1, (v.2.1.1.2.1, (v.2.1.1.2.2.1, (v.2.1.1.2.2.2.1, ())))), ()), ((v.2.2.1.1, ()), (((v.2.2.2.1.1.1, (v.2.2.2.1.1.2.1, (v.2.2.2.1.1.2.2.1, (v.2.2.2.1.1.2.2.2.1, ())))), ()), (v.2.2.2.2.1, ())))))))
else (some ((false, (v.1.1, (v.1.2.1, (v.1.2.2.1, ())))), (((v.2.1.1.1, (v.2.1.1.2.1, (v.2.1.1.2.2.1, (v.2.1.1.2.2.2.1, ())))), ()), ((v.2.2.1.1, ()), (((v.2.2.2.1.1.1, (v.2.2.2.1.1.2.1, (v.2.2.2.1.1.2.2.1, (v.2.2.2.1.1.2.2.2.1, ())))), ()), (v.2.2.2.2.1, ()))))))) : Option ((Bool × Int × Int × Int × Unit) × (Y6 × (Y4 × Unit) × Y6 × Y2 × Unit))).bind fun v177 =>
bif v177.1.1 then (((bif (decide ((0 : Int) ≤ v177.1.2.1 ∧ (v177.1.2.1 : Int) < v177.2.2.2.2.1.length)) then
(v177.2.2.2.2.1[v177.1.2.1.toNat]?).bind fun e178 =>
bif (!e178.2.2.2.2.2.1) then (bif (decide ((0 : Int) ≤ v177.1.2.1)) then
bif (decide (0 ≤ v177.1.2.1.toNat ∧ v177.1.2.1.toNat ≤ v177.2.2.2.2.1.length)) then
bif (decide ((0 : Int) ≤ (w64 (v177.1.2.1 + 1)))) then
bif (decide ((w64 (v177.1.2.1 + 1)).toNat ≤ v177.2.2.2.2.1.length ∧ v177.2.2.2.2.1.length ≤ v177.2.2.2.2.1.length)) then
bif (decide ((w64 (v177.1.2.1 + 1)).toNat + (v177.2.2.2.2.1.length - (w64 (v177.1.2.1 + 1)).toNat) ≤ v177.2.2.2.2.1.length)) then
bif (decide (0 = 0 ∧ v177.1.2.1.toNat ≤ v177.2.2.2.2.1.length ∧ v177.1.2.1.toNat + ((v177.2.2.2.2.1.drop (w64 (v177.1.2.1 + 1)).toNat).take (v177.2.2.2.2.1.length - (w64 (v177.1.2.1 + 1)).toNat)).length ≤ 4294967296)) then
let x179 := (v177.2.2.2.2.1.take v177.1.2.1.toNat ++ ((v177.2.2.2.2.1.drop (w64 (v177.1.2.1 + 1)).toNat).take (v177.2.2.2.2.1.length - (w64 (v177.1.2.1 + 1)).toNat)))
((bif ((((x179.length : Nat) : Int) : Int) == 0) then (some ((), (x179, (((0, (ByteArray.empty, (0, (0, ())))), ()), (((v177.2.1.1.1, (v177.2.1.1.2.1, ((-1), (v177.2.1.1.2.2.2.1, ())))), ()), ())))))
else (some ((), (x179, (((0, (ByteArray.empty, (0, (0, ())))), ()), (((v177.2.1.1.1, (v177.2.1.1.2.1, (v177.2.1.1.2.2.1, (v177.2.1.1.2.2.2.1, ())))), ()), ())))))) : Option ((Unit) × (Y2 × Y6 × Y6 × Unit))).bind fun v180 =>
bif (decide (v180.2.1.length = x179.length) && true) then
bif (decide (v177.2.2.2.2.1.length = v177.2.2.2.2.1.length) && true) then
some ((v177.1.2.1, (v177.1.2.2.1, (v177.1.2.2.2.1, (((v177.2.2.2.2.1.length : Nat) : Int), ())))), (((v180.2.2.2.1.1.1, (v180.2.2.2.1.1.2.1, (v180.2.2.2.1.1.2.2.1, (v180.2.2.2.1.1.2.2.2.1, ())))), ()), ((v177.2.2.1.1, ()), (((v177.2.2.2.1.1.1, (v177.2.2.2.1.1.2.1, (v177.2.2.2.1.1.2.2.1, (v177.2.2.2.1.1.2.2.2.1, ())))), ()), (v180.2.1, ())))))
else none
else none
else none
else none
else none
else none
else none
else none)
else ((v177.2.2.2.2.1[v177.1.2.1.toNat]?).bind fun e181 =>
((v177.2.2.2.2.1.set v177.1.2.1.toNat (e181.1, (e181.2.1, (e181.2.2.1, (e181.2.2.2.1, (false, e181.2.2.2.2.2))))))[v177.1.2.1.toNat]?).bind fun e182 =>
(((v177.2.2.2.2.1.set v177.1.2.1.toNat (e181.1, (e181.2.1, (e181.2.2.1, (e181.2.2.2.1, (false, e181.2.2.2.2.2)))))).set v177.1.2.1.toNat (e182.1, (e182.2.1, (e182.2.2.1, (e182.2.2.2.1, (e182.2.2.2.2.1, (false, ())))))))[v177.1.2.1.toNat]?).bind fun e183 =>
((bif ((v177.2.1.1.2.2.2.1 : Int) != (-1)) then (let x184 := (w64 (v177.2.1.1.2.2.2.1 + v177.2.2.1.1.2.2.2.2.2.1))
let x185 := (if (x184 : Int) > v177.1.2.2.1 then x184 else v177.1.2.2.1)
some ((x185, ()), ((((v177.2.2.2.2.1.set v177.1.2.1.toNat (e181.1, (e181.2.1, (e181.2.2.1, (e181.2.2.2.1, (false, e181.2.2.2.2.2)))))).set v177.1.2.1.toNat (e182.1, (e182.2.1, (e182.2.2.1, (e182.2.2.2.1, (e182.2.2.2.2.1, (false, ()))))))).set v177.1.2.1.toNat (e183.1, (e183.2.1, (v177.1.2.2.1, e183.2.2.2)))), (((0, (ByteArray.empty, (0, (0, ())))), ()), (((v177.2.1.1.1, (v177.2.1.1.2.1, (v177.2.1.1.2.2.1, (v177.2.1.1.2.2.2.1, ())))), ()), ())))))
else (some (((w64 (v177.1.2.2.1 + v177.2.2.1.1.2.2.2.2.1)), ()), ((((v177.2.2.2.2.1.set v177.1.2.1.toNat (e181.1, (e181.2.1, (e181.2.2.1, (e181.2.2.2.1, (false, e181.2.2.2.2.2)))))).set v177.1.2.1.toNat (e182.1, (e182.2.1, (e182.2.2.1, (e182.2.2.2.1, (e182.2.2.2.2.1, (false, ()))))))).set v177.1.2.1.toNat (e183.1, (e183.2.1, (v177.1.2.2.1, e183.2.2.2)))), (((0, (ByteArray.empty, (0, (0, ())))), ()), (((v177.2.1.1.1, (v177.2.1.1.2.1, (v177.2.1.1.2.2.1, (v177.2.1.1.2.2.2.1, ())))), ()), ())))))) : Option ((Int × Unit) × (Y2 × Y6 × Y6 × Unit))).bind fun v186 =>
((((bif ((v186.2.2.2.1.1.2.2.1 : Int) == (-1)) then (some ((true, (v186.1.1, ())), (v186.2.1, (((v186.2.2.1.1.1, (v186.2.2.1.1.2.1, (v186.2.2.1.1.2.2.1, (v186.2.2.1.1.2.2.2.1, ())))), ()), (((v186.2.2.2.1.1.1, (v186.2.2.2.1.1.2.1, (v186.2.2.2.1.1.2.2.1, (v186.2.2.2.1.1.2.2.2.1, ())))), ()), ())))))
else (let x187 := (decide ((v186.1.1 : Int) < v186.2.2.2.1.1.2.2.1))
some ((x187, (v186.1.1, ())), (v186.2.1, (((v186.2.2.1.1.1, (v186.2.2.1.1.2.1, (v186.2.2.1.1.2.2.1, (v186.2.2.1.1.2.2.2.1, ())))), ()), (((v186.2.2.2.1.1.1, (v186.2.2.2.1.1.2.1, (v186.2.2.2.1.1.2.2.1, (v186.2.2.2.1.1.2.2.2.1, ())))), ()), ())))))) : Option ((Bool × Int × Unit) × (Y2 × Y6 × Y6 × Unit))).bind fun v188 =>
bif v188.1.1 then ((m66 ((v188.1.2.1, ()), ())).bind fun u189 =>
some ((), (v188.2.1, (((v188.2.2.1.1.1, (v188.2.2.1.1.2.1, (v188.2.2.1.1.2.2.1, (v188.2.2.1.1.2.2.2.1, ())))), ()), (((v188.2.2.2.1.1.1, (v188.2.2.2.1.1.2.1, (u189.1.1, (v188.2.2.2.1.1.2.2.2.1, ())))), ()), ())))))
else (some ((), (v188.2.1, (((v188.2.2.1.1.1, (v188.2.2.1.1.2.1, (v188.2.2.1.1.2.2.1, (v188.2.2.1.1.2.2.2.1, ())))), ()), (((v188.2.2.2.1.1.1, (v188.2.2.2.1.1.2.1, (v188.2.2.2.1.1.2.2.1, (v188.2.2.2.1.1.2.2.2.1, ())))), ()), ())))))) : Option ((Unit) × (Y2 × Y6 × Y6 × Unit))).bind fun v190 =>
bif (decide (v190.2.1.length = (((v177.2.2.2.2.1.set v177.1.2.1.toNat (e181.1, (e181.2.1, (e181.2.2.1, (e181.2.2.2.1, (false, e181.2.2.2.2.2)))))).set v177.1.2.1.toNat (e182.1, (e182.2.1, (e182.2.2.1, (e182.2.2.2.1, (e182.2.2.2.2.1, (false, ()))))))).set v177.1.2.1.toNat (e183.1, (e183.2.1, (v177.1.2.2.1, e183.2.2.2)))).length) && true) then
bif (decide (v190.2.1.length = v177.2.2.2.2.1.length) && true) then
some ((v177.1.2.1, (v177.1.2.2.1, (v177.1.2.2.2.1, (((v177.2.2.2.2.1.length : Nat) : Int), ())))), (((v190.2.2.2.1.1.1, (v190.2.2.2.1.1.2.1, (v190.2.2.2.1.1.2.2.1, (v190.2.2.2.1.1.2.2.2.1, ())))), ()), ((v177.2.2.1.1, ()), (((v177.2.2.2.1.1.1, (v177.2.2.2.1.1.2.1, (v177.2.2.2.1.1.2.2.1, (v177.2.2.2.1.1.2.2.2.1, ())))), ()), (v190.2.1, ())))))
else none
else none)
else none) : Option ((Int × Int × Int × Int × Unit) × (Y6 × (Y4 × Unit) × Y6 × Y2 × Unit))).bind fun v191 =>
let x192 := (decide ((((v191.2.2.2.2.1.length : Nat) : Int) : Int) < v191.1.2.2.2.1))
bif x192 then (some (.inr ((v191.1.1, (v191.1.2.1, (v191.1.2.2.1, ()))), (((v191.2.1.1.1, (v191.2.1.1.2.1, (v191.2.1.1.2.2.1, (v191.2.1.1.2.2.2.1, ())))), ()), ((v191.2.2.1.1, ()), (((v191.2.2.2.1.1.1, (v191.2.2.2.1.1.2.1, (v191.2.2.2.1.1.2.2.1, (v191.2.2.2.1.1.2.2.2.1, ())))), ()), (v191.2.2.2.2.1, ())))))))
else (some (.inl ((v191.1.2.1, (v191.1.2.2.1, (v191.1.1, ()))), (((v191.2.1.1.1, (v191.2.1.1.2.1, (v191.2.1.1.2.2.1, (v191.2.1.1.2.2.2.1, ())))), ()), ((v191.2.2.1.1, ()), (((v191.2.2.2.1.1.1, (v191.2.2.2.1.1.2.1, (v191.2.2.2.1.1.2.2.1, (v191.2.2.2.1.1.2.2.2.1, ())))), ()), (v191.2.2.2.2.1, ()))))))))
else (some (.inl ((v177.1.2.2.1, (v177.1.2.2.2.1, (v177.1.2.1, ()))), (((v177.2.1.1.1, (v177.2.1.1.2.1, (v177.2.1.1.2.2.1, (v177.2.1.1.2.2.2.1, ())))), ()), ((v177.2.2.1.1, ()), (((v177.2.2.2.1.1.1, (v177.2.2.2.1.1.2.1, (v177.2.2.2.1.1.2.2.1, (v177.2.2.2.1.1.2.2.2.1, ())))), ()), (v177.2.2.2.2.1, ())))))))
else none) : Option (((Int × Int × Int × Unit) × (Y6 × (Y4 × Unit) × Y6 × Y2 × Unit)) ⊕ ((Int × Int × Int × Unit) × (Y6 × (Y4 × Unit) × Y6 × Y2 × Unit)))).bind fun r195 =>
sumE r195 (fun v193 => (some (.inl (((w64 (v193.1.2.2.1 + 1)), (v193.1.1, (v193.1.2.1, ()))), (((v193.2.1.1.1, (v193.2.1.1.2.1, (v193.2.1.1.2.2.1, (v193.2.1.1.2.2.2.1, ())))), ()), ((v193.2.2.1.1, ()), (((v193.2.2.2.1.1.1, (v193.2.2.2.1.1.2.1, (v193.2.2.2.1.1.2.2.1, (v193.2.2.2.1.1.2.2.2.1, ())))), ()), (v193.2.2.2.2.1, ())))))))) (fun d194 => (some (.inl ((d194.1.1, (d194.1.2.1, (d194.1.2.2.1, ()))), (((d194.2.1.1.1, (d194.2.1.1.2.1, (d194.2.1.1.2.2.1, (d194.2.1.1.2.2.2.1, ())))), ()), ((d194.2.2.1.1, ()), (((d194.2.2.2.1.1.1, (d194.2.2.2.1.1.2.1, (d194.2.2.2.1.1.2.2.1, (d194.2.2.2.1.1.2.2.2.1, ())))), ()), (d194.2.2.2.2.1, ())))))))))
else (some (.inr ((), (((v.2.2.2.1.1.1, (v.2.2.2.1.1.2.1, (v.2.2.2.1.1.2.2.1, (v.2.2.2.1.1.2.2.2.1, ())))), ()), (((v.2.1.1.1, (v.2.1.1.2.1, (v.2.1.1.2.2.1, (v.2.1.1.2.2.2.1, ())))), ()), (v.2.2.2.2.1, ()))))))

/- pagewatch/pagewatchref23.Expire -/
def i30 : Abs.Sg := ⟨[0, 1, 2, 3], (.dat Z5 (.dat Z3 Qs1)), .nil⟩

def o30 : Abs.Sg := ⟨[8, 9], (.st Qx9 Qs5), Qb10⟩

def m30 (v : ((Y7 × Y4 × Int × Int × Unit) × (Unit))) : Option ((Int × Unit) × (Y6 × Y2 × Unit)) :=
(((m24 ((v.1.1, ()), ())).bind fun u168 =>
bif (!u168.1.1) then (some ((true, (v.1.2.2.1, (v.1.2.2.2.1, ()))), (((0, (ByteArray.empty, (0, (0, ())))), ()), ((v.1.2.1, ()), ((v.1.1, ()), ())))))
else ((m59 ((v.1.2.1, ()), ())).bind fun u169 =>
some (((!u169.1.1), (v.1.2.2.1, (v.1.2.2.2.1, ()))), (((0, (ByteArray.empty, (0, (0, ())))), ()), ((v.1.2.1, ()), ((v.1.1, ()), ())))))) : Option ((Bool × Int × Int × Unit) × (Y6 × (Y4 × Unit) × (Y7 × Unit) × Unit))).bind fun v170 =>
bif v170.1.1 then (some ((8, ()), (((0, (ByteArray.empty, (0, (0, ())))), ()), ([], ()))))
else ((((m58 ((v170.1.2.1, ()), ())).bind fun u171 =>
bif (!u171.1.1) then (some ((true, (v170.1.2.1, (v170.1.2.2.1, ()))), (((v170.2.1.1.1, (v170.2.1.1.2.1, (v170.2.1.1.2.2.1, (v170.2.1.1.2.2.2.1, ())))), ()), ((v170.2.2.1.1, ()), ((v170.2.2.2.1.1, ()), ())))))
else (bif (decide ((v170.1.2.2.1 : Int) < 0)) then (some ((true, (v170.1.2.1, (v170.1.2.2.1, ()))), (((v170.2.1.1.1, (v170.2.1.1.2.1, (v170.2.1.1.2.2.1, (v170.2.1.1.2.2.2.1, ())))), ()), ((v170.2.2.1.1, ()), ((v170.2.2.2.1.1, ()), ())))))
else (some (((decide ((v170.1.2.2.1 : Int) > 604800)), (v170.1.2.1, (v170.1.2.2.1, ()))), (((v170.2.1.1.1, (v170.2.1.1.2.1, (v170.2.1.1.2.2.1, (v170.2.1.1.2.2.2.1, ())))), ()), ((v170.2.2.1.1, ()), ((v170.2.2.2.1.1, ()), ()))))))) : Option ((Bool × Int × Int × Unit) × (Y6 × (Y4 × Unit) × (Y7 × Unit) × Unit))).bind fun v172 =>
bif v172.1.1 then (some ((1, ()), (((0, (ByteArray.empty, (0, (0, ())))), ()), ([], ()))))
else ((m22 ((v172.2.2.2.1.1, ()), ())).bind fun u173 =>
(loopT l30_0_7 ((0, (v172.1.2.1, (v172.1.2.2.1, ()))), (((u173.2.1.1.1, (u173.2.1.1.2.1, (u173.2.1.1.2.2.1, (u173.2.1.1.2.2.2.1, ())))), ()), ((v172.2.2.1.1, ()), (((v172.2.1.1.1, (v172.2.1.1.2.1, (v172.2.1.1.2.2.1, (v172.2.1.1.2.2.2.1, ())))), ()), (u173.2.2.1, ())))))).bind fun d196 =>
some ((0, ()), (((d196.2.2.1.1.1, (d196.2.2.1.1.2.1, (d196.2.2.1.1.2.2.1, (d196.2.2.1.1.2.2.2.1, ())))), ()), (d196.2.2.2.1, ())))))

def sp30 : Abs.Spec := ⟨0, i30, o30, m30⟩

def an30 : Nat → Abs.FAn
  | 0 => Abs.FAn.mk (fun
    | 11 => some ⟨[11, 10, 2, 5, 3, 8, 13], (.dat (.int .i64) (.st Qx9 (.dat (.int .i64) (.st Qx47 (.dat (.int .i64) (.st Qx20 Qs5)))))), Qb12⟩
    | 9 => some ⟨[60, 11, 10, 2, 5, 3, 8], (.dat .bool (.dat (.int .i64) Qs22)), Qb12⟩
    | 3 => some ⟨[33, 8, 2, 5, 3, 4], (.dat .bool Qs22), (.box 5 Qs2 (.box 8 Qs30 Qb19))⟩
    | 1 => some ⟨[21, 8, 2, 5, 3, 4], (.dat .bool Qs22), (.box 5 Qs2 (.box 8 Qs30 Qb19))⟩
    | _ => none) (fun
    | 13 => some (⟨[10, 2, 5, 3, 8, 11], (.st Qx9 (.dat (.int .i64) (.st Qx47 (.dat (.int .i64) (.st Qx20 Qs5))))), Qb12⟩, some (.one (.exit 1) ⟨[11, 10, 2, 5, 3, 8], (.dat (.int .i64) Qs22), Qb12⟩))
    | _ => none) (fun
    | 7 => some ⟨⟨[11, 10, 2, 5, 3, 8], (.dat (.int .i64) Qs22), Qb12⟩, (.one (.exit 0) ⟨[8, 10], Qs44, (.box 5 Qs2 Qb17)⟩)⟩
    | _ => none) (fun
    | 11, 4 => 1
    | _, _ => 0)
  | 1 => Abs.FAn.mk (fun _ => none) (fun _ => none) (fun _ => none) (fun
    | 6, 3 => 3
    | 4, 1 => 2
    | _, _ => 0)
  | 2 => Abs.FAn.mk (fun _ => none) (fun
    | 3 => some (⟨[2, 1], Qs45, Qb6⟩, none)
    | _ => none) (fun _ => none) (fun _ _ => 0)
  | 3 => Abs.FAn.mk (fun
    | 4 => some ⟨[30, 6, 3, 7], (.dat .bool (.st Qx15 (.st Qx20 Qs5))), Qb6⟩
    | _ => none) (fun
    | 6 => some (⟨[6, 3], Qs45, Qb6⟩, none)
    | 4 => some (⟨[6, 3, 7], (.st Qx15 (.st Qx20 Qs5)), Qb6⟩, none)
    | _ => none) (fun _ => none) (fun _ _ => 0)
  | _ => {}

theorem ok30 : Abs.SpecOK Try.prog 30 sp30 :=
  okW (an := an30) (alc ok24 (alc ok59 (alc ok58 (alc ok22 (alc ok66 al0))))) rfl (by intro v; kernel_rfl)

def l21_0_3 (v : ((Int × Int × Unit) × (Y12 × Y6 × (Y4 × Unit) × Y6 × Y2 × Unit))) : Option (((Int × Int × Unit) × (Y12 × Y6 × (Y4 × Unit) × Y6 × Y2 × Unit)) ⊕ ((Int × Unit) × (Y12 × Y6 × Y6 × Y2 × Unit))) :=
((bif (decide ((v.1.1 : Int) > 0)) then ((m56 ((), ((v.2.1.1, ()), ()))).bind fun u163 =>
some ((u163.1.1, (v.1.1, (v.1.2.1, ()))), ((u163.2.1.1, ()), (((v.2.2.1.1.1, (v.2.2.1.1.2.1, (v.2.2.1.1.2.2.1, (v.2.2.1.1.2.2.2.1, ())))), ()), ((v.2.2.2.1.1, ()), (((v.2.2.2.2.1.1.1, (v.2.2.2.2.1.1.2.1, (v.2.2.2.2.1.1.2.2.1, (v.2.2.2.2.1.1.2.2.2.1, ())))), ()), (v.2.2.2.2.2.1, ())))))))
else (some ((false, (v.1.1, (v.1.2.1, ()))), ((v.2.1.1, ()), (((v.2.2.1.1.1, (v.2.2.1.1.2.1, (v.2.2.1.1.2.2.1, (v.2.2.1.1.2.2.2.1, ())))), ()), ((v.2.2.2.1.1, ()), (((v.2.2.2.2.1.1.1, (v.2.2.2.2.1.1.2.1, (v.2.2.2.2.1.1.2.2.1, (v.2.2.2.2.1.1.2.2.2.1, ())))), ()), (v.2.2.2.2.2.1, ())))))))) : Option ((Bool × Int × Int × Unit) × (Y12 × Y6 × (Y4 × Unit) × Y6 × Y2 × Unit))).bind fun v164 =>
bif v164.1.1 then ((((m20 ((4, ()), ((v164.2.1.1, ()), ()))).bind fun u165 =>
((bif ((u165.1.1 : Int) == 0) then (some ((((u165.1.1 : Int) == 0), (v164.1.2.1, (v164.1.2.2.1, (u165.1.1, ())))), ((u165.2.1.1, ()), (((v164.2.2.1.1.1, (v164.2.2.1.1.2.1, (v164.2.2.1.1.2.2.1, (v164.2.2.1.1.2.2.2.1, ())))), ()), ((v164.2.2.2.1.1, ()), (((v164.2.2.2.2.1.1.1, (v164.2.2.2.2.1.1.2.1, (v164.2.2.2.2.1.1.2.2.1, (v164.2.2.2.2.1.1.2.2.2.1, ())))), ()), (v164.2.2.2.2.2.1, ())))))))
else (some ((((u165.1.1 : Int) == 1), (v164.1.2.1, (v164.1.2.2.1, (u165.1.1, ())))), ((u165.2.1.1, ()), (((v164.2.2.1.1.1, (v164.2.2.1.1.2.1, (v164.2.2.1.1.2.2.1, (v164.2.2.1.1.2.2.2.1, ())))), ()), ((v164.2.2.2.1.1, ()), (((v164.2.2.2.2.1.1.1, (v164.2.2.2.2.1.1.2.1, (v164.2.2.2.2.1.1.2.2.1, (v164.2.2.2.2.1.1.2.2.2.1, ())))), ()), (v164.2.2.2.2.2.1, ())))))))) : Option ((Bool × Int × Int × Int × Unit) × (Y12 × Y6 × (Y4 × Unit) × Y6 × Y2 × Unit))).bind fun v166 =>
bif v166.1.1 then ((m13 ((), ((v166.2.1.1, ()), ()))).bind fun u167 =>
(m20 ((3, ()), ((u167.2.1.1, ()), ()))).bind fun u168 =>
(m27 (((v166.2.2.1.1.1, (v166.2.2.1.1.2.1, (v166.2.2.2.2.2.1, (v166.2.2.1.1.2.2.1, (v166.2.2.1.1.2.2.2.1, ()))))), (v166.2.2.2.1.1, (u167.2.2.1, ((decide ((u168.1.1 : Int) > 0)), (v166.1.2.2.1, ()))))), ())).bind fun u169 =>
some ((v166.1.2.1, (v166.1.2.2.1, ())), ((u168.2.1.1, ()), (((u169.2.1.1.1, (u169.2.1.1.2.1, (u169.2.1.1.2.2.1, (u169.2.1.1.2.2.2.1, ())))), ()), ((v166.2.2.2.1.1, ()), (((v166.2.2.2.2.1.1.1, (v166.2.2.2.2.1.1.2.1, (v166.2.2.2.2.1.1.2.2.1, (v166.2.2.2.2.1.1.2.2.2.1, ())))), ()), (u169.2.2.1, ())))))))
else (bif ((v166.1.2.2.2.1 : Int) == 2) then (((((let x170 := (decide ((((v166.2.2.2.2.2.1.length : Nat) : Int) : Int) > 0))
bif x170 then ((m18 ((2, ()), ((v166.2.1.1, ()), ()))).bind fun u171 =>
some ((u171.1.1, (v166.1.2.1, (v166.1.2.2.1, ()))), ((u171.2.1.1, ()), (((v166.2.2.1.1.1, (v166.2.2.1.1.2.1, (v166.2.2.1.1.2.2.1, (v166.2.2.1.1.2.2.2.1, ())))), ()), ((v166.2.2.2.1.1, ()), (((v166.2.2.2.2.1.1.1, (v166.2.2.2.2.1.1.2.1, (v166.2.2.2.2.1.1.2.2.1, (v166.2.2.2.2.1.1.2.2.2.1, ())))), ()), ([], (v166.2.2.2.2.2.1, ()))))))))
else (some ((false, (v166.1.2.1, (v166.1.2.2.1, ()))), ((v166.2.1.1, ()), (((v166.2.2.1.1.1, (v166.2.2.1.1.2.1, (v166.2.2.1.1.2.2.1, (v166.2.2.1.1.2.2.2.1, ())))), ()), ((v166.2.2.2.1.1, ()), (((v166.2.2.2.2.1.1.1, (v166.2.2.2.2.1.1.2.1, (v166.2.2.2.2.1.1.2.2.1, (v166.2.2.2.2.1.1.2.2.2.1, ())))), ()), ([], (v166.2.2.2.2.2.1, ()))))))))) : Option ((Bool × Int × Int × Unit) × (Y12 × Y6 × (Y4 × Unit) × Y6 × (List ByteArray) × Y2 × Unit))).bind fun v172 =>
bif v172.1.1 then ((m20 ((((v172.2.2.2.2.2.2.1.length : Nat) : Int), ()), ((v172.2.1.1, ()), ()))).bind fun u173 =>
bif (decide ((0 : Int) ≤ u173.1.1 ∧ (u173.1.1 : Int) < v172.2.2.2.2.2.2.1.length)) then
(v172.2.2.2.2.2.2.1[u173.1.1.toNat]?).bind fun e174 =>
some ((v172.1.2.1, (v172.1.2.2.1, ())), ((u173.2.1.1, ()), (((v172.2.2.1.1.1, (v172.2.2.1.1.2.1, (v172.2.2.1.1.2.2.1, (v172.2.2.1.1.2.2.2.1, ())))), ()), ((v172.2.2.2.1.1, ()), (((v172.2.2.2.2.1.1.1, (v172.2.2.2.2.1.1.2.1, (v172.2.2.2.2.1.1.2.2.1, (v172.2.2.2.2.1.1.2.2.2.1, ())))), ()), ([e174.1], (v172.2.2.2.2.2.2.1, ())))))))
else none)
else (some ((v172.1.2.1, (v172.1.2.2.1, ())), ((v172.2.1.1, ()), (((v172.2.2.1.1.1, (v172.2.2.1.1.2.1, (v172.2.2.1.1.2.2.1, (v172.2.2.1.1.2.2.2.1, ())))), ()), ((v172.2.2.2.1.1, ()), (((v172.2.2.2.2.1.1.1, (v172.2.2.2.2.1.1.2.1, (v172.2.2.2.2.1.1.2.2.1, (v172.2.2.2.2.1.1.2.2.2.1, ())))), ()), (v172.2.2.2.2.2.1, (v172.2.2.2.2.2.2.1, ()))))))))) : Option ((Int × Int × Unit) × (Y12 × Y6 × (Y4 × Unit) × Y6 × (List ByteArray) × Y2 × Unit))).bind fun v175 =>
(m31 (((v175.2.2.1.1.1, (v175.2.2.1.1.2.1, (v175.2.2.2.2.2.2.1, (v175.2.2.1.1.2.2.1, (v175.2.2.1.1.2.2.2.1, ()))))), (v175.2.2.2.1.1, (v175.1.2.1, (v175.2.2.2.2.2.1, ())))), ())).bind fun u176 =>
some ((v175.1.1, (v175.1.2.1, ())), ((v175.2.1.1, ()), (((u176.2.1.1.1, (u176.2.1.1.2.1, (u176.2.1.1.2.2.1, (u176.2.1.1.2.2.2.1, ())))), ()), ((v175.2.2.2.1.1, ()), (((v175.2.2.2.2.1.1.1, (v175.2.2.2.2.1.1.2.1, (v175.2.2.2.2.1.1.2.2.1, (v175.2.2.2.2.1.1.2.2.2.1, ())))), ()), (u176.2.2.2.1, ())))))))
else (bif ((v166.1.2.2.2.1 : Int) == 3) then ((m19 (([0, 50, 300], ()), ((v166.2.1.1, ()), ()))).bind fun u177 =>
(m30 (((v166.2.2.1.1.1, (v166.2.2.1.1.2.1, (v166.2.2.2.2.2.1, (v166.2.2.1.1.2.2.1, (v166.2.2.1.1.2.2.2.1, ()))))), (v166.2.2.2.1.1, (v166.1.2.2.1, (u177.1.1, ())))), ())).bind fun u178 =>
some ((v166.1.2.1, (v166.1.2.2.1, ())), ((u177.2.1.1, ()), (((u178.2.1.1.1, (u178.2.1.1.2.1, (u178.2.1.1.2.2.1, (u178.2.1.1.2.2.2.1, ())))), ()), ((v166.2.2.2.1.1, ()), (((v166.2.2.2.2.1.1.1, (v166.2.2.2.2.1.1.2.1, (v166.2.2.2.2.1.1.2.2.1, (v166.2.2.2.2.1.1.2.2.2.1, ())))), ()), (u178.2.2.1, ())))))))
else (some ((v166.1.2.1, (v166.1.2.2.1, ())), ((v166.2.1.1, ()), (((v166.2.2.1.1.1, (v166.2.2.1.1.2.1, (v166.2.2.1.1.2.2.1, (v166.2.2.1.1.2.2.2.1, ())))), ()), ((v166.2.2.2.1.1, ()), (((v166.2.2.2.2.1.1.1, (v166.2.2.2.2.1.1.2.1, (v166.2.2.2.2.1.1.2.2.1, (v166.2.2.2.2.1.1.2.2.2.1, ())))), ()), (v166.2.2.2.2.2.1, ())))))))))) : Option ((Int × Int × Unit) × (Y12 × Y6 × (Y4 × Unit) × Y6 × Y2 × Unit))).bind fun v179 =>
(m19 (([0, 1, 10, 30, 400], ()), ((v179.2.1.1, ()), ()))).bind fun u180 =>
some (.inl (((w64 (v179.1.1 - 1)), ((w64 (v179.1.2.1 + u180.1.1)), ())), ((u180.2.1.1, ()), (((v179.2.2.1.1.1, (v179.2.2.1.1.2.1, (v179.2.2.1.1.2.2.1, (v179.2.2.1.1.2.2.2.1, ())))), ()), ((v179.2.2.2.1.1, ()), (((v179.2.2.2.2.1.1.1, (v179.2.2.2.2.1.1.2.1, (v179.2.2.2.2.1.1.2.2.1, (v179.2.2.2.2.1.1.2.2.2.1, ())))), ()), (v179.2.2.2.2.2.1, ()))))))))
else (some (.inr ((v164.1.2.2.1, ()), ((v164.2.1.1, ()), (((v164.2.2.2.2.1.1.1, (v164.2.2.2.2.1.1.2.1, (v164.2.2.2.2.1.1.2.2.1, (v164.2.2.2.2.1.1.2.2.2.1, ())))), ()), (((v164.2.2.1.1.1, (v164.2.2.1.1.2.1, (v164.2.2.1.1.2.2.1, (v164.2.2.1.1.2.2.2.1, ())))), ()), (v164.2.2.2.2.2.1, ())))))))

/- (*pagewatch/pagewatchmade.Dice).Group -/
def i21 : Abs.Sg := ⟨[0, 1, 2], (.st Qx32 (.dat Z3 Qs5)), Qb46⟩

def o21 : Abs.Sg := ⟨[6, 7], (.st Qx15 Qs5), (.box 2 Qs27 Qb17)⟩

def m21 (v : ((Y4 × Int × Unit) × (Y12 × Unit))) : Option ((Int × Unit) × (Y12 × Y6 × Y2 × Unit)) :=
(m33 ((0, ((bs [123, 125]), ())), ())).bind fun u160 =>
(m20 ((100, ()), ((v.2.1.1, ()), ()))).bind fun u162 =>
(loopT l21_0_3 ((v.1.2.1, (u162.1.1, ())), ((u162.2.1.1, ()), (((u160.2.1.1.1, (u160.2.1.1.2.1, (u160.2.1.1.2.2.1, (u160.2.1.1.2.2.2.1, ())))), ()), ((v.1.1, ()), (((0, (ByteArray.empty, (0, (0, ())))), ()), ([], ()))))))).bind fun d181 =>
some ((d181.1.1, ()), ((d181.2.1.1, ()), (((d181.2.2.2.1.1.1, (d181.2.2.2.1.1.2.1, (d181.2.2.2.1.1.2.2.1, (d181.2.2.2.1.1.2.2.2.1, ())))), ()), (d181.2.2.2.2.1, ()))))

def sp21 : Abs.Spec := ⟨1, i21, o21, m21⟩

def an21 : Nat → Abs.FAn
  | 0 => Abs.FAn.mk (fun
    | 11 => some ⟨[48, 0, 8, 4, 6, 2, 9, 10], (.dat .bool (.st Qx32 (.st Qx15 (.st Qx38 (.st Qx26 (.dat (.int .i64) (.dat (.int .i64) (.st (.own .str (4, 0)) .nil)))))))), (.box 2 Qs27 (.box 5 (.agg (.dat (.int .i64) (.dat .str (.st (.own Z1 (5, 0)) Qs1))) .nil) (.box 8 Qs30 (.box 5 Qs2 (.arr .str false Qb34)))))⟩
    | 3 => some ⟨[19, 0, 8, 4, 6, 2, 9], (.dat .bool (.st Qx32 (.st Qx15 (.st Qx38 (.st Qx26 Qs1))))), Qb24⟩
    | _ => none) (fun
    | 16 => some (⟨[0, 8, 4, 6, 2, 9], (.st Qx32 (.st Qx15 (.st Qx38 (.st Qx26 Qs1)))), Qb24⟩, none)
    | 13 => some (⟨[0, 8, 4, 6, 2, 9, 10], (.st Qx32 (.st Qx15 (.st Qx38 (.st Qx26 (.dat (.int .i64) (.dat (.int .i64) (.st (.own .str (4, 0)) .nil))))))), (.box 2 Qs27 (.box 5 (.agg (.dat (.int .i64) (.dat .str (.st (.own Z1 (5, 0)) Qs1))) .nil) (.box 8 Qs30 (.box 5 Qs2 (.arr .str false Qb34)))))⟩, none)
    | 8 => some (⟨[24, 0, 8, 4, 6, 2, 9, 23], (.dat .bool (.st Qx32 (.st Qx15 (.st Qx38 (.st Qx26 (.dat (.int .i64) Qs1)))))), Qb24⟩, none)
    | _ => none) (fun
    | 3 => some ⟨⟨[2, 0, 9, 8, 4, 6], (.dat (.int .i64) (.st Qx32 (.dat (.int .i64) (.st Qx15 (.st Qx38 (.st Qx26 .nil)))))), Qb24⟩, (.one (.exit 0) ⟨[6, 9, 8], (.st Qx15 (.dat (.int .i64) (.st Qx20 .nil))), (.box 2 Qs27 (.box 5 Qs2 (.box 5 (.agg (.dat (.int .i64) (.dat .str (.st (.own Z1 (3, 0)) Qs1))) .nil) Qb34)))⟩)⟩
    | _ => none) (fun _ _ => 0)
  | _ => {}

theorem ok21 : Abs.SpecOK Try.prog 21 sp21 :=
  okW (an := an21) (alc ok33 (alc ok20 (alc ok56 (alc ok13 (alc ok27 (alc ok18 (alc ok31 (alc ok19 (alc ok30 al0))))))))) rfl (by intro v; kernel_rfl)

/- pagewatch/pagewatchref23.Empty -/
def i26 : Abs.Sg := ⟨[0], Qs33, .nil⟩

def o26 : Abs.Sg := ⟨[2], Qs14, .nil⟩

def m26 (v : ((Y7 × Unit) × (Unit))) : Option Y14 :=
some (((((v.1.1.2.2.1.length : Int) : Int) == 0), ()), ())

def sp26 : Abs.Spec := ⟨0, i26, o26, m26⟩

def an26 : Nat → Abs.FAn
  | _ => {}

theorem ok26 : Abs.SpecOK Try.prog 26 sp26 :=
  okW (an := an26) al0 rfl (by intro v; kernel_rfl)

def l64_0_4 (v : ((Int × Y9 × Y9 × Unit) × (Unit))) : Option (((Int × Y9 × Y9 × Unit) × (Unit)) ⊕ (Y14 ⊕ ((Unit) × (Unit)))) :=
let x35 := (decide ((v.1.1 : Int) < (v.1.2.2.1.length : Int)))
bif x35 then (Abs.rowAt v.1.2.2.1 v.1.1 fun e36 _ =>
Abs.rowAt v.1.2.1 v.1.1 fun e37 _ =>
let x38 := (!((e36.1 == e37.1) && ((e36.2.1 == e37.2.1) && true)))
bif x38 then (some (.inr (.inl ((false, ()), ()))))
else (some (.inl (((w64 (v.1.1 + 1)), (v.1.2.1, (v.1.2.2.1, ()))), ()))))
else (some (.inr (.inr ((), ()))))

/- pagewatch/pagewatchref20.Same -/
def i64 : Abs.Sg := ⟨[0, 1], (.dat (.row Z13) (.dat (.row Z13) .nil)), .nil⟩

def o64 : Abs.Sg := ⟨[4], Qs14, .nil⟩

def m64 (v : ((Y9 × Y9 × Unit) × (Unit))) : Option Y14 :=
let x34 := (((v.1.1.length : Int) : Int) != (v.1.2.1.length : Int))
bif x34 then (some ((false, ()), ()))
else ((loopT l64_0_4 ((0, (v.1.2.1, (v.1.1, ()))), ())).bind fun d39 =>
sumE d39 (fun d40 => (some ((d40.1.1, ()), ()))) (fun d41 => (some ((true, ()), ()))))

def sp64 : Abs.Spec := ⟨0, i64, o64, m64⟩

def an64 : Nat → Abs.FAn
  | 0 => Abs.FAn.mk (fun _ => none) (fun _ => none) (fun
    | 4 => some ⟨⟨[5, 1, 0], (.dat (.int .i64) (.dat (.row Z13) (.dat (.row Z13) .nil))), .nil⟩, (.more .ret ⟨[4], Qs14, .nil⟩ (.one (.exit 0) ⟨[], .nil, .nil⟩))⟩
    | _ => none) (fun _ _ => 0)
  | _ => {}

theorem ok64 : Abs.SpecOK Try.prog 64 sp64 :=
  okW (an := an64) al0 rfl (by intro v; kernel_rfl)

def l28_0_4 (v : ((Int × Unit) × ((Y7 × Unit) × (Y7 × Unit) × Unit))) : Option (((Int × Unit) × ((Y7 × Unit) × (Y7 × Unit) × Unit)) ⊕ (Y14 ⊕ ((Unit) × (Unit)))) :=
let x44 := (decide ((v.1.1 : Int) < (v.2.2.1.1.2.2.1.length : Int)))
bif x44 then (Abs.rowAt v.2.2.1.1.2.2.1 v.1.1 fun e45 _ =>
Abs.rowAt v.2.1.1.2.2.1 v.1.1 fun e46 _ =>
((bif (!(e45.1.toList == e46.1.toList)) then (some ((true, (v.1.1, ())), ((v.2.1.1, ()), ((v.2.2.1.1, ()), ()))))
else ((m64 ((e45.2.1, (e46.2.1, ())), ())).bind fun u47 =>
bif (!u47.1.1) then (some ((true, (v.1.1, ())), ((v.2.1.1, ()), ((v.2.2.1.1, ()), ()))))
else (bif ((e45.2.2.1 : Int) != e46.2.2.1) then (some ((true, (v.1.1, ())), ((v.2.1.1, ()), ((v.2.2.1.1, ()), ()))))
else (bif ((e45.2.2.2.1 : Int) != e46.2.2.2.1) then (some ((true, (v.1.1, ())), ((v.2.1.1, ()), ((v.2.2.1.1, ()), ()))))
else (bif (!(e45.2.2.2.2.1 == e46.2.2.2.2.1)) then (some ((true, (v.1.1, ())), ((v.2.1.1, ()), ((v.2.2.1.1, ()), ()))))
else (some (((!(e45.2.2.2.2.2.1 == e46.2.2.2.2.2.1)), (v.1.1, ())), ((v.2.1.1, ()), ((v.2.2.1.1, ()), ()))))))))) : Option ((Bool × Int × Unit) × ((Y7 × Unit) × (Y7 × Unit) × Unit))).bind fun v48 =>
bif v48.1.1 then (some (.inr (.inl ((false, ()), ()))))
else (some (.inl (((w64 (v48.1.2.1 + 1)), ()), ((v48.2.1.1, ()), ((v48.2.2.1.1, ()), ()))))))
else (some (.inr (.inr ((), ()))))

/- pagewatch/pagewatchref23.Same -/
def i28 : Abs.Sg := ⟨[0, 1], (.dat Z5 Qs33), .nil⟩

def o28 : Abs.Sg := ⟨[4], Qs14, .nil⟩

def m28 (v : ((Y7 × Y7 × Unit) × (Unit))) : Option Y14 :=
((bif ((v.1.1.1 : Int) != v.1.2.1.1) then (some ((true, ()), ((v.1.2.1, ()), ((v.1.1, ()), ()))))
else (bif (!(v.1.1.2.1.toList == v.1.2.1.2.1.toList)) then (some ((true, ()), ((v.1.2.1, ()), ((v.1.1, ()), ()))))
else (bif ((v.1.1.2.2.2.1 : Int) != v.1.2.1.2.2.2.1) then (some ((true, ()), ((v.1.2.1, ()), ((v.1.1, ()), ()))))
else (bif ((v.1.1.2.2.2.2.1 : Int) != v.1.2.1.2.2.2.2.1) then (some ((true, ()), ((v.1.2.1, ()), ((v.1.1, ()), ()))))
else (let x42 := (((v.1.1.2.2.1.length : Int) : Int) != (v.1.2.1.2.2.1.length : Int))
some ((x42, ()), ((v.1.2.1, ()), ((v.1.1, ()), ())))))))) : Option ((Bool × Unit) × ((Y7 × Unit) × (Y7 × Unit) × Unit))).bind fun v43 =>
bif v43.1.1 then (some ((false, ()), ()))
else ((loopT l28_0_4 ((0, ()), ((v43.2.1.1, ()), ((v43.2.2.1.1, ()), ())))).bind fun d49 =>
sumE d49 (fun d50 => (some ((d50.1.1, ()), ()))) (fun d51 => (some ((true, ()), ()))))

def sp28 : Abs.Spec := ⟨0, i28, o28, m28⟩

def an28 : Nat → Abs.FAn
  | 0 => Abs.FAn.mk (fun
    | 7 => some ⟨[100, 3, 2, 5], (.dat .bool (.st Qx9 (.st Qx15 Qs5))), (.box 5 Qs33 Qb19)⟩
    | 1 => some ⟨[42, 3, 2], (.dat .bool Qs44), (.box 5 Qs33 Qb19)⟩
    | _ => none) (fun _ => none) (fun
    | 4 => some ⟨⟨[5, 3, 2], (.dat (.int .i64) Qs44), (.box 5 Qs33 Qb19)⟩, (.more .ret ⟨[4], Qs14, .nil⟩ (.one (.exit 0) ⟨[], .nil, .nil⟩))⟩
    | _ => none) (fun _ _ => 0)
  | _ => {}

theorem ok28 : Abs.SpecOK Try.prog 28 sp28 :=
  okW (an := an28) (alc ok64 al0) rfl (by intro v; kernel_rfl)

end
end Go.Proofs.Ytcblbcpnfidndaa
