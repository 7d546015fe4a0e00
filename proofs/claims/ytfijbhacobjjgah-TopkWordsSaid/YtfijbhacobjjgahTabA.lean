/- A table: a map in a field; New, Len, Count; nobody's. -/
import Derived.Test.YtfijbhacobjjgahInitA
import Derived.Test.YtfijbhacobjjgahLaw49b
import Derived.Maps.OwnOps
import Derived.Maps.OwnSet
namespace Go.Proofs.Ytfijbhacobjjgah
open Go.RowKit Go.Proofs.YtfijbhacobjjgahW.PrintWords Go.Proofs.YtfijbhacobjjgahW.PrintLast Go.Proofs.YtfijbhacobjjgahW.PrintMore Go.Proofs.Ytfijbhacobjjgah.Fr
set_option linter.unusedVariables false
set_option linter.unusedSimpArgs false
attribute [local go_sem] max2_int min2_int max_two min_two

open Pl Hp Go.Maps
noncomputable abbrev EL : Value → Option (DW × List MemPlace) := plainElem Try.prog 3
theorem law9 : Keyed Try.prog 9 := string_keyed Try.underlying9
theorem zero3 (w : World) : (zeroValue 3).run Try.prog w = .ok (.int .i64 0) w := by kernel_rfl
theorem map_ch {S : Nat → Prop} {w w1 : World} {md n : Nat} {D : DW} (h : w.ownsMap Try.prog 9 EL md n D) (hc : Ch S w w1) (hs : ¬ S md) : w1.ownsMap Try.prog 9 EL md n D := by
  have hl := h.lt
  obtain ⟨es, clock, hb, Ft, hsz, hD⟩ := h
  exact ⟨es, clock, (hc.block md hl hs).trans hb, Ft, hsz, hD⟩
theorem own_tight {w : World} {md n : Nat} {D : DW} (h : w.ownsMap Try.prog 9 EL md n D) : w.ownsMap Try.prog 9 EL md (Maps.size D) D := by
  obtain ⟨es, clock, hb, Ft, hsz, rfl⟩ := h
  exact ⟨es, clock, hb, Ft, by simp [Maps.size, length_sorted], rfl⟩
theorem key9 {s : ByteArray} (hs : s.size ≤ 9223372036854775807) : keyOf Try.prog 9 (.string s) = some (ks s) := Go.WideMaps.keyOf_string_mk Try.underlying9 (by simpa [maxLen] using hs)
structure TB (B : Nat) (w : World) (g md room : Nat) (D : DW) (L : List It) : Prop where
  box : w.heap[g]? = some (.cells #[.int .i64 (room : Nat), .map (some md)] 51 (0, 0))
  map : w.ownsMap Try.prog 9 EL md (Maps.size D) D
  rel : Rel D L
  wl : WL room L
  r1 : room ≤ 1000
  lo : B ≤ g
  lom : B ≤ md
  ne : md ≠ g
section
variable {B : Nat} {w w1 : World} {g md room : Nat} {D : DW} {L : List It}
theorem TB.ch {S : Nat → Prop} (h : TB B w g md room D L) (hc : Ch S w w1) (h1 : ¬ S g) (h2 : ¬ S md) : TB B w1 g md room D L := ⟨hc.blk h.box h1, map_ch h.map hc h2, h.rel, h.wl, h.r1, h.lo, h.lom, h.ne⟩
theorem TB.below (h : TB B w g md room D L) (hb : Below w.heap.size w w1) : TB B w1 g md room D L := h.ch (S := fun _ => False) (Ch.of_below hb) (fun e => e) (fun e => e)
theorem TB.len (h : TB B w g md room D L) (ty : Nat) : (Builtin.len_ #[49] ty #[.map (some md)]).run Try.prog w = .ok (.int .i64 (L.length : Nat)) w := by
  rw [← h.rel.sz]; exact h.map.len Try.underlying49 ty
theorem TB.look (h : TB B w g md room D L) {s : ByteArray} (hs : s.size ≤ 9223372036854775807) : (Instr.lookup 49 (.map (some md)) (.string s) false).run Try.prog w = .ok (.int .i64 (cnt s L)) w := by
  obtain ⟨c, hrun, hat, _⟩ := h.map.lookup_int law9 Try.underlying49 Try.underlying3 (zero3 w) (key9 hs)
  rw [h.rel.cnt s] at hat
  simp at hat
  rw [hat]; exact hrun
theorem TB.look2 (h : TB B w g md room D L) {s : ByteArray} (hs : s.size ≤ 9223372036854775807) : (Instr.lookup 49 (.map (some md)) (.string s) true).run Try.prog w = .ok (.tuple #[.int .i64 (cnt s L), .bool (decide (pos s L < L.length))]) w := by
  obtain ⟨v, ps, hrun, hv⟩ := h.map.look_ok law9 Try.underlying49 (zero3 w) (plainElem_int Try.underlying3 (by decide)) (key9 hs)
  obtain ⟨c, rfl, hc, _⟩ := plainElem_int_inv Try.underlying3 hv
  rw [h.rel.cnt s] at hc
  simp at hc
  rw [h.rel.has s] at hrun
  rw [hc.1]; exact hrun
def NewPost (n : Int) (w : World) (e : Ending) (w' : World) : Prop := ∃ (g md room : Nat), (room : Int) = brI n 1 1000 ∧ e = .returned (.pointer (some ⟨g, 0, none⟩)) ∧ TB w.heap.size w' g md room (.map []) [] ∧ Below w.heap.size w w'
theorem brought_any (n lo hi : Int) (w : World) : Calls Try.prog 19 #[.int .i64 n, .int .i64 lo, .int .i64 hi] w fun e w' => e = .returned (.int .i64 (brI n lo hi)) ∧ w = w' := by
  have E : Aside0 (brI n lo hi = min (max n lo) hi) := ⟨rfl⟩
  go_enter Try.func19, Try.ntmps19
  go_wp2
  all_goals
    go_ret
    rw [E.out]
    have key : ∀ r, r = min (max n lo) hi → Ending.returned (.int .i64 r) = Ending.returned (.int .i64 (min (max n lo) hi)) := by rintro _ rfl; rfl
    exact ⟨key _ (by omega), rfl⟩
theorem new_any (n : Int) (w : World) : Calls Try.prog 7 #[.int .i64 n] w (NewPost n w) := by
  have hmm := @run_makeMap Try.prog
  obtain ⟨r, hr⟩ : ∃ r : Nat, brI n 1 1000 = r := ⟨(brI n 1 1000).toNat, by unfold brI; omega⟩
  have hr2 : r ≤ 1000 := by have : brI n 1 1000 ≤ 1000 := (by unfold brI; omega); omega
  have HR := Aside0.mk hr
  go_enter Try.func7, Try.ntmps7
  go_wp2_with fail
  refine (brought_any n 1 1000 w).mono ?_
  rintro e w1 ⟨rfl, rfl⟩
  rw [hr]
  clear hr
  go_wp2
  go_ret
  refine ⟨w.heap.size + 1, w.heap.size, r, HR.out.symm, rfl, ⟨?_, (World.ownsMap_made w Try.prog 9 EL).alloc _, Rel.nil, WL.nil _, hr2, by omega, Nat.le_refl _, by omega⟩, below_alloc (below_alloc (Below.refl _ _) _) _⟩
  have := blk_new (w.alloc (.map #[] 0)) (.cells #[.int .i64 (r : Nat), .map (some w.heap.size)] 51)
  rw [show (w.alloc (.map #[] 0)).heap.size = w.heap.size + 1 by simp] at this
  exact this
theorem tlen_any (h : TB B w g md room D L) : Calls Try.prog 16 #[.pointer (some ⟨g, 0, none⟩)] w fun e w' => e = .returned (.int .i64 (L.length : Nat)) ∧ w = w' := by
  have c1 : w.cell? ⟨g, 1, none⟩ = some (.map (some md)) := (blk_cell h.box 1).trans rfl
  have hln := h.len
  clear h
  go_enter Try.func16, Try.ntmps16
  go_wp2
  go_ret
  exact ⟨rfl, rfl⟩
theorem tcount_any (h : TB B w g md room D L) (s : ByteArray) (hs : s.size ≤ 9223372036854775807) : Calls Try.prog 17 #[.pointer (some ⟨g, 0, none⟩), .string s] w fun e w' => e = .returned (.int .i64 (cnt s L)) ∧ w = w' := by
  have c1 : w.cell? ⟨g, 1, none⟩ = some (.map (some md)) := (blk_cell h.box 1).trans rfl
  have hlk := h.look hs
  clear h hs
  go_enter Try.func17, Try.ntmps17
  go_wp2
  go_ret
  exact ⟨rfl, rfl⟩
end
theorem tadd_none (s : ByteArray) (n : Int) (w : World) : Calls Try.prog 9 #[.pointer none, .string s, .int .i64 n] w fun e w' => e = .returned (.bool false) ∧ Below w.heap.size w w' := by
  go_enter Try.func9, Try.ntmps9
  go_wp2
  go_ret
  exact ⟨rfl, Below.refl _ _⟩
theorem tcount_none (s : ByteArray) (w : World) : Calls Try.prog 17 #[.pointer none, .string s] w fun e w' => e = .returned (.int .i64 0) ∧ Below w.heap.size w w' := by
  go_enter Try.func17, Try.ntmps17
  go_wp2
  go_ret
  exact ⟨rfl, Below.refl _ _⟩
theorem tlen_none (w : World) : Calls Try.prog 16 #[.pointer none] w fun e w' => e = .returned (.int .i64 0) ∧ Below w.heap.size w w' := by
  go_enter Try.func16, Try.ntmps16
  go_wp2
  go_ret
  exact ⟨rfl, Below.refl _ _⟩
theorem thalve_none (w : World) : Calls Try.prog 11 #[.pointer none] w fun e w' => e = .returned (.int .i64 0) ∧ Below w.heap.size w w' := by
  go_enter Try.func11, Try.ntmps11
  go_wp2
  go_ret
  exact ⟨rfl, Below.refl _ _⟩
theorem ttop_none (n : Int) (w : World) : Calls Try.prog 14 #[.pointer none, .int .i64 n] w fun e w' => e = .returned (.slice none 0 0) ∧ Below w.heap.size w w' := by
  go_enter Try.func14, Try.ntmps14
  go_wp2
  go_ret
  exact ⟨rfl, Below.refl _ _⟩

end Go.Proofs.Ytfijbhacobjjgah
