/- A state: its dictionaries. -/
import Derived.Test.YtfijbhacobjjgacStateC
import Derived.Test.YtfijbhacobjjgacShelf
import Derived.Maps.RangeWalk
import Derived.Maps.StringElems
import Derived.Maps.Views
namespace Go.Proofs.Ytfijbhacobjjgac
open Go.RowKit Go.Proofs.YtfijbhacobjjgacW.PrintWords Go.Proofs.YtfijbhacobjjgacW.PrintLast Go.Proofs.YtfijbhacobjjgacW.PrintMore Go.Proofs.Ytfijbhacobjjgac.Fr
set_option linter.unusedVariables false
set_option linter.unusedSimpArgs false
attribute [local go_sem] max2_int min2_int max_two min_two

open Go.Maps
theorem law3 : Keyed Try.prog 3 := int_keyed Try.underlying3
theorem zero9 (w : World) : (zeroValue 9).run Try.prog w = .ok (.string ByteArray.empty) w := by kernel_rfl
theorem keys_any (mb : Option Nat) (w : World) : Calls Try.prog 29 #[.map mb] w fun e w' => e = .returned (.func (.func 33) #[] #[.pointer (some ⟨w.heap.size, 0, none⟩)]) ∧ w' = w.alloc (.cells #[.map mb] 45 (0, 0)) :=
  (callsIn_wide (n := 5)).1 (AnyZI.keys_in Try.keysA Fence.wide 5 trivial rfl mb w)
theorem collect_any {md n : Nat} {D : DW} (k : Nat) (w : World) (hk : k < w.heap.size) (hm : w.cell? ⟨k, 0, none⟩ = some (.map (some md))) (hown : w.ownsMap Try.prog 3 EL md n D) (hn : n ≤ 1000) :
    Calls Try.prog 28 #[.func (.func 33) #[] #[.pointer (some ⟨k, 0, none⟩)]] w fun e w' => ∃ (v : Value) (ss : List Int), e = .returned v ∧ ss.Perm (intKeys D) ∧ w'.ownsRow w.heap.size 3 1 v ss.length (ss.map encZ) ∧ (v = .slice none 0 0 ↔ ss = []) ∧ Below w.heap.size w w' := by
  have hz := hown.size_le
  have hseq : SeqGives Fence.wide 3 Try.prog 33 #[.pointer (some ⟨k, 0, none⟩)] encZ (fun ss => ss.Perm (intKeys D)) (Maps.size D) w :=
    AnyZI.keys_gives (ρ := Try.keysA_ren) { Try.keysA with } Fence.wide _ trivial rfl (by omega) k md n D w hk hm hown
  have cC := AnyZI.collect_in Try.collectA Fence.wide 5 trivial trivial rfl (by omega) 33 #[.pointer (some ⟨k, 0, none⟩)] trivial (enters_of Try.func33 (by kernel_rfl) rfl) _ _ (by unfold maxLen; omega) (by omega) w hseq
  exact (callsIn_wide (n := 5)).1 cC
section
variable {B : Nat} {g : Nat} {rv dv : Value} {md n : Nat} {rs ds : List ByteArray} {D : DW}
theorem ch_turned {w w' : World} {b : Nat} (h : w.mapTurned w' b) : Ch (fun i => i = b) w w' := by
  obtain ⟨es, clock, es', clock', hb, rfl⟩ := h
  exact ⟨rfl, rfl, rfl, by simp [Go.ChangeMaps.setBlock], fun i hi hs => (MapKept.heap_set hb).2 i hs⟩
theorem ST.turn {w w1 : World} {n1 : Nat} {D1 : DW} (h : ST B w g rv dv md n rs ds D) (hc : Ch (fun i => i = md) w w1) (hm : w1.ownsMap Try.prog 3 EL md n1 D1) : ST B w1 g rv dv md n1 rs ds D1 :=
  ⟨hc.blk h.box (fun e => h.nm1 e.symm), hc.own h.rcs (fun k e e2 => h.nm2 (e2 ▸ e)), hc.own h.dsk (fun k e e2 => h.nm3 (e2 ▸ e)), hm, h.ne1, h.ne2, h.ne3, h.lo, h.lom, h.nm1, h.nm2, h.nm3⟩
theorem dict_zero (a : Nat) (w : World) : Calls Try.prog 22 #[.pointer (some ⟨a, 0, none⟩), .int .i64 0] w fun e w' => e = .returned (.tuple #[.string ⟨#[]⟩, .bool true]) ∧ w = w' := by
  go_enter Try.func22, Try.ntmps22
  go_wp2
  go_ret2
  exact ⟨rfl, rfl⟩
theorem dict_any (k : Int) (w : World) (h : ST B w g rv dv md n rs ds D) (h0 : k ≠ 0) (hwk : (Lit.int .i64 k).wf = true) :
    Calls Try.prog 22 #[.pointer (some ⟨g, 0, none⟩), .int .i64 k] w fun e w' => (∃ t : ByteArray, e = .returned (.tuple #[.string t, .bool (Maps.has D (.int .i64 k))]) ∧ D.atKey (.int .i64 k) (.lit (.string [])) = .lit (.string t.data.toList)) ∧ w = w' := by
  have hkey := keyOf_int_mk Try.underlying3 hwk
  have c2 : w.cell? ⟨g, 2, none⟩ = some (.map (some md)) := (blk_cell h.box 2).trans rfl
  have hq : (k == 0) = false := by simpa using h0
  have hown := Aside0.mk h.map
  clear h
  go_enter Try.func22, Try.ntmps22
  go_wp2_with (at_lookup; refine wpList_lookup_own_ok _ rfl _ _ 45 rfl 3 9 law3 Try.underlying45 _ (zero9 _) (.lit (.string [])) [] (plainElem_string Try.underlying9 (by decide)) md n D rfl hown.out _ _ rfl hkey ?_; intro v ps hv; obtain ⟨t, rfl, hz, _⟩ := plainElem_string_inv Try.underlying9 hv; have HZ := Aside0.mk (congrArg Prod.fst hz); clear hv hz)
  go_ret2
  exact ⟨⟨t, rfl, HZ.out⟩, rfl⟩
theorem keep_bad (k : Int) (s : ByteArray) (a : Nat) (w : World) (hk : k < 1) : Calls Try.prog 15 #[.pointer (some ⟨a, 0, none⟩), .int .i64 k, .string s] w fun e w' => e = .returned (.int .i64 1) ∧ w = w' := by
  go_enter Try.func15, Try.ntmps15
  go_wp2
  go_ret
  exact ⟨rfl, rfl⟩
theorem keep_long (k : Int) (s : ByteArray) (a : Nat) (w : World) (hk : 1 ≤ k) (hs : 256 < s.size) : Calls Try.prog 15 #[.pointer (some ⟨a, 0, none⟩), .int .i64 k, .string s] w fun e w' => e = .returned (.int .i64 5) ∧ w = w' := by
  have hsi : (256 : Int) < (s.size : Int) := by omega
  have hk0 : ¬ k < 1 := by omega
  go_enter Try.func15, Try.ntmps15
  go_wp2
  go_ret
  exact ⟨rfl, rfl⟩
theorem keep_plain (k : Int) (s : ByteArray) (w : World) (h : ST B w g rv dv md n rs ds D) (hk : 1 ≤ k) (hs : s.size ≤ 256) (hwk : (Lit.int .i64 k).wf = true) (hn : n ≤ 1000) (hh : Maps.has D (.int .i64 k) = true ∨ Maps.size D < 8) :
    Calls Try.prog 15 #[.pointer (some ⟨g, 0, none⟩), .int .i64 k, .string s] w fun e w' => e = .returned (.int .i64 0) ∧ ST B w' g rv dv md (n + 1) rs ds (D.put (.int .i64 k) (.lit (.string s.data.toList))) ∧ Ch (fun i => i = md) w w' := by
  have hkey := keyOf_int_mk Try.underlying3 hwk
  have c2 : w.cell? ⟨g, 2, none⟩ = some (.map (some md)) := (blk_cell h.box 2).trans rfl
  have hlen := h.map.len Try.underlying45 3
  have hk0 : ¬ k < 1 := by omega
  have H := Aside0.mk h
  clear h
  have fin : ∀ w', w'.ownsMap Try.prog 3 EL md (n + 1) (D.put (.int .i64 k) (.lit (.string s.data.toList))) → w.mapTurned w' md → ST B w' g rv dv md (n + 1) rs ds (D.put (.int .i64 k) (.lit (.string s.data.toList))) ∧ Ch (fun i => i = md) w w' := fun w' h1 h2 => ⟨H.out.turn (ch_turned h2) h1, ch_turned h2⟩
  rcases hh with hh | hh
  · go_enter Try.func15, Try.ntmps15
    go_wp2_with (first
      | (at_lookup; refine wpList_lookup_own_ok _ rfl _ _ 45 rfl 3 9 law3 Try.underlying45 _ (zero9 _) (.lit (.string [])) [] (plainElem_string Try.underlying9 (by decide)) md n D rfl H.out.map _ _ rfl hkey ?_; intro v ps hv; obtain ⟨t, rfl, hz, _⟩ := plainElem_string_inv Try.underlying9 hv; clear hv hz)
      | (at_mapUpdate; refine wpList_mapUpdate_in _ rfl _ _ _ 45 rfl 3 9 law3 Try.underlying45 _ md n D rfl H.out.map (by unfold maxLen; omega) _ _ _ rfl rfl hkey _ [] (plainElem_string Try.underlying9 (by unfold maxLen; omega)) ?_; intro w1 hown1 hturn1))
    go_ret
    exact ⟨rfl, fin _ hown1 hturn1⟩
  · have hl8 : ((8 : Int) ≤ (Maps.size D : Int)) = False := by simp; omega
    cases hb : Maps.has D (.int .i64 k) <;>
    · go_enter Try.func15, Try.ntmps15
      go_wp2_with (first
        | (at_lookup; refine wpList_lookup_own_ok _ rfl _ _ 45 rfl 3 9 law3 Try.underlying45 _ (zero9 _) (.lit (.string [])) [] (plainElem_string Try.underlying9 (by decide)) md n D rfl H.out.map _ _ rfl hkey ?_; intro v ps hv; obtain ⟨t, rfl, hz, _⟩ := plainElem_string_inv Try.underlying9 hv; clear hv hz)
        | (at_mapUpdate; refine wpList_mapUpdate_in _ rfl _ _ _ 45 rfl 3 9 law3 Try.underlying45 _ md n D rfl H.out.map (by unfold maxLen; omega) _ _ _ rfl rfl hkey _ [] (plainElem_string Try.underlying9 (by unfold maxLen; omega)) ?_; intro w1 hown1 hturn1))
      go_ret
      exact ⟨rfl, fin _ hown1 hturn1⟩
end
end Go.Proofs.Ytfijbhacobjjgac
