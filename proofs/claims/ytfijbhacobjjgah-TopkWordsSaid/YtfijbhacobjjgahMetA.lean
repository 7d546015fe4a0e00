/- A heap in memory; its methods. -/
import Derived.Test.YtfijbhacobjjgahSwapA
namespace Go.Proofs.Ytfijbhacobjjgah
open Go.RowKit Go.Proofs.YtfijbhacobjjgahW.PrintWords Go.Proofs.YtfijbhacobjjgahW.PrintLast Go.Proofs.YtfijbhacobjjgahW.PrintMore Go.Proofs.Ytfijbhacobjjgah.Fr
set_option linter.unusedVariables false
set_option linter.unusedSimpArgs false
attribute [local go_sem] max2_int min2_int max_two min_two

open Pl Hp
/-- A heap: its slice in cell s, its row in block g. -/
structure HH (B : Nat) (w : World) (s g c : Nat) (l : List E) : Prop where
  cell : w.cell? ⟨s, 0, none⟩ = some (.slice (some ⟨g, 0, none⟩) l.length c)
  row : HR B w g c l
  ne : s ≠ g
  lt : s < w.heap.size
theorem HH.ch {B s g c : Nat} {w w1 : World} {l l1 : List E} (h : HH B w s g c l) (hc : Ch (fun k => k = g) w w1) (hl : l1.length = l.length) (hr : HR B w1 g c l1) : HH B w1 s g c l1 :=
  ⟨by rw [hl]; exact (World.cell?_of_block (w := w) (hc.block s h.lt h.ne)).trans h.cell, hr, h.ne, Nat.lt_of_lt_of_le h.lt hc.size⟩
theorem nilchk {P : Program} (t : TypeId) (a : Addr) (x y : String) (w : World) : (Builtin.ssaWrapNilChk_ #[t] t #[.pointer (some a), strVal x, strVal y]).run P w = .ok (.pointer (some a)) w := by
  rfl
theorem method_val {P : Program} {t e : TypeId} {nm : String} {f : FuncId} {n : Nat} (s : Nat) (v : Value) (w : World) (hm : (P.info? t).bind (fun i => (i.methods.find? (·.name == nm)).map (fun m => (m.path, m.func))) = some (#[], some (f, false)))
    (hu : P.underlying t = some (.pointer e)) (hl : (loadVar e ⟨s, 0, none⟩).run P w = .ok v w) : (method (n + 1) t (.pointer (some ⟨s, 0, none⟩)) nm).run P w = .ok (f, v) w := by
  obtain ⟨i, hi, hx⟩ := Option.bind_eq_some_iff.1 hm
  obtain ⟨m, hf, hp⟩ := Option.map_eq_some_iff.1 hx
  simp only [Prod.mk.injEq] at hp
  obtain ⟨hp1, hp2⟩ := hp
  unfold method
  simp [typeInfo, hi, hf, hp1, hp2, follow, receiverAt, run_underlying hu, Place.get, nilchk, asAddr, hl, Result.andThen]
theorem met_len (s : Nat) (v : Value) (w : World) (h : w.cell? ⟨s, 0, none⟩ = some v) : (method 188 54 (.pointer (some ⟨s, 0, none⟩)) "Len").run Try.prog w = .ok (23, v) w :=
  method_val s v w (by kernel_rfl) Try.underlying54 (by go_simp)
theorem met_less (s : Nat) (v : Value) (w : World) (h : w.cell? ⟨s, 0, none⟩ = some v) : (method 188 54 (.pointer (some ⟨s, 0, none⟩)) "Less").run Try.prog w = .ok (42, v) w :=
  method_val s v w (by kernel_rfl) Try.underlying54 (by go_simp)
theorem met_swap (s : Nat) (v : Value) (w : World) (h : w.cell? ⟨s, 0, none⟩ = some v) : (method 188 54 (.pointer (some ⟨s, 0, none⟩)) "Swap").run Try.prog w = .ok (44, v) w :=
  method_val s v w (by kernel_rfl) Try.underlying54 (by go_simp)
theorem met_pop (s : Nat) (w : World) : (method 188 54 (.pointer (some ⟨s, 0, none⟩)) "Pop").run Try.prog w = .ok (43, .pointer (some ⟨s, 0, none⟩)) w := by kernel_rfl
abbrev PI (s : Nat) : Value := .iface 54 (.pointer (some ⟨s, 0, none⟩))
theorem hlen_any (A : Option Addr) (n c : Nat) (w : World) : Calls Try.prog 23 #[.slice A n c] w fun e w' => e = .returned (.int .i64 n) ∧ w = w' := by
  go_enter Try.func23, Try.ntmps23
  go_wp2
  go_ret
  exact ⟨rfl, rfl⟩
end Go.Proofs.Ytfijbhacobjjgah
