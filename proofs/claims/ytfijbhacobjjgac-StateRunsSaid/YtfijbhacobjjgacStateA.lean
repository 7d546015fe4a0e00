/- A state: its blocks; the contracts that only read. -/
import Derived.Test.YtfijbhacobjjgacProg
import Derived.Test.YtfijbhacobjjgacVals
import Derived.Test.YtfijbhacobjjgacWLast
import Derived.Test.YtfijbhacobjjgacWMore
import Derived.RegionTactic
import Derived.ChangeAlike
import Derived.BigRegion
import Derived.WalkLawsBesides
import Derived.WalkSpells
import Derived.Deep.LoopGhost
import Derived.Deep.QuietTactic
import Derived.BigQuiet
import Derived.OwnWalk
import Derived.Test.YtfijbhacobjjgacStrs
import Derived.Test.YtfijbhacobjjgacNums
import Derived.Test.YtfijbhacobjjgacSteadyT
import Derived.Maps.OwnOps
namespace Go.Proofs.Ytfijbhacobjjgac
open Go.RowKit Go.Proofs.YtfijbhacobjjgacW.PrintWords Go.Proofs.YtfijbhacobjjgacW.PrintLast Go.Proofs.YtfijbhacobjjgacW.PrintMore Go.Proofs.Ytfijbhacobjjgac.Fr
set_option linter.unusedVariables false
set_option linter.unusedSimpArgs false
attribute [local go_sem] max2_int min2_int max_two min_two

theorem info9 : (Try.prog.info? 9).map (fun i => (i.zero, i.size, i.bytes)) = some (some (.string ByteArray.empty), 1, 16) := by kernel_rfl
def ClonePost (l : List ByteArray) (w : World) (e : Ending) (w' : World) : Prop := ∃ v, e = .returned v ∧ w'.ownsRow w.heap.size 9 1 v (svals l).length (svals l) ∧ Below w.heap.size w w'
theorem clone_news {w : World} {ad : Addr} {l : List ByteArray} (h : RdS w (some ad) l) (o : Obj) : ∀ j u, (svals l)[j]? = some u → (w.alloc o).cell? (ad.add j) = some u := by
  intro j u hu
  by_cases hj : j < l.length
  · obtain ⟨ad', e, hc⟩ := h j hj
    cases e
    have e2 : u = .string (l.getD j ByteArray.empty) := by
      simp [svals, hj] at hu
      rw [← hu]
      simp [List.getD_eq_getElem?_getD, hj]
    rw [e2]
    exact pw_cell_below (below_alloc (Below.refl _ _) o) hc
  · simp [svals, hj] at hu
set_option maxHeartbeats 1000000 in
/-- slices.Clone at []string. -/
theorem clone_any (A : Option Addr) (l : List ByteArray) (c : Nat) (w : World) (h : RdS w A l) (hl : l.length ≤ 100000) : Calls Try.prog 26 #[.slice A l.length c] w (ClonePost l w) := by
  cases A with
  | none =>
    have h0 : l = [] := by
      cases l with
      | nil => rfl
      | cons x l => obtain ⟨ad, e, _⟩ := h 0 (by simp); cases e
    subst h0
    have hnil := fun W => Lib.run_eql_slice_nil (P := Try.prog) W 26 9 none 0 c 0 0 Try.underlying26
    clear h
    go_enter Try.func26, Try.ntmps26
    go_wp2
    go_ret
    exact ⟨_, rfl, own_nil _ _ _ _, Below.refl _ _⟩
  | some ad =>
    have hnil := fun W => Lib.run_eql_slice_nil (P := Try.prog) W 26 9 (some ad) l.length c 0 0 Try.underlying26
    obtain ⟨i0, hi, hz0, hz1, hz2⟩ := info_parts info9
    have H := Aside0.mk h
    clear h
    go_enter Try.func26, Try.ntmps26
    go_wp2_with ((with_reducible refine gate_dst (N := 7) rfl ?_); refine wpList_append_own_at (w.alloc (.cells #[] 9)) rfl (.tmp 5) (.tmp 6) 26 rfl w.heap.size 9 i0 (.string ByteArray.empty) 1 16 Try.underlying26 hi hz0 hz1 hz2 (by rfl) (by decide) (.slice (some ⟨w.heap.size, 0, none⟩) 0 0) 0 [] rfl ⟨rfl, .inr ⟨w.heap.size, 0, #[], rfl, Nat.le_refl _, blk_new w _, Nat.le_refl _, Nat.zero_le _, rfl, rfl⟩⟩ ad l.length c (svals l) rfl (by rw [svals_length, Nat.mul_one]) (clone_news H.out _) (by intro u hu; obtain ⟨x, _, rfl⟩ := List.mem_map.1 hu; rfl) (by simp only [maxLen]; omega) (by omega) (by simp) ?_; intro v1 w1 hown hg _ _; have HW := Aside0.mk (And.intro hown hg); clear hown hg)
    go_ret
    refine ⟨v1, rfl, ?_, (below_alloc (Below.refl _ _) _).grown HW.out.2 (by simp) (fun k e => by cases e; exact Nat.le_refl _)⟩
    have := HW.out.1
    rw [List.nil_append, Nat.zero_add] at this
    rw [svals_length]
    exact this

abbrev DW := DataW Unit
noncomputable abbrev EL : Value → Option (DW × List MemPlace) := plainElem Try.prog 9
/-- A state: what it has, in blocks of its own. -/
structure ST (B : Nat) (w : World) (g : Nat) (rv dv : Value) (md n : Nat) (rs ds : List ByteArray) (D : DW) : Prop where
  box : w.heap[g]? = some (.cells #[rv, dv, .map (some md)] 47 (0, 0))
  rcs : w.ownsRow B 9 1 rv (svals rs).length (svals rs)
  dsk : w.ownsRow B 9 1 dv (svals ds).length (svals ds)
  map : w.ownsMap Try.prog 3 EL md n D
  ne1 : some g ≠ rv.ownBlock
  ne2 : some g ≠ dv.ownBlock
  ne3 : ∀ k, rv.ownBlock = some k → dv.ownBlock ≠ some k
  lo : B ≤ g
  lom : B ≤ md
  nm1 : md ≠ g
  nm2 : rv.ownBlock ≠ some md
  nm3 : dv.ownBlock ≠ some md
section
variable {B : Nat} {w w1 : World} {g : Nat} {rv dv : Value} {md n : Nat} {rs ds : List ByteArray} {D : DW}
theorem map_ch {S : Nat → Prop} (h : w.ownsMap Try.prog 3 EL md n D) (hc : Ch S w w1) (hs : ¬ S md) : w1.ownsMap Try.prog 3 EL md n D := by
  have hl := h.lt
  obtain ⟨es, clock, hb, Ft, hsz, hD⟩ := h
  exact ⟨es, clock, (hc.block md hl hs).trans hb, Ft, hsz, hD⟩
theorem ST.ch {S : Nat → Prop} (h : ST B w g rv dv md n rs ds D) (hc : Ch S w w1) (h1 : ¬ S g) (h2 : ∀ k, rv.ownBlock = some k → ¬ S k) (h3 : ∀ k, dv.ownBlock = some k → ¬ S k) (h4 : ¬ S md) : ST B w1 g rv dv md n rs ds D :=
  ⟨hc.blk h.box h1, hc.own h.rcs h2, hc.own h.dsk h3, map_ch h.map hc h4, h.ne1, h.ne2, h.ne3, h.lo, h.lom, h.nm1, h.nm2, h.nm3⟩
theorem ST.below (h : ST B w g rv dv md n rs ds D) (hb : Below w.heap.size w w1) : ST B w1 g rv dv md n rs ds D := h.ch (S := fun _ => False) (Ch.of_below hb) (fun h => h) (fun _ _ h => h) (fun _ _ h => h) (fun h => h)
theorem ST.rows (h : ST B w g rv dv md n rs ds D) : (∃ A c, rv = .slice A rs.length c ∧ rs.length ≤ c ∧ RdS w A rs) ∧ ∃ A c, dv = .slice A ds.length c ∧ ds.length ≤ c ∧ RdS w A ds := ⟨own_rds h.rcs, own_rds h.dsk⟩
end
theorem len_none (w : World) : Calls Try.prog 16 #[.pointer none] w fun e w' => e = .returned (.int .i64 0) ∧ w = w' := by
  go_enter Try.func16, Try.ntmps16
  go_wp2
  go_ret
  exact ⟨rfl, rfl⟩
theorem dur_none (w : World) : Calls Try.prog 25 #[.pointer none] w fun e w' => e = .returned (.int .i64 0) ∧ w = w' := by
  go_enter Try.func25, Try.ntmps25
  go_wp2
  go_ret
  exact ⟨rfl, rfl⟩
theorem all_none (w : World) : Calls Try.prog 8 #[.pointer none] w fun e w' => e = .returned (.slice none 0 0) ∧ w = w' := by
  go_enter Try.func8, Try.ntmps8
  go_wp2
  go_ret
  exact ⟨rfl, rfl⟩
theorem apply_none (n : Int) (s : ByteArray) (w : World) : Calls Try.prog 9 #[.pointer none, .int .i64 n, .string s] w fun e w' => e = .returned (.int .i64 1) ∧ w = w' := by
  go_enter Try.func9, Try.ntmps9
  go_wp2
  go_ret
  exact ⟨rfl, rfl⟩
theorem load_none (v : Value) (w : World) : Calls Try.prog 10 #[.pointer none, v] w fun e w' => e = .returned (.int .i64 1) ∧ w = w' := by
  go_enter Try.func10, Try.ntmps10
  go_wp2
  go_ret
  exact ⟨rfl, rfl⟩
theorem sync_none (w : World) : Calls Try.prog 11 #[.pointer none] w fun e w' => e = .returned (.int .i64 0) ∧ w = w' := by
  go_enter Try.func11, Try.ntmps11
  go_wp2
  go_ret
  exact ⟨rfl, rfl⟩
theorem crash_none (w : World) : Calls Try.prog 12 #[.pointer none] w fun e w' => e = .returned (.tuple #[]) ∧ w = w' := by
  go_enter Try.func12, Try.ntmps12
  go_wp2
  go_end0
  exact ⟨rfl, rfl⟩
theorem keep_none (n : Int) (s : ByteArray) (w : World) : Calls Try.prog 15 #[.pointer none, .int .i64 n, .string s] w fun e w' => e = .returned (.int .i64 1) ∧ w = w' := by
  go_enter Try.func15, Try.ntmps15
  go_wp2
  go_ret
  exact ⟨rfl, rfl⟩
theorem dict_none (n : Int) (w : World) : Calls Try.prog 22 #[.pointer none, .int .i64 n] w fun e w' => e = .returned (.tuple #[.string ⟨#[]⟩, .bool false]) ∧ w = w' := by
  go_enter Try.func22, Try.ntmps22
  go_wp2
  go_ret2
  exact ⟨rfl, rfl⟩
theorem last_none (w : World) : Calls Try.prog 14 #[.pointer none] w fun e w' => e = .returned (.int .i64 0) ∧ w = w' := by
  go_enter Try.func14, Try.ntmps14
  go_wp2
  go_ret
  exact ⟨rfl, rfl⟩
section
variable {B : Nat} {g : Nat} {rv dv : Value} {md n : Nat} {rs ds : List ByteArray} {D : DW}
theorem len_any (w : World) (h : ST B w g rv dv md n rs ds D) : Calls Try.prog 16 #[.pointer (some ⟨g, 0, none⟩)] w fun e w' => e = .returned (.int .i64 rs.length) ∧ w = w' := by
  obtain ⟨⟨A, c, rfl, _, _⟩, _⟩ := h.rows
  have c0 : w.cell? ⟨g, 0, none⟩ = some (.slice A rs.length c) := (blk_cell h.box 0).trans rfl
  clear h
  go_enter Try.func16, Try.ntmps16
  go_wp2
  go_ret
  exact ⟨rfl, rfl⟩
theorem dur_any (w : World) (h : ST B w g rv dv md n rs ds D) : Calls Try.prog 25 #[.pointer (some ⟨g, 0, none⟩)] w fun e w' => e = .returned (.int .i64 ds.length) ∧ w = w' := by
  obtain ⟨_, A, c, rfl, _, _⟩ := h.rows
  have c1 : w.cell? ⟨g, 1, none⟩ = some (.slice A ds.length c) := (blk_cell h.box 1).trans rfl
  clear h
  go_enter Try.func25, Try.ntmps25
  go_wp2
  go_ret
  exact ⟨rfl, rfl⟩
theorem all_any (w : World) (h : ST B w g rv dv md n rs ds D) (hl : rs.length ≤ 100000) : Calls Try.prog 8 #[.pointer (some ⟨g, 0, none⟩)] w (ClonePost rs w) := by
  obtain ⟨⟨A, c, rfl, hc, hrd⟩, _⟩ := h.rows
  have c0 : w.cell? ⟨g, 0, none⟩ = some (.slice A rs.length c) := (blk_cell h.box 0).trans rfl
  have H := Aside0.mk hrd
  clear h hrd
  go_enter Try.func8, Try.ntmps8
  go_wp2_with fail
  refine (clone_any A rs c _ H.out hl).mono ?_
  rintro e w1 ⟨v, rfl, ho, hb⟩
  have HP := Aside0.mk (And.intro ho hb)
  clear ho hb
  go_wp2
  go_ret
  exact ⟨v, rfl, HP.out.1, HP.out.2⟩
end
def NewPost (w : World) (e : Ending) (w' : World) : Prop := ∃ g md, e = .returned (.pointer (some ⟨g, 0, none⟩)) ∧ ST w.heap.size w' g (.slice none 0 0) (.slice none 0 0) md 0 [] [] (.map []) ∧ Below w.heap.size w w'
theorem new_any (w : World) : Calls Try.prog 7 #[] w (NewPost w) := by
  have hmm := @run_makeMap Try.prog
  go_enter Try.func7, Try.ntmps7
  go_wp2
  go_ret
  have hlt : w.heap.size < (w.alloc (.map #[] 0)).heap.size := by simp
  have hsz : (w.alloc (.map #[] 0)).heap.size = w.heap.size + 1 := by simp
  refine ⟨w.heap.size + 1, w.heap.size, rfl, ⟨?_, own_nil _ _ _ _, own_nil _ _ _ _, (World.ownsMap_made w Try.prog 3 EL).alloc _, by simp [Value.ownBlock], by simp [Value.ownBlock], by simp [Value.ownBlock], by omega, Nat.le_refl _, by omega, by simp [Value.ownBlock], by simp [Value.ownBlock]⟩, below_alloc (below_alloc (Below.refl _ _) _) _⟩
  have := blk_new (w.alloc (.map #[] 0)) (.cells #[.slice none 0 0, .slice none 0 0, .map (some w.heap.size)] 47 (0, 0))
  rwa [hsz] at this
end Go.Proofs.Ytfijbhacobjjgac
