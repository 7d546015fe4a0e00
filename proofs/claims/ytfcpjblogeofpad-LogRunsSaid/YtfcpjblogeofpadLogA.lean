/- The contracts of log's functions: New, Append, Len, Bytes, Base, Truncate, At. -/
import Derived.Test.YtfcpjblogeofpadProg
import Derived.Test.YtfcpjblogeofpadStrs
import Derived.Test.YtfcpjblogeofpadWLast
import Derived.Test.YtfcpjblogeofpadWMore
import Derived.RegionTactic
import Derived.ChangeAlike
import Derived.BigRegion
import Derived.WalkLawsBesides
import Derived.WalkSpells
import Derived.Deep.LoopGhost
import Derived.OwnWalk
namespace Go.Proofs.Ytfcpjblogeofpad
open Go.RowKit Go.Proofs.YtfcpjblogeofpadW.PrintWords Go.Proofs.YtfcpjblogeofpadW.PrintLast Go.Proofs.YtfcpjblogeofpadW.PrintMore Go.Proofs.Ytfcpjblogeofpad.Fr
set_option linter.unusedVariables false
set_option linter.unusedSimpArgs false

attribute [local go_sem] max2_int min2_int max_two min_two
theorem info9 : (Try.prog.info? 9).map (fun i => (i.zero, i.size, i.bytes)) = some (some (.string ByteArray.empty), 1, 16) := by kernel_rfl

/-- A log in memory: its box, its row. -/
structure LogAt (B : Nat) (w : World) (g : Nat) (v : Value) (l : List ByteArray) (base : Nat) (bytes : Int) : Prop where
  box : w.heap[g]? = some (.cells #[v, .int .i64 base, .int .i64 bytes] 50 (0, 0))
  row : w.ownsRow B 9 1 v (svals l).length (svals l)
  ne : some g ≠ v.ownBlock
theorem LogAt.ch {B g : Nat} {w w1 : World} {v : Value} {l : List ByteArray} {base : Nat} {bytes : Int} {S : Nat → Prop} (h : LogAt B w g v l base bytes) (hc : Ch S w w1) (h1 : ¬ S g) (h2 : ∀ k, v.ownBlock = some k → ¬ S k) : LogAt B w1 g v l base bytes :=
  ⟨hc.blk h.box h1, hc.own h.row h2, h.ne⟩
theorem LogAt.below {B g : Nat} {w w1 : World} {v : Value} {l : List ByteArray} {base : Nat} {bytes : Int} (h : LogAt B w g v l base bytes) (hb : Below w.heap.size w w1) : LogAt B w1 g v l base bytes :=
  ⟨blk_below h.box hb, pw_own_below h.row hb, h.ne⟩
theorem LogAt.slice {B g : Nat} {w : World} {v : Value} {l : List ByteArray} {base : Nat} {bytes : Int} (h : LogAt B w g v l base bytes) : ∃ A c, v = .slice A l.length c ∧ l.length ≤ c ∧ RdS w A l := own_rds h.row

theorem new_any (w : World) : Calls Try.prog 7 #[] w fun e w' => e = .returned (.pointer (some ⟨w.heap.size, 0, none⟩)) ∧ LogAt w.heap.size w' w.heap.size (.slice none 0 0) [] 0 0 ∧ Below w.heap.size w w' := by
  go_enter Try.func7, Try.ntmps7
  go_wp2
  go_ret
  exact ⟨rfl, ⟨blk_new w _, own_nil _ _ _ _, by simp [Value.ownBlock]⟩, below_alloc (Below.refl _ _) _⟩
theorem len_any (B g : Nat) (v : Value) (l : List ByteArray) (base : Nat) (bytes : Int) (w : World) (h : LogAt B w g v l base bytes) : Calls Try.prog 9 #[.pointer (some ⟨g, 0, none⟩)] w fun e w' => e = .returned (.int .i64 l.length) ∧ w = w' := by
  obtain ⟨A, c, rfl, _, _⟩ := h.slice
  have c0 : w.cell? ⟨g, 0, none⟩ = some (.slice A l.length c) := (blk_cell h.box 0).trans rfl
  clear h
  go_enter Try.func9, Try.ntmps9
  go_wp2
  go_ret
  exact ⟨rfl, rfl⟩
theorem len_none (w : World) : Calls Try.prog 9 #[.pointer none] w fun e w' => e = .returned (.int .i64 0) ∧ w = w' := by
  go_enter Try.func9, Try.ntmps9
  go_wp2
  go_ret
  exact ⟨rfl, rfl⟩
theorem bytes_any (B g : Nat) (v : Value) (l : List ByteArray) (base : Nat) (bytes : Int) (w : World) (h : LogAt B w g v l base bytes) : Calls Try.prog 10 #[.pointer (some ⟨g, 0, none⟩)] w fun e w' => e = .returned (.int .i64 bytes) ∧ w = w' := by
  have c0 : w.cell? ⟨g, 2, none⟩ = some (.int .i64 bytes) := (blk_cell h.box 2).trans rfl
  clear h
  go_enter Try.func10, Try.ntmps10
  go_wp2
  go_ret
  exact ⟨rfl, rfl⟩
theorem bytes_none (w : World) : Calls Try.prog 10 #[.pointer none] w fun e w' => e = .returned (.int .i64 0) ∧ w = w' := by
  go_enter Try.func10, Try.ntmps10
  go_wp2
  go_ret
  exact ⟨rfl, rfl⟩
theorem base_any (B g : Nat) (v : Value) (l : List ByteArray) (base : Nat) (bytes : Int) (w : World) (h : LogAt B w g v l base bytes) : Calls Try.prog 17 #[.pointer (some ⟨g, 0, none⟩)] w fun e w' => e = .returned (.int .i64 base) ∧ w = w' := by
  have c0 : w.cell? ⟨g, 1, none⟩ = some (.int .i64 base) := (blk_cell h.box 1).trans rfl
  clear h
  go_enter Try.func17, Try.ntmps17
  go_wp2
  go_ret
  exact ⟨rfl, rfl⟩
theorem base_none (w : World) : Calls Try.prog 17 #[.pointer none] w fun e w' => e = .returned (.int .i64 0) ∧ w = w' := by
  go_enter Try.func17, Try.ntmps17
  go_wp2
  go_ret
  exact ⟨rfl, rfl⟩
theorem append_none (s : ByteArray) (w : World) : Calls Try.prog 8 #[.pointer none, .string s] w fun e w' => e = .returned (.tuple #[.int .i64 0, .int .i64 1]) ∧ w = w' := by
  go_enter Try.func8, Try.ntmps8
  go_wp2
  go_ret2
  exact ⟨rfl, rfl⟩
set_option maxRecDepth 100000 in
theorem append_long (B g : Nat) (v : Value) (l : List ByteArray) (base : Nat) (bytes : Int) (s : ByteArray) (w : World) (hs : 512 < s.size) : Calls Try.prog 8 #[.pointer (some ⟨g, 0, none⟩), .string s] w fun e w' => e = .returned (.tuple #[.int .i64 0, .int .i64 5]) ∧ w = w' := by
  have hb : (512 : Int) < (s.size : Int) := by omega
  go_enter Try.func8, Try.ntmps8
  go_wp2
  go_ret2
  exact ⟨rfl, rfl⟩
set_option maxRecDepth 100000 in
theorem append_full (B g : Nat) (v : Value) (l : List ByteArray) (base : Nat) (bytes : Int) (s : ByteArray) (w : World) (h : LogAt B w g v l base bytes) (hs : s.size ≤ 512) (hl : 400 ≤ l.length) : Calls Try.prog 8 #[.pointer (some ⟨g, 0, none⟩), .string s] w fun e w' => e = .returned (.tuple #[.int .i64 0, .int .i64 2]) ∧ w = w' := by
  obtain ⟨A, c, rfl, _, _⟩ := h.slice
  have c0 : w.cell? ⟨g, 0, none⟩ = some (.slice A l.length c) := (blk_cell h.box 0).trans rfl
  clear h
  go_enter Try.func8, Try.ntmps8
  go_wp2
  go_ret2
  exact ⟨rfl, rfl⟩
abbrev two (g : Nat) (v : Value) : Nat → Prop := fun i => i = g ∨ some i = v.ownBlock
def AppPost (B g : Nat) (v : Value) (l : List ByteArray) (base : Nat) (bytes : Int) (s : ByteArray) (w : World) (e : Ending) (w' : World) : Prop :=
  ∃ v1, e = .returned (.tuple #[.int .i64 l.length, .int .i64 0]) ∧ LogAt B w' g v1 (l ++ [s]) base (bytes + s.size) ∧ Ch (two g v) w w' ∧ (v1.ownBlock = v.ownBlock ∨ ∃ b, v1.ownBlock = some b ∧ w.heap.size ≤ b)
set_option maxRecDepth 100000 in
set_option maxHeartbeats 1000000 in
theorem append_any (B g : Nat) (v : Value) (l : List ByteArray) (base : Nat) (bytes : Int) (s : ByteArray) (w : World) (h : LogAt B w g v l base bytes) (hB : B ≤ w.heap.size) (hs : s.size ≤ 512) (hl : l.length < 400) (hb0 : 0 ≤ bytes) (hb1 : bytes ≤ 1000000000) :
    Calls Try.prog 8 #[.pointer (some ⟨g, 0, none⟩), .string s] w (AppPost B g v l base bytes s w) := by
  obtain ⟨A, c, hv, _, _⟩ := h.slice
  have c0 : w.cell? ⟨g, 0, none⟩ = some (.slice A l.length c) := hv ▸ (blk_cell h.box 0).trans rfl
  have H := Aside0.mk h
  have HV := Aside0.mk hv
  clear h hv
  go_enter Try.func8, Try.ntmps8
  go_wp2_with ((with_reducible refine gate_dst (N := 27) rfl ?_); refine print_append (w0 := w) B rfl (.tmp 24) (.tmp 26) 30 9 (.string ByteArray.empty) 16 rfl Try.underlying30 info9 (by rfl) (by decide) v (svals l) (.string s) HV.out.symm rfl (by rfl) H.out.row (Below.refl _ _) hB (by rw [svals_length]; omega) ?_; intro v1 w1 hown hbel hgrow hat; (rw [svals_snoc] at hown); obtain ⟨A1, c1, rfl, hc1, hr1⟩ := own_rds hown; have HW := Aside0.mk (And.intro hown (And.intro hgrow hat)); have HK := Aside0.mk (blk_grown H.out.box hgrow H.out.ne); have k0 : w1.cell? ⟨g, 0, none⟩ = some v := (blk_cell HK.out 0).trans rfl; have k2 : w1.cell? ⟨g, 2, none⟩ = some (.int .i64 bytes) := (blk_cell HK.out 2).trans rfl; have f0 := blk_frozen HK.out 0; have f2 := blk_frozen HK.out 2; have hl1 : (l ++ [s]).length = l.length + 1 := (by simp); clear hown hbel hgrow hat hc1 hr1)
  go_ret2
  rw [hl1] at HW
  have hgl := blk_lt H.out.box
  have hne : some g ≠ (Value.slice A1 (l.length + 1) c1).ownBlock := by
    rcases HW.out.2.2 with e | ⟨b, e, hb⟩
    · rw [e]; exact H.out.ne
    · rw [e]; intro e2; cases e2; omega
  refine ⟨.slice A1 (l.length + 1) c1, rfl, ⟨?_, own_setCell (own_setCell HW.out.1 hne _) hne _, hne⟩, ?_, HW.out.2.2⟩
  · refine blk_put (cs := #[.slice A1 (l.length + 1) c1, .int .i64 base, .int .i64 bytes]) ?_ 2 _ rfl
    exact blk_put HK.out 0 _ rfl
  · exact ((Ch.grown HW.out.2.1 (fun k e => .inr e.symm)).set (.inl rfl)).set (.inl rfl)

/-- Truncate. -/
theorem trunc_none (n : Int) (w : World) : Calls Try.prog 11 #[.pointer none, .int .i64 n] w fun e w' => e = .returned (.bool false) ∧ w = w' := by
  go_enter Try.func11, Try.ntmps11
  go_wp2
  go_ret
  exact ⟨rfl, rfl⟩
theorem trunc_no (B g : Nat) (v : Value) (l : List ByteArray) (base : Nat) (bytes : Int) (n : Int) (w : World) (h : LogAt B w g v l base bytes) (hn : n ≤ base ∨ (l.length : Int) < n) : Calls Try.prog 11 #[.pointer (some ⟨g, 0, none⟩), .int .i64 n] w fun e w' => e = .returned (.bool false) ∧ w = w' := by
  obtain ⟨A, c, rfl, _, _⟩ := h.slice
  have c0 : w.cell? ⟨g, 0, none⟩ = some (.slice A l.length c) := (blk_cell h.box 0).trans rfl
  have c1 : w.cell? ⟨g, 1, none⟩ = some (.int .i64 base) := (blk_cell h.box 1).trans rfl
  clear h
  by_cases h1 : n ≤ base
  · clear hn
    have hd : decide (n ≤ (base : Int)) = true := decide_eq_true h1
    go_enter Try.func11, Try.ntmps11
    go_wp2
    go_ret
    exact ⟨rfl, rfl⟩
  · have h2 : (l.length : Int) < n := hn.resolve_left h1
    have hd : decide (n ≤ (base : Int)) = false := decide_eq_false h1
    have hd2 : decide ((l.length : Int) < n) = true := decide_eq_true h2
    clear hn
    go_enter Try.func11, Try.ntmps11
    go_wp2
    go_ret
    exact ⟨rfl, rfl⟩
theorem trunc_yes (B g : Nat) (v : Value) (l : List ByteArray) (base : Nat) (bytes : Int) (n : Nat) (w : World) (h : LogAt B w g v l base bytes) (h1 : base < n) (h2 : n ≤ l.length) : Calls Try.prog 11 #[.pointer (some ⟨g, 0, none⟩), .int .i64 n] w fun e w' => e = .returned (.bool true) ∧ LogAt B w' g v l n bytes ∧ Ch (fun i => i = g) w w' := by
  obtain ⟨A, c, hv, _, _⟩ := h.slice
  have c0 : w.cell? ⟨g, 0, none⟩ = some (.slice A l.length c) := hv ▸ (blk_cell h.box 0).trans rfl
  have c1 : w.cell? ⟨g, 1, none⟩ = some (.int .i64 base) := (blk_cell h.box 1).trans rfl
  have f1 := blk_frozen h.box 1
  have H := Aside0.mk h
  clear h hv
  have hd : decide ((n : Int) ≤ (base : Int)) = false := decide_eq_false (by omega)
  have hd2 : decide ((l.length : Int) < (n : Int)) = false := decide_eq_false (by omega)
  go_enter Try.func11, Try.ntmps11
  go_wp2
  go_ret
  exact ⟨rfl, ⟨blk_put H.out.box 1 _ rfl, own_setCell H.out.row H.out.ne _, H.out.ne⟩, (Ch.refl _ _).set rfl⟩
/-- At. -/
theorem at_none (n : Int) (w : World) : Calls Try.prog 15 #[.pointer none, .int .i64 n] w fun e w' => e = .returned (.tuple #[.string { data := #[] }, .int .i64 10]) ∧ w = w' := by
  by_cases h : n < 0
  · have hd : decide (n < 0) = true := decide_eq_true h
    go_enter Try.func15, Try.ntmps15
    go_wp2_with ((go_at_call 9; refine (len_none _).mono ?_; rintro e w1 ⟨rfl, rfl⟩; skip))
    go_ret2
    exact ⟨rfl, rfl⟩
  · have hd : decide (n < 0) = false := decide_eq_false h
    have hd2 : decide ((0 : Int) ≤ n) = true := decide_eq_true (by omega)
    go_enter Try.func15, Try.ntmps15
    go_wp2_with ((go_at_call 9; refine (len_none _).mono ?_; rintro e w1 ⟨rfl, rfl⟩; skip))
    go_ret2
    exact ⟨rfl, rfl⟩
end Go.Proofs.Ytfcpjblogeofpad
