/- The document's state: its contracts. -/
import Derived.Test.YtfijbhacobjjgacRefS
namespace Go.Proofs.Ytfijbhacobjjgac
open Go.RowKit Go.Proofs.YtfijbhacobjjgacW.PrintWords Go.Proofs.YtfijbhacobjjgacW.PrintLast Go.Proofs.YtfijbhacobjjgacW.PrintMore Go.Proofs.Ytfijbhacobjjgac.Fr
set_option linter.unusedVariables false
set_option linter.unusedSimpArgs false
attribute [local go_sem] max2_int min2_int max_two min_two

open Go.Maps
theorem own_zero {W : World} {base b : Nat} (h : W.heap[b]? = some (.cells #[] 9 (0, 0))) (hb : base ≤ b) : W.ownsRow base 9 1 (.slice (some ⟨b, 0, none⟩) 0 0) 0 [] := ⟨by simp, .inr ⟨b, 0, #[], rfl, hb, h, Nat.le_refl _, by decide, by simp, by simp⟩⟩
theorem own_in {W : World} {base : Nat} {v : Value} {l : List ByteArray} (h : W.ownsRow base 9 1 v ([] ++ l).length (encs Value.string ([] ++ l))) : W.ownsRow base 9 1 v (svals l).length (svals l) := by
  simpa [encs, svals] using h
theorem reads_of {W : World} {A : Option Addr} {l : List ByteArray} (h : RdS W A l) (hl : l.length ≤ 100000) : ReadsOf Value.string ByteArray.empty W A l.length l :=
  ⟨rfl, by omega, fun h0 => by
    obtain ⟨ad, rfl, _⟩ := h 0 h0
    refine ⟨ad, rfl, fun j hj => ?_⟩
    obtain ⟨ad2, e, hc⟩ := h j hj
    cases e
    exact hc⟩
theorem copied_any (A : Option Addr) (l : List ByteArray) (c : Nat) (w : World) (hr : RdS w A l) (hl : l.length ≤ 100000) : Calls Try.prog 30 #[.slice A l.length c] w (ClonePost l w) := by
  have HR := Aside0.mk hr
  clear hr
  go_enter Try.func30, Try.ntmps30
  go_wp2_with ((with_reducible refine gate_dst (N := 5) rfl ?_); refine print_append_row_of (w0 := w) (W := w.alloc (.cells #[] 9)) Value.string ByteArray.empty w.heap.size rfl (.tmp 3) (.tmp 4) 26 9 (.string ByteArray.empty) 16 rfl Try.underlying26 info9 (by rfl) (by decide) (fun _ => rfl) (.slice (some ⟨w.heap.size, 0, none⟩) 0 0) [] l A l.length c rfl rfl (own_zero (blk_new _ _) (Nat.le_refl _)) (reads_of (HR.out.below (below_alloc (Below.refl _ _) _)) (by omega)) (below_alloc (Below.refl _ _) _) (by simp) (by simp; omega) ?_; intro v3 w3 hown hbel _ _; have HI := Aside0.mk (And.intro (own_in hown) hbel); clear hown hbel)
  obtain ⟨I, ci, rfl, hci, hrI⟩ := own_rds HI.out.1
  clear hrI
  go_ret
  exact ⟨_, rfl, HI.out.1, HI.out.2⟩
section
variable {B : Nat} {b : Nat} {rv dv ev tv : Value} {rs ds ts : List ByteArray} {es : List Int}
theorem rapply_no (k : Int) (s : ByteArray) (w : World) (h : RS B w b rv dv ev tv rs ds es ts) (hk : k ≠ rs.length) : Calls Try.prog 17 #[.pointer (some ⟨b, 0, none⟩), .int .i64 k, .string s] w fun e w' => e = .returned (.int .i64 7) ∧ w = w' := by
  obtain ⟨⟨A, c, rfl, _, _⟩, _⟩ := h.slices
  have c0 : w.cell? ⟨b, 0, none⟩ = some (.slice A rs.length c) := (blk_cell h.box 0).trans rfl
  have hq : (k == (rs.length : Int)) = false := by simpa using hk
  clear h
  go_enter Try.func17, Try.ntmps17
  go_wp2
  go_ret
  exact ⟨rfl, rfl⟩
def RPut0 (B b : Nat) (dv ev tv : Value) (l ds : List ByteArray) (es : List Int) (ts : List ByteArray) (r : Value) (w : World) (e : Ending) (w' : World) : Prop :=
  ∃ v1, e = .returned r ∧ RS B w' b v1 dv ev tv l ds es ts ∧ Ch (fun i => i = b) w w' ∧ ∀ k, v1.ownBlock = some k → w.heap.size ≤ k
theorem RS.new0 {w w1 : World} {v1 : Value} {l : List ByteArray} {r : Value} (h : RS B w b rv dv ev tv rs ds es ts) (hB : B ≤ w.heap.size) (hc : Ch (fun _ => False) w w1) (ho : w1.ownsRow w.heap.size 9 1 v1 (svals l).length (svals l)) : RPut0 B b dv ev tv l ds es ts r w (.returned r) (w1.setCell ⟨b, 0, none⟩ v1) := by
  have hat : ∀ k, v1.ownBlock = some k → w.heap.size ≤ k := fun k e => own_base ho k e
  exact ⟨v1, rfl, h.put0 hc (fun e => e) (fun _ _ e => e) (fun _ _ e => e) (fun _ _ e => e) (own_less ho hB) (fun k e => .inr (hat k e)), (hc.mono fun i _ e => e.elim).set rfl, hat⟩
set_option maxRecDepth 100000 in
theorem rapply_any (at' : Int) (s : ByteArray) (w : World) (h : RS B w b rv dv ev tv rs ds es ts) (hB : B ≤ w.heap.size) (hat : at' = rs.length) (hl : rs.length < 400) :
    Calls Try.prog 17 #[.pointer (some ⟨b, 0, none⟩), .int .i64 at', .string s] w (RPut0 B b dv ev tv (rs ++ [s]) ds es ts (.int .i64 0) w) := by
  obtain ⟨A, c, hv, hc, hrd⟩ := h.slices.1
  have c0 : w.cell? ⟨b, 0, none⟩ = some (.slice A rs.length c) := hv ▸ (blk_cell h.box 0).trans rfl
  have H := Aside0.mk h
  have HR := Aside0.mk hrd
  have hq : (at' == (rs.length : Int)) = true := by simpa using hat
  have hq4 : ((rs.length : Int) == 400) = false := by simp; omega
  clear h hv hat hrd
  go_enter Try.func17, Try.ntmps17
  go_wp2_with fail
  refine (copied_any A rs c _ HR.out (by omega)).mono ?_
  rintro e w1 ⟨v, rfl, ho, hb⟩
  obtain ⟨V, cv, hv, hcv, _⟩ := own_rds ho
  subst hv
  have HP := Aside0.mk (And.intro ho hb)
  clear ho hb
  go_wp2_with ((with_reducible refine gate_dst (N := 28) rfl ?_); refine print_append (w0 := w1) w.heap.size rfl (.tmp 25) (.tmp 27) 26 9 (.string ByteArray.empty) 16 rfl Try.underlying26 info9 (by rfl) (by decide) (.slice V rs.length cv) (svals rs) (.string s) rfl rfl (by rfl) HP.out.1 (Below.refl _ _) HP.out.2.size (by rw [svals_length]; omega) ?_; intro v1 w2 hown hbel hgrow hat; (rw [svals_snoc] at hown); obtain ⟨A1, c1, rfl, hc1, hr1⟩ := own_rds hown; have HW := Aside0.mk (And.intro hown ((below_own HP.out.2 HP.out.1 hgrow HP.out.2.size))); have HK := Aside0.mk ((Ch.of_below (S := fun _ => False) HW.out.2).blk H.out.box (fun e => e)); have k0 : w2.cell? ⟨b, 0, none⟩ = some rv := (blk_cell HK.out 0).trans rfl; have f0 := blk_frozen HK.out 0; have hl1 : (rs ++ [s]).length = rs.length + 1 := (by simp); clear hown hbel hgrow hat hc1 hr1)
  go_ret
  exact hl1 ▸ H.out.new0 hB (Ch.of_below HW.out.2) HW.out.1
theorem rload_no (A : Option Addr) (la c : Nat) (w : World) (h : RS B w b rv dv ev tv rs ds es ts) (hl : la ≤ rs.length) : Calls Try.prog 18 #[.pointer (some ⟨b, 0, none⟩), .slice A la c] w fun e w' => e = .returned (.int .i64 7) ∧ w = w' := by
  obtain ⟨⟨A, c, rfl, _, _⟩, _⟩ := h.slices
  have c0 : w.cell? ⟨b, 0, none⟩ = some (.slice A rs.length c) := (blk_cell h.box 0).trans rfl
  clear h
  go_enter Try.func18, Try.ntmps18
  go_wp2
  go_ret
  exact ⟨rfl, rfl⟩
theorem rload_any (A : Option Addr) (c : Nat) (l : List ByteArray) (w : World) (h : RS B w b rv dv ev tv rs ds es ts) (hB : B ≤ w.heap.size) (hrd : RdS w A l) (hl : rs.length < l.length) (hl4 : l.length ≤ 400) :
    Calls Try.prog 18 #[.pointer (some ⟨b, 0, none⟩), .slice A l.length c] w (RPut0 B b dv ev tv l ds es ts (.int .i64 0) w) := by
  obtain ⟨A0, c0, hv, _, _⟩ := h.slices.1
  have c0 : w.cell? ⟨b, 0, none⟩ = some (.slice A0 rs.length c0) := hv ▸ (blk_cell h.box 0).trans rfl
  have H := Aside0.mk h
  have HR := Aside0.mk hrd
  have HL := Aside0.mk hl4
  clear h hv hrd
  go_enter Try.func18, Try.ntmps18
  go_wp2_with fail
  refine (copied_any A l c _ HR.out (by have := HL.out; omega)).mono ?_
  rintro e w1 ⟨v, rfl, ho, hb⟩
  obtain ⟨V, cv, rfl, hcv, hrv⟩ := own_rds ho
  have HP := Aside0.mk (And.intro ho hb)
  have hk := (Ch.of_below (S := fun _ => False) hb).blk H.out.box (fun e => e)
  have k0 : w1.cell? ⟨b, 0, none⟩ = some rv := (blk_cell hk 0).trans rfl
  have f0 := blk_frozen hk 0
  clear ho hb hrv hk
  go_wp2
  go_ret
  exact H.out.new0 hB (Ch.of_below HP.out.2) HP.out.1
def RSync (B b : Nat) (rv ev tv : Value) (rs : List ByteArray) (es : List Int) (ts : List ByteArray) (w : World) (e : Ending) (w' : World) : Prop :=
  ∃ v1, e = .returned (.tuple #[]) ∧ RS B w' b rv v1 ev tv rs rs es ts ∧ Ch (fun i => i = b) w w' ∧ ∀ k, v1.ownBlock = some k → w.heap.size ≤ k
theorem rsync_any (w : World) (h : RS B w b rv dv ev tv rs ds es ts) (hB : B ≤ w.heap.size) (hl : rs.length ≤ 100000) :
    Calls Try.prog 19 #[.pointer (some ⟨b, 0, none⟩)] w (RSync B b rv ev tv rs es ts w) := by
  obtain ⟨A, c, hv, hc, hrd⟩ := h.slices.1
  have c0 : w.cell? ⟨b, 0, none⟩ = some (.slice A rs.length c) := hv ▸ (blk_cell h.box 0).trans rfl
  have H := Aside0.mk h
  have HR := Aside0.mk hrd
  clear h hv hrd
  go_enter Try.func19, Try.ntmps19
  go_wp2_with fail
  refine (copied_any A rs c _ HR.out (by omega)).mono ?_
  rintro e w1 ⟨v, rfl, ho, hb⟩
  obtain ⟨V, cv, rfl, hcv, hrv⟩ := own_rds ho
  have HP := Aside0.mk (And.intro ho hb)
  have hk := (Ch.of_below (S := fun _ => False) hb).blk H.out.box (fun e => e)
  have k1 : w1.cell? ⟨b, 1, none⟩ = some dv := (blk_cell hk 1).trans rfl
  have f1 := blk_frozen hk 1
  clear ho hb hrv hk
  go_wp2
  go_end0
  have hcc : Ch (fun _ => False) w w1 := Ch.of_below HP.out.2
  have hat : ∀ k, (Value.slice V rs.length cv).ownBlock = some k → w.heap.size ≤ k := fun k e => own_base HP.out.1 k e
  exact ⟨_, rfl, H.out.put1 hcc (fun e => e) (fun _ _ e => e) (fun _ _ e => e) (fun _ _ e => e) (own_less HP.out.1 hB) (fun k e => .inr (hat k e)), (hcc.mono fun i _ e => e.elim).set rfl, hat⟩
def RCrash (B b : Nat) (dv : Value) (ds : List ByteArray) (w : World) (e : Ending) (w' : World) : Prop :=
  ∃ v1, e = .returned (.tuple #[]) ∧ RS B w' b v1 dv (.slice none 0 0) (.slice none 0 0) ds ds [] [] ∧ Ch (fun i => i = b) w w' ∧ ∀ k, v1.ownBlock = some k → w.heap.size ≤ k
theorem nil_block (k : Nat) : (Value.slice none 0 0).ownBlock ≠ some k := by simp [Value.ownBlock]
theorem RS.nil2 {w : World} (h : RS B w b rv dv ev tv rs ds es ts) : RS B (w.setCell ⟨b, 2, none⟩ (.slice none 0 0)) b rv dv (.slice none 0 0) tv rs ds [] ts :=
  h.put2 (S := fun _ => False) (Ch.refl _ _) (fun e => e) (fun _ _ e => e) (fun _ _ e => e) (fun _ _ e => e) (own_nil _ _ _ _) (fun k e => absurd e (nil_block k))
theorem RS.nil3 {w : World} (h : RS B w b rv dv ev tv rs ds es ts) : RS B (w.setCell ⟨b, 3, none⟩ (.slice none 0 0)) b rv dv ev (.slice none 0 0) rs ds es [] :=
  h.put3 (S := fun _ => False) (Ch.refl _ _) (fun e => e) (fun _ _ e => e) (fun _ _ e => e) (fun _ _ e => e) (own_nil _ _ _ _) (fun k e => absurd e (nil_block k))
theorem rcrash_any (w : World) (h : RS B w b rv dv ev tv rs ds es ts) (hB : B ≤ w.heap.size) (hl : ds.length ≤ 100000) :
    Calls Try.prog 20 #[.pointer (some ⟨b, 0, none⟩)] w (RCrash B b dv ds w) := by
  obtain ⟨A, c, hv, hc, hrd⟩ := h.slices.2.1
  have c1 : w.cell? ⟨b, 1, none⟩ = some (.slice A ds.length c) := hv ▸ (blk_cell h.box 1).trans rfl
  have H := Aside0.mk h
  have HR := Aside0.mk hrd
  clear h hv hrd
  go_enter Try.func20, Try.ntmps20
  go_wp2_with fail
  refine (copied_any A ds c _ HR.out (by omega)).mono ?_
  rintro e w1 ⟨v, rfl, ho, hb⟩
  obtain ⟨V, cv, rfl, hcv, hrv⟩ := own_rds ho
  have hk := (Ch.of_below (S := fun _ => False) hb).blk H.out.box (fun e => e)
  have k0 : w1.cell? ⟨b, 0, none⟩ = some rv := (blk_cell hk 0).trans rfl
  have k2 : w1.cell? ⟨b, 2, none⟩ = some ev := (blk_cell hk 2).trans rfl
  have k3 : w1.cell? ⟨b, 3, none⟩ = some tv := (blk_cell hk 3).trans rfl
  have f0 := blk_frozen hk 0
  have f2 := blk_frozen hk 2
  have f3 := blk_frozen hk 3
  have HP := Aside0.mk (And.intro ho hb)
  clear ho hb hrv hk
  go_wp2
  go_end0
  obtain ⟨v1, _, h1, h2, h3⟩ := H.out.new0 (r := .tuple #[]) hB (Ch.of_below HP.out.2) HP.out.1
  have e0 : v1 = .slice V ds.length cv := by
    have q := h1.box
    have q2 := blk_cell q 0
    have q3 : (w1.setCell ⟨b, 0, none⟩ (.slice V ds.length cv)).cell? ⟨b, 0, none⟩ = some (.slice V ds.length cv) := (blk_cell (blk_put ((Ch.of_below (S := fun _ => False) HP.out.2).blk H.out.box (fun e => e)) 0 _ rfl) 0).trans rfl
    rw [q3] at q2
    simpa using q2.symm
  subst e0
  exact ⟨_, rfl, h1.nil2.nil3, (h2.set rfl).set rfl, h3⟩
end
end Go.Proofs.Ytfijbhacobjjgac
