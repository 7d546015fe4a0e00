/- The contract of the search's question. -/
import Derived.Test.YtfijbhacobjjgafProg
import Derived.Test.YtfijbhacobjjgafVals
import Derived.Test.YtfijbhacobjjgafWLast
import Derived.Test.YtfijbhacobjjgafWMore
import Derived.RegionTactic
import Derived.ChangeAlike
import Derived.BigRegion
import Derived.WalkLawsBesides
import Derived.WalkSpells
import Derived.Deep.LoopGhost
import Derived.Deep.QuietTactic
import Derived.BigQuiet
import Derived.OwnWalk
import Derived.Test.YtfijbhacobjjgafHalvesA
import Derived.StillTailTactics
namespace Go.Proofs.Ytfijbhacobjjgaf
open Go.RowKit Go.Proofs.YtfijbhacobjjgafW.PrintWords Go.Proofs.YtfijbhacobjjgafW.PrintLast Go.Proofs.YtfijbhacobjjgafW.PrintMore Go.Proofs.Ytfijbhacobjjgaf.Fr
set_option linter.unusedVariables false
set_option linter.unusedSimpArgs false
attribute [local go_sem] max2_int min2_int max_two min_two

open Pl
theorem info3 : (Try.prog.info? 3).map (fun i => (i.zero, i.size, i.bytes)) = some (some (.int .i64 0), 1, 8) := by kernel_rfl
theorem LS.ch {S : Nat → Prop} {w w1 : World} {A : Option Addr} {n c : Nat} {l : List ByteArray} (h : LS w A n c l) (hc : Ch S w w1) (hs : ∀ ad, A = some ad → 0 < n → ¬ S ad.block) : LS w1 A n c l := ⟨h.len, h.le, h.cap, h.top, by
    by_cases h0 : 0 < n
    · exact h.rd.ch hc (fun ad e => hs ad e h0)
    · exact fun i hi => by have := h.len; omega, h.sz⟩
theorem app_num {P : Program} {ops : Array Oper} {rest : List Oper} {o : Oper} {a : Act} {Q : Exit → Act → World → Prop} {w0 W : World} (base : Nat) (hgd : o.guard = none) (s x : Operand) (t e : TypeId) (k : IntKind) (bytes : Nat) (ho : o.op = .call { callee := .builtin .append, args := #[s, x], argTypes := #[t, t] })
    (ht : P.underlying t = some (.slice e)) (hinfo : (P.info? e).map (fun i => (i.zero, i.size, i.bytes)) = some (some (.int k 0), 1, bytes)) (hb0 : 0 < bytes) (j : Nat) (hj : W.heap.size = j) (v : Value) (xs : List Int) (y : Int) (hs : a.eval s = v) (hx : a.eval x = .slice (some ⟨j, 0, none⟩) 1 1)
    (HO : W.ownsRow base e 1 v xs.length (nums k xs)) (HB : Below base w0 W) (hbase : base ≤ j) (hl : (xs.length + 1) * bytes ≤ 140737488355328)
    (h : ∀ v1 w1, w1.ownsRow base e 1 v1 (xs ++ [y]).length (nums k (xs ++ [y])) → Below base w0 w1 → W.grownBy w1 v.ownBlock → (v1.ownBlock = v.ownBlock ∨ ∃ b, v1.ownBlock = some b ∧ j ≤ b) → wpList P ops Q rest (a.put o.dst v1) w1) :
    wpList P ops Q (o :: rest) a (W.alloc (.cells #[.int k y] e)) := by
  subst hj
  exact print_append_num base hgd s x t e k bytes ho ht hinfo hb0 v xs y hs hx HO HB hbase hl h
/-- The search: its lists, what was found, how many were asked. -/
structure SB (w : World) (g : Nat) (A : Option Addr) (na ca : Nat) (a : List ByteArray) (B : Option Addr) (nb cb : Nat) (b : List ByteArray) (fv : Value) (q : Int) (xs : List Int) : Prop where
  box : w.heap[g]? = some (.cells #[.slice A na ca, .slice B nb cb, fv, .int .i64 q] 50 (0, 0))
  row : w.ownsRow (g + 1) 3 1 fv xs.length (nums .i64 xs)
  la : LS w A na ca a
  lb : LS w B nb cb b
  lo : (∀ ad, A = some ad → 0 < na → ad.block < g) ∧ (∀ ad, B = some ad → 0 < nb → ad.block < g)
section
variable {w w1 : World} {g : Nat} {A : Option Addr} {na ca : Nat} {a : List ByteArray} {B : Option Addr} {nb cb : Nat} {b : List ByteArray} {fv fv1 : Value} {q : Int} {xs ys : List Int}
theorem SB.below (h : SB w g A na ca a B nb cb b fv q xs) (hb : Below w.heap.size w w1) : SB w1 g A na ca a B nb cb b fv q xs := ⟨blk_below h.box hb, (Ch.of_below (S := fun _ => False) hb).own h.row (fun _ _ h => h), h.la.below hb, h.lb.below hb, h.lo⟩
theorem SB.ne (h : SB w g A na ca a B nb cb b fv q xs) : some g ≠ fv.ownBlock := fun e => by
  have := own_blk h.row g e.symm
  omega
theorem SB.inc (h : SB w g A na ca a B nb cb b fv q xs) (q1 : Int) : SB (w.setCell ⟨g, 3, none⟩ (.int .i64 q1)) g A na ca a B nb cb b fv q1 xs := by
  have hc : Ch (fun i => i = g) w (w.setCell ⟨g, 3, none⟩ (.int .i64 q1)) := (Ch.refl _ _).set rfl
  exact ⟨blk_put h.box 3 (.int .i64 q1) rfl, own_setCell h.row h.ne _, h.la.ch hc (fun ad e h0 => by have := h.lo.1 ad e h0; omega), h.lb.ch hc (fun ad e h0 => by have := h.lo.2 ad e h0; omega), h.lo⟩
theorem SB.more (h : SB w g A na ca a B nb cb b fv q xs) (hr : w1.ownsRow (g + 1) 3 1 fv1 ys.length (nums .i64 ys)) (hg : w.grownBy w1 fv.ownBlock) : SB (w1.setCell ⟨g, 2, none⟩ fv1) g A na ca a B nb cb b fv1 q ys := by
  have hc : Ch (fun i => g ≤ i) w (w1.setCell ⟨g, 2, none⟩ fv1) := (Ch.grown hg (fun k hk => by have := own_blk h.row k hk; omega)).set (Nat.le_refl _)
  have hne : some g ≠ fv1.ownBlock := fun e => by
    have := own_blk hr g e.symm
    omega
  exact ⟨blk_put (blk_grown h.box hg h.ne) 2 fv1 rfl, own_setCell hr hne _, h.la.ch hc (fun ad e h0 => by have := h.lo.1 ad e h0; omega), h.lb.ch hc (fun ad e h0 => by have := h.lo.2 ad e h0; omega), h.lo⟩
end
theorem ch_then {S T : Nat → Prop} {w w1 w2 : World} (h : Ch S w w1) (k : Ch T w1 w2) (hs : ∀ i, i < w.heap.size → T i → S i) : Ch S w w2 :=
  ⟨k.os.trans h.os, k.tape.trans h.tape, k.output.trans h.output, Nat.le_trans h.size k.size, fun i hi hn => (k.block i (Nat.lt_of_lt_of_le hi h.size) (fun e => hn (hs i hi e))).trans (h.block i hi hn)⟩
theorem own_lt {w : World} {B n sz : Nat} {e : TypeId} {v : Value} {xs : List Value} (h : w.ownsRow B e sz v n xs) : ∀ k, v.ownBlock = some k → k < w.heap.size := by
  intro k hk
  obtain ⟨h1, h2 | ⟨g, cap, cur, rfl, hB, hh, r⟩⟩ := h
  · rw [h2.1] at hk; cases hk
  · cases hk; exact blk_lt hh
/-- Where a row may lie behind a call: where it lay, or in a new block. -/
def Nxt (w : World) (v v' : Value) : Prop := v'.ownBlock = v.ownBlock ∨ ∃ b, v'.ownBlock = some b ∧ w.heap.size ≤ b
theorem Nxt.refl (w : World) (v : Value) : Nxt w v v := .inl rfl
theorem Nxt.trans {w w1 : World} {v v1 v2 : Value} (h : Nxt w v v1) (k : Nxt w1 v1 v2) (hs : w.heap.size ≤ w1.heap.size) : Nxt w v v2 := by
  rcases k with e | ⟨b, e, hb⟩
  · rcases h with e1 | ⟨b, e1, hb⟩
    · exact .inl (e.trans e1)
    · exact .inr ⟨b, e.trans e1, hb⟩
  · exact .inr ⟨b, e, Nat.le_trans hs hb⟩
theorem Nxt.old {w : World} {v v1 : Value} (h : Nxt w v v1) {i : Nat} (hi : i < w.heap.size) (e : some i = v1.ownBlock) : some i = v.ownBlock := by
  rcases h with e1 | ⟨b, e1, hb⟩
  · rw [e, e1]
  · rw [e1] at e; cases e; omega
def AskPost (g : Nat) (A : Option Addr) (na ca : Nat) (a : List ByteArray) (B : Option Addr) (nb cb : Nat) (b : List ByteArray) (fv : Value) (q : Int) (xs : List Int) (w : World) (e : Ending) (w' : World) : Prop := e = .returned (.tuple #[]) ∧ (∃ fv', SB w' g A na ca a B nb cb b fv' q xs ∧ Nxt w fv fv') ∧ Ch (fun i => i = g ∨ some i = fv.ownBlock) w w'
set_option maxRecDepth 100000 in
set_option maxHeartbeats 1000000 in
theorem ask_any (g : Nat) (A : Option Addr) (na ca : Nat) (a : List ByteArray) (B : Option Addr) (nb cb : Nat) (b : List ByteArray) : ∀ (n f : Nat) (fv : Value) (q : Int) (xs : List Int) (w0 : World), 1 ≤ n → f + n ≤ na → f + n ≤ nb → xs.length + n ≤ 1000 → 0 ≤ q → q + 2 * n ≤ 10000 → SB w0 g A na ca a B nb cb b fv q xs → Calls Try.prog 19 #[.pointer (some ⟨g, 0, none⟩), .int .i64 (f : Int), .int .i64 ((f + n : Nat) : Int)] w0 (AskPost g A na ca a B nb cb b fv (q + (fnd lf pr a b n f).2) (xs ++ (fnd lf pr a b n f).1) w0) := by
  intro n
  induction n using Nat.strongRecOn with
  | _ n ih =>
    intro f fv q xs w0 hn hfa hfb hxl hq0 hq1 hS
    have IH := Aside0.mk ih
    clear ih
    have HS := Aside0.mk hS
    have hna := hS.la.le
    have c0 : w0.cell? ⟨g, 0, none⟩ = some (.slice A na ca) := (blk_cell hS.box 0).trans rfl
    have c3 : w0.cell? ⟨g, 3, none⟩ = some (.int .i64 q) := (blk_cell hS.box 3).trans rfl
    have f0 := blk_frozen hS.box
    obtain ⟨t, ht⟩ : ∃ t, f + n = t := ⟨_, rfl⟩
    rw [ht] at hfa hfb ⊢
    have HO1 : Aside0 (∀ w1 : World, LS w1 A na ca a → Calls Try.prog 12 #[.slice A na ca, .int .i64 (f : Int), .int .i64 (t : Int)] w1 fun e w' => e = .returned (.tuple #[rv a f t, .bool true]) ∧ Below w1.heap.size w1 w') := ⟨fun w1 h => of_in a A na ca f t (by omega) (by omega) w1 h⟩
    have HO2 : Aside0 (∀ w1 : World, LS w1 B nb cb b → Calls Try.prog 12 #[.slice B nb cb, .int .i64 (f : Int), .int .i64 (t : Int)] w1 fun e w' => e = .returned (.tuple #[rv b f t, .bool true]) ∧ Below w1.heap.size w1 w') := ⟨fun w1 h => of_in b B nb cb f t (by omega) (by omega) w1 h⟩
    unfold rv at HO1 HO2
    rw [show t - f = n by omega] at HO1 HO2
    obtain ⟨r1, hr1⟩ : ∃ r1, root lf pr (sub a f n) = r1 := ⟨_, rfl⟩
    obtain ⟨r2, hr2⟩ : ∃ r2, root lf pr (sub b f n) = r2 := ⟨_, rfl⟩
    rw [hr1] at HO1
    rw [hr2] at HO2
    have HR := Aside0.mk (And.intro hr1 hr2)
    have HT := Aside0.mk ht
    have hft : f < t := by omega
    have ht1 : f + n ≤ t := by omega
    have ht2 : t ≤ f + n := by omega
    clear hr1 hr2 hS ht
    go_enter Try.func19, Try.ntmps19
    go_wp2_with fail
    have HS1 : Aside0 (SB (w0.setCell ⟨g, 3, none⟩ (.int .i64 (q + 1))) g A na ca a B nb cb b fv (q + 1) xs ∧ Ch (fun i => i = g ∨ some i = fv.ownBlock) w0 (w0.setCell ⟨g, 3, none⟩ (.int .i64 (q + 1)))) := ⟨HS.out.inc (q + 1), (Ch.refl _ w0).set (Or.inl rfl)⟩
    refine (HO1.out _ HS1.out.1.la).mono ?_
    rintro e w2 ⟨rfl, hb2⟩
    have HS2 : Aside0 (SB w2 g A na ca a B nb cb b fv (q + 1) xs ∧ Ch (fun i => i = g ∨ some i = fv.ownBlock) w0 w2) := ⟨HS1.out.1.below hb2, HS1.out.2.below_then hb2⟩
    have hgl2 := blk_lt HS2.out.1.box
    have c1 : w2.cell? ⟨g, 1, none⟩ = some (.slice B nb cb) := (blk_cell HS2.out.1.box 1).trans rfl
    clear hb2 HS1 c0 c3 f0 HS HO1
    go_wp2_with fail
    have hal : Below w2.heap.size w2 (w2.alloc (.cells #[.int .i64 (f : Int), .int .i64 (t : Int), .int .u64 r1] 37)) := below_alloc (Below.refl _ _) _
    refine (HO2.out _ (HS2.out.1.lb.below hal)).mono ?_
    rintro e w3 ⟨rfl, hb3⟩
    have hx := blk_below (blk_new w2 (.cells #[.int .i64 (f : Int), .int .i64 (t : Int), .int .u64 r1] 37)) hb3
    have HS3 : Aside0 (SB w3 g A na ca a B nb cb b fv (q + 1) xs ∧ Ch (fun i => i = g ∨ some i = fv.ownBlock) w0 w3 ∧ w3.heap[w2.heap.size]? = some (.cells #[.int .i64 (f : Int), .int .i64 (t : Int), .int .u64 r1] 37 (0, 0))) := ⟨HS2.out.1.below (below_step hal hb3), HS2.out.2.below_then (below_step hal hb3), hx⟩
    have k0 : w3.cell? ⟨w2.heap.size, 0, none⟩ = some (.int .i64 (f : Int)) := (blk_cell hx 0).trans rfl
    have k1 : w3.cell? ⟨w2.heap.size, 1, none⟩ = some (.int .i64 (t : Int)) := (blk_cell hx 1).trans rfl
    have k2 : w3.cell? ⟨w2.heap.size, 2, none⟩ = some (.int .u64 r1) := (blk_cell hx 2).trans rfl
    have hz3 : w2.heap.size < w3.heap.size := by have := hb3.size; simp at this; omega
    have hgl3 := blk_lt HS3.out.1.box
    clear hb3 hx HS2 c1 HO2 hal
    by_cases he : r1 = r2
    · have HF : Aside0 (fnd lf pr a b n f = ([], 1)) := ⟨fnd_same lf pr (by rw [HR.out.1, HR.out.2, he])⟩
      subst he
      go_wp2
      go_end0
      refine ⟨rfl, ⟨fv, ?_, Nxt.refl _ _⟩, HS3.out.2.1.alloc _⟩
      rw [HF.out, List.append_nil]
      exact HS3.out.1.below (below_alloc (Below.refl _ _) (.cells #[.int .i64 (f : Int), .int .i64 (t : Int), .int .u64 r1] 37))
    · have hne : (r1 == r2) = false := beq_eq_false_iff_ne.2 he
      have HNE : Aside0 (¬ root lf pr (sub a f n) = root lf pr (sub b f n)) := ⟨by rw [HR.out.1, HR.out.2]; exact he⟩
      clear he
      have HS4 : Aside0 (SB (w3.alloc (.cells #[.int .i64 (f : Int), .int .i64 (t : Int), .int .u64 r2] 37)) g A na ca a B nb cb b fv (q + 1) xs ∧ Ch (fun i => i = g ∨ some i = fv.ownBlock) w0 (w3.alloc (.cells #[.int .i64 (f : Int), .int .i64 (t : Int), .int .u64 r2] 37)) ∧ (w3.alloc (.cells #[.int .i64 (f : Int), .int .i64 (t : Int), .int .u64 r2] 37)).heap[w2.heap.size]? = some (.cells #[.int .i64 (f : Int), .int .i64 (t : Int), .int .u64 r1] 37 (0, 0))) := ⟨by
        have hal : Below w3.heap.size w3 (w3.alloc (.cells #[.int .i64 (f : Int), .int .i64 (t : Int), .int .u64 r2] 37)) := below_alloc (Below.refl _ _) _
        exact ⟨HS3.out.1.below hal, HS3.out.2.1.below_then hal, blk_below HS3.out.2.2 hal⟩⟩
      by_cases h1 : n = 1
      · have HF : Aside0 (fnd lf pr a b n f = ([(f : Int)], 1)) := ⟨fnd_one lf pr HNE.out (by omega)⟩
        have d1 : (t : Int) - f = 1 := by have := HT.out; omega
        have d2 : ((t : Int) - f == 1) = true := beq_iff_eq.2 d1
        have c2 : w3.cell? ⟨g, 2, none⟩ = some fv := (blk_cell HS3.out.1.box 2).trans rfl
        have HGJ : Aside0 ((w3.alloc (.cells #[.int .i64 (f : Int), .int .i64 (t : Int), .int .u64 r2] 37)).heap.size = w3.heap.size + 1) := ⟨by simp⟩
        have hgk : g + 1 ≤ w3.heap.size + 1 := by omega
        clear d1 IH HR HNE
        go_wp2_with ((with_reducible refine gate_dst (N := 75) rfl ?_); refine app_num (w0 := _) (g + 1) rfl (.tmp 72) (.tmp 74) 25 3 .i64 8 rfl Try.underlying25 info3 (by decide) (w3.heap.size + 1) HGJ.out fv xs (f : Int) rfl rfl HS4.out.1.row (Below.refl _ _) hgk (by omega) ?_; intro v1 w5 hown hbel hgrow hat; obtain ⟨A1, c1, rfl, hc1, hr1⟩ := own_nums hown; have HS5 := Aside0.mk (And.intro (HS4.out.1.more hown hgrow) (And.intro (HS4.out.2.1.trans (Ch.grown hgrow (fun k hk => Or.inr hk.symm))) hat)); have HK := blk_grown HS4.out.1.box hgrow HS4.out.1.ne; have k2 : w5.cell? ⟨g, 2, none⟩ = some fv := (blk_cell HK 2).trans rfl; have f2 := blk_frozen HK; clear hown hbel hgrow hat hc1 hr1 HK)
        go_end0
        have e : (xs ++ [(f : Int)]).length = xs.length + 1 := by simp
        have HS5 := HS5.out
        rw [e] at HS5
        refine ⟨rfl, ⟨.slice A1 (xs.length + 1) c1, ?_, ?_⟩, HS5.2.1.set (Or.inl rfl)⟩
        · rw [HF.out]
          exact HS5.1
        · rcases HS5.2.2 with e | ⟨b, e, hb⟩
          · exact .inl e
          · exact .inr ⟨b, e, by have := HS3.out.2.1.size; omega⟩
      · have d2 : ((t : Int) - f == 1) = false := beq_eq_false_iff_ne.2 (by have := HT.out; omega)
        have hn2 : 2 ≤ n := by omega
        have HF : Aside0 (fnd lf pr a b n f = ((fnd lf pr a b (half n) f).1 ++ (fnd lf pr a b (n - half n) (f + half n)).1, 1 + (fnd lf pr a b (half n) f).2 + (fnd lf pr a b (n - half n) (f + half n)).2)) := ⟨fnd_two lf pr HNE.out hn2⟩
        have HHV : Aside0 (∀ w1 : World, LS w1 A na ca a → Calls Try.prog 14 #[.slice A na ca, .agg #[.int .i64 (f : Int), .int .i64 (t : Int), .int .u64 r1]] w1 (HvPost a f (f + half n) t w1)) := ⟨fun w1 h => by
          have := halves_in a A na ca f t r1 (by have := HT.out; omega) (by omega) w1 h
          rwa [show t - f = n by have := HT.out; omega] at this⟩
        have hh1 := half_lt hn2
        have hh2 := half_pos n
        obtain ⟨h, hh⟩ : ∃ h, half n = h := ⟨_, rfl⟩
        rw [hh] at HHV hh1 hh2 HF
        have hlen1 := fnd_asked lf pr a b h f (by omega)
        have hlen2 := fnd_asked lf pr a b (n - h) (f + h) (by omega)
        obtain ⟨F1, hF1⟩ : ∃ F1, fnd lf pr a b h f = F1 := ⟨_, rfl⟩
        obtain ⟨F2, hF2⟩ : ∃ F2, fnd lf pr a b (n - h) (f + h) = F2 := ⟨_, rfl⟩
        have IH1 : Aside0 (∀ (w1 : World) (fv : Value), SB w1 g A na ca a B nb cb b fv (q + 1) xs → Calls Try.prog 19 #[.pointer (some ⟨g, 0, none⟩), .int .i64 (f : Int), .int .i64 ((f + h : Nat) : Int)] w1 (AskPost g A na ca a B nb cb b fv (q + 1 + F1.2) (xs ++ F1.1) w1)) := ⟨fun w1 fv1 h1 => by
          have := IH.out h hh1 f fv1 (q + 1) xs w1 (by omega) (by omega) (by omega) (by omega) (by omega) (by omega) h1
          rwa [hF1] at this⟩
        rw [hF1] at hlen1
        rw [hF2] at hlen2
        have IH2 : Aside0 (∀ (w1 : World) (fv : Value), SB w1 g A na ca a B nb cb b fv (q + 1 + F1.2) (xs ++ F1.1) → Calls Try.prog 19 #[.pointer (some ⟨g, 0, none⟩), .int .i64 ((f + h : Nat) : Int), .int .i64 (t : Int)] w1 (AskPost g A na ca a B nb cb b fv (q + 1 + F1.2 + F2.2) (xs ++ F1.1 ++ F2.1) w1)) := ⟨fun w1 fv1 h1 => by
          have := IH.out (n - h) (by omega) (f + h) fv1 (q + 1 + F1.2) (xs ++ F1.1) w1 (by omega) (by have := HT.out; omega) (by have := HT.out; omega) (by rw [List.length_append]; omega) (by omega) (by omega) h1
          rw [hF2, show f + h + (n - h) = t by have := HT.out; omega] at this
          exact this⟩
        have HFF : Aside0 (q + (fnd lf pr a b n f).2 = q + 1 + F1.2 + F2.2 ∧ xs ++ (fnd lf pr a b n f).1 = xs ++ F1.1 ++ F2.1) := ⟨by
          rw [HF.out, hF1, hF2]
          refine ⟨?_, by rw [List.append_assoc]⟩
          show q + ((1 + F1.2 + F2.2 : Nat) : Int) = _
          omega⟩
        obtain ⟨m, hm⟩ : ∃ m, f + h = m := ⟨_, rfl⟩
        rw [hm] at HHV IH1 IH2
        clear IH HF hF1 hF2 hm hh HR HNE hh1 hh2
        go_wp2
        generalize w3.alloc (.cells #[.int .i64 (f : Int), .int .i64 (t : Int), .int .u64 r2] 37) = w4 at HS4 ⊢
        clear k0 k1 k2 HS3
        have c0 : w4.cell? ⟨g, 0, none⟩ = some (.slice A na ca) := (blk_cell HS4.out.1.box 0).trans rfl
        have k0 : w4.cell? ⟨w2.heap.size, 0, none⟩ = some (.int .i64 (f : Int)) := (blk_cell HS4.out.2.2 0).trans rfl
        have k1 : w4.cell? ⟨w2.heap.size, 1, none⟩ = some (.int .i64 (t : Int)) := (blk_cell HS4.out.2.2 1).trans rfl
        have k2 : w4.cell? ⟨w2.heap.size, 2, none⟩ = some (.int .u64 r1) := (blk_cell HS4.out.2.2 2).trans rfl
        refine St.steadyR (n := 8) (by kernel_rfl) ([] :: [(0, 39)] :: [(1, 40)] :: [(2, 41)] :: [] :: [(3, 42), (4, 43)] :: [(5, 44)] :: [] :: []) (some 39 :: some 40 :: some 41 :: some 42 :: some 43 :: some 44 :: some 45 :: some 46 :: []) (by kernel_rfl) ((St.eqT ?c3_0) :: (St.eqT ?c3_1) :: (St.eqT ?c3_2) :: (St.eqT ?c3_3) :: (St.eqT ?c3_4) :: (fun _ v w => ∃ gh, v = .slice (some ⟨gh, 0, none⟩) 2 2 ∧ (g < gh ∧ w4.heap.size ≤ gh) ∧ w.heap[gh]? = some (.cells #[.int .i64 (f : Int), .int .i64 (m : Int), .int .u64 (root lf pr (sub a f (m - f))), .int .i64 (m : Int), .int .i64 (t : Int), .int .u64 (root lf pr (sub a m (t - m)))] 37 (0, 0))) :: (St.eqT (.int .i64 2)) :: (St.eqT ?c3_7) :: []) rfl (by rfl) (fun w' => Below w4.heap.size w4 w') (fun w w' => Below w.heap.size w w') ?hst ?h0 ?hB ?hop ?hend
        case hop =>
          refine ⟨?_, ?_, ?_, ?_, ?_, ?_, ?_, ?_, trivial⟩
          · intro w hB
            simp only [St.withD]
            refine St.ob_value (v := ?_) (w' := w) (by rfl) ?_ ⟨Below.refl _ _, ?_⟩
            rotate_left
            · go_simp
              with_reducible rfl
            · rfl
          · intro w hB; rintro _ ⟨_, rfl⟩
            simp only [St.withD, List.nil_append, List.cons_append, Act.put, List.setIfInBounds_toArray, List.set_cons_zero, List.set_cons_succ]
            refine St.ob_value (v := ?_) (w' := w) (by rfl) ?_ ⟨Below.refl _ _, ?_⟩
            rotate_left
            · go_simp
              with_reducible rfl
            · rfl
          · intro w hB; rintro _ ⟨_, rfl⟩
            simp only [St.withD, List.nil_append, List.cons_append, Act.put, List.setIfInBounds_toArray, List.set_cons_zero, List.set_cons_succ]
            refine St.ob_value (v := ?_) (w' := w) (by rfl) ?_ ⟨Below.refl _ _, ?_⟩
            rotate_left
            · go_simp
              with_reducible rfl
            · rfl
          · intro w hB; rintro _ ⟨_, rfl⟩
            simp only [St.withD, List.nil_append, List.cons_append, Act.put, List.setIfInBounds_toArray, List.set_cons_zero, List.set_cons_succ]
            have hbx := blk_below HS4.out.1.box hB
            have hb6 := blk_below HS4.out.2.2 hB
            have c0 : w.cell? ⟨g, 0, none⟩ = some (.slice A na ca) := (blk_cell hbx 0).trans rfl
            have k0 : w.cell? ⟨w2.heap.size, 0, none⟩ = some (.int .i64 (f : Int)) := (blk_cell hb6 0).trans rfl
            have k1 : w.cell? ⟨w2.heap.size, 1, none⟩ = some (.int .i64 (t : Int)) := (blk_cell hb6 1).trans rfl
            have k2 : w.cell? ⟨w2.heap.size, 2, none⟩ = some (.int .u64 r1) := (blk_cell hb6 2).trans rfl
            refine St.ob_value (v := ?_) (w' := w) (by rfl) ?_ ⟨Below.refl _ _, ?_⟩
            rotate_left
            · go_simp
              with_reducible rfl
            · rfl
          · intro w hB
            simp only [St.withD]
            have hbx := blk_below HS4.out.1.box hB
            have hb6 := blk_below HS4.out.2.2 hB
            have c0 : w.cell? ⟨g, 0, none⟩ = some (.slice A na ca) := (blk_cell hbx 0).trans rfl
            have k0 : w.cell? ⟨w2.heap.size, 0, none⟩ = some (.int .i64 (f : Int)) := (blk_cell hb6 0).trans rfl
            have k1 : w.cell? ⟨w2.heap.size, 1, none⟩ = some (.int .i64 (t : Int)) := (blk_cell hb6 1).trans rfl
            have k2 : w.cell? ⟨w2.heap.size, 2, none⟩ = some (.int .u64 r1) := (blk_cell hb6 2).trans rfl
            refine St.ob_value (v := ?_) (w' := w) (by rfl) ?_ ⟨Below.refl _ _, ?_⟩
            rotate_left
            · go_simp
              with_reducible rfl
            · rfl
          · intro w hB; rintro _ ⟨_, rfl⟩ _ ⟨_, rfl⟩
            simp only [St.withD, List.nil_append, List.cons_append, Act.put, List.setIfInBounds_toArray, List.set_cons_zero, List.set_cons_succ]
            refine St.ob_call Try.func14 (by kernel_rfl) rfl #[.slice A na ca, .agg #[.int .i64 (f : Int), .int .i64 (t : Int), .int .u64 r1]] (by rfl) rfl (by (try simp only [List.map_toArray, List.map_cons, List.map_nil]); first | done | rfl | (simp only [List.length_drop, List.length_take]; rfl)) ?_
            refine (HHV.out w (HS4.out.1.la.below hB)).mono ?_
            rintro e w1 ⟨gh, rfl, hgh, hbk, hb6⟩
            refine ⟨_, rfl, hb6, ?_⟩
            exact ⟨gh, rfl, ⟨by have := blk_lt HS4.out.1.box; have := hB.size; omega, Nat.le_trans hB.size hgh⟩, hbk⟩
          · intro w hB; rintro v5 ⟨ds5, ht5⟩
            simp only [St.withD, List.nil_append, List.cons_append, Act.put, List.setIfInBounds_toArray, List.set_cons_zero, List.set_cons_succ]
            obtain ⟨gh, rfl, _, _⟩ := ht5
            refine St.ob_value (v := .int .i64 2) (w' := w) (by rfl) ?_ ⟨Below.refl _ _, rfl⟩
            go_simp
          · intro w hB
            simp only [St.withD]
            refine St.ob_value (v := ?_) (w' := w) (by rfl) ?_ ⟨Below.refl _ _, ?_⟩
            rotate_left
            · go_simp
              with_reducible rfl
            · rfl
        case hst => exact ⟨St.eqT_st, St.eqT_st, St.eqT_st, St.eqT_st, St.eqT_st, fun ds v w w' h hR => by (obtain ⟨gh, e1, e2, e3⟩ := h; exact ⟨gh, e1, e2, blk_below e3 hR⟩), St.eqT_st, St.eqT_st, trivial⟩
        case h0 => exact below_drew1 (Below.refl _ _)
        case hB => exact fun w w' h k => below_step h k
        case hend =>
          intro w hB
          rintro _ rfl _ rfl _ rfl _ rfl _ rfl v5 ht5 _ rfl _ rfl
          simp only [List.map_cons, List.map_nil, List.nil_append, List.cons_append, List.getD_cons_zero, List.getD_cons_succ, Act.put, List.setIfInBounds_toArray, List.set_cons_zero, List.set_cons_succ]
          rw [St.withE_nil]
          obtain ⟨gh, rfl, hgh, hbk⟩ := ht5
          have HS6 : Aside0 (SB w g A na ca a B nb cb b fv (q + 1) xs ∧ Ch (fun i => i = g ∨ some i = fv.ownBlock) w0 w ∧ g < gh ∧ w.heap[gh]? = some (.cells #[.int .i64 (f : Int), .int .i64 (m : Int), .int .u64 (root lf pr (sub a f (m - f))), .int .i64 (m : Int), .int .i64 (t : Int), .int .u64 (root lf pr (sub a m (t - m)))] 37 (0, 0)) ∧ some gh ≠ fv.ownBlock) := ⟨HS4.out.1.below hB, HS4.out.2.1.below_then hB, hgh.1, hbk, fun e => by have := own_lt HS4.out.1.row gh e.symm; have := hgh.2; omega⟩
          clear hB hgh hbk HS4 HHV
          go_wp2
          go_loopg [46] 2 (fun gk x46 wr => ∃ (k : Nat) (fv1 : Value), x46 = .int .i64 k ∧ Aside0 (k + gk = 2 ∧ ((k = 0 ∧ SB wr g A na ca a B nb cb b fv1 (q + 1) xs) ∨ (k = 1 ∧ SB wr g A na ca a B nb cb b fv1 (q + 1 + F1.2) (xs ++ F1.1)) ∨ (k = 2 ∧ SB wr g A na ca a B nb cb b fv1 (q + 1 + F1.2 + F2.2) (xs ++ F1.1 ++ F2.1))) ∧ Ch (fun i => i = g ∨ some i = fv.ownBlock) w0 wr ∧ Nxt w0 fv fv1) ∧ Aside0 (k < 2 → (g < gh ∧ wr.heap[gh]? = some (.cells #[.int .i64 (f : Int), .int .i64 (m : Int), .int .u64 (root lf pr (sub a f (m - f))), .int .i64 (m : Int), .int .i64 (t : Int), .int .u64 (root lf pr (sub a m (t - m)))] 37 (0, 0)) ∧ some gh ≠ fv1.ownBlock)))
          case atStart => exact ⟨0, fv, rfl, ⟨rfl, Or.inl ⟨rfl, HS6.out.1⟩, HS6.out.2.1, Nxt.refl _ _⟩, ⟨fun _ => HS6.out.2.2⟩⟩
          case round =>
            clear HS6
            obtain ⟨k, fv1, rfl, HI, HG⟩ := hrel
            obtain ⟨i1, i2, i3, i4⟩ := HI.out
            rcases i2 with ⟨rfl, hs⟩ | ⟨rfl, hs⟩ | ⟨rfl, hs⟩
            · have hbk := (HG.out (by decide)).2.1
              have b0 : wr.cell? ⟨gh, 0, none⟩ = some (.int .i64 (f : Int)) := (blk_cell hbk 0).trans rfl
              have b1 : wr.cell? ⟨gh, 1, none⟩ = some (.int .i64 (m : Int)) := (blk_cell hbk 1).trans rfl
              have b2 : wr.cell? ⟨gh, 2, none⟩ = some (.int .u64 (root lf pr (sub a f (m - f)))) := (blk_cell hbk 2).trans rfl
              have HS7 := Aside0.mk hs
              have HC7 := Aside0.mk i3
              have HN7 := Aside0.mk i4
              have HK7 := Aside0.mk i1
              have HIH := Aside0.mk (fun w1 h => IH1.out w1 fv1 h)
              clear hbk i1 i3 i4 HI hs IH1
              go_wp2_with fail
              refine (HIH.out _ (HS7.out.below (below_alloc (Below.refl _ _) _))).mono ?_
              rintro e w8 ⟨rfl, ⟨fv2, hs8, hn8⟩, hc8⟩
              have hsz : wr.heap.size < (wr.alloc (.cells #[.int .i64 (f : Int), .int .i64 (m : Int), .int .u64 (root lf pr (sub a f (m - f)))] 37)).heap.size := by simp
              have HS8 : Aside0 (SB w8 g A na ca a B nb cb b fv2 (q + 1 + F1.2) (xs ++ F1.1) ∧ Ch (fun i => i = g ∨ some i = fv.ownBlock) w0 w8 ∧ Nxt w0 fv fv2) := ⟨hs8, ch_then (HC7.out.alloc _) hc8 (fun i hi e => e.imp id (fun e => HN7.out.old hi e)), HN7.out.trans hn8 (by have := HC7.out.size; omega)⟩
              have HG8 : Aside0 (g < gh ∧ w8.heap[gh]? = some (.cells #[.int .i64 (f : Int), .int .i64 (m : Int), .int .u64 (root lf pr (sub a f (m - f))), .int .i64 (m : Int), .int .i64 (t : Int), .int .u64 (root lf pr (sub a m (t - m)))] 37 (0, 0)) ∧ some gh ≠ fv2.ownBlock) := ⟨by
                obtain ⟨g1, g2, g3⟩ := HG.out (by decide)
                have hghl := blk_lt g2
                refine ⟨g1, hc8.blk (blk_below g2 (below_alloc (Below.refl _ _) _)) (fun e => e.elim (fun e => by omega) g3), fun e => ?_⟩
                rcases hn8 with e1 | ⟨b, e1, hb⟩
                · exact g3 (by rw [e, e1])
                · rw [e1] at e; cases e; omega⟩
              clear hs8 hn8 hc8 hsz HS7 HC7 HN7 HG HIH
              go_wp2
              go_roundg 1
              case measure => have := HK7.out; omega
              case rel => exact ⟨1, fv2, rfl, ⟨rfl, Or.inr (Or.inl ⟨rfl, HS8.out.1⟩), HS8.out.2.1, HS8.out.2.2⟩, ⟨fun _ => HG8.out⟩⟩
            · have hbk := (HG.out (by decide)).2.1
              have b0 : wr.cell? ⟨gh, 3, none⟩ = some (.int .i64 (m : Int)) := (blk_cell hbk 3).trans rfl
              have b1 : wr.cell? ⟨gh, 4, none⟩ = some (.int .i64 (t : Int)) := (blk_cell hbk 4).trans rfl
              have b2 : wr.cell? ⟨gh, 5, none⟩ = some (.int .u64 (root lf pr (sub a m (t - m)))) := (blk_cell hbk 5).trans rfl
              have HS7 := Aside0.mk hs
              have HC7 := Aside0.mk i3
              have HN7 := Aside0.mk i4
              have HK7 := Aside0.mk i1
              have HIH := Aside0.mk (fun w1 h => IH2.out w1 fv1 h)
              clear hbk i1 i3 i4 HI hs IH2 HG
              go_wp2_with fail
              refine (HIH.out _ (HS7.out.below (below_alloc (Below.refl _ _) _))).mono ?_
              rintro e w8 ⟨rfl, ⟨fv2, hs8, hn8⟩, hc8⟩
              have hsz : wr.heap.size < (wr.alloc (.cells #[.int .i64 (m : Int), .int .i64 (t : Int), .int .u64 (root lf pr (sub a m (t - m)))] 37)).heap.size := by simp
              have HS8 : Aside0 (SB w8 g A na ca a B nb cb b fv2 (q + 1 + F1.2 + F2.2) (xs ++ F1.1 ++ F2.1) ∧ Ch (fun i => i = g ∨ some i = fv.ownBlock) w0 w8 ∧ Nxt w0 fv fv2) := ⟨hs8, ch_then (HC7.out.alloc _) hc8 (fun i hi e => e.imp id (fun e => HN7.out.old hi e)), HN7.out.trans hn8 (by have := HC7.out.size; omega)⟩
              clear hs8 hn8 hc8 hsz HS7 HC7 HN7 HIH
              go_wp2
              go_roundg 0
              case measure => have := HK7.out; omega
              case rel => exact ⟨2, fv2, rfl, ⟨rfl, Or.inr (Or.inr ⟨rfl, HS8.out.1⟩), HS8.out.2.1, HS8.out.2.2⟩, ⟨fun h => by omega⟩⟩
            · have HS7 := Aside0.mk (And.intro hs (And.intro i3 i4))
              clear hs i1 i3 i4 HI HG
              go_wp2
              go_end0
              rw [HFF.out.1, HFF.out.2]
              exact ⟨rfl, ⟨fv1, HS7.out.1, HS7.out.2.2⟩, HS7.out.2.1⟩
end Go.Proofs.Ytfijbhacobjjgaf
