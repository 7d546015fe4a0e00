/- The document's state as an object of a pair: its acts; its Keep. -/
import Derived.Test.YtfijbhacobjjgacRefB
import Derived.Test.YtfijbhacobjjgacDuoB
namespace Go.Proofs.Ytfijbhacobjjgac
open Go.RowKit Go.Proofs.YtfijbhacobjjgacW.PrintWords Go.Proofs.YtfijbhacobjjgacW.PrintLast Go.Proofs.YtfijbhacobjjgacW.PrintMore Go.Proofs.Ytfijbhacobjjgac.Fr
set_option linter.unusedVariables false
set_option linter.unusedSimpArgs false
attribute [local go_sem] max2_int min2_int max_two min_two

open Go.Maps
theorem info3 : (Try.prog.info? 3).map (fun i => (i.zero, i.size, i.bytes)) = some (some (.int .i64 0), 1, 8) := by kernel_rfl
def FB (b : Nat) (rv dv ev tv : Value) (i : Nat) : Prop := i = b ∨ some i = rv.ownBlock ∨ some i = dv.ownBlock ∨ some i = ev.ownBlock ∨ some i = tv.ownBlock
def YB (B b : Nat) (rs ds : List ByteArray) (es : List Int) (ts : List ByteArray) (F : Nat → Prop) (w : World) : Prop := ∃ rv dv ev tv, RS B w b rv dv ev tv rs ds es ts ∧ F = FB b rv dv ev tv
theorem num_row {w : World} {base n : Nat} {e : TypeId} {v : Value} {k : IntKind} {l : List Int} (h : w.ownsRow base e 1 v n (nums k l)) (i : Nat) (hi : i < l.length) : ∃ g c, v = .slice (some ⟨g, 0, none⟩) l.length c ∧ w.cell? ⟨g, i, none⟩ = some (.int k (l.getD i 0)) ∧ w.frozen? ⟨g, i, none⟩ = false := by
  have hl : l.length = n := by have := h.1; rw [nums_length, Nat.mul_one] at this; exact this
  obtain ⟨A, c, e1, hc, hr⟩ := own_nums h
  rcases h.2 with ⟨rfl, hn⟩ | ⟨g, cap, cur, rfl, hb, hh, _⟩
  · omega
  · obtain ⟨rfl, hln, rfl⟩ : some ⟨g, 0, none⟩ = A ∧ n = l.length ∧ cap = c := by simpa using e1
    obtain ⟨g2, e2, hcell⟩ := hr i hi
    cases e2
    exact ⟨g, cap, by rw [hln], hcell, blk_frozen hh i⟩
section
variable {B : Nat} {a w w1 : World} {b : Nat} {rv dv ev tv rv1 dv1 ev1 tv1 : Value} {rs ds ts rs1 ds1 ts1 : List ByteArray} {es es1 : List Int} {F : Nat → Prop}
theorem fam_yb : Fam B (YB B b rs ds es ts) where
  lt := by
    rintro F w i ⟨rv, dv, ev, tv, h, rfl⟩ (e | e | e | e | e)
    · exact e ▸ ⟨blk_lt h.box, h.lo⟩
    · exact ⟨own_lt h.rcs i e.symm, own_base h.rcs i e.symm⟩
    · exact ⟨own_lt h.dsk i e.symm, own_base h.dsk i e.symm⟩
    · exact ⟨own_lt h.eps i e.symm, own_base h.eps i e.symm⟩
    · exact ⟨own_lt h.txs i e.symm, own_base h.txs i e.symm⟩
  ch := by
    rintro F w w' S ⟨rv, dv, ev, tv, h, rfl⟩ hc hs
    exact ⟨rv, dv, ev, tv, h.ch hc (hs b (.inl rfl)) (fun k e => hs k (.inr (.inl e.symm))) (fun k e => hs k (.inr (.inr (.inl e.symm)))) (fun k e => hs k (.inr (.inr (.inr (.inl e.symm))))) (fun k e => hs k (.inr (.inr (.inr (.inr e.symm))))), rfl⟩
theorem turned_rs (h : RS B w1 b rv1 dv1 ev1 tv1 rs1 ds1 es1 ts1) (hc : Ch (FB b rv dv ev tv) w w1) (h0 : ∀ k, rv1.ownBlock = some k → rv.ownBlock = some k ∨ w.heap.size ≤ k) (h1 : ∀ k, dv1.ownBlock = some k → dv.ownBlock = some k ∨ w.heap.size ≤ k)
    (h2 : ∀ k, ev1.ownBlock = some k → ev.ownBlock = some k ∨ w.heap.size ≤ k) (h3 : ∀ k, tv1.ownBlock = some k → tv.ownBlock = some k ∨ w.heap.size ≤ k) : Turned (YB B b rs1 ds1 es1 ts1) (FB b rv dv ev tv) w w1 := by
  refine ⟨FB b rv1 dv1 ev1 tv1, ⟨rv1, dv1, ev1, tv1, h, rfl⟩, hc, ?_⟩
  rintro i (e | e | e | e | e)
  · exact .inl (.inl e)
  · rcases h0 i e.symm with e2 | e2
    · exact .inl (.inr (.inl e2.symm))
    · exact .inr e2
  · rcases h1 i e.symm with e2 | e2
    · exact .inl (.inr (.inr (.inl e2.symm)))
    · exact .inr e2
  · rcases h2 i e.symm with e2 | e2
    · exact .inl (.inr (.inr (.inr (.inl e2.symm))))
    · exact .inr e2
  · rcases h3 i e.symm with e2 | e2
    · exact .inl (.inr (.inr (.inr (.inr e2.symm))))
    · exact .inr e2
theorem apply_y (at' : Int) (s : ByteArray) (h : YB B b rs ds es ts F w) (hB : B ≤ w.heap.size) (hat : at' = rs.length) (hl : rs.length < 400) :
    Calls Try.prog 17 #[.pointer (some ⟨b, 0, none⟩), .int .i64 at', .string s] w fun e w' => e = .returned (.int .i64 0) ∧ Turned (YB B b (rs ++ [s]) ds es ts) F w w' := by
  obtain ⟨rv, dv, ev, tv, h, rfl⟩ := h
  refine (rapply_any at' s w h hB hat hl).mono ?_
  rintro e w1 ⟨v1, rfl, ht, hc, hv⟩
  exact ⟨rfl, turned_rs ht (hc.mono fun i _ e => .inl e) (fun k e => .inr (hv k e)) (fun k e => .inl e) (fun k e => .inl e) (fun k e => .inl e)⟩
theorem apply_yn (k : Int) (s : ByteArray) (h : YB B b rs ds es ts F w) (hk : k ≠ rs.length) :
    Calls Try.prog 17 #[.pointer (some ⟨b, 0, none⟩), .int .i64 k, .string s] w fun e w' => e = .returned (.int .i64 7) ∧ w = w' := by
  obtain ⟨rv, dv, ev, tv, h, rfl⟩ := h
  exact rapply_no k s w h hk
theorem load_y (A : Option Addr) (c : Nat) (l : List ByteArray) (h : YB B b rs ds es ts F w) (hB : B ≤ w.heap.size) (hrd : RdS w A l) (hl : rs.length < l.length) (hl4 : l.length ≤ 400) :
    Calls Try.prog 18 #[.pointer (some ⟨b, 0, none⟩), .slice A l.length c] w fun e w' => e = .returned (.int .i64 0) ∧ Turned (YB B b l ds es ts) F w w' := by
  obtain ⟨rv, dv, ev, tv, h, rfl⟩ := h
  refine (rload_any A c l w h hB hrd hl hl4).mono ?_
  rintro e w1 ⟨v1, rfl, ht, hc, hv⟩
  exact ⟨rfl, turned_rs ht (hc.mono fun i _ e => .inl e) (fun k e => .inr (hv k e)) (fun k e => .inl e) (fun k e => .inl e) (fun k e => .inl e)⟩
theorem load_yn (A : Option Addr) (la c : Nat) (h : YB B b rs ds es ts F w) (hl : la ≤ rs.length) :
    Calls Try.prog 18 #[.pointer (some ⟨b, 0, none⟩), .slice A la c] w fun e w' => e = .returned (.int .i64 7) ∧ w = w' := by
  obtain ⟨rv, dv, ev, tv, h, rfl⟩ := h
  exact rload_no A la c w h hl
theorem sync_y (h : YB B b rs ds es ts F w) (hB : B ≤ w.heap.size) (hl : rs.length ≤ 100000) :
    Calls Try.prog 19 #[.pointer (some ⟨b, 0, none⟩)] w fun e w' => e = .returned (.tuple #[]) ∧ Turned (YB B b rs rs es ts) F w w' := by
  obtain ⟨rv, dv, ev, tv, h, rfl⟩ := h
  refine (rsync_any w h hB hl).mono ?_
  rintro e w1 ⟨v1, rfl, ht, hc, hv⟩
  exact ⟨rfl, turned_rs ht (hc.mono fun i _ e => .inl e) (fun k e => .inl e) (fun k e => .inr (hv k e)) (fun k e => .inl e) (fun k e => .inl e)⟩
theorem crash_y (h : YB B b rs ds es ts F w) (hB : B ≤ w.heap.size) (hl : ds.length ≤ 100000) :
    Calls Try.prog 20 #[.pointer (some ⟨b, 0, none⟩)] w fun e w' => e = .returned (.tuple #[]) ∧ Turned (YB B b ds ds [] []) F w w' := by
  obtain ⟨rv, dv, ev, tv, h, rfl⟩ := h
  refine (rcrash_any w h hB hl).mono ?_
  rintro e w1 ⟨v1, rfl, ht, hc, hv⟩
  exact ⟨rfl, turned_rs ht (hc.mono fun i _ e => .inl e) (fun k e => .inr (hv k e)) (fun k e => .inl e) (fun k e => absurd e (nil_block k)) (fun k e => absurd e (nil_block k))⟩
theorem last_y (h : YB B b rs ds es ts F w) (h8 : es.length ≤ 8) : Calls Try.prog 24 #[.pointer (some ⟨b, 0, none⟩)] w fun e w' => (∃ m : Int, e = .returned (.int .i64 m) ∧ RLast es m) ∧ w = w' := by
  obtain ⟨rv, dv, ev, tv, h, rfl⟩ := h
  exact rlast_any w h h8
theorem dict_y (x : Int) (h : YB B b rs ds es ts F w) (h8 : es.length ≤ 8) (hl : ts.length = es.length) (h0 : x ≠ 0) :
    Calls Try.prog 23 #[.pointer (some ⟨b, 0, none⟩), .int .i64 x] w fun e w' => (∃ t has, e = .returned (.tuple #[.string t, .bool has]) ∧ DictIs es ts x t has) ∧ w = w' := by
  obtain ⟨rv, dv, ev, tv, h, rfl⟩ := h
  exact rdict_any x w h h8 hl h0
abbrev FK : Nat := 21
def RKp (es : List Int) (ts : List ByteArray) (x : Int) (s : ByteArray) (B b : Nat) (rs ds : List ByteArray) (F : Nat → Prop) (w : World) : Prop := ∃ es1 ts1, RKept es ts x s (keepR x s) es1 ts1 ∧ YB B b rs ds es1 ts1 F w
theorem keepR_ok {x : Int} {s : ByteArray} (h1 : ¬ x < 1) (h2 : ¬ 256 < s.size) : keepR x s = 0 := by unfold keepR; rw [if_neg h1, if_neg h2]
theorem rkept_ok {x : Int} {s : ByteArray} (h1 : ¬ x < 1) (h2 : ¬ 256 < s.size)
    (h : (∃ k, k < es.length ∧ es.getD k 0 = x ∧ es1 = es.set k x ∧ ts1 = ts.set k s) ∨ ((∀ i, i < es.length → es.getD i 0 ≠ x) ∧ es.length ≠ 8 ∧ es1 = es ++ [x] ∧ ts1 = ts ++ [s]) ∨
     ((∀ i, i < es.length → es.getD i 0 ≠ x) ∧ es.length = 8 ∧ ∃ k, k < 8 ∧ (∀ j, j < 8 → es.getD k 0 ≤ es.getD j 0) ∧ es1 = es.set k x ∧ ts1 = ts.set k s)) : RKept es ts x s (keepR x s) es1 ts1 := by
  rw [keepR_ok h1 h2]
  unfold RKept
  rw [if_neg h1, if_neg h2]
  exact ⟨rfl, h⟩
set_option maxRecDepth 100000 in
theorem rkeep_over (x : Int) (s : ByteArray) (w : World) (h : RS B w b rv dv ev tv rs ds es ts) (hB : B ≤ w.heap.size) (h8 : es.length ≤ 8) (hl : ts.length = es.length) (h1 : 1 ≤ x) (h2 : s.size ≤ 256) (hf : ∃ k : Nat, k < es.length ∧ es.getD k 0 = x) :
    Calls Try.prog FK #[.pointer (some ⟨b, 0, none⟩), .int .i64 x, .string s] w fun e w' => e = .returned (.int .i64 0) ∧ Turned (RKp es ts x s B b rs ds) (FB b rv dv ev tv) w w' := by
  have hk0 : ¬ x < 1 := by omega
  have hs : ¬ (256 : Int) < (s.size : Int) := by omega
  have H := Aside0.mk h
  have HF := Aside0.mk hf
  clear hf h
  go_enter Try.func21, Try.ntmps21
  go_wp2_with fail
  refine (at_any x _ H.out h8).mono ?_
  rintro e w1 ⟨⟨r, rfl, hr⟩, rfl⟩
  rcases hr with ⟨rfl, hn⟩ | ⟨k, hk, rfl, he⟩
  · obtain ⟨k, hk, e⟩ := HF.out
    exact absurd e (hn k hk)
  have HE := Aside0.mk he
  have hk8 : k < 8 := by omega
  have hkt : k < ts.length := by omega
  obtain ⟨ge, ce, rfl, hce, hfe⟩ := num_row H.out.eps k hk
  obtain ⟨gt, ct, rfl, _, hct0, hct, hft⟩ := own_row H.out.txs (by omega)
  have c2 : w.cell? ⟨b, 2, none⟩ = some (.slice (some ⟨ge, 0, none⟩) es.length ce) := (blk_cell H.out.box 2).trans rfl
  have H2 := Aside0.mk (H.out.over2 k hk x)
  have c3 : (w.setCell ⟨ge, k, none⟩ (.int .i64 x)).cell? ⟨b, 3, none⟩ = some (.slice (some ⟨gt, 0, none⟩) ts.length ct) := (blk_cell H2.out.box 3).trans rfl
  obtain ⟨gt2, ct2, e2, _, _, hct2, hft2⟩ := own_row H2.out.txs (by omega)
  obtain ⟨rfl, rfl⟩ : gt = gt2 ∧ ct = ct2 := by simpa using e2
  have hcc := hct2 k hkt
  have hff := hft2 k
  clear he hct hft hct2 hft2 e2
  generalize ts.getD k ByteArray.empty = y at hcc
  generalize es.getD k 0 = z at hce
  go_wp2
  go_ret
  exact ⟨rfl, (turned_rs (H2.out.over3 k hkt s) (((Ch.refl (FB b rv dv _ _) w).set (.inr (.inr (.inr (.inl rfl))))).set (.inr (.inr (.inr (.inr rfl))))) (fun k e => .inl e) (fun k e => .inl e) (fun k e => .inl e) (fun k e => .inl e)).mono fun F w hx => ⟨_, _, rkept_ok (by omega) (by omega) (.inl ⟨k, hk, HE.out, rfl, rfl⟩), hx⟩⟩
end
end Go.Proofs.Ytfijbhacobjjgac
