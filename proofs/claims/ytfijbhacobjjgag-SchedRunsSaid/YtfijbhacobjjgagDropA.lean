/- A schedule's Drop. -/
import Derived.Test.YtfijbhacobjjgagInitA
import Derived.Test.YtfijbhacobjjgagNums
namespace Go.Proofs.Ytfijbhacobjjgag
open Go.RowKit Go.Proofs.YtfijbhacobjjgagW.PrintWords Go.Proofs.YtfijbhacobjjgagW.PrintLast Go.Proofs.YtfijbhacobjjgagW.PrintMore Go.Proofs.Ytfijbhacobjjgag.Fr
set_option linter.unusedVariables false
set_option linter.unusedSimpArgs false
attribute [local go_sem] max2_int min2_int max_two min_two

open Pl Hp
theorem app_cells {P : Program} {ops : Array Oper} {rest : List Oper} {o : Oper} {a : Act} {Q : Exit → Act → World → Prop} {w0 W : World} (base : Nat) (hgd : o.guard = none) (s x : Operand) (t e : TypeId) (z : Value) (size bytes : Nat) (k : Nat)
    (ho : o.op = .call { callee := .builtin .append, args := #[s, x], argTypes := #[t, t] })
    (ht : P.underlying t = some (.slice e)) (hinfo : (P.info? e).map (fun i => (i.zero, i.size, i.bytes)) = some (some z, size, bytes)) (hz : z.cells.size = size) (hs0 : 0 < size) (hb0 : 0 < bytes)
    (v : Value) (n : Nat) (xs ys : List Value) (hs : a.eval s = v) (hx : a.eval x = .slice (some ⟨k, 0, none⟩) 1 1) (hk : W.heap.size = k) (hys : ys.length = size) (h1 : ∀ u ∈ ys, u.oneCell' = true)
    (HO : W.ownsRow base e size v n xs) (HB : Below base w0 W) (hbase : base ≤ k) (hl : (n + 1) * bytes ≤ 140737488355328)
    (h : ∀ v1 w1, w1.ownsRow base e size v1 (n + 1) (xs ++ ys) → Below base w0 w1 → W.grownBy w1 v.ownBlock → (v1.ownBlock = v.ownBlock ∨ ∃ b, v1.ownBlock = some b ∧ k ≤ b) → wpList P ops Q rest (a.put o.dst v1) w1) :
    wpList P ops Q (o :: rest) a (W.alloc (.cells ys.toArray e)) := by
  subst hk
  exact print_append_cells base hgd s x t e z size bytes ho ht hinfo hz hs0 hb0 v n xs ys hs hx hys h1 HO HB hbase hl h
theorem ini_len (i : Nat) : ∀ (l : List E), (ini elt ez l i).length = l.length := by
  induction i with
  | zero => intro l; rfl
  | succ i ih => intro l; rw [ini, ih, (down_perm elt ez l.length (l.length - i) i l rfl (Nat.le_refl _)).2.1]
def dropE (n : Int) (l : List E) : List E := l.filter (fun e => !(e.a.nd == n))
theorem dropE_len (n : Int) (l : List E) : (dropE n l).length ≤ l.length := List.length_filter_le _ _
theorem dropE_step (n : Int) (l : List E) (i : Nat) (hi : i < l.length) : dropE n (l.take (i + 1)) = if (l.getD i ez).a.nd = n then dropE n (l.take i) else dropE n (l.take i) ++ [l.getD i ez] := by
  unfold dropE
  rw [List.take_succ_eq_append_getElem hi, List.filter_append, List.getD_eq_getElem?_getD, List.getElem?_eq_getElem hi]
  by_cases h : l[i].a.nd = n
  · simp [h]
  · simp [h]
theorem infoE7 : (Try.prog.info? 57).map (fun i => (i.zero, i.size, i.bytes)) = some (some (.agg #[.int .i64 0, .int .i64 0, .int .i64 0, .int .i64 0, .int .i64 0, .bool false, .string ByteArray.empty]), 7, 64) := by kernel_rfl
section
variable {B s : Nat} {w w1 : World} {v v1 : Value} {now ord : Int} {l l1 : List E}
theorem _root_.Go.Proofs.Ytfijbhacobjjgag.Fr.Ch.onto2 {S : Nat → Prop} {w w1 w2 : World} {g : Nat} (h : Ch S w w1) (k : Ch (fun i => i = g) w1 w2) (hg : w.heap.size ≤ g) : Ch S w w2 :=
  ⟨k.os.trans h.os, k.tape.trans h.tape, k.output.trans h.output, Nat.le_trans h.size k.size, fun i hi hs => (k.block i (Nat.lt_of_lt_of_le hi h.size) (by omega)).trans (h.block i hi hs)⟩
def SDropPost (B s : Nat) (now ord : Int) (l : List E) (n : Int) (W : World) (e : Ending) (w' : World) : Prop :=
  ∃ v1, e = .returned (.int .i64 ((l.length : Int) - (dropE n l).length)) ∧ SC B w' s v1 now ord (ini elt ez (dropE n l) ((dropE n l).length / 2)) ∧ Ch (fun k => k = s) W w' ∧ ∀ k, v1.ownBlock = some k → W.heap.size ≤ k
theorem SC.reads (h : SC B w s v now ord l) {A : Option Addr} {m c : Nat} (hv : v = .slice A m c) (i : Nat) (hi : i < l.length) : ∃ g c2, A = some ⟨g, 0, none⟩ ∧ HR B w g c2 l := by
  rcases h.row.2 with ⟨_, h0⟩ | ⟨g, cap, cur, e, _⟩
  · omega
  · have e2 := e
    rw [hv] at e2
    cases e2
    have hr := h.row
    rw [hv] at hr
    exact ⟨g, c, rfl, hr⟩
set_option maxHeartbeats 2000000 in
theorem sdrop_any (n : Int) (w0 : World) (h : SC B w0 s v now ord l) (hB : B ≤ w0.heap.size) (hl : l.length ≤ 1000) :
    Calls Try.prog 17 #[.pointer (some ⟨s, 0, none⟩), .int .i64 n] w0 (SDropPost B s now ord l n w0) := by
  obtain ⟨A, c, hv, hlc⟩ := h.slice
  have c0 : w0.cell? ⟨s, 0, none⟩ = some (.slice A l.length c) := hv ▸ (blk_cell h.box 0).trans rfl
  obtain ⟨m, hm⟩ : ∃ m, l.length = m := ⟨_, rfl⟩
  have H := Aside0.mk (And.intro h (And.intro hv hm))
  rw [hm] at c0 hl
  clear h hv hlc hm
  go_enter Try.func17, Try.ntmps17
  go_wp2_with fail
  go_loopg [5, 16] m (fun d x5 x16 wr => ∃ (i : Nat) (o : List E) (A1 : Option Addr) (c1 : Nat), Aside0 (i + d = m) ∧ x16 = .int .i64 i ∧ x5 = .slice A1 o.length c1 ∧ Aside0 (o = dropE n (l.take i) ∧ o.length ≤ i ∧ (o = [] → A1 = none ∧ c1 = 0)) ∧ Aside0 (wr.ownsRow w0.heap.size 57 7 (.slice A1 o.length c1) o.length (ents o) ∧ Below w0.heap.size w0 wr))
  case atStart => exact ⟨0, [], none, 0, ⟨by omega⟩, rfl, rfl, ⟨by simp [dropE]⟩, ⟨own_nil _ _ _ _, Below.refl _ _⟩⟩
  case round =>
    obtain ⟨i, o, A1, c1, HI, rfl, rfl, HO, HW⟩ := hrel
    by_cases hlt : i < m
    · obtain ⟨g, c2, rfl, hr⟩ := (H.out.1.below HW.out.2).reads H.out.2.1 i (by have := H.out.2.2; omega)
      have hc := hr.cells i (by have := H.out.2.2; omega)
      obtain ⟨x, hx⟩ : ∃ x, l.getD i ez = x := ⟨_, rfl⟩
      rw [hx] at hc
      obtain ⟨b0, b1, b2, b3, b4, b5, b6⟩ := hc
      have HST : Aside0 (dropE n (l.take (i + 1)) = if x.a.nd = n then o else o ++ [x]) := ⟨by rw [dropE_step n l i (by have := H.out.2.2; omega), hx, HO.out.1]⟩
      clear hr hx
      have hal : Below wr.heap.size wr (wr.alloc (.cells #[.int .i64 x.t, .int .i64 x.o, .int .i64 x.a.k, .int .i64 x.a.nd, .int .i64 x.a.n, .bool x.a.up, .string x.a.s] 57)) := below_alloc (Below.refl _ _) _
      have HW1 : Aside0 ((wr.alloc (.cells #[.int .i64 x.t, .int .i64 x.o, .int .i64 x.a.k, .int .i64 x.a.nd, .int .i64 x.a.n, .bool x.a.up, .string x.a.s] 57)).ownsRow w0.heap.size 57 7 (.slice A1 o.length c1) o.length (ents o) ∧ Below w0.heap.size w0 (wr.alloc (.cells #[.int .i64 x.t, .int .i64 x.o, .int .i64 x.a.k, .int .i64 x.a.nd, .int .i64 x.a.n, .bool x.a.up, .string x.a.s] 57))) := ⟨pw_own_below HW.out.1 hal, below_step HW.out.2 hal⟩
      have hsz1 : w0.heap.size ≤ wr.heap.size + 1 := Nat.le_succ_of_le HW.out.2.size
      have HSZ := Aside0.mk hsz1
      have hks : (wr.alloc (.cells #[.int .i64 x.t, .int .i64 x.o, .int .i64 x.a.k, .int .i64 x.a.nd, .int .i64 x.a.n, .bool x.a.up, .string x.a.s] 57)).heap.size = wr.heap.size + 1 := by simp
      have HKS := Aside0.mk hks
      clear hal HW hsz1 hks
      by_cases hn : x.a.nd = n
      · have hq : (x.a.nd != n) = false := by simp [hn]
        have HE : Aside0 (dropE n (l.take (i + 1)) = o) := ⟨by rw [HST.out, if_pos hn]⟩
        clear hn HST
        go_wp2
        go_roundg (gk - 1)
        case measure => have := HI.out; omega
        case rel => exact ⟨i + 1, o, A1, c1, ⟨by have := HI.out; omega⟩, by go_num, rfl, ⟨HE.out.symm, by have := HO.out.2.1; omega, HO.out.2.2⟩, HW1⟩
      · have hq : (x.a.nd != n) = true := by simp [hn]
        have HE : Aside0 (dropE n (l.take (i + 1)) = o ++ [x]) := ⟨by rw [HST.out, if_neg hn]⟩
        clear hn HST
        go_wp2_with ((with_reducible refine gate_dst (N := 28) rfl ?_); refine app_cells (w0 := w0) w0.heap.size rfl (.tmp 25) (.tmp 27) 50 57 (.agg #[.int .i64 0, .int .i64 0, .int .i64 0, .int .i64 0, .int .i64 0, .bool false, .string ByteArray.empty]) 7 64 (wr.heap.size + 1) rfl Try.underlying50 infoE7 rfl (by decide) (by decide) (.slice A1 o.length c1) o.length (ents o) [.int .i64 x.t, .int .i64 x.o, .int .i64 x.a.k, .int .i64 x.a.nd, .int .i64 x.a.n, .bool x.a.up, .string x.a.s] rfl rfl HKS.out rfl (by simp [Value.oneCell']) HW1.out.1 HW1.out.2 HSZ.out (by have := HO.out; have := HI.out; omega) ?_; intro v1 w1 hown hbel hgrow hat; have HW2 := Aside0.mk (And.intro hown hbel); clear hown hbel hgrow hat)
        have hown2 : w1.ownsRow w0.heap.size 57 7 v1 (o ++ [x]).length (ents (o ++ [x])) := by
          rw [← ents_snoc, List.length_append]; exact HW2.out.1
        obtain ⟨g1, c3, rfl, _⟩ := own_some hown2
        have HW3 := Aside0.mk (And.intro hown2 HW2.out.2)
        clear hown2 HW2
        go_wp2
        go_roundg (gk - 1)
        case measure => have := HI.out; omega
        case rel => exact ⟨i + 1, o ++ [x], _, _, ⟨by have := HI.out; omega⟩, by go_num, rfl, ⟨HE.out.symm, by have := HO.out.2.1; rw [List.length_append]; simp; omega, fun e => by simp at e⟩, HW3⟩
    · have him : i = m := by have := HI.out; omega
      subst him
      have HOE : Aside0 (o = dropE n l ∧ o.length ≤ i ∧ (o = [] → A1 = none ∧ c1 = 0)) := ⟨by rw [← List.take_of_length_le (l := l) (Nat.le_of_eq H.out.2.2)]; exact HO.out.1, HO.out.2⟩
      have hbx := blk_below H.out.1.box HW.out.2
      rw [H.out.2.1, H.out.2.2] at hbx
      have k0 : wr.cell? ⟨s, 0, none⟩ = some (.slice A i c) := (blk_cell hbx 0).trans rfl
      have f0 := blk_frozen hbx 0
      have hii : ¬ (i : Int) < i := by omega
      have hw1 : IntKind.i64.wrap ((i : Int) - o.length) = (i : Int) - o.length := by have := HO.out.2.1; rw [IntKind.wrap_i64]; omega
      have hbx2 : (wr.setCell ⟨s, 0, none⟩ (.slice A1 o.length c1)).heap[s]? = some (.cells #[.slice A1 o.length c1, .int .i64 now, .int .i64 ord] 52 (0, 0)) := blk_put hbx 0 _ rfl
      have hsl : s < w0.heap.size := blk_lt H.out.1.box
      have hrow : (wr.setCell ⟨s, 0, none⟩ (.slice A1 o.length c1)).ownsRow w0.heap.size 57 7 (.slice A1 o.length c1) o.length (ents o) := own_setCell HW.out.1 (fun e => by have := own_base HW.out.1 s e.symm; omega) _
      have hch : Ch (fun k => k = s) w0 (wr.setCell ⟨s, 0, none⟩ (.slice A1 o.length c1)) := (Ch.of_below HW.out.2).set rfl
      have HF := Aside0.mk (And.intro hbx2 (And.intro hrow (And.intro hch hsl)))
      clear hbx hbx2 hrow hch hlt HW HI HO
      go_wp2_with fail
      generalize wr.setCell ⟨s, 0, none⟩ (.slice A1 o.length c1) = W at HF ⊢
      rcases List.eq_nil_or_concat o with rfl | ⟨o', y, ho⟩
      · obtain ⟨rfl, rfl⟩ := HOE.out.2.2 rfl
        refine (init_nil s W ((blk_cell HF.out.1 0).trans rfl)).mono ?_
        rintro e w2 ⟨rfl, rfl⟩
        go_wp2
        go_ret
        refine ⟨.slice none 0 0, by rw [← HOE.out.1, H.out.2.2]; rfl, ⟨HF.out.1, ?_, by simp [Value.ownBlock], H.out.1.lo⟩, HF.out.2.2.1, fun k e => by simp [Value.ownBlock] at e⟩
        rw [← HOE.out.1]
        exact own_nil _ _ _ _
      · obtain ⟨g1, c3, e1, hb1⟩ : ∃ g c, (.slice A1 o.length c1 : Value) = .slice (some ⟨g, 0, none⟩) o.length c ∧ w0.heap.size ≤ g := by
          have := HF.out.2.1
          rw [ho, List.concat_eq_append] at this ⊢
          exact own_some this
        cases e1
        clear ho
        have hne : s ≠ g1 := fun e => by have := HF.out.2.2.2; omega
        have hh : HH w0.heap.size W s g1 c1 o := ⟨(blk_cell HF.out.1 0).trans rfl, HF.out.2.1, hne, Nat.lt_of_lt_of_le HF.out.2.2.2 HF.out.2.2.1.size⟩
        refine (init_any w0.heap.size s g1 c1 o.length W o hh rfl (by have := HOE.out; omega)).mono ?_
        rintro e w2 ⟨rfl, hw2, hc2⟩
        have HF2 := Aside0.mk (And.intro hw2 hc2)
        clear hw2 hc2 hh
        go_wp2
        go_ret
        refine ⟨.slice (some ⟨g1, 0, none⟩) o.length c1, by rw [← HOE.out.1, H.out.2.2]; rfl, ⟨HF2.out.2.blk HF.out.1 hne, ?_, fun e => hne (by cases e; rfl), H.out.1.lo⟩, HF.out.2.2.1.onto2 HF2.out.2 hb1, fun k e => by cases e; exact hb1⟩
        rw [← HOE.out.1]
        have := own_less HF2.out.1.row hB
        rw [ini_len] at this ⊢
        exact this
end
end Go.Proofs.Ytfijbhacobjjgag
