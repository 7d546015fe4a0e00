/- SchedRuns: the two schedules side by side. -/
import Derived.Test.YtfijbhacobjjgagSameA
namespace Go.Proofs.Ytfijbhacobjjgag
open Go.RowKit Go.Proofs.YtfijbhacobjjgagW.PrintWords Go.Proofs.YtfijbhacobjjgagW.PrintLast Go.Proofs.YtfijbhacobjjgagW.PrintMore Go.Proofs.Ytfijbhacobjjgag.Fr
set_option linter.unusedVariables false
set_option linter.unusedSimpArgs false
attribute [local go_sem] max2_int min2_int max_two min_two

open Pl Hp
abbrev EN : Int := 1099511627776
def FX (s : Nat) (v : Value) (i : Nat) : Prop := i = s ∨ some i = v.ownBlock
def XD (B s : Nat) (now ord : Int) (D : List E) (F : Nat → Prop) (w : World) : Prop := ∃ v H, SC B w s v now ord H ∧ Sch ez H D ord ∧ F = FX s v
section
variable {B s b : Nat} {w w1 : World} {now ord : Int} {D : List E} {F : Nat → Prop} {pa pt : Option (Nat × Nat)} {ca ct : Nat} {v v1 : Value} {H1 : List E}
theorem fam_xd : Fam B (XD B s now ord D) where
  lt := by
    rintro F w i ⟨v, H, h, _, rfl⟩ (e | e)
    · exact e ▸ ⟨blk_lt h.box, h.lo⟩
    · exact ⟨own_lt h.row i e.symm, own_base h.row i e.symm⟩
  ch := by
    rintro F w w' S ⟨v, H, h, hs, rfl⟩ hc hS
    exact ⟨v, H, h.ch hc (hS s (.inl rfl)) (fun k e => hS k (.inr e.symm)), hs, rfl⟩
theorem turned_x {now1 ord1 : Int} {D1 : List E} (h : SC B w1 s v1 now1 ord1 H1) (hs : Sch ez H1 D1 ord1) (hc : Ch (fun k => k = s ∨ some k = v.ownBlock) w w1) (hv : ∀ k, v1.ownBlock = some k → v.ownBlock = some k ∨ w.heap.size ≤ k) : Turned (XD B s now1 ord1 D1) (FX s v) w w1 := by
  refine ⟨FX s v1, ⟨v1, H1, h, hs, rfl⟩, hc, ?_⟩
  rintro i (e | e)
  · exact .inl (.inl e)
  · rcases hv i e.symm with h2 | h2
    · exact .inl (.inr h2.symm)
    · exact .inr h2
theorem turned_y {now1 : Int} {D1 : List E} {pa1 pt1 : Option (Nat × Nat)} {ca1 ct1 : Nat} (h : DS B w1 b pa1 pt1 ca1 ct1 now1 D1) (hc : Ch (fun i => i = b) w w1) (ha : ∀ q, pa1 = some q → FY b pa pt q.1 ∨ w.heap.size ≤ q.1) (ht : ∀ q, pt1 = some q → FY b pa pt q.1 ∨ w.heap.size ≤ q.1) : Turned (YD B b now1 D1) (FY b pa pt) w w1 := by
  refine ⟨FY b pa1 pt1, ⟨pa1, pt1, ca1, ct1, h, rfl⟩, hc.mono (fun i _ e => .inl e), ?_⟩
  rintro i (e | ⟨q, e, rfl⟩ | ⟨q, e, rfl⟩)
  · exact .inl (.inl e)
  · exact ha q e
  · exact ht q e
theorem Sub.fya {p1 : Option (Nat × Nat)} (h : Sub p1 pa) : ∀ q, p1 = some q → FY b pa pt q.1 := fun q e => by
  obtain ⟨q', e1, e2⟩ := h q e
  exact .inr (.inl ⟨q', e1, e2⟩)
theorem Sub.fyt {p1 : Option (Nat × Nat)} (h : Sub p1 pt) : ∀ q, p1 = some q → FY b pa pt q.1 := fun q e => by
  obtain ⟨q', e1, e2⟩ := h q e
  exact .inr (.inr ⟨q', e1, e2⟩)
/-! the program's -/
theorem put_x (after : Int) (a : Ac) (h : XD B s now ord D F w) (hB : B ≤ w.heap.size) (hl : D.length < 1000) (hn0 : 0 ≤ now) (hn1 : now ≤ 1099511627776) (ho0 : 0 ≤ ord) (ho1 : ord ≤ 1000000) :
    Calls Try.prog 8 #[.pointer (some ⟨s, 0, none⟩), .int .i64 after, actV a] w fun e w' => e = .returned (.bool true) ∧ Turned (XD B s now (ord + 1) (ins D ⟨putT now after, ord + 1, a⟩)) F w w' := by
  obtain ⟨v, H, h, hs, rfl⟩ := h
  refine (put_any after a w h hB (by rw [hs.len]; exact hl) hn0 hn1 ho0 ho1).mono ?_
  rintro e w1 ⟨v1, rfl, h1, hc, hv⟩
  exact ⟨rfl, turned_x h1 (hs.put ⟨putT now after, ord + 1, a⟩ rfl) hc hv⟩
theorem next_x {y : E} {r : List E} (h : XD B s now ord (y :: r) F w) (hl : r.length ≤ 1000) :
    Calls Try.prog 9 #[.pointer (some ⟨s, 0, none⟩)] w fun e w' => e = .returned (.tuple #[actV y.a, .bool true]) ∧ Turned (XD B s (max now y.t) ord r) F w w' := by
  obtain ⟨v, H, h, hs, rfl⟩ := h
  obtain ⟨hsn, hh0, hdn⟩ := hs.next
  have hHl : H.length = r.length + 1 := by rw [hs.len]; simp
  refine (next_any r.length w h hHl (by omega)).mono ?_
  rintro e w1 ⟨y', v1, hy', rfl, h1, hc, hv⟩
  have hyy : y' = y := by rw [hy', ← hdn, hHl, Nat.add_sub_cancel]
  subst hyy
  exact ⟨rfl, turned_x h1 hsn hc (fun k e => .inl (hv ▸ e))⟩
abbrev ZA : Value := .agg #[.int .i64 0, .int .i64 0, .int .i64 0, .bool false, .string ⟨#[]⟩]
theorem next_xn (h : XD B s now ord [] F w) : Calls Try.prog 9 #[.pointer (some ⟨s, 0, none⟩)] w fun e w' => e = .returned (.tuple #[ZA, .bool false]) ∧ Below w.heap.size w w' := by
  obtain ⟨v, H, h, hs, rfl⟩ := h
  obtain rfl : H = [] := List.eq_nil_of_length_eq_zero (by rw [hs.len]; rfl)
  exact next_none w h
theorem until_x (tm : Int) (h : XD B s now ord D F w) (hB : B ≤ w.heap.size) (hl : D.length ≤ 1000) (ht : ∀ x ∈ D, x.t ≤ 1099511627776) :
    Calls Try.prog 15 #[.pointer (some ⟨s, 0, none⟩), .int .i64 tm] w fun e w' => (∃ p c, e = .returned (.slice (ap p) (D.takeWhile (due tm)).length c) ∧ RdC w' p (acs ((D.takeWhile (due tm)).map (·.a))) ∧ ∀ q, p = some q → w.heap.size ≤ q.1) ∧ Turned (XD B s (max now (min tm 1099511627776)) ord (D.dropWhile (due tm))) F w w' := by
  obtain ⟨v, H, h, hs, rfl⟩ := h
  refine (until_any tm D w h hs ht hB (by rw [hs.len]; exact hl)).mono ?_
  rintro e w1 ⟨v1, H', A, c, rfl, hrow, h1, hs1, hc, hv⟩
  obtain ⟨p, c', e1, _, hr, hob, _⟩ := own_rdc hrow
  refine ⟨⟨p, c', by rw [e1], hr, fun q e => own_base hrow _ (hob q e)⟩, turned_x h1 hs1 hc (fun k e => .inl (hv ▸ e))⟩
theorem drop_x (n : Int) (h : XD B s now ord D F w) (hB : B ≤ w.heap.size) (hl : D.length ≤ 1000) :
    Calls Try.prog 17 #[.pointer (some ⟨s, 0, none⟩), .int .i64 n] w fun e w' => e = .returned (.int .i64 ((D.length : Int) - (dropE n D).length)) ∧ Turned (XD B s now ord (dropE n D)) F w w' := by
  obtain ⟨v, H, h, hs, rfl⟩ := h
  refine (sdrop_any n w h hB (by rw [hs.len]; exact hl)).mono ?_
  rintro e w1 ⟨v1, rfl, h1, hc, hv⟩
  have hp : (dropE n H).length = (dropE n D).length := (hs.perm.filter _).length_eq
  refine ⟨by rw [hp, hs.len], turned_x h1 (hs.drop _) (hc.mono fun i _ e => .inl e) (fun k e => .inr (hv k e))⟩
theorem now_x (h : XD B s now ord D F w) : Calls Try.prog 10 #[.pointer (some ⟨s, 0, none⟩)] w fun e w' => e = .returned (.int .i64 now) ∧ w = w' := by
  obtain ⟨v, H, h, hs, rfl⟩ := h
  exact now_any h
theorem len_x (h : XD B s now ord D F w) : Calls Try.prog 11 #[.pointer (some ⟨s, 0, none⟩)] w fun e w' => e = .returned (.int .i64 D.length) ∧ w = w' := by
  obtain ⟨v, H, h, hs, rfl⟩ := h
  rw [← hs.len]
  exact len_any h
theorem peek_x {y : E} {r : List E} (h : XD B s now ord (y :: r) F w) (hl : r.length ≤ 1000) : Calls Try.prog 19 #[.pointer (some ⟨s, 0, none⟩)] w fun e w' => e = .returned (.tuple #[.int .i64 y.t, .bool true]) ∧ w = w' := by
  obtain ⟨v, H, h, hs, rfl⟩ := h
  have hH := hs.len
  simp at hH
  have hf := hs.first (by omega)
  rw [List.getD_cons_zero] at hf
  rw [← hf]
  exact peek_any h (by omega) (by omega)
theorem peek_xn (h : XD B s now ord [] F w) : Calls Try.prog 19 #[.pointer (some ⟨s, 0, none⟩)] w fun e w' => e = .returned (.tuple #[.int .i64 0, .bool false]) ∧ w = w' := by
  obtain ⟨v, H, h, hs, rfl⟩ := h
  obtain rfl : H = [] := List.eq_nil_of_length_eq_zero (by rw [hs.len]; rfl)
  exact peek_none h
/-! the document's -/
theorem put_y (after : Int) (a : Ac) (ord : Int) (h : YD B b now D F w) (hB : B ≤ w.heap.size) (hl : D.length < 1000) (hn0 : 0 ≤ now) (hn1 : now ≤ 1099511627776) :
    Calls Try.prog 12 #[.pointer (some ⟨b, 0, none⟩), .int .i64 after, actV a] w fun e w' => e = .returned (.bool true) ∧ Turned (YD B b now (ins D ⟨putT now after, ord, a⟩)) F w w' := by
  obtain ⟨pa, pt, ca, ct, h, rfl⟩ := h
  refine (rput_any after a ord w h hB hl hn0 hn1).mono ?_
  rintro e w1 ⟨pa1, pt1, ca1, ct1, rfl, h1, hc, ha, ht⟩
  exact ⟨rfl, turned_y h1 hc (fun q e => .inr (ha q e)) (fun q e => .inr (ht q e))⟩
theorem next_y {y : E} {r : List E} (h : YD B b now (y :: r) F w) : Calls Try.prog 13 #[.pointer (some ⟨b, 0, none⟩)] w fun e w' => e = .returned (.tuple #[actV y.a, .bool true]) ∧ Turned (YD B b (max now y.t) r) F w w' := by
  obtain ⟨pa, pt, ca, ct, h, rfl⟩ := h
  refine (rnext_any y r w h).mono ?_
  rintro e w1 ⟨rfl, h1, hc⟩
  exact ⟨rfl, turned_y h1 hc (fun q e => .inl (((Sub.refl pa).cut _ _ _).fya q e)) (fun q e => .inl (((Sub.refl pt).cut _ _ _).fyt q e))⟩
theorem next_yn (h : YD B b now [] F w) : Calls Try.prog 13 #[.pointer (some ⟨b, 0, none⟩)] w fun e w' => e = .returned (.tuple #[ZA, .bool false]) ∧ Below w.heap.size w w' := by
  obtain ⟨pa, pt, ca, ct, h, rfl⟩ := h
  exact rnext_none w h
theorem until_y (tm : Int) (h : YD B b now D F w) (hB : B ≤ w.heap.size) (hl : D.length ≤ 1000) (ht : ∀ x ∈ D, x.t ≤ 1099511627776) (hn0 : 0 ≤ now) :
    Calls Try.prog 16 #[.pointer (some ⟨b, 0, none⟩), .int .i64 tm] w fun e w' => (∃ p c, e = .returned (.slice (ap p) (D.takeWhile (due tm)).length c) ∧ RdC w' p (acs ((D.takeWhile (due tm)).map (·.a))) ∧ ∀ q, p = some q → w.heap.size ≤ q.1) ∧ Turned (YD B b (max now (min tm 1099511627776)) (D.dropWhile (due tm))) F w w' := by
  obtain ⟨pa, pt, ca, ct, h, rfl⟩ := h
  refine (runtil_any tm w h hB ht hl).mono ?_
  rintro e w1 ⟨pa1, pt1, ca1, ct1, A, c, rfl, hrow, h1, hc, ha, ht⟩
  obtain ⟨p, c', e1, _, hr, hob, _⟩ := own_rdc hrow
  have hbr : max now (brI tm 0 1099511627776) = max now (min tm 1099511627776) := by unfold brI; omega
  rw [hbr] at h1
  exact ⟨⟨p, c', by rw [e1], hr, fun q e => own_base hrow _ (hob q e)⟩, turned_y h1 hc (fun q e => .inl (ha.fya q e)) (fun q e => .inl (ht.fyt q e))⟩
theorem drop_y (n : Int) (h : YD B b now D F w) (hB : B ≤ w.heap.size) (hl : D.length ≤ 1000) :
    Calls Try.prog 18 #[.pointer (some ⟨b, 0, none⟩), .int .i64 n] w fun e w' => e = .returned (.int .i64 ((D.length : Int) - (dropE n D).length)) ∧ Turned (YD B b now (dropE n D)) F w w' := by
  obtain ⟨pa, pt, ca, ct, h, rfl⟩ := h
  refine (rdrop_any n w h hB hl).mono ?_
  rintro e w1 ⟨pa1, pt1, ca1, ct1, rfl, h1, hc, ha, ht⟩
  exact ⟨rfl, turned_y h1 hc (fun q e => .inr (ha q e)) (fun q e => .inr (ht q e))⟩
/-- The document's, its parts named. -/
def YP (B b : Nat) (pa pt : Option (Nat × Nat)) (ca ct : Nat) (now : Int) (D : List E) (F : Nat → Prop) (w : World) : Prop := DS B w b pa pt ca ct now D ∧ F = FY b pa pt
theorem fam_yp : Fam B (YP B b pa pt ca ct now D) where
  lt := by rintro F w i ⟨h, e⟩ hi; exact fam_yd.lt F w i ⟨_, _, _, _, h, e⟩ hi
  ch := by
    rintro F w w' S ⟨h, rfl⟩ hc hs
    exact ⟨h.ch hc hs, rfl⟩
section
variable {a : World} {bx : Option (Nat × Obj)} {X Y : (Nat → Prop) → World → Prop}
theorem Duo.named (h : Duo B a bx X (YD B b now D) w) : ∃ pa pt ca ct, Duo B a bx X (YP B b pa pt ca ct now D) w := by
  obtain ⟨⟨F, H, hx, ⟨pa, pt, ca, ct, hr, rfl⟩, hd, hg⟩, bel, hB⟩ := h
  exact ⟨pa, pt, ca, ct, ⟨F, _, hx, ⟨hr, rfl⟩, hd, hg⟩, bel, hB⟩
theorem Duo.unnamed (h : Duo B a bx X (YP B b pa pt ca ct now D) w) : Duo B a bx X (YD B b now D) w := h.mono (fun _ _ h => h) (fun _ _ h => ⟨_, _, _, _, h.1, h.2⟩)
theorem Duo.refAt (h : Duo B a bx X (YP B b pa pt ca ct now D) w) : DS B w b pa pt ca ct now D := h.exY.choose_spec.1
end
theorem duo_start {w0 w : World} {v : Value} (h : SC w0.heap.size w s (.slice none 0 0) 0 0 []) (hb : Below w0.heap.size w0 w) : Duo w0.heap.size w0 none (XD w0.heap.size s 0 0 []) (YD w0.heap.size w.heap.size 0 []) (w.alloc (.cells #[.int .i64 0, .slice none 0 0, .slice none 0 0] 38)) := by
  have hs := blk_lt h.box
  have hal : Below w.heap.size w (w.alloc (.cells #[.int .i64 0, .slice none 0 0, .slice none 0 0] 38)) := below_alloc (Below.refl _ _) _
  refine ⟨⟨FX s (.slice none 0 0), FY w.heap.size none none, ⟨_, [], h.below hal, Sch.new ez, rfl⟩, ⟨none, none, 0, 0, ⟨blk_new w _, fun j u hu => by simp [aas, acs] at hu, fun j u hu => by simp [tms] at hu, by simp, by simp, fun q e => (by cases e), fun q e => (by cases e), fun _ => rfl, fun _ => rfl, hb.size⟩, rfl⟩, ?_, fun p e => by cases e⟩, below_step hb hal, Nat.le_trans hb.size hal.size⟩
  rintro i (e | e) (e2 | ⟨q, e2, _⟩ | ⟨q, e2, _⟩)
  · omega
  · cases e2
  · cases e2
  · simp [Value.ownBlock] at e
  · cases e2
  · cases e2
end
end Go.Proofs.Ytfijbhacobjjgag
