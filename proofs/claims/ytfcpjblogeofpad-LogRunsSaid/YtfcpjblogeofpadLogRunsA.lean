/- LogRuns: the two logs side by side, and the deed at hand; what each call does to them. -/
import Derived.Test.YtfcpjblogeofpadLogAwake
import Derived.Test.YtfcpjblogeofpadSteadyT
import Derived.Lib.SliceRun
namespace Go.Proofs.Ytfcpjblogeofpad
open Go.RowKit Go.Proofs.YtfcpjblogeofpadW.PrintWords Go.Proofs.YtfcpjblogeofpadW.PrintLast Go.Proofs.YtfcpjblogeofpadW.PrintMore Go.Proofs.Ytfcpjblogeofpad.Fr
set_option linter.unusedVariables false
set_option linter.unusedSimpArgs false

/-- Deeds that were handed in. -/
structure DeedAt (w : World) (A : Option Addr) (i : Nat) (x : Int × Int × ByteArray) : Prop where
  at3 : ∃ ad, A = some ad ∧ w.cell? (ad.add (i * 3)) = some (.int .u8 x.1) ∧ w.cell? (ad.add (i * 3 + 1)) = some (.int .i64 x.2.1) ∧ w.cell? (ad.add (i * 3 + 2)) = some (.string x.2.2)
  k0 : 0 ≤ x.1
  k1 : x.1 ≤ 255
def IsDeeds (w : World) (A : Option Addr) (len cap : Nat) : Prop := len ≤ cap ∧ ∀ i, i < len → ∃ x, DeedAt w A i x
theorem DeedAt.below {w w1 : World} {A : Option Addr} {i : Nat} {x : Int × Int × ByteArray} (h : DeedAt w A i x) (hb : Below w.heap.size w w1) : DeedAt w1 A i x := by
  obtain ⟨⟨ad, e, h1, h2, h3⟩, k0, k1⟩ := h
  exact ⟨⟨ad, e, pw_cell_below hb h1, pw_cell_below hb h2, pw_cell_below hb h3⟩, k0, k1⟩
theorem cell_off (x : Addr) {j : Nat} (hj : j ≠ 0) : x.add j = ⟨x.block, x.off + j, none⟩ := by unfold Addr.add; rw [if_neg hj]
/-- A log, and the document's. -/
structure Both (B : Nat) (a : World) (g h : Nat) (w : World) (v u : Value) (l l2 : List ByteArray) (base base2 : Nat) (bytes : Int) : Prop where
  log : LogIn B a w g v l base bytes
  ref : RefAt B w h u l2 base2
  hh : B ≤ h
  gh : g ≠ h
  vh : v.ownBlock ≠ some h
  ug : u.ownBlock ≠ some g
  uv : ∀ i, v.ownBlock = some i → u.ownBlock ≠ some i
/-- .. and a block of the call's own besides. -/
structure Run (B : Nat) (a : World) (g h gx : Nat) (o : Obj) (w : World) (v u : Value) (l l2 : List ByteArray) (base base2 : Nat) (bytes : Int) : Prop where
  both : Both B a g h w v u l l2 base base2 bytes
  x : w.heap[gx]? = some o
  xg : gx ≠ g
  xh : gx ≠ h
  xv : v.ownBlock ≠ some gx
  xu : u.ownBlock ≠ some gx
variable {B : Nat} {a w w1 : World} {g h gx : Nat} {o : Obj} {v u : Value} {l l2 : List ByteArray} {base base2 : Nat} {bytes : Int}
theorem Both.from (hx : Both B a g h w v u l l2 base base2 bytes) (k : Below w.heap.size w w1) : Both B a g h w1 v u l l2 base base2 bytes := ⟨hx.log.from k, hx.ref.below k, hx.hh, hx.gh, hx.vh, hx.ug, hx.uv⟩
theorem Run.from (hx : Run B a g h gx o w v u l l2 base base2 bytes) (k : Below w.heap.size w w1) : Run B a g h gx o w1 v u l l2 base base2 bytes := ⟨hx.both.from k, blk_below hx.x k, hx.xg, hx.xh, hx.xv, hx.xu⟩
theorem Both.run (hx : Both B a g h w v u l l2 base base2 bytes) (o : Obj) : Run B a g h w.heap.size o (w.alloc o) v u l l2 base base2 bytes :=
  ⟨hx.from (below_alloc (Below.refl _ _) _), blk_new w o, fun e => by have := blk_lt hx.log.log.box; omega, fun e => by have := blk_lt hx.ref.box; omega, fun e => by have := own_lt hx.log.log.row _ e; omega, fun e => by have := own_lt hx.ref.row _ e; omega⟩
def pushL (l : List ByteArray) (s : ByteArray) : List ByteArray := if 512 < s.size then l else l ++ [s]
def appN (l : List ByteArray) (s : ByteArray) : Int := if 512 < s.size then 0 else l.length
def appE (s : ByteArray) : Int := if 512 < s.size then 5 else 0
def addB (s : ByteArray) : Int := if 512 < s.size then 0 else s.size
theorem appA (s : ByteArray) (hx : Run B a g h gx o w v u l l2 base base2 bytes) (hl : l.length < 400) (hb0 : 0 ≤ bytes) (hb1 : bytes ≤ 1000000000) :
    Calls Try.prog 8 #[.pointer (some ⟨g, 0, none⟩), .string s] w fun e w' => ∃ v1, e = .returned (.tuple #[.int .i64 (appN l s), .int .i64 (appE s)]) ∧ Run B a g h gx o w' v1 u (pushL l s) l2 base base2 (bytes + addB s) := by
  by_cases hs : 512 < s.size
  · refine (append_long B g v l base bytes s w hs).mono ?_
    rintro e w1 ⟨rfl, rfl⟩
    refine ⟨v, by unfold appN appE; rw [if_pos hs, if_pos hs], ?_⟩
    unfold pushL addB
    rw [if_pos hs, if_pos hs, Int.add_zero]
    exact hx
  · refine (append_any B g v l base bytes s w hx.both.log.log hx.both.log.hB (by omega) hl hb0 hb1).mono ?_
    rintro e w1 ⟨v1, rfl, hl1, hc, hv⟩
    refine ⟨v1, by unfold appN appE; rw [if_neg hs, if_neg hs], ?_⟩
    unfold pushL addB
    rw [if_neg hs, if_neg hs]
    have hn : ∀ i, i < w.heap.size → v.ownBlock ≠ some i → v1.ownBlock ≠ some i := fun i hi h1 e => by
      rcases hv with e3 | ⟨b, e3, hb⟩
      · exact h1 (e3 ▸ e)
      · rw [e3] at e; cases e; omega
    refine ⟨⟨⟨hl1, onto hx.both.log.below hc hx.both.log.hB hx.both.log.hg (own_base hx.both.log.log.row), Nat.le_trans hx.both.log.hB hc.size, hx.both.log.hg⟩, ?_, hx.both.hh, hx.both.gh, ?_, hx.both.ug, ?_⟩, ?_, hx.xg, hx.xh, ?_, hx.xu⟩
    · exact hx.both.ref.ch hc (by rintro (e | e); exact hx.both.gh e.symm; exact hx.both.vh e.symm) (fun k e e2 => by rcases e2 with e2 | e2; exact hx.both.ug (e2 ▸ e); exact hx.both.uv k e2.symm e)
    · exact hn h (blk_lt hx.both.ref.box) hx.both.vh
    · intro i e e2
      exact hn i (own_lt hx.both.ref.row _ e2) (fun e3 => hx.both.uv i e3 e2) e
    · exact hc.blk hx.x (by rintro (e | e); exact hx.xg e; exact hx.xv e.symm)
    · exact hn gx (blk_lt hx.x) hx.xv
theorem appB (s : ByteArray) (hx : Run B a g h gx o w v u l l2 base base2 bytes) (hl : l2.length < 400) :
    Calls Try.prog 13 #[.pointer (some ⟨h, 0, none⟩), .string s] w fun e w' => ∃ u1, e = .returned (.tuple #[.int .i64 (appN l2 s), .int .i64 (appE s)]) ∧ Run B a g h gx o w' v u1 l (pushL l2 s) base base2 bytes := by
  by_cases hs : 512 < s.size
  · refine (rappend_long h s w hs).mono ?_
    rintro e w1 ⟨rfl, rfl⟩
    refine ⟨u, by unfold appN appE; rw [if_pos hs, if_pos hs], ?_⟩
    unfold pushL
    rw [if_pos hs]
    exact hx
  · refine (rappend_any B h u l2 base2 s w hx.both.ref hx.both.log.hB (by omega) hl).mono ?_
    rintro e w1 ⟨u1, rfl, hl1, hc, hv⟩
    refine ⟨u1, by unfold appN appE; rw [if_neg hs, if_neg hs], ?_⟩
    unfold pushL
    rw [if_neg hs]
    have hn : ∀ i, i < w.heap.size → u.ownBlock ≠ some i → u1.ownBlock ≠ some i := fun i hi h1 e => by
      rcases hv with e3 | ⟨b, e3, hb⟩
      · exact h1 (e3 ▸ e)
      · rw [e3] at e; cases e; omega
    refine ⟨⟨⟨hx.both.log.log.ch hc (by rintro (e | e); exact hx.both.gh e; exact hx.both.ug e.symm) (fun k e e2 => by rcases e2 with e2 | e2; exact hx.both.vh (e2 ▸ e); exact hx.both.uv k e e2.symm), Ch.onto hx.both.log.below hc hx.both.log.hB (fun i e => by rcases e with e | e; exact e ▸ hx.both.hh; exact own_base hx.both.ref.row i e.symm), Nat.le_trans hx.both.log.hB hc.size, hx.both.log.hg⟩, hl1, hx.both.hh, hx.both.gh, hx.both.vh, ?_, ?_⟩, ?_, hx.xg, hx.xh, hx.xv, ?_⟩
    · exact hn g (blk_lt hx.both.log.log.box) hx.both.ug
    · intro i e
      exact hn i (own_lt hx.both.log.log.row _ e) (hx.both.uv i e)
    · exact hc.blk hx.x (by rintro (e | e); exact hx.xh e; exact hx.xu e.symm)
    · exact hn gx (blk_lt hx.x) hx.xu
def trB (l : List ByteArray) (base : Nat) (n : Int) : Nat := if n ≤ base ∨ (l.length : Int) < n then base else n.toNat
def trT (l : List ByteArray) (base : Nat) (n : Int) : Bool := if n ≤ base ∨ (l.length : Int) < n then false else true
theorem trB_le (l : List ByteArray) (base : Nat) (n : Int) (h : base ≤ l.length) : trB l base n ≤ l.length := by unfold trB; split <;> omega
theorem truncA (n : Int) (hx : Run B a g h gx o w v u l l2 base base2 bytes) :
    Calls Try.prog 11 #[.pointer (some ⟨g, 0, none⟩), .int .i64 n] w fun e w' => e = .returned (.bool (trT l base n)) ∧ Run B a g h gx o w' v u l l2 (trB l base n) base2 bytes := by
  by_cases hn : n ≤ base ∨ (l.length : Int) < n
  · refine (trunc_no B g v l base bytes n w hx.both.log.log hn).mono ?_
    rintro e w1 ⟨rfl, rfl⟩
    unfold trT trB
    rw [if_pos hn, if_pos hn]
    exact ⟨rfl, hx⟩
  · obtain ⟨k, rfl⟩ : ∃ k : Nat, n = (k : Int) := ⟨n.toNat, by omega⟩
    refine (trunc_yes B g v l base bytes k w hx.both.log.log (by omega) (by omega)).mono ?_
    rintro e w1 ⟨rfl, hl1, hc⟩
    unfold trT trB
    rw [if_neg hn, if_neg hn]
    exact ⟨rfl, ⟨⟨hl1, Ch.onto hx.both.log.below hc hx.both.log.hB (fun i e => e ▸ hx.both.log.hg), Nat.le_trans hx.both.log.hB hc.size, hx.both.log.hg⟩, hx.both.ref.ch hc (fun e => hx.both.gh e.symm) (fun k e e2 => hx.both.ug (e2 ▸ e)), hx.both.hh, hx.both.gh, hx.both.vh, hx.both.ug, hx.both.uv⟩, hc.blk hx.x hx.xg, hx.xg, hx.xh, hx.xv, hx.xu⟩
theorem truncB (n : Int) (hx : Run B a g h gx o w v u l l2 base base2 bytes) :
    Calls Try.prog 14 #[.pointer (some ⟨h, 0, none⟩), .int .i64 n] w fun e w' => e = .returned (.bool (trT l2 base2 n)) ∧ Run B a g h gx o w' v u l l2 base (trB l2 base2 n) bytes := by
  by_cases hn : n ≤ base2 ∨ (l2.length : Int) < n
  · refine (rtrunc_no B h u l2 base2 n w hx.both.ref hn).mono ?_
    rintro e w1 ⟨rfl, rfl⟩
    unfold trT trB
    rw [if_pos hn, if_pos hn]
    exact ⟨rfl, hx⟩
  · obtain ⟨k, rfl⟩ : ∃ k : Nat, n = (k : Int) := ⟨n.toNat, by omega⟩
    refine (rtrunc_yes B h u l2 base2 k w hx.both.ref (by omega) (by omega)).mono ?_
    rintro e w1 ⟨rfl, hl1, hc⟩
    unfold trT trB
    rw [if_neg hn, if_neg hn]
    exact ⟨rfl, ⟨⟨hx.both.log.log.ch hc (fun e => hx.both.gh e) (fun k e e2 => hx.both.vh (e2 ▸ e)), Ch.onto hx.both.log.below hc hx.both.log.hB (fun i e => e ▸ hx.both.hh), Nat.le_trans hx.both.log.hB hc.size, hx.both.log.hg⟩, hl1, hx.both.hh, hx.both.gh, hx.both.vh, hx.both.ug, hx.both.uv⟩, hc.blk hx.x hx.xh, hx.xg, hx.xh, hx.xv, hx.xu⟩
end Go.Proofs.Ytfcpjblogeofpad
