/- The contract of Decode. -/
import Derived.Test.YtfijbhacobjjgaeProg
import Derived.Test.YtfijbhacobjjgaeVals
import Derived.Test.YtfijbhacobjjgaeWLast
import Derived.Test.YtfijbhacobjjgaeWMore
import Derived.RegionTactic
import Derived.ChangeAlike
import Derived.BigRegion
import Derived.WalkLawsBesides
import Derived.WalkSpells
import Derived.Deep.LoopGhost
import Derived.Deep.QuietTactic
import Derived.BigQuiet
import Derived.OwnWalk
import Derived.Test.YtfijbhacobjjgaeBitA
namespace Go.Proofs.Ytfijbhacobjjgae
open Go.RowKit Go.Proofs.YtfijbhacobjjgaeW.PrintWords Go.Proofs.YtfijbhacobjjgaeW.PrintLast Go.Proofs.YtfijbhacobjjgaeW.PrintMore Go.Proofs.Ytfijbhacobjjgae.Fr
set_option linter.unusedVariables false
set_option linter.unusedSimpArgs false
attribute [local go_sem] max2_int min2_int max_two min_two

open Pl
theorem info5 : (Try.prog.info? 5).map (fun i => (i.zero, i.size, i.bytes)) = some (some (.int .u8 0), 1, 1) := by kernel_rfl
def toI (o : List Nat) : List Int := List.map (fun x : Nat => Int.ofNat x) o
theorem toI_len (o : List Nat) : (toI o).length = o.length := by simp [toI]
theorem toI_snoc (o : List Nat) (x : Nat) : toI o ++ [(x : Int)] = toI (o ++ [x]) := by simp [toI]
def ansV : Option (List Nat) → Value
  | some l => .tuple #[.string (strOfNums (toI l)), .bool true]
  | none => .tuple #[.string ⟨#[]⟩, .bool false]
/-- The decoder's world: its own blocks, and what it has put out. -/
structure DW (w0 w : World) (gx gr gm : Nat) (T : ByteArray) (a : Nat) (s : Cs) (v : Value) (o : List Nat) : Prop where
  ds : DS w gx gr gm T a s
  row : w.ownsRow (gx + 1) 5 1 v (toI o).length (nums .u8 (toI o))
  bel : Below w0.heap.size w0 w
  lo : w0.heap.size ≤ gr ∧ gr < gx ∧ w0.heap.size ≤ gm ∧ gm < gx
section
variable {w0 w w1 : World} {gx gr gm : Nat} {T : ByteArray} {a a' : Nat} {s s' : Cs} {v : Value} {o : List Nat}
theorem DW.below (h : DW w0 w gx gr gm T a s v o) (hb : Below w.heap.size w w1) : DW w0 w1 gx gr gm T a s v o := ⟨h.ds.below hb, (Ch.of_below (S := fun _ => False) hb).own h.row (fun _ _ h => h), h.bel.trans (hb.mono h.bel.size), h.lo⟩
theorem DW.turn (h : DW w0 w gx gr gm T a s v o) (hd : DS w1 gx gr gm T a' s') (hc : Ch (fun i => i = gx ∨ i = gr ∨ i = gm) w w1) : DW w0 w1 gx gr gm T a' s' v o := ⟨hd, hc.own h.row (fun k hk e => by have := own_blk h.row k hk; have := h.lo; omega), Ch.onto h.bel hc h.bel.size (fun i e => by have := h.lo; omega), h.lo⟩
theorem DW.grown (h : DW w0 w gx gr gm T a s v o) (hg : w.grownBy w1 v.ownBlock) {v1 : Value} {o1 : List Nat} (hr : w1.ownsRow (gx + 1) 5 1 v1 (toI o1).length (nums .u8 (toI o1))) : DW w0 w1 gx gr gm T a s v1 o1 := by
  have hne : ∀ k, k ≤ gx → some k ≠ v.ownBlock := fun k hk e => by have := own_blk h.row k e.symm; omega
  have hlo := h.lo
  exact ⟨⟨blk_grown h.ds.box hg (hne _ (by omega)), blk_grown h.ds.rdr hg (hne _ (by omega)), blk_grown h.ds.mod hg (hne _ (by omega)), h.ds.ne⟩, hr, h.bel.grown hg h.bel.size (fun k hk => by have := own_blk h.row k hk; omega), h.lo⟩
end
theorem drop_dr (B : List Int) (a node : Nat) (s : Cs) : B.drop (a + (out s node (db (B.drop a) node s)).length) = dr (B.drop a) node s := by
  unfold dr
  rw [List.drop_drop]
def pv (B : List Int) : Nat → Int
  | 0 => 0
  | k + 1 => pv B k % 16777216 * 256 + B.getD k 0
theorem pv_in {B : List Int} (hB : Byt B) : ∀ k, 0 ≤ pv B k ∧ pv B k < 4294967296
  | 0 => ⟨Int.le_refl 0, by show (0 : Int) < 4294967296; decide⟩
  | k + 1 => by
    have := byt_get hB k
    simp only [pv]
    omega
theorem pv_four {B : List Int} (hB : Byt B) : pv B 4 = V (B.drop 0) := by
  have h0 := byt_get hB 0
  have h1 := byt_get hB 1
  have h2 := byt_get hB 2
  have h3 := byt_get hB 3
  simp only [pv, V, List.drop_zero]
  omega
theorem ans_of (T : ByteArray) (n a : Nat) (s : Cs) (o : List Nat) (j : Nat) (h1 : o ++ (dd j ((bz T).drop a) s).1 = (dd n (bz T) c0).1) (h2 : (dd j ((bz T).drop a) s).2 = (dd n (bz T) c0).2) (h3 : j = 0 ∨ T.size < a + 4) : ans (bz T) n = if T.size = a + 4 ∧ V ((bz T).drop a) = s.l then some o else none := by
  have hl : ((bz T).drop a).length = T.size - a := by rw [List.length_drop, bz_len]
  unfold ans
  rw [← h2, ← h1]
  rcases h3 with rfl | h3
  · have e0 : dd 0 ((bz T).drop a) s = ([], (bz T).drop a, s) := rfl
    rw [e0]
    by_cases e : T.size = a + 4 ∧ V ((bz T).drop a) = s.l
    · rw [if_pos e, if_pos ⟨by show ((bz T).drop a).length = 4; omega, e.2⟩]
      exact congrArg some (List.append_nil o)
    · rw [if_neg e, if_neg (fun h => e ⟨by have : ((bz T).drop a).length = 4 := h.1; omega, h.2⟩)]
  · have := dd_len j ((bz T).drop a) s
    rw [if_neg (fun h => by have := h.1; omega), if_neg (fun h => by have := h.1; omega)]
/-- Within the first four bytes. -/
structure P0 (w0 w : World) (gx gr gm : Nat) (T : ByteArray) (k : Nat) : Prop where
  box : Blk w gx 51 id (XB gr gm 0 4294967295 (pv (bz T) k))
  rdr : RD w gr T k
  mod : Blk w gm 66 (Value.int .i64) c0.c
  bel : Below w0.heap.size w0 w
  lo1 : w0.heap.size ≤ gr
  lo2 : gr < gm
  lo3 : gm < gx
  lo4 : gr < gx
  lo5 : w0.heap.size ≤ gm
theorem P0.ne {w0 w : World} {gx gr gm : Nat} {T : ByteArray} {k : Nat} (h : P0 w0 w gx gr gm T k) : gx ≠ gr ∧ gx ≠ gm ∧ gr ≠ gm := ⟨by have := h.lo4; omega, by have := h.lo3; omega, by have := h.lo2; omega⟩
theorem P0.next {w0 w w1 : World} {gx gr gm : Nat} {T : ByteArray} {k : Nat} (h : P0 w0 w gx gr gm T k) (hx : Blk w1 gx 51 id (XB gr gm 0 4294967295 (pv (bz T) k % 16777216 * 256 + (bz T).getD k 0))) (hr : RD w1 gr T (k + 1)) (hc : Ch (fun i => i = gx ∨ i = gr) w w1) : P0 w0 w1 gx gr gm T (k + 1) :=
  ⟨hx, hr, h.mod.ch hc (fun e => by have := h.ne; omega), Ch.onto h.bel hc h.bel.size (fun i e => by have := h.lo1; have := h.lo3; have := h.lo5; omega), h.lo1, h.lo2, h.lo3, h.lo4, h.lo5⟩
theorem P0.start {w0 w : World} {gx gr gm : Nat} {T : ByteArray} (h : P0 w0 w gx gr gm T 4) : DW w0 w gx gr gm T 0 c0 (.slice none 0 0) [] :=
  ⟨⟨by rw [← pv_four (bz_byt T)]; exact h.box, h.rdr, h.mod, h.ne⟩, ⟨rfl, .inl ⟨rfl, rfl⟩⟩, h.bel, h.lo1, h.lo4, h.lo5, h.lo3⟩
end Go.Proofs.Ytfijbhacobjjgae
