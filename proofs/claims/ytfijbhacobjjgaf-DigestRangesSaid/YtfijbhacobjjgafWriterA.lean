/- Taken over from chapter 38's text WriterA. -/
import Derived.Test.YtfijbhacobjjgafProg
import Derived.Test.YtfijbhacobjjgafVals
import Derived.Test.YtfijbhacobjjgafWLast
import Derived.Test.YtfijbhacobjjgafWMore
import Derived.RegionTactic
import Derived.ChangeAlike
import Derived.BigRegion
import Derived.WalkLawsBesides
import Derived.WalkSpells
import Derived.Deep.LoopGhost
import Derived.Deep.QuietTactic
import Derived.BigQuiet
import Derived.OwnWalk
import Derived.Test.YtfijbhacobjjgafSumA
import Derived.Test.YtfijbhacobjjgafShelf
import Derived.StillTailTactics
namespace Go.Proofs.Ytfijbhacobjjgaf
open Go.RowKit Go.Proofs.YtfijbhacobjjgafW.PrintWords Go.Proofs.YtfijbhacobjjgafW.PrintLast Go.Proofs.YtfijbhacobjjgafW.PrintMore Go.Proofs.Ytfijbhacobjjgaf.Fr
set_option linter.unusedVariables false
set_option linter.unusedSimpArgs false
attribute [local go_sem] max2_int min2_int max_two min_two
theorem info5 : (Try.prog.info? 5).map (fun i => (i.zero, i.size, i.bytes)) = some (some (.int .u8 0), 1, 1) := by kernel_rfl
theorem info24 : (Try.prog.info? 35).map (fun i => (i.zero, i.size, i.bytes)) = some (some (.int .u64 0), 1, 8) := by kernel_rfl
theorem sn_append (a b : List Int) : strOfNums (a ++ b) = strOfNums a ++ strOfNums b := by
  simp only [strOfNums, List.map_append]
  apply ByteArray.ext
  simp
theorem sn_one : strOfNums [1] = (⟨#[1]⟩ : ByteArray) := rfl
def dv (a : Int) : Nat → Int
  | 0 => a
  | k + 1 => dv a k / 256
def fx (a : Int) : Nat → List Int
  | 0 => []
  | k + 1 => fx a k ++ [dv a k % 256]
theorem fx_len (a : Int) : ∀ k, (fx a k).length = k
  | 0 => rfl
  | k + 1 => by simp [fx, fx_len a k]
theorem dv_in (a : Int) (h0 : 0 ≤ a) (h : a < 18446744073709551616) : ∀ k, 0 ≤ dv a k ∧ dv a k < 18446744073709551616
  | 0 => ⟨h0, h⟩
  | k + 1 => by
    have := dv_in a h0 h k
    show 0 ≤ dv a k / 256 ∧ dv a k / 256 < _
    omega
theorem w8 (x : Int) : IntKind.u8.wrap x = x % 256 := by simp [IntKind.wrap, IntKind.bits, IntKind.signed]
theorem sn_size (l : List Int) : (strOfNums l).size = l.length := by simp [strOfNums, ByteArray.size]
@[irreducible] def fix8 (a : Int) : ByteArray := strOfNums (fx a 8)
theorem fix8_eq (a : Int) : fix8 a = strOfNums (fx a 8) := by unfold fix8; rfl
theorem fix8_size (a : Int) : (fix8 a).size = 8 := by rw [fix8_eq, sn_size, fx_len]
def z1 : ByteArray := ⟨#[1]⟩
theorem z1_size : z1.size = 1 := rfl
/-- The sum of a pair. -/
def pr (a b : Int) : Int := S ((z1 ++ fix8 a) ++ fix8 b)
theorem pr_text (a b : Int) : strOfNums (([] ++ bytesOf z1 ++ fx a 8) ++ fx b 8) = (z1 ++ fix8 a) ++ fix8 b := by
  rw [sn_append, sn_append, fix8_eq, fix8_eq]; rfl
structure WR (w : World) (g : Nat) (v : Value) (xs : List Int) : Prop where
  box : w.heap[g]? = some (.cells #[v] 64 (0, 0))
  row : w.ownsRow (g + 1) 5 1 v xs.length (nums .u8 xs)
theorem WR.ne {w : World} {g : Nat} {v : Value} {xs : List Int} (h : WR w g v xs) : some g ≠ v.ownBlock := by
  intro e
  have := own_blk h.row g e.symm
  omega
def WPost (g : Nat) (xs : List Int) (w : World) (e : Ending) (w' : World) : Prop := e = .returned (.pointer (some ⟨g, 0, none⟩)) ∧ (∃ v, WR w' g v xs) ∧ Below g w w'
theorem size_8 (w : World) : Calls Try.prog 39 #[.int .i64 8] w fun e w' => e = .returned (.int .i64 8) ∧ w' = w := by
  go_enter Try.func39, Try.ntmps39
  go_wp2
  go_ret
  exact ⟨rfl, rfl⟩
set_option maxRecDepth 100000 in
theorem raw_any (g : Nat) (v : Value) (xs : List Int) (t : ByteArray) (w : World) (HX : WR w g v xs) (hl : xs.length + t.size ≤ 1000000) : Calls Try.prog 33 #[.pointer (some ⟨g, 0, none⟩), .string t] w (WPost g (xs ++ bytesOf t) w) := by
  have c0 : w.cell? ⟨g, 0, none⟩ = some v := (blk_cell HX.box 0).trans rfl
  have hgl := blk_lt HX.box
  have HX := Aside0.mk HX
  go_enter Try.func33, Try.ntmps33
  go_wp2_with ((with_reducible refine gate_dst (N := 13) rfl ?_); refine print_append_str (w0 := w) (g + 1) rfl (.tmp 11) (.tmp 12) 62 9 5 rfl Try.underlying62 Try.underlying9 info5 v xs t rfl rfl HX.out.row (Below.refl _ _) (by omega) (by omega) ?_; intro v1 w1 hown hbel hgrow; obtain ⟨A1, c1, rfl, hc1, hr1⟩ := own_nums hown; have HW := Aside0.mk (And.intro hown (And.intro hbel hgrow)); have HK2 := Aside0.mk (blk_grown HX.out.box hgrow HX.out.ne); have k1 : w1.cell? ⟨g, 0, none⟩ = some v := (blk_cell HK2.out 0).trans rfl; have f1 := blk_frozen HK2.out 0; clear hown hbel hgrow hc1 hr1)
  go_ret
  have hne : some g ≠ (Value.slice A1 (xs ++ bytesOf t).length c1).ownBlock := by
    intro e
    have := own_blk HW.out.1 g e.symm
    omega
  exact ⟨rfl, ⟨.slice A1 (xs ++ bytesOf t).length c1, ⟨blk_put HK2.out 0 _ (by simp), own_setCell HW.out.1 hne _⟩⟩, (HW.out.2.1.mono (Nat.le_succ g)).setCell (Nat.le_refl _) _⟩
set_option maxRecDepth 100000 in
theorem fixed_any (g : Nat) (v : Value) (xs : List Int) (a : Int) (h0 : 0 ≤ a) (h1 : a < 18446744073709551616) (w : World) (HX : WR w g v xs) (hl : xs.length ≤ 1000000) : Calls Try.prog 34 #[.pointer (some ⟨g, 0, none⟩), .int .u64 a, .int .i64 8] w (WPost g (xs ++ fx a 8) w) := by
  have HX := Aside0.mk HX
  go_enter Try.func34, Try.ntmps34
  go_wp2_with fail
  refine (size_8 w).mono ?_
  rintro e w1 ⟨rfl, rfl⟩
  go_wp2
  go_loopg [1, 11] 8 (fun gk x y wr => ∃ (k : Nat) (v : Value), Aside0 (k + gk = 8) ∧ x = .int .u64 (dv a k) ∧ y = .int .i64 k ∧ Aside0 (WR wr g v (xs ++ fx a k) ∧ Below g w1 wr))
  case atStart => exact ⟨0, v, ⟨by omega⟩, rfl, rfl, ⟨by rw [show fx a 0 = [] from rfl, List.append_nil]; exact HX.out, Below.refl _ _⟩⟩
  case round =>
    clear HX
    obtain ⟨k, v, HK, rfl, rfl, HX⟩ := hrel
    have hf : xs ++ fx a (k + 1) = (xs ++ fx a k) ++ [dv a k % 256] := (List.append_assoc _ _ _).symm
    have hd : dv a (k + 1) = dv a k / 256 := rfl
    have HF := Aside0.mk (And.intro hf hd)
    have hi := dv_in a h0 h1 k
    have hle : (xs ++ fx a k).length ≤ 1000000 + k := by rw [List.length_append, fx_len]; omega
    by_cases hlt : k < 8
    · obtain ⟨s, hs⟩ : ∃ s, xs ++ fx a k = s := ⟨_, rfl⟩
      obtain ⟨x, hx⟩ : ∃ x, dv a k = x := ⟨_, rfl⟩
      rw [hs, hx] at HF
      rw [hx] at hi
      rw [hs] at HX hle
      rw [hx]
      have hi0 := hi.1
      have hi1 := hi.2
      have h8 : IntKind.u8.wrap x = x % 256 := w8 x
      have c0 : wr.cell? ⟨g, 0, none⟩ = some v := (blk_cell HX.out.1.box 0).trans rfl
      have hgl := blk_lt HX.out.1.box
      clear hf hd hs hx hi
      go_wp2_with ((with_reducible refine gate_dst (N := 21) rfl ?_); refine print_append_num (w0 := wr) (g + 1) rfl (.tmp 17) (.tmp 20) 62 5 .u8 1 rfl Try.underlying62 info5 (by decide) v s (x % 256) rfl rfl HX.out.1.row (Below.refl _ _) (by omega) (by omega) ?_; intro v1 w1 hown hbel hgrow hat; obtain ⟨A1, c1, rfl, hc1, hr1⟩ := own_nums hown; have HW := Aside0.mk (And.intro hown (And.intro hbel hgrow)); have HK2 := Aside0.mk (blk_grown HX.out.1.box hgrow HX.out.1.ne); have k1 : w1.cell? ⟨g, 0, none⟩ = some v := (blk_cell HK2.out 0).trans rfl; have f1 := blk_frozen HK2.out 0; clear hown hbel hgrow hat hc1 hr1)
      go_roundg (gk - 1)
      case measure => have := HK.out; omega
      case rel =>
        have hne : some g ≠ (Value.slice A1 (s ++ [x % 256]).length c1).ownBlock := by
          intro e
          have := own_blk HW.out.1 g e.symm
          omega
        exact ⟨k + 1, .slice A1 (s ++ [x % 256]).length c1, ⟨by have := HK.out; omega⟩, by rw [HF.out.2], by go_num, ⟨by rw [HF.out.1]; exact ⟨blk_put HK2.out 0 _ (by simp), own_setCell HW.out.1 hne _⟩, HX.out.2.trans ((HW.out.2.1.mono (Nat.le_succ g)).setCell (Nat.le_refl _) _)⟩⟩
    · have hk : k = 8 := by have := HK.out; omega
      subst hk
      go_wp2
      go_ret
      exact ⟨rfl, ⟨v, HX.out.1⟩, HX.out.2⟩
theorem string_any (g : Nat) (v : Value) (xs : List Int) (w : World) (HX : WR w g v xs) : Calls Try.prog 35 #[.pointer (some ⟨g, 0, none⟩)] w fun e w' => e = .returned (.string (strOfNums xs)) ∧ w' = w := by
  have c0 : w.cell? ⟨g, 0, none⟩ = some v := (blk_cell HX.box 0).trans rfl
  have HC : Aside0 ((convert 62 9 v).run Try.prog w = .ok (.string (strOfNums xs)) w) := ⟨own_string Try.underlying62 Try.underlying5 Try.underlying9 HX.row⟩
  go_enter Try.func35, Try.ntmps35
  go_wp2
  rw [HC.out]
  go_wp2
  go_ret
  exact ⟨rfl, rfl⟩
set_option maxRecDepth 100000 in
theorem refFixed_any (a : Int) (h0 : 0 ≤ a) (h1 : a < 18446744073709551616) (w : World) : Calls Try.prog 27 #[.int .u64 a, .int .i64 8] w fun e w' => e = .returned (.string (fix8 a)) ∧ Below w.heap.size w w' := by
  have HE := Aside0.mk (fix8_eq a)
  go_enter Try.func27, Try.ntmps27
  go_wp2
  go_loopg [0, 5, 6] 8 (fun gk x y z wr => ∃ k : Nat, Aside0 (k + gk = 8) ∧ x = .int .u64 (dv a k) ∧ y = .string (strOfNums (fx a k)) ∧ z = .int .i64 k ∧ Aside0 (Below w.heap.size w wr))
  case atStart => exact ⟨0, ⟨by omega⟩, rfl, rfl, rfl, ⟨Below.refl _ _⟩⟩
  case round =>
    obtain ⟨k, HK, rfl, rfl, rfl, HB⟩ := hrel
    have hf : strOfNums (fx a (k + 1)) = strOfNums (fx a k) ++ strOfNums [dv a k % 256] := sn_append _ _
    have hd : dv a (k + 1) = dv a k / 256 := rfl
    have HF := Aside0.mk (And.intro hf hd)
    have hi := dv_in a h0 h1 k
    obtain ⟨s, hs⟩ : ∃ s, strOfNums (fx a k) = s := ⟨_, rfl⟩
    obtain ⟨x, hx⟩ : ∃ x, dv a k = x := ⟨_, rfl⟩
    have HS : Aside0 (strOfNums (fx a k) = s) := ⟨hs⟩
    rw [hs, hx] at HF
    rw [hx] at hi
    rw [hx, hs]
    have hi0 := hi.1
    have hi1 := hi.2
    have hxm : 0 ≤ x % 256 ∧ x % 256 < 256 := by omega
    have h8 : IntKind.u8.wrap (x % 256) = x % 256 := by rw [w8]; omega
    have hm0 := hxm.1
    have hm1 := hxm.2
    have hz : s.size = k := by rw [← hs, sn_size, fx_len]
    have hz0 : s.size ≤ 8 := by have := HK.out; omega
    have hz1 : (strOfNums [x % 256]).size = 1 := rfl
    clear hz
    clear hf hd hs hx hi hxm
    by_cases hlt : k < 8
    · have HC : Aside0 ((convert 62 9 (.slice (some ⟨wr.heap.size, 0, none⟩) 1 1)).run Try.prog (wr.alloc (.cells #[.int .u8 (x % 256)] 5)) = .ok (.string (strOfNums [x % 256])) (wr.alloc (.cells #[.int .u8 (x % 256)] 5))) := ⟨string_of_reads Try.underlying62 Try.underlying5 Try.underlying9 ⟨rfl, by decide, fun _ => ⟨⟨wr.heap.size, 0, none⟩, rfl, fun j hj => by
        obtain rfl : j = 0 := by omega
        exact (blk_cell (blk_new wr (.cells #[.int .u8 (x % 256)] 5)) 0).trans rfl⟩⟩⟩
      go_wp2
      rw [HC.out]
      go_wp2
      go_roundg (gk - 1)
      case measure => have := HK.out; omega
      case rel => exact ⟨k + 1, ⟨by have := HK.out; omega⟩, by rw [HF.out.2], by rw [HF.out.1], by go_num, ⟨below_alloc HB.out _⟩⟩
    · have hk : k = 8 := by have := HK.out; omega
      subst hk
      go_wp2
      go_ret
      exact ⟨by rw [HE.out, HS.out]; rfl, HB.out⟩
set_option maxRecDepth 100000 in
theorem pair_any (a b : Int) (h0 : 0 ≤ a) (h1 : a < 18446744073709551616) (h2 : 0 ≤ b) (h3 : b < 18446744073709551616) (w : World) : Calls Try.prog 25 #[.int .u64 a, .int .u64 b] w fun e w' => e = .returned (.int .u64 (pr a b)) ∧ Below w.heap.size w w' := by
  have HT := Aside0.mk (pr_text a b)
  have HX : Aside0 (WR (w.alloc (.cells #[.slice none 0 0] 64)) w.heap.size (.slice none 0 0) []) := ⟨⟨blk_new w _, rfl, .inl ⟨rfl, rfl⟩⟩⟩
  have HB0 : Aside0 (Below w.heap.size w (w.alloc (.cells #[.slice none 0 0] 64))) := ⟨below_alloc (Below.refl _ _) _⟩
  go_enter Try.func25, Try.ntmps25
  go_wp2_with fail
  refine (raw_any _ _ [] z1 _ HX.out (by decide)).mono ?_
  rintro e w1 ⟨rfl, ⟨v1, X1⟩, B1⟩
  have HX1 := Aside0.mk X1
  have HB1 := Aside0.mk (HB0.out.trans B1)
  clear X1 B1
  go_wp2_with fail
  refine (fixed_any _ v1 _ a h0 h1 _ HX1.out (by decide)).mono ?_
  rintro e w2 ⟨rfl, ⟨v2, X2⟩, B2⟩
  have HX2 := Aside0.mk X2
  have HB2 := Aside0.mk (HB1.out.trans B2)
  clear X2 B2
  go_wp2_with fail
  refine (fixed_any _ v2 _ b h2 h3 _ HX2.out (by rw [List.length_append, fx_len]; decide)).mono ?_
  rintro e w3 ⟨rfl, ⟨v3, X3⟩, B3⟩
  have HX3 := Aside0.mk X3
  have HB3 := Aside0.mk (HB2.out.trans B3)
  clear X3 B3
  go_wp2_with fail
  refine (string_any _ v3 _ _ HX3.out).mono ?_
  rintro e w4 ⟨rfl, rfl⟩
  rw [HT.out]
  go_wp2_with fail
  refine (of_any _ _ (by simp [ByteArray.size_append, fix8_size, z1_size])).mono ?_
  rintro e w5 ⟨rfl, B5⟩
  go_wp2
  go_ret
  exact ⟨rfl, below_then HB3.out HB3.out.size B5⟩
set_option maxRecDepth 100000 in
theorem refPair_any (a b : Int) (h0 : 0 ≤ a) (h1 : a < 18446744073709551616) (h2 : 0 ≤ b) (h3 : b < 18446744073709551616) (w : World) : Calls Try.prog 22 #[.int .u64 a, .int .u64 b] w fun e w' => e = .returned (.int .u64 (pr a b)) ∧ Below w.heap.size w w' := by
  have q1 := fix8_size a
  have q2 := fix8_size b
  have q3 : ((⟨#[1]⟩ : ByteArray)).size = 1 := rfl
  have q4 : ((⟨#[1]⟩ : ByteArray) ++ fix8 a).size = 9 := by rw [ByteArray.size_append, q1]; rfl
  have HP : Aside0 (pr a b = S (((⟨#[1]⟩ : ByteArray) ++ fix8 a) ++ fix8 b)) := ⟨rfl⟩
  have HZ : Aside0 ((((⟨#[1]⟩ : ByteArray) ++ fix8 a) ++ fix8 b).size ≤ 281474976710656) := ⟨by rw [ByteArray.size_append, q4, q2]; decide⟩
  go_enter Try.func22, Try.ntmps22
  go_wp2_with fail
  refine (refFixed_any a h0 h1 w).mono ?_
  rintro e w1 ⟨rfl, hb1⟩
  go_wp2_with fail
  refine (refFixed_any b h2 h3 w1).mono ?_
  rintro e w2 ⟨rfl, hb2⟩
  go_wp2_with fail
  refine (refOf_any _ w2 HZ.out).mono ?_
  rintro e w3 ⟨rfl, rfl⟩
  go_wp2
  go_ret
  rw [HP.out]
  exact ⟨rfl, below_step hb1 hb2⟩
end Go.Proofs.Ytfijbhacobjjgaf
