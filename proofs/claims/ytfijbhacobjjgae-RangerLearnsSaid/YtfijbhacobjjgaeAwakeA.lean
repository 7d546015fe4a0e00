/- What the laws call first. -/
import Derived.Test.YtfijbhacobjjgaeProg
import Derived.Test.YtfijbhacobjjgaeVals
import Derived.Test.YtfijbhacobjjgaeWLast
import Derived.Test.YtfijbhacobjjgaeWMore
import Derived.RegionTactic
import Derived.ChangeAlike
import Derived.BigRegion
import Derived.WalkLawsBesides
import Derived.WalkSpells
import Derived.Deep.LoopGhost
import Derived.Deep.QuietTactic
import Derived.BigQuiet
import Derived.OwnWalk
import Derived.Test.YtfijbhacobjjgaeRefD
namespace Go.Proofs.Ytfijbhacobjjgae
open Go.RowKit Go.Proofs.YtfijbhacobjjgaeW.PrintWords Go.Proofs.YtfijbhacobjjgaeW.PrintLast Go.Proofs.YtfijbhacobjjgaeW.PrintMore Go.Proofs.Ytfijbhacobjjgae.Fr
set_option linter.unusedVariables false
set_option linter.unusedSimpArgs false
attribute [local go_sem] max2_int min2_int max_two min_two

open Pl
theorem toI_nb (T : ByteArray) : toI (nb T) = bz T := by simp [toI, nb, bz]
theorem str_toI_nb (T : ByteArray) : strOfNums (toI (nb T)) = T := by rw [toI_nb, of_bz]
/-- The code of a text. -/
def cd (T : ByteArray) : ByteArray := strOfNums (code (nb T))
theorem cd_size (T : ByteArray) : (cd T).size ≤ 32 * T.size + 4 ∧ 4 ≤ (cd T).size := by
  have := code_len (nb T)
  unfold cd
  rw [sn_size]
  rw [nb_len] at this
  exact this
theorem bz_cd (T : ByteArray) : bz (cd T) = code (nb T) := bz_of _ (code_byt _)
theorem enc_cd (T : ByteArray) (hT : T.size ≤ 30000) (w0 : World) : Calls Try.prog 9 #[.string T] w0 fun e w' => e = .returned (.string (cd T)) ∧ Below w0.heap.size w0 w' := enc_any T hT w0
theorem refenc_cd (T : ByteArray) (hT : T.size ≤ 30000) (w0 : World) : Calls Try.prog 10 #[.string T] w0 fun e w' => e = .returned (.string (cd T)) ∧ Below w0.heap.size w0 w' := refenc_any T hT w0
theorem back_any (T : ByteArray) (hT : T.size ≤ 30000) (w0 : World) : Calls Try.prog 7 #[.string (cd T), .int .i64 (T.size : Int)] w0 fun e w' => e = .returned (.tuple #[.string T, .bool true]) ∧ Below w0.heap.size w0 w' := by
  have h := dec_any (cd T) T.size (by have := (cd_size T).1; omega) (by omega) w0
  have e : ans (bz (cd T)) T.size = some (nb T) := by rw [bz_cd, ← nb_len T]; exact ans_back (nb T) (nb_lt T)
  rw [e] at h
  have e2 : ansV (some (nb T)) = .tuple #[.string (strOfNums (toI (nb T))), .bool true] := rfl
  rwa [e2, str_toI_nb] at h
theorem dec_out (T : ByteArray) (n : Int) (hn : n < 0 ∨ 1048576 < n) (w0 : World) : Calls Try.prog 7 #[.string T, .int .i64 n] w0 fun e w' => e = .returned (.tuple #[.string ⟨#[]⟩, .bool false]) ∧ w' = w0 := by
  by_cases h : n < 0
  · clear hn
    go_enter Try.func7, Try.ntmps7
    go_wp2
    go_ret2
    exact ⟨rfl, rfl⟩
  · have h2 : 1048576 < n := by omega
    clear hn
    go_enter Try.func7, Try.ntmps7
    go_wp2
    go_ret2
    exact ⟨rfl, rfl⟩
theorem size_any (T : ByteArray) (hT : T.size ≤ 30000) (w0 : World) : Calls Try.prog 11 #[.string T] w0 fun e w' => e = .returned (.int .i64 ((cd T).size : Int)) ∧ Below w0.heap.size w0 w' := by
  have HE := Aside0.mk (enc_cd T hT w0)
  go_enter Try.func11, Try.ntmps11
  go_wp2_with fail
  refine HE.out.mono ?_
  rintro e w1 ⟨rfl, hb⟩
  go_wp2
  go_ret
  exact ⟨rfl, hb⟩
theorem ans_some {T : ByteArray} {n : Nat} {l : List Nat} (h : ans (bz T) n = some l) : strOfNums (code l) = T ∧ l.length = n ∧ ∀ v ∈ l, v < 256 := by
  unfold ans at h
  split at h
  · rename_i hc
    cases h
    have := (ans_ref (bz T) n (bz_byt T) (by omega)).2 hc
    exact ⟨by rw [this, of_bz], (dd_ok n _ _ c0_ok).2, dd_lt n _ _⟩
  · cases h
def tabc : ByteArray := ⟨#[97, 98, 99]⟩
theorem cd_nil : cd ⟨#[]⟩ = ⟨#[0, 0, 0, 0]⟩ := by
  have : code (nb ⟨#[]⟩) = [0, 0, 0, 0] := by decide
  unfold cd
  rw [this]
  rfl
theorem lrn_one : (lrn c0.c 1 true).getD 1 0 = 2112 := by decide
set_option maxRecDepth 100000 in
theorem awake_any (w : World) : Calls Try.prog 6 #[] w fun e w' => e = .returned (.bool true) ∧ Below w.heap.size w w' := by
  have H1 : Aside0 (∀ w : World, Calls Try.prog 9 #[.string (⟨#[97, 98, 99]⟩ : ByteArray)] w fun e w' => e = .returned (.string (cd tabc)) ∧ Below w.heap.size w w') := ⟨fun w => enc_cd tabc (by decide) w⟩
  have H2 : Aside0 (∀ w : World, Calls Try.prog 7 #[.string (cd tabc), .int .i64 3] w fun e w' => e = .returned (.tuple #[.string (⟨#[97, 98, 99]⟩ : ByteArray), .bool true]) ∧ Below w.heap.size w w') := ⟨fun w => back_any tabc (by decide) w⟩
  have H3 : Aside0 (∀ w : World, Calls Try.prog 9 #[.string (⟨#[]⟩ : ByteArray)] w fun e w' => e = .returned (.string (⟨#[0, 0, 0, 0]⟩ : ByteArray)) ∧ Below w.heap.size w w') := ⟨fun w => by
    have := enc_cd ⟨#[]⟩ (by decide) w
    rwa [cd_nil] at this⟩
  have HNW := Aside0.mk new_any
  have HLN : Aside0 (∀ (g : Nat) (w : World), Blk w g 66 (Value.int .i64) c0.c → Calls Try.prog 14 #[.pointer (some ⟨g, 0, none⟩), .int .i64 1, .bool true] w fun e w' => e = .returned (.bool true) ∧ Blk w' g 66 (Value.int .i64) (lrn c0.c 1 true) ∧ Ch (fun i => i = g) w w') := ⟨fun g w hB => learn_yes g 1 c0.c true (by decide) (by decide) c0_ok.2.2.2.2 w hB⟩
  have HCH : Aside0 (∀ (g : Nat) (w : World), Blk w g 66 (Value.int .i64) (lrn c0.c 1 true) → Calls Try.prog 16 #[.pointer (some ⟨g, 0, none⟩), .int .i64 1] w fun e w' => e = .returned (.int .i64 2112) ∧ w' = w) := ⟨fun g w hB => by
    have := chance_yes g 1 (lrn c0.c 1 true) (by decide) (by decide) w hB (lrn_ok true c0_ok.2.2.2.2).1
    rw [lrn_one] at this
    exact this⟩
  go_enter Try.func6, Try.ntmps6
  go_wp2_with fail
  refine (H1.out _).mono ?_
  rintro e w1 ⟨rfl, hb1⟩
  go_wp2_with fail
  refine (H2.out _).mono ?_
  rintro e w2 ⟨rfl, hb2⟩
  have HB2 := Aside0.mk (below_step hb1 hb2)
  clear hb1 hb2
  go_wp2_with fail
  refine (HNW.out _).mono ?_
  rintro e w3 ⟨g, rfl, hg, hm3, hb3⟩
  have HB3 : Aside0 (Below w.heap.size w w3 ∧ w.heap.size ≤ g ∧ Blk w3 g 66 (Value.int .i64) c0.c) := ⟨below_step HB2.out hb3, Nat.le_trans HB2.out.size hg, hm3⟩
  clear hg hm3 hb3 HB2
  go_wp2_with fail
  refine (HLN.out g _ HB3.out.2.2).mono ?_
  rintro e w4 ⟨rfl, hm4, hc4⟩
  have HB4 : Aside0 (Below w.heap.size w w4 ∧ Blk w4 g 66 (Value.int .i64) (lrn c0.c 1 true)) := ⟨Ch.onto HB3.out.1 hc4 HB3.out.1.size (fun i e => by have := HB3.out.2.1; omega), hm4⟩
  clear hm4 hc4 HB3
  go_wp2_with fail
  refine (H3.out _).mono ?_
  rintro e w5 ⟨rfl, hb5⟩
  have HB5 : Aside0 (Below w.heap.size w w5 ∧ Blk w5 g 66 (Value.int .i64) (lrn c0.c 1 true)) := ⟨below_step HB4.out.1 hb5, HB4.out.2.below hb5⟩
  clear hb5 HB4
  go_wp2_with fail
  refine (HCH.out g _ HB5.out.2).mono ?_
  rintro e w6 ⟨rfl, rfl⟩
  go_wp2
  go_ret
  exact ⟨rfl, HB5.out.1⟩
end Go.Proofs.Ytfijbhacobjjgae
