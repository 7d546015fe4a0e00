/- The contracts of the cursor's reader: one byte, and the next. -/
import Derived.Test.YtfijbhacobjjgaeProg
import Derived.Test.YtfijbhacobjjgaeVals
import Derived.Test.YtfijbhacobjjgaeWLast
import Derived.Test.YtfijbhacobjjgaeWMore
import Derived.RegionTactic
import Derived.ChangeAlike
import Derived.BigRegion
import Derived.WalkLawsBesides
import Derived.WalkSpells
import Derived.Deep.LoopGhost
import Derived.Deep.QuietTactic
import Derived.BigQuiet
import Derived.OwnWalk
import Derived.Test.YtfijbhacobjjgaeLaw47
import Derived.Test.YtfijbhacobjjgaeNums
import Derived.Laws.BitsLemmas
import Derived.Lib.ConvBytes
namespace Go.Proofs.Ytfijbhacobjjgae
open Go.RowKit Go.Proofs.YtfijbhacobjjgaeW.PrintWords Go.Proofs.YtfijbhacobjjgaeW.PrintLast Go.Proofs.YtfijbhacobjjgaeW.PrintMore Go.Proofs.Ytfijbhacobjjgae.Fr
set_option linter.unusedVariables false
set_option linter.unusedSimpArgs false
attribute [local go_sem] max2_int min2_int max_two min_two

open Pl
def bz (T : ByteArray) : List Int := T.data.toList.map (fun b => (b.toNat : Int))
theorem bz_len (T : ByteArray) : (bz T).length = T.size := by simp [bz]
theorem bz_byt (T : ByteArray) : Byt (bz T) := by
  intro x hx
  obtain ⟨b, _, rfl⟩ := List.mem_map.1 hx
  have := b.toNat_lt
  omega
theorem bz_get (T : ByteArray) (i : Nat) : (bz T).getD i 0 = ((T.data.toList.getD i 0).toNat : Int) := by
  simp only [bz, List.getD_eq_getElem?_getD, List.getElem?_map]
  cases T.data.toList[i]? <;> rfl
/-- A reader at a place of a text. -/
def RD (w : World) (g : Nat) (T : ByteArray) (p : Nat) : Prop := w.heap[g]? = some (.cells #[.string (T.extract p T.size), .bool (decide (T.size < p))] 69 (0, 0))
theorem ext_none (T : ByteArray) (p q : Nat) (h : T.size ≤ p) : T.extract p q = ⟨#[]⟩ := by
  apply ByteArray.ext
  simp
  have : T.data.size = T.size := rfl
  omega
theorem rnew_reader (T : ByteArray) (w : World) : Calls Try.prog 17 #[.string T] w fun e w' => e = .returned (.pointer (some ⟨w.heap.size, 0, none⟩)) ∧ RD w' w.heap.size T 0 ∧ Below w.heap.size w w' := by
  have HE : Aside0 (T.extract 0 T.size = T) := ⟨ByteArray.extract_zero_size⟩
  go_enter Try.func17, Try.ntmps17
  go_wp2
  go_ret
  refine ⟨rfl, ?_, below_alloc (Below.refl _ _) _⟩
  unfold RD
  rw [HE.out, decide_eq_false (by omega)]
  exact blk_new _ _
theorem size_one (w : World) : Calls Try.prog 33 #[.int .i64 1] w fun e w' => e = .returned (.int .i64 1) ∧ w' = w := by
  go_enter Try.func33, Try.ntmps33
  go_wp2
  go_ret
  exact ⟨rfl, rfl⟩
theorem bad_any (g : Nat) (T : ByteArray) (p : Nat) (w : World) (h : RD w g T p) : Calls Try.prog 19 #[.pointer (some ⟨g, 0, none⟩)] w fun e w' => e = .returned (.bool (decide (T.size < p))) ∧ w' = w := by
  have c1 : w.cell? ⟨g, 1, none⟩ = some (.bool (decide (T.size < p))) := (blk_cell h 1).trans rfl
  obtain ⟨b, hb⟩ : ∃ b, decide (T.size < p) = b := ⟨_, rfl⟩
  rw [hb] at c1 ⊢
  clear hb h
  go_enter Try.func19, Try.ntmps19
  go_wp2
  go_ret
  exact ⟨rfl, rfl⟩
theorem done_any (g : Nat) (T : ByteArray) (p : Nat) (w : World) (h : RD w g T p) : Calls Try.prog 22 #[.pointer (some ⟨g, 0, none⟩)] w fun e w' => e = .returned (.bool (decide (T.size = p))) ∧ w' = w := by
  have HB := Aside0.mk (bad_any g T p w h)
  have c0 : w.cell? ⟨g, 0, none⟩ = some (.string (T.extract p T.size)) := (blk_cell h 0).trans rfl
  go_enter Try.func22, Try.ntmps22
  go_wp2_with fail
  refine HB.out.mono ?_
  rintro e w1 ⟨rfl, rfl⟩
  by_cases h1 : T.size < p
  · have h2 : decide (T.size = p) = false := decide_eq_false (by omega)
    have h3 : decide (T.size < p) = true := decide_eq_true h1
    go_wp2
    go_ret
    exact ⟨by rw [h2]; rfl, rfl⟩
  · have h3 : decide (T.size < p) = false := decide_eq_false h1
    obtain ⟨s, hs⟩ : ∃ s, T.extract p T.size = s := ⟨_, rfl⟩
    rw [hs] at c0
    have hss : s.size = T.size - p := by rw [← hs, ByteArray.size_extract]; omega
    have HE : Aside0 (s.toList.isEmpty = decide (T.size = p)) := ⟨by
      rw [ByteArray.toList_eq, Bool.eq_iff_iff, List.isEmpty_iff_length_eq_zero, decide_eq_true_eq, Array.length_toList]
      show s.size = 0 ↔ _
      omega⟩
    clear hs hss h1
    go_wp2
    go_ret
    exact ⟨by rw [← HE.out]; rfl, rfl⟩
theorem fail_any (g : Nat) (T : ByteArray) (p : Nat) (w : World) (h : RD w g T p) (hp : T.size ≤ p) : Calls Try.prog 35 #[.pointer (some ⟨g, 0, none⟩)] w fun e w' => e = .returned (.tuple #[]) ∧ RD w' g T (p + 1) ∧ Ch (fun i => i = g) w w' := by
  have f0 := blk_frozen h 0
  have f1 := blk_frozen h 1
  have c0 : w.cell? ⟨g, 0, none⟩ = some (.string (T.extract p T.size)) := (blk_cell h 0).trans rfl
  have c1 : w.cell? ⟨g, 1, none⟩ = some (.bool (decide (T.size < p))) := (blk_cell h 1).trans rfl
  have HB := Aside0.mk h
  have HP : Aside0 (#[Value.string (T.extract (p + 1) T.size), .bool (decide (T.size < p + 1))] = #[Value.string ⟨#[]⟩, .bool true]) := ⟨by rw [ext_none T _ _ (by omega), decide_eq_true (by omega)]⟩
  clear h
  go_enter Try.func35, Try.ntmps35
  go_wp2
  go_end0
  refine ⟨rfl, ?_, ((Ch.refl (fun i => i = g) w).set (g := g) rfl).set (g := g) rfl⟩
  unfold RD
  rw [HP.out]
  exact blk_put (blk_put HB.out 0 (.string ⟨#[]⟩) rfl) 1 (.bool true) rfl
def RawPost (g : Nat) (T : ByteArray) (p : Nat) (w : World) (e : Ending) (w' : World) : Prop := e = .returned (.string (T.extract p (p + 1))) ∧ RD w' g T (p + 1) ∧ Ch (fun i => i = g) w w'
theorem raw_one (g : Nat) (T : ByteArray) (p : Nat) (hT : T.size ≤ 1000000) (w : World) (h : RD w g T p) : Calls Try.prog 34 #[.pointer (some ⟨g, 0, none⟩), .int .i64 1] w (RawPost g T p w) := by
  have HB := Aside0.mk (bad_any g T p w h)
  have c0 : w.cell? ⟨g, 0, none⟩ = some (.string (T.extract p T.size)) := (blk_cell h 0).trans rfl
  have f0 := blk_frozen h 0
  by_cases hp : T.size ≤ p
  · have HF := Aside0.mk (fail_any g T p w h hp)
    have HE : Aside0 (T.extract p (p + 1) = ⟨#[]⟩) := ⟨ext_none T _ _ hp⟩
    by_cases h1 : T.size < p
    · have h3 : decide (T.size < p) = true := decide_eq_true h1
      go_enter Try.func34, Try.ntmps34
      go_wp2_with fail
      refine HB.out.mono ?_
      rintro e w1 ⟨rfl, rfl⟩
      rw [h3]
      go_wp2_with fail
      refine HF.out.mono ?_
      rintro e w2 ⟨rfl, hr, hch⟩
      have HR := Aside0.mk (And.intro hr hch)
      clear hr hch
      go_wp2
      go_ret
      exact ⟨by rw [HE.out]; rfl, HR.out.1, HR.out.2⟩
    · have h3 : decide (T.size < p) = false := decide_eq_false h1
      obtain ⟨s, hs⟩ : ∃ s, T.extract p T.size = s := ⟨_, rfl⟩
      rw [hs] at c0
      have hss : s.size = 0 := by rw [← hs, ByteArray.size_extract]; omega
      clear hs
      go_enter Try.func34, Try.ntmps34
      go_wp2_with fail
      refine HB.out.mono ?_
      rintro e w1 ⟨rfl, rfl⟩
      rw [h3]
      go_wp2_with fail
      refine HF.out.mono ?_
      rintro e w2 ⟨rfl, hr, hch⟩
      have HR := Aside0.mk (And.intro hr hch)
      clear hr hch
      go_wp2
      go_ret
      exact ⟨by rw [HE.out]; rfl, HR.out.1, HR.out.2⟩
  · have h3 : decide (T.size < p) = false := decide_eq_false (by omega)
    have HH := Aside0.mk h
    have HX : Aside0 ((T.extract p T.size).extract 0 1 = T.extract p (p + 1) ∧ (T.extract p T.size).extract 1 (T.size - p) = T.extract (p + 1) T.size ∧ decide (T.size < p + 1) = false) := ⟨by
      rw [ByteArray.extract_extract, ByteArray.extract_extract]
      refine ⟨by congr 1; omega, by congr 1; omega, decide_eq_false (by omega)⟩⟩
    have hss : (T.extract p T.size).size = T.size - p := by rw [ByteArray.size_extract]; omega
    obtain ⟨s, hs⟩ : ∃ s, T.extract p T.size = s := ⟨_, rfl⟩
    rw [hs] at c0 hss HX
    obtain ⟨n, hn⟩ : ∃ n, T.size - p = n := ⟨_, rfl⟩
    rw [hn] at hss HX
    have hn1 : 1 ≤ n := by omega
    have hn2 : n ≤ 1000000 := by omega
    have hl1 : ¬ (n : Int) < 1 := by omega
    have hs1 : ¬ s.size < 1 := by omega
    have HS := Aside0.mk (And.intro hs hn)
    clear h hp hs hn
    go_enter Try.func34, Try.ntmps34
    go_wp2_with fail
    refine HB.out.mono ?_
    rintro e w1 ⟨rfl, rfl⟩
    rw [h3]
    go_wp2
    go_ret
    refine ⟨by rw [← HX.out.1]; rfl, ?_, (Ch.refl (fun i => i = g) w1).set (g := g) rfl⟩
    have hh := HH.out
    unfold RD at hh ⊢
    rw [HS.out.1, h3] at hh
    rw [← HX.out.2.1, HX.out.2.2]
    exact blk_put hh 0 _ rfl
theorem or64_zero (b : Int) (h0 : 0 ≤ b) (h1 : b < 256) : bits .or .u64 0 b = b := by
  have e64 : (2 : Int) ^ 64 = 18446744073709551616 := by decide
  have := bits_join .u64 64 (by decide) (fun n a b => by
    rw [show IntKind.u64.wrap n = n % 18446744073709551616 by simp [IntKind.wrap, IntKind.bits, IntKind.signed]]
    omega) 8 0 b (by decide) (by decide) (by decide) h0 h1 (by omega)
  rw [this]
  omega
def FixPost (g : Nat) (T : ByteArray) (p : Nat) (w : World) (e : Ending) (w' : World) : Prop := e = .returned (.int .u64 ((bz T).getD p 0)) ∧ RD w' g T (p + 1) ∧ Ch (fun i => i = g) w w'
set_option maxRecDepth 100000 in
theorem fixed_one (g : Nat) (T : ByteArray) (p : Nat) (hT : T.size ≤ 1000000) (w : World) (h : RD w g T p) : Calls Try.prog 32 #[.pointer (some ⟨g, 0, none⟩), .int .i64 1] w (FixPost g T p w) := by
  have HR := Aside0.mk (raw_one g T p hT w h)
  have HZ : Aside0 (∀ w : World, Calls Try.prog 33 #[.int .i64 1] w fun e w' => e = .returned (.int .i64 1) ∧ w' = w) := ⟨size_one⟩
  have hb := byt_get (bz_byt T) p
  have hbe := bz_get T p
  obtain ⟨b, hbb⟩ : ∃ b, (bz T).getD p 0 = b := ⟨_, rfl⟩
  unfold FixPost
  rw [hbb] at hb hbe ⊢
  obtain ⟨b0, b1⟩ := hb
  have HOR := Aside0.mk (or64_zero b b0 b1)
  obtain ⟨s, hs⟩ : ∃ s, T.extract p (p + 1) = s := ⟨_, rfl⟩
  have hss : s.size = min (p + 1) T.size - p := by rw [← hs, ByteArray.size_extract]
  obtain ⟨n, hn⟩ : ∃ n, s.size = n := ⟨_, rfl⟩
  have HN : Aside0 ((n = 0 ∧ b = 0) ∨ (n = 1 ∧ ((s.data.toList.getD 0 0).toNat : Int) = b)) := ⟨by
    by_cases hp : p < T.size
    · right
      refine ⟨by omega, ?_⟩
      rw [hbe, ← hs]
      congr 2
      simp only [List.getD_eq_getElem?_getD, Array.getElem?_toList]
      have e1 : (T.extract p (p + 1)).data = T.data.extract p (p + 1) := ByteArray.data_extract
      rw [e1, Array.getElem?_extract]
      have : T.data.size = T.size := rfl
      rw [if_pos (by omega)]
      rfl
    · left
      refine ⟨by omega, ?_⟩
      rw [← hbb, List.getD_eq_getElem?_getD, List.getElem?_eq_none (by rw [bz_len]; omega)]
      rfl⟩
  have kb := fun W => Lib.run_convert_string_bytes (P := Try.prog) W 9 36 5 s Try.underlying9 Try.underlying36 Try.underlying5
  unfold RawPost at HR
  rw [hs] at HR
  clear hs hss hbb hbe h
  go_enter Try.func32, Try.ntmps32
  go_wp2_with fail
  refine (HZ.out _).mono ?_
  rintro e w1 ⟨rfl, rfl⟩
  go_wp2_with fail
  refine HR.out.mono ?_
  rintro e w2 ⟨rfl, hr2, hc2⟩
  have HW2 := Aside0.mk (And.intro hr2 hc2)
  clear hr2 hc2
  go_wp2
  have h2 := bytes_below (Below.refl w2.heap.size w2) (Nat.le_refl _) 5 s
  have HBW : Aside0 (Ch (fun i => i = g) w1 (Lib.bytesWorld w2 5 s) ∧ RD (Lib.bytesWorld w2 5 s) g T (p + 1)) := ⟨HW2.out.2.below_then h2, blk_below HW2.out.1 h2⟩
  have HCL : Aside0 (n = 1 → (Lib.bytesWorld w2 5 s).cell? ⟨w2.heap.size, 0, none⟩ = some (.int .u8 b)) := ⟨fun h => by
    rw [Lib.bytesWorld_cell w2 5 s 0 (by omega)]
    rcases HN.out with ⟨e, _⟩ | ⟨_, e⟩
    · omega
    · rw [e]⟩
  have hn1 : n ≤ 1 := by rcases HN.out with ⟨e, _⟩ | ⟨e, _⟩ <;> omega
  have HN0 : Aside0 (n = 0 → b = 0) := ⟨fun h => by rcases HN.out with ⟨_, e⟩ | ⟨e, _⟩; exact e; omega⟩
  generalize Lib.bytesWorld w2 5 s = W at HBW HCL ⊢
  clear h2 HN HW2 HR HZ kb hn
  go_loopg [5, 14] n (fun gk x y wr => ∃ k : Nat, Aside0 (k + gk = n) ∧ x = .int .u64 (if k = 0 then 0 else b) ∧ y = .int .i64 k ∧ wr = W)
  case atStart => exact ⟨0, ⟨by omega⟩, rfl, rfl, rfl⟩
  case round =>
    obtain ⟨k, HK, rfl, rfl, rfl⟩ := hrel
    by_cases hlt : k < n
    · obtain rfl : k = 0 := by omega
      obtain rfl : n = 1 := by omega
      have c0 := HCL.out rfl
      have hor := HOR.out
      simp only [if_true]
      go_wp2
      go_roundg (gk - 1)
      case measure => have := HK.out; omega
      case rel => exact ⟨1, ⟨by have := HK.out; omega⟩, by first | rfl | (rw [HOR.out]; rfl) | trace_state, by go_num, rfl⟩
    · have hk : k = n := by have := HK.out; omega
      subst hk
      obtain ⟨v, hv⟩ : ∃ v, (if k = 0 then 0 else b) = v := ⟨_, rfl⟩
      have hvb : v = b := by rw [← hv]; split; exact (HN0.out (by assumption)).symm; rfl
      rw [hv, hvb]
      clear hv hvb
      go_wp2
      go_ret
      exact ⟨rfl, HBW.out.2, HBW.out.1⟩
end Go.Proofs.Ytfijbhacobjjgae
