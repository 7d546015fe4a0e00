/- Words: of records. -/
import Derived.Test.YtfijbhacobjjgahWordsLaw
import Derived.Test.YtfijbhacobjjgahRunsA
import Derived.Test.YtfijbhacobjjgahStrs
namespace Go.Proofs.Ytfijbhacobjjgah
open Go.RowKit Go.Proofs.YtfijbhacobjjgahW.PrintWords Go.Proofs.YtfijbhacobjjgahW.PrintLast Go.Proofs.YtfijbhacobjjgahW.PrintMore Go.Proofs.Ytfijbhacobjjgah.Fr
set_option linter.unusedVariables false
set_option linter.unusedSimpArgs false
attribute [local go_sem] max2_int min2_int max_two min_two

open Pl Hp
def WordsPost (k : Nat) (l : List ByteArray) (w0 : World) (e : Ending) (w' : World) : Prop := ∃ g md D, e = .returned (.pointer (some ⟨g, 0, none⟩)) ∧ TB w0.heap.size w' g md 1000 D (allL k l) ∧ Below w0.heap.size w0 w'
set_option maxRecDepth 100000 in
set_option maxHeartbeats 4000000 in
theorem words_any (sz : Int) (A : Option Addr) (ca k : Nat) (l : List ByteArray) (w0 : World) (hrd : RdS w0 A l) (hl : l.length ≤ 20) (hcap : l.length ≤ ca) (hsz : ∀ s ∈ l, s.size ≤ 60) (hk : brI sz 1 64 = k) :
    Calls Try.prog 18 #[.slice A l.length ca, .int .i64 sz] w0 (WordsPost k l w0) := by
  obtain ⟨n, hn⟩ : ∃ n, l.length = n := ⟨_, rfl⟩
  have hk1 : 1 ≤ k ∧ k ≤ 64 := by unfold brI at hk; omega
  have H := Aside0.mk (And.intro hrd (And.intro hn (And.intro hsz hk)))
  rw [hn] at hl hcap ⊢
  clear hrd hn hsz hk
  have hn64 : ¬ (64 : Int) < n := by omega
  have hn64b : (n : Int) ≤ 64 := by omega
  have hncI : (n : Int) ≤ ca := by omega
  go_enter Try.func18, Try.ntmps18
  go_wp2_with fail
  refine (new_any 1000 w0).mono ?_
  rintro e w1 ⟨g, md, room, hroom, rfl, ht, hb⟩
  have hrm : room = 1000 := by have : brI 1000 1 1000 = 1000 := by decide
                               omega
  subst hrm
  have HT := Aside0.mk (And.intro ht hb)
  clear ht hb hroom
  go_wp2_with fail
  refine (brought_any sz 1 64 w1).mono ?_
  rintro e w2 ⟨rfl, rfl⟩
  rw [H.out.2.2.2]
  go_wp2_with fail
  go_loopg [18] n (fun d x18 wr => ∃ (i : Nat) (D : DW), Aside0 (i + d = n) ∧ x18 = .int .i64 i ∧ Aside0 (TB w0.heap.size wr g md 1000 D (allL k (l.take i)) ∧ Below w0.heap.size w0 wr))
  case atStart => exact ⟨0, _, ⟨by omega⟩, rfl, HT⟩
  case round =>
    clear HT
    obtain ⟨i, D, HI, rfl, HT⟩ := hrel
    by_cases hlt : i < n
    · have hil : i < l.length := by rw [H.out.2.1]; exact hlt
      obtain ⟨ad, rfl, hc⟩ := (H.out.1.below HT.out.2) i hil
      obtain ⟨r, hr⟩ : ∃ r, l.getD i ByteArray.empty = r := ⟨_, rfl⟩
      rw [hr] at hc
      have hst := allL_step k l i hil
      rw [hr] at hst
      have hrs : r.size ≤ 60 := H.out.2.2.1 r (by rw [← hr, List.getD_eq_getElem?_getD, List.getElem?_eq_getElem hil]; exact List.getElem_mem hil)
      obtain ⟨L0, hL0⟩ : ∃ L0, allL k (l.take i) = L0 := ⟨_, rfl⟩
      rw [hL0] at hst
      have HST := Aside0.mk hst
      have HT2 : Aside0 (TB w0.heap.size wr g md 1000 D L0 ∧ Below w0.heap.size w0 wr) := ⟨hL0 ▸ HT.out⟩
      obtain ⟨m, hm⟩ : ∃ m, r.size = m := ⟨_, rfl⟩
      have he512 : r.extract 0 m = r := by rw [← hm]; exact ByteArray.extract_zero_size
      have hli : (i : Int) < n := by omega
      have hm5 : ¬ (512 : Int) < m := by omega
      have hm5b : (m : Int) ≤ 512 := by omega
      rw [hm] at hrs
      have HMZ := Aside0.mk hm
      clear hst hL0 hr hil HT
      go_wp2_with fail
      obtain ⟨gk0, hgk0⟩ : ∃ gk0, gk = gk0 := ⟨_, rfl⟩
      have HG := Aside0.mk hgk0
      clear hgk0 hc he512
      go_loopg [8] (m + 1 - k) (fun d x8 wr => ∃ (i2 : Nat) (D2 : DW), Aside0 (i2 + d = m + 1 - k) ∧ x8 = .int .i64 i2 ∧ Aside0 (TB w0.heap.size wr g md 1000 D2 (stp k r L0 i2) ∧ Below w0.heap.size w0 wr))
      case atStart => exact ⟨0, D, ⟨by omega⟩, rfl, HT2⟩
      case round =>
        clear HT2
        obtain ⟨i2, D2, HI2, rfl, HT2⟩ := hrel
        by_cases hlt2 : i2 + k ≤ m
        · have hikI : (i2 : Int) + k ≤ m := by omega
          have hwik : IntKind.i64.wrap ((i2 : Int) + k) = (i2 : Int) + k := by rw [IntKind.wrap_i64]; omega
          have hexs : (r.extract i2 (i2 + k)).size ≤ 9223372036854775807 := by rw [ByteArray.size_extract]; have := HMZ.out; omega
          have HEX := Aside0.mk hexs
          clear hexs
          go_wp2_with fail
          refine (tadd_any (r.extract i2 (i2 + k)) HEX.out 1 wr HT2.out.1).mono ?_
          rintro e w5 ⟨D5, rfl, h5, hc5⟩
          have HT5 : Aside0 (TB w0.heap.size w5 g md 1000 D5 (stp k r L0 (i2 + 1)) ∧ Below w0.heap.size w0 w5) := ⟨h5, Ch.onto HT2.out.2 hc5 HT2.out.2.size (fun j e => e ▸ HT2.out.1.lom)⟩
          clear h5 hc5 HT2
          go_wp2
          go_roundg (gk - 1)
          case measure => have := HI2.out; omega
          case rel => exact ⟨i2 + 1, D5, ⟨by have := HI2.out; omega⟩, by go_num, HT5⟩
        · have hikI : ¬ (i2 : Int) + k ≤ m := by omega
          have hwik : IntKind.i64.wrap ((i2 : Int) + k) = (i2 : Int) + k := by have := HI2.out; rw [IntKind.wrap_i64]; omega
          have hi2 : i2 = r.size + 1 - k := by have := HI2.out; have := HMZ.out; omega
          have HF : Aside0 (TB w0.heap.size wr g md 1000 D2 (allL k (l.take (i + 1))) ∧ Below w0.heap.size w0 wr) := ⟨by rw [HST.out]; unfold recL; rw [← hi2]; exact HT2.out⟩
          clear hi2 HT2
          go_wp2
          go_roundg (gk0 - 1)
          case measure => have := HI.out; have := HG.out; omega
          case rel => exact ⟨i + 1, D2, ⟨by have := HI.out; have := HG.out; omega⟩, by go_num, HF⟩
    · have hin : i = n := by have := HI.out; omega
      subst hin
      have hii : ¬ (i : Int) < i := by omega
      have htk : l.take i = l := List.take_of_length_le (Nat.le_of_eq H.out.2.1)
      go_wp2
      go_ret
      exact ⟨g, md, D, rfl, htk ▸ HT.out.1, HT.out.2⟩
end Go.Proofs.Ytfijbhacobjjgah
