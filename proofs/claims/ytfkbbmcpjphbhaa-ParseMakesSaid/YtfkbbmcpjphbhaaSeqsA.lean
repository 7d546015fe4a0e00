/- Steps in memory; whether they make a text, and their literals: the document's. -/
import Derived.Test.YtfkbbmcpjphbhaaProg
import Derived.Test.YtfkbbmcpjphbhaaVals
import Derived.Test.YtfkbbmcpjphbhaaWLast
import Derived.Test.YtfkbbmcpjphbhaaWMore
import Derived.RegionTactic
import Derived.ChangeAlike
import Derived.BigRegion
import Derived.WalkLawsBesides
import Derived.WalkSpells
import Derived.Deep.LoopGhost
import Derived.Deep.QuietTactic
import Derived.BigQuiet
import Derived.OwnWalk
import Derived.Test.YtfkbbmcpjphbhaaLaw14
import Derived.Test.YtfkbbmcpjphbhaaNums
import Derived.Test.YtfkbbmcpjphbhaaOpen
namespace Go.Proofs.Ytfkbbmcpjphbhaa
open Go.RowKit Go.Proofs.YtfkbbmcpjphbhaaW.PrintWords Go.Proofs.YtfkbbmcpjphbhaaW.PrintLast Go.Proofs.YtfkbbmcpjphbhaaW.PrintMore Go.Proofs.Ytfkbbmcpjphbhaa.Fr
set_option linter.unusedVariables false
set_option linter.unusedSimpArgs false
attribute [local go_sem] max2_int min2_int max_two min_two

open Pl
def toS (b : Bs) : ByteArray := ⟨b.toArray⟩
theorem toS_list (b : Bs) : (toS b).data.toList = b := by simp [toS]
theorem ext_rest (L : ByteArray) (n : Nat) : (L.extract n L.size).data.toList = L.data.toList.drop n := by
  have h : L.data.toList.length = L.size := data_length L
  rw [ByteArray.data_extract, Array.toList_extract]
  simp only [List.extract_eq_take_drop]
  rw [List.take_of_length_le (by rw [List.length_drop]; omega)]
/-- The steps, handed in. -/
def Steps (w : World) (A : Option Addr) (xs : List Stp) : Prop := ∀ k, k < xs.length → ∃ (ad : Addr), A = some ad ∧ w.cell? (ad.add (k * 3)) = some (.int .i64 (xs.getD k (0, 0, 0)).1) ∧ w.cell? (ad.add (k * 3 + 1)) = some (.int .i64 (xs.getD k (0, 0, 0)).2.1) ∧ w.cell? (ad.add (k * 3 + 2)) = some (.int .i64 (xs.getD k (0, 0, 0)).2.2)
theorem Steps.below {w w1 : World} {A : Option Addr} {xs : List Stp} (h : Steps w A xs) (hb : Below w.heap.size w w1) : Steps w1 A xs := fun k hk => by
  obtain ⟨ad, e, h0, h1, h2⟩ := h k hk
  exact ⟨ad, e, pw_cell_below hb h0, pw_cell_below hb h1, pw_cell_below hb h2⟩
theorem drop_get (xs : List Stp) (k : Nat) (h : k < xs.length) : xs.drop k = xs.getD k (0, 0, 0) :: xs.drop (k + 1) := by
  rw [List.drop_eq_getElem_cons h]
  simp [List.getD_eq_getElem?_getD, h]
theorem app_list (a b : ByteArray) : (a ++ b).data.toList = a.data.toList ++ b.data.toList := by simp
theorem toS_size (b : Bs) : (toS b).size = b.length := by
  show b.toArray.size = _
  simp
theorem steps_of {w : World} {A : Option Addr} {len : Nat} {xs : List Stp} (h : int3.C w A len xs) : Steps w A xs ∧ xs.length = len := by
  refine ⟨fun k hk => ?_, h.1⟩
  obtain ⟨ad, he, hall⟩ := h.2.2 (by have := h.1; omega)
  obtain ⟨c, _, hK, hcell⟩ := hall k _ (List.getElem?_eq_getElem hk)
  have hK' : c = [.int .i64 (xs[k]).1, .int .i64 (xs[k]).2.1, .int .i64 (xs[k]).2.2] := hK
  subst hK'
  have e : xs.getD k (0, 0, 0) = xs[k] := by simp [List.getD_eq_getElem?_getD, hk]
  rw [e]
  exact ⟨ad, he, hcell 0 _ rfl, hcell 1 _ rfl, hcell 2 _ rfl⟩
def bgx (T : ByteArray) (i : Nat) : UInt8 := T.data.toList.getD i 0
theorem bgx_get (T : ByteArray) (i : Nat) (h : i < T.size) : T[i] = bgx T i := by
  have h2 : i < T.data.toList.length := by simpa using h
  unfold bgx
  rw [List.getD_eq_getElem?_getD, List.getElem?_eq_getElem h2]
  rfl
set_option maxRecDepth 100000 in
set_option maxHeartbeats 4000000 in
theorem r12_any (D S : ByteArray) (A0 : Option Addr) (cap : Nat) (xs : List Stp) (w0 : World) (hD : D.size ≤ 1000) (hSs : S.size ≤ 1000) (hxl : xs.length ≤ 1000) (hS : Steps w0 A0 xs) (hR : right (D.data.toList ++ S.data.toList) xs D.size) :
    Calls Try.prog 6 #[.string D, .string S, .slice A0 xs.length cap] w0 fun e w' => e = .returned (.bool true) ∧ Below w0.heap.size w0 w' := by
  have HS := Aside0.mk hS
  have hXs : (D ++ S).size = D.size + S.size := by rw [ByteArray.size_append]
  have HR := Aside0.mk hR
  clear hS hR
  go_enter Try.func6, Try.ntmps6
  go_wp2
  obtain ⟨X, hX⟩ : ∃ X, D ++ S = X := ⟨_, rfl⟩
  obtain ⟨n, hn⟩ : ∃ n, X.size = n := ⟨_, rfl⟩
  have hXl : X.data.toList.length = n := by rw [data_length]; exact hn
  rw [← app_list, hX] at HR
  rw [hX] at hXs
  rw [hX]
  rw [hn] at hXs
  have hn1 : n ≤ 2000 := by omega
  have HN := Aside0.mk (And.intro hn (And.intro hX (And.intro hXl hXs)))
  clear hn hX hXl hXs
  go_loopg [8, 9] xs.length (fun gk x y wr => ∃ (k a : Nat), Aside0 (k + gk = xs.length) ∧ x = .int .i64 a ∧ y = .int .i64 k ∧ Aside0 (right X.data.toList (xs.drop k) a ∧ a ≤ n) ∧ Aside0 (Below w0.heap.size w0 wr))
  case atStart => exact ⟨0, D.size, ⟨by omega⟩, rfl, rfl, ⟨HR.out, by have := HN.out; omega⟩, ⟨Below.refl _ _⟩⟩
  case round =>
    obtain ⟨k, a, HK, rfl, rfl, HI, HB⟩ := hrel
    obtain ⟨hr, han⟩ := HI.out
    by_cases hlt : k < xs.length
    · obtain ⟨ad, rfl, hc0, hc1, hc2⟩ := (HS.out.below HB.out) k hlt
      obtain ⟨s1, s2, s3, hs⟩ : ∃ s1 s2 s3, xs.getD k (0, 0, 0) = (s1, s2, s3) := ⟨_, _, _, rfl⟩
      rw [drop_get xs k hlt, hs] at hr
      rw [hs] at hc0 hc1 hc2
      simp only at hc0 hc1 hc2
      rw [← add_add, cell_off _ (by decide)] at hc1 hc2
      obtain ⟨hst, hsame, hrest⟩ := hr
      unfold okStep at hst
      simp only at hst hsame hrest
      rw [HN.out.2.2.1] at hst
      obtain ⟨ln, rfl⟩ : ∃ ln : Nat, s1 = (ln : Int) := ⟨s1.toNat, by omega⟩
      obtain ⟨mn, rfl⟩ : ∃ mn : Nat, s2 = (mn : Int) := ⟨s2.toNat, by omega⟩
      obtain ⟨on, rfl⟩ : ∃ on : Nat, s3 = (on : Int) := ⟨s3.toNat, by omega⟩
      simp only [Int.toNat_natCast] at hsame hrest
      obtain ⟨i1, i2, i3, i4, i5, i6, i7, i8⟩ := hst
      have HRS := Aside0.mk hrest
      have HSM := Aside0.mk hsame
      have hsz : X.size = n := HN.out.1
      have e1 : decide ((ln : Int) < 0) = false := decide_eq_false (by omega)
      have e2 : decide (n < ln) = false := decide_eq_false (by omega)
      have e3 : decide ((mn : Int) < 3) = false := decide_eq_false (by omega)
      have e4 : decide (n < mn) = false := decide_eq_false (by omega)
      have e5 : decide ((on : Int) < 1) = false := decide_eq_false (by omega)
      have e6 : decide (n < on) = false := decide_eq_false (by omega)
      have HB2 : Aside0 (Below w0.heap.size w0 (wr.alloc (.cells #[.int .i64 ln, .int .i64 mn, .int .i64 on] 27))) := ⟨below_step HB.out (below_alloc (Below.refl _ _) _)⟩
      have HG : Aside0 ((wr.alloc (.cells #[.int .i64 ln, .int .i64 mn, .int .i64 on] 27)).heap[wr.heap.size]? = some (.cells #[.int .i64 ln, .int .i64 mn, .int .i64 on] 27 (0, 0))) := ⟨blk_new wr _⟩
      clear hrest hsame hs
      go_wp2_with fail
      clear e1 e2 e3 e4 e5 e6 hsz hc0 hc1 hc2
      generalize wr.alloc (.cells #[.int .i64 ln, .int .i64 mn, .int .i64 on] 27) = W2 at HB2 HG ⊢
      generalize wr.heap.size = gx at HG ⊢
      obtain ⟨gk1, rfl⟩ : ∃ g1 : Nat, g1 = gk := ⟨_, rfl⟩
      obtain ⟨wo, rfl⟩ : ∃ wo : World, wo = wr := ⟨_, rfl⟩
      go_loopg [8, 11] mn (fun gk x y wr => ∃ j : Nat, Aside0 (j + gk = mn) ∧ x = .int .i64 ((a + ln + j : Nat) : Int) ∧ y = .int .i64 j ∧ Aside0 (Drawn0 W2 wr))
      case atStart => exact ⟨0, ⟨by omega⟩, by go_num, rfl, ⟨Drawn0.refl _⟩⟩
      case round =>
        obtain ⟨j, HJ, rfl, rfl, HD⟩ := hrel
        have hg := blk_below HG.out HD.out.below
        have d1 : wr.cell? ⟨gx, 1, none⟩ = some (.int .i64 mn) := (blk_cell hg 1).trans rfl
        have d2 : wr.cell? ⟨gx, 2, none⟩ = some (.int .i64 on) := (blk_cell hg 2).trans rfl
        clear hg
        by_cases hj : j < mn
        · obtain ⟨p, hp⟩ : ∃ p, a + ln + j = p := ⟨_, rfl⟩
          obtain ⟨q, hq⟩ : ∃ q, p - on = q := ⟨_, rfl⟩
          have hsz : X.size = n := HN.out.1
          have hpn : p < X.size := by omega
          have hqn : q < X.size := by omega
          have hw : IntKind.i64.wrap ((p : Int) - (on : Int)) = (q : Int) := by rw [IntKind.wrap_i64]; omega
          have hbb : X[p] = X[q] := by
            rw [bgx_get X p hpn, bgx_get X q hqn]
            have := HSM.out j hj
            rw [hp, hq] at this
            exact this
          have hne : ((X[p].toNat : Int) != (X[q].toNat : Int)) = false := by rw [hbb]; simp
          have hpi : (p : Int) < (X.size : Int) := by omega
          have hqi : (q : Int) < (X.size : Int) := by omega
          rw [hp]
          have HP := Aside0.mk (And.intro hp hq)
          have hp2 : p ≤ 2000 := by omega
          clear hbb hp hq hsz
          go_wp2
          go_quiet (fail)
          clear hw
          go_wp2
          go_roundg (gk - 1)
          case measure => have := HJ.out; omega
          case rel => exact ⟨j + 1, ⟨by have := HJ.out; omega⟩, by have := HP.out.1; rw [show a + ln + (j + 1) = p + 1 by omega]; go_num, by go_num, ⟨HD.out.step _⟩⟩
        · obtain rfl : j = mn := by have := HJ.out; omega
          go_wp2
          go_roundg (gk1 - 1)
          case measure => have := HK.out; omega
          case rel => exact ⟨k + 1, a + ln + j, ⟨by have := HK.out; omega⟩, rfl, by go_num, ⟨HRS.out, by omega⟩, ⟨below_step HB2.out HD.out.below⟩⟩
    · go_wp2
      go_ret
      exact ⟨rfl, HB.out⟩
def fits (n : Nat) : List Stp → Nat → Prop
  | [], _ => True
  | s :: r, a => 0 ≤ s.1 ∧ 0 ≤ s.2.1 ∧ (a : Int) + s.1 + s.2.1 ≤ n ∧ fits n r (a + s.1.toNat + s.2.1.toNat)
theorem right_fits {all : Bs} {n ah : Nat} (hn : all.length = ah + n) : ∀ (l : List Stp) (a : Nat), right all l (ah + a) → fits n l a
  | [], _, _ => trivial
  | s :: r, a, h => by
    obtain ⟨h1, _, h3⟩ := h
    unfold okStep at h1
    rw [hn] at h1
    refine ⟨by omega, by omega, by omega, right_fits hn r _ ?_⟩
    rw [show ah + (a + s.1.toNat + s.2.1.toNat) = ah + a + s.1.toNat + s.2.1.toNat by omega]
    exact h3
theorem ext_mid (L : ByteArray) (a n : Nat) : (L.extract a (a + n)).data.toList = (L.data.toList.drop a).take n := by
  rw [ByteArray.data_extract, Array.toList_extract]
  simp only [List.extract_eq_take_drop]
  rw [show a + n - a = n by omega]
theorem toS_of (L : ByteArray) : toS L.data.toList = L := by simp [toS]
set_option maxRecDepth 100000 in
set_option maxHeartbeats 4000000 in
theorem l12_any (S : ByteArray) (A0 : Option Addr) (cap : Nat) (xs : List Stp) (w0 : World) (hSs : S.size ≤ 1000) (hxl : xs.length ≤ 1000) (hS : Steps w0 A0 xs) (hF : fits S.size xs 0) :
    Calls Try.prog 9 #[.string S, .slice A0 xs.length cap] w0 fun e w' => e = .returned (.string (toS (litsOf S.data.toList xs 0))) ∧ Drawn0 w0 w' := by
  have HS := Aside0.mk hS
  have HF := Aside0.mk hF
  clear hS hF
  go_enter Try.func9, Try.ntmps9
  go_wp2
  go_loopg [5, 6, 7] xs.length (fun gk o x y wr => ∃ (k a : Nat) (O : ByteArray), Aside0 (k + gk = xs.length) ∧ o = .string O ∧ x = .int .i64 a ∧ y = .int .i64 k ∧ Aside0 (O.data.toList ++ litsOf S.data.toList (xs.drop k) a = litsOf S.data.toList xs 0 ∧ fits S.size (xs.drop k) a ∧ a ≤ S.size ∧ O.size ≤ a) ∧ Aside0 (Drawn0 w0 wr))
  case atStart => exact ⟨0, 0, ⟨#[]⟩, ⟨by omega⟩, rfl, rfl, rfl, ⟨by simp, HF.out, by omega, Nat.le_refl _⟩, ⟨Drawn0.refl _⟩⟩
  case round =>
    obtain ⟨k, a, O, HK, rfl, rfl, rfl, HI, HD⟩ := hrel
    obtain ⟨hl, hf, han, hOa⟩ := HI.out
    by_cases hlt : k < xs.length
    · obtain ⟨ad, rfl, hc0, hc1, hc2⟩ := (HS.out.below HD.out.below) k hlt
      obtain ⟨s1, s2, s3, hs⟩ : ∃ s1 s2 s3, xs.getD k (0, 0, 0) = (s1, s2, s3) := ⟨_, _, _, rfl⟩
      rw [drop_get xs k hlt, hs] at hl hf
      rw [hs] at hc0 hc1 hc2
      simp only at hc0 hc1 hc2
      rw [← add_add, cell_off _ (by decide)] at hc1 hc2
      obtain ⟨i1, i2, i3, hf2⟩ := hf
      simp only at i1 i2 i3
      obtain ⟨ln, rfl⟩ : ∃ ln : Nat, s1 = (ln : Int) := ⟨s1.toNat, by omega⟩
      obtain ⟨mn, rfl⟩ : ∃ mn : Nat, s2 = (mn : Int) := ⟨s2.toNat, by omega⟩
      simp only [Int.toNat_natCast] at hf2
      simp only [litsOf, Int.toNat_natCast] at hl
      have hx1 : (S.extract a (a + ln)).size = ln := by rw [ByteArray.size_extract]; omega
      have hx2 : (O ++ S.extract a (a + ln)).size = O.size + ln := by rw [ByteArray.size_append, hx1]
      have HL : Aside0 ((O ++ S.extract a (a + ln)).data.toList ++ litsOf S.data.toList (xs.drop (k + 1)) (a + ln + mn) = litsOf S.data.toList xs 0) := ⟨by rw [app_list, ext_mid, List.append_assoc]; exact hl⟩
      have HF2 := Aside0.mk hf2
      have HX2 := Aside0.mk hx2
      have hmi : min (a + ln) S.size - a = ln := by omega
      have hmi2 : min (a + ln) S.size = a + ln := by omega
      have hw1 : IntKind.i64.wrap ((a : Int) + (ln : Int)) = (a : Int) + (ln : Int) := by rw [IntKind.wrap_i64]; omega
      have hw2 : IntKind.i64.wrap ((a : Int) + (ln : Int) + (mn : Int)) = ((a + ln + mn : Nat) : Int) := by rw [IntKind.wrap_i64]; omega
      clear hl hf2 hs hx2
      go_wp2
      go_quiet (fail)
      clear hw1 hw2
      go_wp2
      go_roundg (gk - 1)
      case measure => have := HK.out; omega
      case rel => exact ⟨k + 1, a + ln + mn, _, ⟨by have := HK.out; omega⟩, rfl, by go_num, by go_num, ⟨HL.out, HF2.out, by omega, by rw [HX2.out]; omega⟩, ⟨HD.out.step _⟩⟩
    · have HE : Aside0 (toS (litsOf S.data.toList xs 0) = O ++ S.extract a S.size) := ⟨by
        rw [← hl, List.drop_of_length_le (by omega)]
        simp only [litsOf]
        rw [← ext_rest, ← app_list, toS_of]⟩
      have hx1 : (S.extract a S.size).size = S.size - a := by rw [ByteArray.size_extract]; omega
      have hx2 : (O ++ S.extract a S.size).size = O.size + (S.size - a) := by rw [ByteArray.size_append, hx1]
      clear hl hf
      go_wp2
      go_ret
      exact ⟨by rw [HE.out]; rfl, HD.out⟩
/-- Steps as cells. -/
def sq : List Stp → List Value
  | [] => []
  | s :: r => .int .i64 s.1 :: .int .i64 s.2.1 :: .int .i64 s.2.2 :: sq r
theorem sq_len : ∀ l : List Stp, (sq l).length = 3 * l.length
  | [] => rfl
  | s :: r => by simp only [sq, List.length_cons, sq_len r]; omega
theorem sq_app : ∀ a b : List Stp, sq (a ++ b) = sq a ++ sq b
  | [], b => rfl
  | s :: r, b => by simp only [sq, List.cons_append, sq_app r b]
theorem sq_one : ∀ (l : List Stp), ∀ u ∈ sq l, u.oneCell' = true
  | [], u, h => by cases h
  | s :: r, u, h => by
    simp only [sq, List.mem_cons] at h
    rcases h with rfl | rfl | rfl | h
    · rfl
    · rfl
    · rfl
    · exact sq_one r u h
theorem sq_get : ∀ (l : List Stp) (i : Nat), i < l.length → (sq l)[i * 3]? = some (.int .i64 (l.getD i (0, 0, 0)).1) ∧ (sq l)[i * 3 + 1]? = some (.int .i64 (l.getD i (0, 0, 0)).2.1) ∧ (sq l)[i * 3 + 2]? = some (.int .i64 (l.getD i (0, 0, 0)).2.2)
  | [], i, h => by simp at h
  | s :: r, 0, _ => ⟨rfl, rfl, rfl⟩
  | s :: r, i + 1, h => by
    have ih := sq_get r i (by simpa using h)
    simp only [sq, Nat.succ_mul, show i * 3 + 3 = i * 3 + 2 + 1 from rfl, show i * 3 + 2 + 1 + 1 = (i * 3 + 1) + 2 + 1 from rfl, show i * 3 + 2 + 1 + 2 = (i * 3 + 2) + 2 + 1 from rfl, List.getElem?_cons_succ, List.getD_cons_succ]
    exact ih
theorem own_steps {w : World} {base n : Nat} {e : TypeId} {v : Value} {l : List Stp} (h : w.ownsRow base e 3 v n (sq l)) : ∃ A c, v = .slice A l.length c ∧ l.length ≤ c ∧ c ≤ 9223372036854775807 ∧ Steps w A l := by
  have hl : l.length = n := by have := h.1; rw [sq_len] at this; omega
  subst hl
  rcases h.2 with ⟨rfl, h0⟩ | ⟨g, cap, cur, rfl, hb, hh, hn, hc, hs, ht⟩
  · exact ⟨none, 0, by rw [h0], by omega, by omega, fun i hi => by omega⟩
  · refine ⟨_, cap, rfl, hn, by unfold maxLen at hc; omega, fun i hi => ⟨_, rfl, ?_⟩⟩
    have hg := sq_get l i hi
    rw [← ht] at hg
    simp only [List.getElem?_take] at hg
    rw [if_pos (by omega), if_pos (by omega), if_pos (by omega)] at hg
    simp only [Array.getElem?_toList] at hg
    rw [Go.Proofs.YtfkbbmcpjphbhaaW.PrintWords.add_plain, Go.Proofs.YtfkbbmcpjphbhaaW.PrintWords.add_plain, Go.Proofs.YtfkbbmcpjphbhaaW.PrintWords.add_plain, blk_cell hh, blk_cell hh, blk_cell hh]
    exact hg
/-- Steps that a call answered. -/
def StPost (l : List Stp) (w : World) (e : Ending) (w' : World) : Prop := ∃ A c, e = .returned (.slice A l.length c) ∧ l.length ≤ c ∧ c ≤ 9223372036854775807 ∧ Steps w' A l ∧ Below w.heap.size w w'
end Go.Proofs.Ytfkbbmcpjphbhaa
