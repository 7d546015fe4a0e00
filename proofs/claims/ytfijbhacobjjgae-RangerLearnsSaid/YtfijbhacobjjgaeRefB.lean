/- The contracts of the document's coder: its end, a code. -/
import Derived.Test.YtfijbhacobjjgaeProg
import Derived.Test.YtfijbhacobjjgaeVals
import Derived.Test.YtfijbhacobjjgaeWLast
import Derived.Test.YtfijbhacobjjgaeWMore
import Derived.RegionTactic
import Derived.ChangeAlike
import Derived.BigRegion
import Derived.WalkLawsBesides
import Derived.WalkSpells
import Derived.Deep.LoopGhost
import Derived.Deep.QuietTactic
import Derived.BigQuiet
import Derived.OwnWalk
import Derived.Test.YtfijbhacobjjgaeRefA
import Derived.StillTailTactics
namespace Go.Proofs.Ytfijbhacobjjgae
open Go.RowKit Go.Proofs.YtfijbhacobjjgaeW.PrintWords Go.Proofs.YtfijbhacobjjgaeW.PrintLast Go.Proofs.YtfijbhacobjjgaeW.PrintMore Go.Proofs.Ytfijbhacobjjgae.Fr
set_option linter.unusedVariables false
set_option linter.unusedSimpArgs false
attribute [local go_sem] max2_int min2_int max_two min_two

open Pl
def EndPost (o : List Int) (w : World) (e : Ending) (w' : World) : Prop := ∃ v, e = .returned v ∧ w'.ownsRow w.heap.size 5 1 v o.length (nums .u8 o) ∧ Below w.heap.size w w'
set_option maxRecDepth 100000 in
theorem refend_any (g : Nat) (l h : Int) (c : List Int) (h0 : 0 ≤ l) (h1 : l < 4294967296) (w : World) (hB : CB w g l h c) : Calls Try.prog 30 #[.pointer (some ⟨g, 0, none⟩)] w (EndPost (fin l) w) := by
  have c0 : w.cell? ⟨g, 0, none⟩ = some (.int .u64 l) := (hB.cell 0 undef (by simp [coder])).trans rfl
  have q1 : IntKind.u8.wrap (l / 16777216) = l / 16777216 := by rw [w8]; omega
  have q2 : IntKind.u8.wrap (l / 65536) = l / 65536 % 256 := w8 _
  have q3 : IntKind.u8.wrap (l / 256) = l / 256 % 256 := w8 _
  have q4 : IntKind.u8.wrap l = l % 256 := w8 _
  have HR : Aside0 (∀ w1 : World, w1.heap = w.heap → Below w.heap.size w w1 → (w1.alloc (.cells #[.int .u8 (l / 16777216), .int .u8 (l / 65536 % 256), .int .u8 (l / 256 % 256), .int .u8 (l % 256)] 5)).ownsRow w.heap.size 5 1 (.slice (some ⟨w.heap.size, 0, none⟩) 4 4) (fin l).length (nums .u8 (fin l))) := ⟨fun w1 e _ => by
    have := (Blk.lit w1 5 (Value.int .u8) (fin l)).own (base := w.heap.size) (by rw [e]; exact Nat.le_refl _) (by simp [fin])
    rw [e] at this
    exact this⟩
  clear hB
  go_enter Try.func30, Try.ntmps30
  go_wp2
  go_still_tail 23, (by kernel_rfl)
  go_wp2
  go_ret
  exact ⟨_, rfl, HR.out w.drew rfl (below_drew1 (Below.refl _ _)), below_alloc (below_drew1 (Below.refl _ _)) _⟩
/-- The document's world: its coder, and what it has put out. -/
structure RW (w0 w : World) (g : Nat) (s : Cs) (v : Value) (xs : List Int) : Prop where
  box : CB w g s.l s.h s.c
  row : w.ownsRow (g + 1) 5 1 v xs.length (nums .u8 xs)
  bel : Below w0.heap.size w0 w
  lo : w0.heap.size ≤ g
section
variable {w0 w w1 w2 : World} {g : Nat} {s s2 : Cs} {v v1 : Value} {xs ys : List Int}
theorem RW.step (r : RW w0 w g s v xs) (hb : CB w1 g s2.l s2.h s2.c) (hc : Ch (fun i => i = g) w w1) : RW w0 w1 g s2 v xs := ⟨hb, hc.own r.row (fun k hk => by have := own_blk r.row k hk; omega), Ch.onto r.bel hc r.bel.size (fun i e => by have := r.lo; omega), r.lo⟩
theorem RW.below (r : RW w0 w g s v xs) (hb : Below w.heap.size w w1) : RW w0 w1 g s v xs := r.step (r.box.below hb) (Ch.of_below hb)
theorem RW.grown (r : RW w0 w g s v xs) (hr : w1.ownsRow (g + 1) 5 1 v1 ys.length (nums .u8 ys)) (hg : w.grownBy w1 v.ownBlock) : RW w0 w1 g s v1 ys := ⟨blk_grown r.box hg (fun e => by have := own_blk r.row g e.symm; omega), hr, r.bel.grown hg r.bel.size (fun k hk => by have := own_blk r.row k hk; have := r.lo; omega), r.lo⟩
end
theorem bv_in (b : Bool) : 0 ≤ bv b ∧ bv b ≤ 1 := by cases b <;> decide
theorem nx_bv (n : Nat) (b : Bool) : (n : Int) * 2 + bv b = ((nx n b : Nat) : Int) := by
  cases b
  · show (n : Int) * 2 + 0 = ((2 * n : Nat) : Int); omega
  · show (n : Int) * 2 + 1 = ((2 * n + 1 : Nat) : Int); omega
theorem bit_at (v k : Nat) : (v : Int) / 2 ^ k % 2 = bv (bitAt v k) := by
  have e : ((v : Int) / 2 ^ k) = ((v / 2 ^ k : Nat) : Int) := by simp
  rw [e]
  unfold bitAt bv
  generalize v / 2 ^ k = q
  by_cases h : q % 2 = 1
  · rw [decide_eq_true h]; simp; omega
  · rw [decide_eq_false h]; simp; omega
theorem pw_half (k : Nat) : (2 : Int) ^ (k + 1) / 2 = 2 ^ k := by rw [Int.pow_succ]; omega
theorem pw_in : ∀ k : Nat, k < 8 → (1 : Int) ≤ 2 ^ k ∧ (2 : Int) ^ k ≤ 128 := by decide
set_option maxRecDepth 100000 in
set_option maxHeartbeats 1000000 in
theorem refenc_any (T : ByteArray) (hT : T.size ≤ 30000) (w0 : World) : Calls Try.prog 10 #[.string T] w0 fun e w' => e = .returned (.string (strOfNums (code (nb T)))) ∧ Below w0.heap.size w0 w' := by
  go_enter Try.func10, Try.ntmps10
  go_wp2_with fail
  refine (rnew_any w0).mono ?_
  rintro e w1 ⟨g, rfl, hg, hm1, hb1⟩
  have HR0 : Aside0 (RW w0 w1 g c0 (.slice none 0 0) []) := ⟨⟨hm1, ⟨rfl, .inl ⟨rfl, rfl⟩⟩, hb1, hg⟩⟩
  clear hg hm1 hb1
  go_wp2
  obtain ⟨E0, hE0⟩ : ∃ E0, ec (nb T) c0 = E0 := ⟨_, rfl⟩
  obtain ⟨Z0, hZ0⟩ : ∃ Z0, ez (nb T) c0 = Z0 := ⟨_, rfl⟩
  have HCD : Aside0 (code (nb T) = E0 ++ fin Z0.l ∧ OkS Z0) := ⟨by rw [← hE0, ← hZ0]; exact ⟨rfl, (ez_ok (nb T) c0 c0_ok).1⟩⟩
  have hEl : E0.length ≤ 960000 := by
    have := (ez_ok (nb T) c0 c0_ok).2.1
    rw [hE0, nb_len] at this
    omega
  have HIN : Aside0 (0 + T.size = T.size ∧ OkS c0 ∧ [] ++ ec ((nb T).drop 0) c0 = E0 ∧ ez ((nb T).drop 0) c0 = Z0) := ⟨Nat.zero_add _, c0_ok, hE0, hZ0⟩
  clear hE0 hZ0
  go_loopg [4, 5, 6, 7, 8] T.size (fun gk x4 x5 x6 x7 x8 wr => ∃ (i : Nat) (s : Cs) (xs : List Int), x5 = .int .i64 i ∧ Aside0 (i + gk = T.size ∧ OkS s ∧ xs ++ ec ((nb T).drop i) s = E0 ∧ ez ((nb T).drop i) s = Z0) ∧ Aside0 (RW w0 wr g s x4 xs))
  case atStart => exact ⟨0, c0, [], rfl, HIN, HR0⟩
  case round =>
    clear HR0 HIN
    obtain ⟨i, s, xs, rfl, HI, HW⟩ := hrel
    by_cases hlt : i < T.size
    · obtain ⟨f, rfl⟩ : ∃ f, gk = f + 1 := ⟨gk - 1, by have := HI.out.1; omega⟩
      obtain ⟨v, hv⟩ : ∃ v, T[i].toNat = v := ⟨_, rfl⟩
      have hv8 : v < 256 := by rw [← hv]; exact T[i].toNat_lt
      have HNB : Aside0 ((nb T).drop i = v :: (nb T).drop (i + 1)) := ⟨by rw [← hv]; exact nb_drop T i hlt⟩
      obtain ⟨R, hR⟩ : ∃ R, (nb T).drop (i + 1) = R := ⟨_, rfl⟩
      have HRR := Aside0.mk hR
      have HN0 : Aside0 (0 + 8 = 8 ∧ Nd 0 1 ∧ OkS s ∧ xs ++ (eo 8 v 1 s ++ ec R (es 8 v 1 s)) = E0 ∧ ez R (es 8 v 1 s) = Z0) := ⟨by
        obtain ⟨i1, i2, i3, i4⟩ := HI.out
        rw [HNB.out, hR] at i3 i4
        exact ⟨rfl, nd_one, i2, i3, i4⟩⟩
      have HIF : Aside0 (i + (f + 1) = T.size) := ⟨HI.out.1⟩
      have HP7 : Aside0 ((8 = 0 → (128 : Int) = 0) ∧ (∀ j : Nat, 8 = j + 1 → (128 : Int) = 2 ^ j) ∧ 0 + 8 = 8 ∧ Nd 0 1 ∧ OkS s ∧ xs ++ (eo 8 v 1 s ++ ec R (es 8 v 1 s)) = E0 ∧ ez R (es 8 v 1 s) = Z0) := ⟨fun h => by omega, fun j hj => by
        obtain rfl : 7 = j := by omega
        decide, HN0.out⟩
      clear hR HNB HI
      go_wp2
      go_loopg [4, 6, 7, 8] 8 (fun gn x4 x6 x7 x8 wr => ∃ (k node : Nat) (kk : Int) (s1 : Cs) (ys : List Int), x6 = .int .i64 node ∧ x7 = .int .i64 kk ∧ Aside0 ((gn = 0 → kk = 0) ∧ (∀ j, gn = j + 1 → kk = 2 ^ j) ∧ k + gn = 8 ∧ Nd k node ∧ OkS s1 ∧ ys ++ (eo gn v node s1 ++ ec R (es gn v node s1)) = E0 ∧ ez R (es gn v node s1) = Z0) ∧ Aside0 (RW w0 wr g s1 x4 ys))
      case atStart => exact ⟨0, 1, 128, s, xs, rfl, rfl, ⟨HP7.out.1, HP7.out.2.1, rfl, HP7.out.2.2.2⟩, HW⟩
      case round =>
        clear HN0 HP7 HW
        obtain ⟨k, node, kk, s1, ys, rfl, rfl, HI, HW⟩ := hrel
        rcases gk with _ | f1
        · obtain rfl : kk = 0 := HI.out.1 rfl
          go_wp2
          go_roundg f
          case measure => omega
          case rel => exact ⟨i + 1, s1, ys, by go_num, ⟨by have := HIF.out; omega, HI.out.2.2.2.2.1, by rw [HRR.out]; exact HI.out.2.2.2.2.2.1, by rw [HRR.out]; exact HI.out.2.2.2.2.2.2⟩, HW⟩
        · have hf8 : f1 < 8 := by have := HI.out.2.2.1; omega
          have hkk : kk = 2 ^ f1 := HI.out.2.1 f1 rfl
          obtain ⟨b, hb⟩ : ∃ b, bitAt v f1 = b := ⟨_, rfl⟩
          have hbv : (v : Int) / kk % 2 = bv b := by rw [hkk, bit_at, hb]
          have hk1 : 1 ≤ kk := by rw [hkk]; exact (pw_in f1 hf8).1
          have hk2 : kk ≤ 128 := by rw [hkk]; exact (pw_in f1 hf8).2
          have hq0 : 0 ≤ (v : Int) / kk := Int.ediv_nonneg (by omega) (by omega)
          have hq1 : (v : Int) / kk ≤ 255 := Int.le_trans (Int.ediv_le_self _ (by omega)) (by omega)
          obtain ⟨q, hqv⟩ : ∃ q, (v : Int) / kk = q := ⟨_, rfl⟩
          rw [hqv] at hq0 hq1 hbv
          have hn1 : 1 ≤ node := Nat.le_trans (Nat.pow_pos (by decide)) HI.out.2.2.2.1.1
          have hn2 : node < 256 := nd_lt HI.out.2.2.2.1 (by have := HI.out.2.2.1; omega)
          have HNX : Aside0 (k + 1 + f1 = 8 ∧ Nd (k + 1) (nx node b) ∧ OkS (put s1 node b) ∧ (ys ++ out s1 node b) ++ (eo f1 v (nx node b) (put s1 node b) ++ ec R (es f1 v (nx node b) (put s1 node b))) = E0 ∧ ez R (es f1 v (nx node b) (put s1 node b)) = Z0) := ⟨by
            obtain ⟨_, _, i1, i2, i3, i4, i5⟩ := HI.out
            simp only [eo, es, hb] at i4 i5
            exact ⟨by omega, nd_nx b i2, put_ok i3 hn2 b, by rw [List.append_assoc, ← List.append_assoc (out s1 node b)]; exact i4, i5⟩⟩
          have hyl : ys.length + (out s1 node b).length ≤ 960000 := by
            have := congrArg List.length HNX.out.2.2.2.1
            simp only [List.length_append] at this
            omega
          have HK2 : Aside0 ((f1 = 0 → kk / 2 = 0) ∧ (∀ j, f1 = j + 1 → kk / 2 = 2 ^ j)) := ⟨by
            rw [hkk]
            exact ⟨fun h => by subst h; decide, fun j hj => by subst hj; exact pw_half j⟩⟩
          have HPT : Aside0 (∀ w : World, CB w g s1.l s1.h s1.c → Calls Try.prog 15 #[.pointer (some ⟨g, 0, none⟩), .int .i64 node, .int .i64 (bv b)] w (RPost g (put s1 node b) (out s1 node b) w)) := ⟨fun w h => refput_any g node s1 b HI.out.2.2.2.2.1 hn2 w h⟩
          have HNV := Aside0.mk (nx_bv node b)
          obtain ⟨B, hB⟩ : ∃ B, bv b = B := ⟨_, rfl⟩
          have hB0 := bv_in b
          rw [hB] at hbv HPT HNV hB0
          obtain ⟨hBa, hBb⟩ := hB0
          obtain ⟨P, hP⟩ : ∃ P, put s1 node b = P := ⟨_, rfl⟩
          obtain ⟨o, ho⟩ : ∃ o, out s1 node b = o := ⟨_, rfl⟩
          obtain ⟨n2, hn2e⟩ : ∃ n2, nx node b = n2 := ⟨_, rfl⟩
          rw [hP, ho] at HPT
          rw [hP, ho, hn2e] at HNX
          rw [ho] at hyl
          rw [hn2e] at HNV
          clear hkk hb hB hP ho hn2e HI
          go_wp2_with fail
          refine (HPT.out _ HW.out.box).mono ?_
          rintro e w2 ⟨v2, rfl, hr2, hb2, hc2⟩
          obtain ⟨A2, cc2, rfl, hrd2⟩ := own_reads hr2
          have HW2 : Aside0 (RW w0 w2 g P u4 ys) := ⟨HW.out.step hb2 hc2⟩
          have hgl := HW2.out.box.lt
          clear hr2 hb2 hc2 HPT HW
          go_wp2_with ((with_reducible refine gate_dst (N := 32) rfl ?_); refine print_append_row (w0 := w2) (g + 1) rfl (.tmp 27) (.tmp 31) 36 5 .u8 1 rfl Try.underlying36 info5 (by decide) u4 ys o A2 _ cc2 rfl rfl HW2.out.row hrd2 (Below.refl _ _) (by omega) (by omega) ?_; intro v1 w3 hown hbel hgrow hat; have HW3 := Aside0.mk (HW2.out.grown hown hgrow); clear hown hbel hgrow hat)
          go_roundg f1
          case measure => omega
          case rel => exact ⟨k + 1, n2, kk / 2, P, ys ++ o, by rw [← HNV.out], rfl, ⟨HK2.out.1, HK2.out.2, HNX.out⟩, HW3⟩
    · have hi : i = T.size := by have := HI.out.1; omega
      subst hi
      have HZ : Aside0 (s = Z0 ∧ xs = E0) := ⟨by
        obtain ⟨i1, i2, i3, i4⟩ := HI.out
        rw [List.drop_eq_nil_of_le (by rw [nb_len]; exact Nat.le_refl _)] at i3 i4
        exact ⟨i4, by rw [← i3]; exact (List.append_nil _).symm⟩⟩
      have HW0 : Aside0 (RW w0 wr g Z0 u4 E0) := ⟨by
        obtain ⟨z2, z3⟩ := HZ.out
        rw [← z2, ← z3]
        exact HW.out⟩
      have HCE := Aside0.mk HCD.out.1
      have hl0 : 0 ≤ Z0.l := HCD.out.2.1
      have hl1 : Z0.l < 4294967296 := by
        have h1 := HCD.out.2.2.1
        have h2 := HCD.out.2.2.2.1
        omega
      have HEN : Aside0 (Calls Try.prog 30 #[.pointer (some ⟨g, 0, none⟩)] wr (EndPost (fin Z0.l) wr)) := ⟨refend_any g Z0.l Z0.h Z0.c hl0 hl1 wr HW0.out.box⟩
      obtain ⟨F, hF⟩ : ∃ F, fin Z0.l = F := ⟨_, rfl⟩
      have hFl : F.length = 4 := by rw [← hF]; rfl
      have hF4 : F.length ≤ 4 := by omega
      rw [hF] at HEN HCE
      clear HCD HI HW HZ hF hFl
      go_wp2_with fail
      refine HEN.out.mono ?_
      rintro e w2 ⟨v2, rfl, hr2, hb2⟩
      obtain ⟨A2, cc2, rfl, hrd2⟩ := own_reads hr2
      have HW2 : Aside0 (RW w0 w2 g Z0 u4 E0) := ⟨HW0.out.below hb2⟩
      have hgl := HW2.out.box.lt
      clear hr2 hb2 HEN HW0
      go_wp2_with ((with_reducible refine gate_dst (N := 40) rfl ?_); refine print_append_row (w0 := w2) (g + 1) rfl (.tmp 37) (.tmp 39) 36 5 .u8 1 rfl Try.underlying36 info5 (by decide) u4 E0 F A2 _ cc2 rfl rfl HW2.out.row hrd2 (Below.refl _ _) (by omega) (by omega) ?_; intro v1 w3 hown hbel hgrow hat; have HW3 := Aside0.mk (HW2.out.grown hown hgrow); clear hown hbel hgrow hat)
      have HCV : Aside0 ((convert 36 9 v1).run Try.prog w3 = .ok (.string (strOfNums (E0 ++ F))) w3) := ⟨own_string Try.underlying36 Try.underlying5 Try.underlying9 HW3.out.row⟩
      rw [HCV.out]
      go_wp2
      go_ret
      rw [HCE.out]
      exact ⟨rfl, HW3.out.bel⟩
end Go.Proofs.Ytfijbhacobjjgae
