/- What is found is a match; levels, depths: parse's small functions. -/
import Derived.Test.YtfcpjblogeofpacProg
import Derived.Test.YtfcpjblogeofpacVals
import Derived.Test.YtfcpjblogeofpacWLast
import Derived.Test.YtfcpjblogeofpacWMore
import Derived.RegionTactic
import Derived.ChangeAlike
import Derived.BigRegion
import Derived.WalkLawsBesides
import Derived.WalkSpells
import Derived.Deep.LoopGhost
import Derived.Deep.QuietTactic
import Derived.BigQuiet
import Derived.OwnWalk
import Derived.Test.YtfcpjblogeofpacFindA
import Derived.Test.YtfcpjblogeofpacSeqsA
namespace Go.Proofs.Ytfcpjblogeofpac
open Go.RowKit Go.Proofs.YtfcpjblogeofpacW.PrintWords Go.Proofs.YtfcpjblogeofpacW.PrintLast Go.Proofs.YtfcpjblogeofpacW.PrintMore Go.Proofs.Ytfcpjblogeofpac.Fr
set_option linter.unusedVariables false
set_option linter.unusedSimpArgs false
attribute [local go_sem] max2_int min2_int max_two min_two

theorem look_inv (sm : Nat → Nat → Nat) (th : Nat → Bool) (a : Nat) (Q : Int × Int → Prop) (hup : ∀ p c, th p = true → Q c → Q (Pl.upd sm a c p)) : ∀ (l : List Nat) (d : Nat) (c : Int × Int), Q c → Q (Pl.look sm th a l d c)
  | [], _, c, h => h
  | p :: r, 0, c, h => h
  | p :: r, d + 1, c, h => by
    simp only [Pl.look]
    by_cases hp : th p = true
    · rw [if_pos hp]; exact look_inv sm th a Q hup r d _ (hup p c hp h)
    · rw [if_neg hp]; exact look_inv sm th a Q hup r (d + 1) c h
theorem three_sm (T : ByteArray) (p a : Nat) (ha : a + 3 ≤ T.size) (hp : p < a) (h : three T p = three T a) : 3 ≤ sm T p a := by
  have hb : ∀ i, i < 3 → bg T (p + i) = bg T (a + i) := fun i hi => by
    have e : (T.extract p (p + 3)).data.toList.getD i 0 = (T.extract a (a + 3)).data.toList.getD i 0 := by
      have := congrArg (fun z : ByteArray => z.data.toList.getD i 0) h
      exact this
    have g : ∀ q, (T.extract q (q + 3)).data.toList.getD i 0 = bg T (q + i) := fun q => by
      unfold bg
      rw [ByteArray.data_extract, Array.toList_extract]
      simp only [List.extract_eq_take_drop, List.getD_eq_getElem?_getD]
      rw [List.getElem?_take, if_pos (by omega), List.getElem?_drop]
    rw [g, g] at e
    exact e
  have hm := cnt_more T p a T.size 0 (by omega)
  change ¬ (p + sm T p a < T.size ∧ a + sm T p a < T.size ∧ bg T (p + sm T p a) = bg T (a + sm T p a)) at hm
  by_cases hc : 3 ≤ sm T p a
  · exact hc
  · exact absurd ⟨by omega, by omega, hb _ (by omega)⟩ hm
/-- What is found is a match, or nothing. -/
def IsM (T : ByteArray) (a : Nat) (c : Int × Int) : Prop := c = (0, 0) ∨ ∃ o n : Nat, c = ((o : Int), (n : Int)) ∧ 3 ≤ n ∧ 1 ≤ o ∧ o ≤ a ∧ a + n ≤ T.size ∧ ∀ i, i < n → bg T (a + i) = bg T (a + i - o)
theorem found_is (T : ByteArray) (rs : List Nat) (a : Nat) (d : Int) : IsM T a (foundI T rs a d) := by
  unfold foundI
  by_cases hr : rightB T.size (a : Int) = true
  · rw [if_pos hr, Int.toNat_natCast]
    have ha : a + 3 ≤ T.size := by have := of_decide_eq_true hr; omega
    unfold found
    refine look_inv (sm T) (thB T a) a (IsM T a) ?_ _ _ _ (.inl rfl)
    intro p c hp hc
    unfold Pl.upd
    by_cases h1 : a ≤ p
    · rw [if_pos h1]; exact hc
    · rw [if_neg h1]
      split
      · have h3 := three_sm T p a ha (by omega) (of_decide_eq_true hp)
        have hle := sm_le T a p (by omega)
        have e : sm T a p = sm T p a := cnt_comm T a p T.size 0
        rw [e] at hle
        refine .inr ⟨a - p, sm T p a, by rw [show ((a - p : Nat) : Int) = (a : Int) - (p : Int) by omega], h3, by omega, by omega, hle, fun i hi => ?_⟩
        have := (cnt_all T p a T.size 0 i (Nat.zero_le _) hi).2.2
        rw [← this, show a + i - (a - p) = p + i by omega]
      · exact hc
  · rw [if_neg hr]; exact .inl rfl
/-- Where steps lead to. -/
def pos : List Pl.Stp → Nat → Nat
  | [], a => a
  | s :: r, a => pos r (a + s.1.toNat + s.2.1.toNat)
theorem pos_snoc (s : Pl.Stp) : ∀ (l : List Pl.Stp) (a : Nat), pos (l ++ [s]) a = pos l a + s.1.toNat + s.2.1.toNat
  | [], a => rfl
  | x :: r, a => pos_snoc s r _
theorem right_snoc (all : Pl.Bs) (s : Pl.Stp) : ∀ (l : List Pl.Stp) (a : Nat), Pl.right all l a → Pl.okStep all.length (pos l a) s → (∀ k, k < s.2.1.toNat → all.getD (pos l a + s.1.toNat + k) 0 = all.getD (pos l a + s.1.toNat + k - s.2.2.toNat) 0) → Pl.right all (l ++ [s]) a
  | [], a, _, h2, h3 => ⟨h2, h3, trivial⟩
  | x :: r, a, h1, h2, h3 => ⟨h1.1, h1.2.1, right_snoc all s r _ h1.2.2 h2 h3⟩
/-- Steps of parse that a call answered. -/
def PsPost (D X : ByteArray) (lev : Int) (w : World) (e : Ending) (w' : World) : Prop := ∃ (l : List Pl.Stp) (A : Option Addr) (c : Nat), e = .returned (.slice A l.length c) ∧ l.length ≤ c ∧ c ≤ 9223372036854775807 ∧ Steps w' A l ∧ Below w.heap.size w w' ∧ Pl.right (D.data.toList ++ X.data.toList) l D.size ∧ pos l D.size ≤ D.size + X.size ∧ (lev ≤ 0 → l = []) ∧ l.length ≤ X.size
theorem ch_below {B : Nat} {w w1 : World} (h : Below B w w1) : Ch (fun i => B ≤ i) w w1 := ⟨h.os, h.tape, h.output, h.size, fun k hk hs => h.block k (by omega)⟩

/-- A level that counts. -/
def lvl (x : Int) : Int := if 3 < x then 3 else if x < 0 then 0 else x
theorem lvl_cases (x : Int) : (x ≤ 0 ∧ lvl x = 0) ∨ lvl x = 1 ∨ lvl x = 2 ∨ lvl x = 3 := by
  unfold lvl; split <;> (try split) <;> omega
theorem pb_any (x : Int) (w : World) : Calls Try.prog 16 #[.int .i64 x] w fun e w' => e = .returned (.int .i64 (lvl x)) ∧ w' = w := by
  have E : Aside0 (lvl x = if 3 < x then 3 else if x < 0 then 0 else x) := ⟨rfl⟩
  by_cases h0 : x < 0
  · have h1 : ¬ 3 < x := by omega
    go_enter Try.func16, Try.ntmps16
    go_wp2
    go_ret
    rw [E.out, if_neg (by omega), if_pos (by omega)]
    exact ⟨rfl, rfl⟩
  · by_cases h1 : 3 < x
    · go_enter Try.func16, Try.ntmps16
      go_wp2
      go_ret
      rw [E.out, if_pos (by omega)]
      exact ⟨rfl, rfl⟩
    · go_enter Try.func16, Try.ntmps16
      go_wp2
      go_ret
      rw [E.out, if_neg (by omega), if_neg (by omega)]
      exact ⟨rfl, rfl⟩
def dpt (l : Int) : Int := if l = 0 then 0 else if l = 1 then 4 else if l = 2 then 16 else 64
theorem depth_any (x : Int) (h : x = 0 ∨ x = 1 ∨ x = 2 ∨ x = 3) (w : World) : Calls Try.prog 17 #[.int .i64 x] w fun e w' => e = .returned (.int .i64 (dpt x)) ∧ w' = w := by
  rcases h with rfl | rfl | rfl | rfl
  all_goals
    go_enter Try.func17, Try.ntmps17
    go_wp2_with fail
    refine (pb_any _ w).mono ?_
    rintro e w1 ⟨rfl, rfl⟩
    first | rw [show lvl 0 = 0 from rfl] | rw [show lvl 1 = 1 from rfl] | rw [show lvl 2 = 2 from rfl] | rw [show lvl 3 = 3 from rfl]
    go_wp2
    go_ret
    exact ⟨rfl, rfl⟩
theorem last_any (s : ByteArray) (hs : s.size ≤ 600) (w : World) : Calls Try.prog 18 #[.string s, .int .i64 600] w fun e w' => e = .returned (.string s) ∧ w = w' := by
  have h1 : (if (s.size : Int) - 600 < 0 then 0 else (s.size : Int) - 600) = 0 := by split <;> omega
  have e1 : s.extract 0 s.size = s := ByteArray.extract_zero_size
  go_enter Try.func18, Try.ntmps18
  go_wp2
  go_ret
  exact ⟨rfl, rfl⟩
open Pl in
set_option maxRecDepth 100000 in
theorem better_any {w : World} {g gh ga gn : Nat} {T : ByteArray} {rs : List Nat} (a d n l : Int) (ha : 0 ≤ a) (ha2 : a ≤ 1000000) (hn : 0 ≤ n) (hn2 : n ≤ 1000000) (x : Fnd w g gh ga gn T rs) : Calls Try.prog 22 #[.pointer (some ⟨g, 0, none⟩), .int .i64 a, .int .i64 d, .int .i64 n, .int .i64 l] w fun e w' => (∃ b, e = .returned (.bool b)) ∧ Drawn0 w w' := by
  have HX := Aside0.mk (ffind (a + 1) d (by omega) x)
  clear x
  by_cases h3 : l < 3
  · go_enter Try.func22, Try.ntmps22
    go_wp2
    go_ret
    exact ⟨⟨_, rfl⟩, Drawn0.refl _⟩
  · go_enter Try.func22, Try.ntmps22
    go_wp2_with fail
    refine HX.out.mono ?_
    rintro e w1 ⟨rfl, hd⟩
    go_wp2
    go_ret
    exact ⟨⟨_, rfl⟩, hd⟩

end Go.Proofs.Ytfcpjblogeofpac
