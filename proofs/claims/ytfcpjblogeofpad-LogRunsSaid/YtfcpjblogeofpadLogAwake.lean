/- The walk of awake: it answers true. -/
import Derived.Test.YtfcpjblogeofpadLogC
namespace Go.Proofs.Ytfcpjblogeofpad
open Go.RowKit Go.Proofs.YtfcpjblogeofpadW.PrintWords Go.Proofs.YtfcpjblogeofpadW.PrintLast Go.Proofs.YtfcpjblogeofpadW.PrintMore Go.Proofs.Ytfcpjblogeofpad.Fr
set_option linter.unusedVariables false
set_option linter.unusedSimpArgs false

def xT : ByteArray := { data := #[120] }
def yT : ByteArray := { data := #[121] }
/-- A contract of ours, from a base on. -/
theorem onto {B g : Nat} {v : Value} {a w w1 : World} (h : Below B a w) (k : Ch (two g v) w w1) (hB : B ≤ w.heap.size) (h1 : B ≤ g) (h2 : ∀ k, v.ownBlock = some k → B ≤ k) : Below B a w1 := Ch.onto h k hB (fun i e => by rcases e with rfl | e; exact h1; exact h2 i e.symm)
/-- A log that is all behind a base. -/
structure LogIn (B : Nat) (a : World) (w : World) (g : Nat) (v : Value) (l : List ByteArray) (base : Nat) (bytes : Int) : Prop where
  log : LogAt B w g v l base bytes
  below : Below B a w
  hB : B ≤ w.heap.size
  hg : B ≤ g
theorem LogIn.from {B : Nat} {a w w1 : World} {g : Nat} {v : Value} {l : List ByteArray} {base : Nat} {bytes : Int} (h : LogIn B a w g v l base bytes) (k : Below w.heap.size w w1) : LogIn B a w1 g v l base bytes :=
  ⟨h.log.below k, Ch.onto (S := fun _ => False) h.below (Ch.of_below k) h.hB (fun i e => e.elim), Nat.le_trans h.hB k.size, h.hg⟩
theorem new_in {B : Nat} {a : World} (w : World) (h : Below B a w) (hB : B ≤ w.heap.size) : Calls Try.prog 7 #[] w fun e w' => ∃ g, e = .returned (.pointer (some ⟨g, 0, none⟩)) ∧ LogIn B a w' g (.slice none 0 0) [] 0 0 ∧ Below w.heap.size w w' ∧ w.heap.size ≤ g :=
  (new_any w).mono fun e w' ⟨he, hl, hb⟩ => ⟨_, he, ⟨⟨hl.box, own_nil _ _ _ _, hl.ne⟩, Ch.onto (S := fun _ => False) h (Ch.of_below hb) hB (fun i e => e.elim), Nat.le_trans hB hb.size, hB⟩, hb, Nat.le_refl _⟩
theorem append_in {B : Nat} {a : World} (g : Nat) (v : Value) (l : List ByteArray) (base : Nat) (bytes : Int) (s : ByteArray) (w : World) (h : LogIn B a w g v l base bytes) (hs : s.size ≤ 512) (hl : l.length < 400) (hb0 : 0 ≤ bytes) (hb1 : bytes ≤ 1000000000) :
    Calls Try.prog 8 #[.pointer (some ⟨g, 0, none⟩), .string s] w fun e w' => ∃ v1, e = .returned (.tuple #[.int .i64 l.length, .int .i64 0]) ∧ LogIn B a w' g v1 (l ++ [s]) base (bytes + s.size) :=
  (append_any B g v l base bytes s w h.log h.hB hs hl hb0 hb1).mono fun e w' ⟨v1, he, hl, hc, _⟩ => ⟨v1, he, hl, onto h.below hc h.hB h.hg (own_base h.log.row), Nat.le_trans h.hB hc.size, h.hg⟩
theorem trunc_in {B : Nat} {a : World} (g : Nat) (v : Value) (l : List ByteArray) (base : Nat) (bytes : Int) (n : Nat) (w : World) (h : LogIn B a w g v l base bytes) (h1 : base < n) (h2 : n ≤ l.length) : Calls Try.prog 11 #[.pointer (some ⟨g, 0, none⟩), .int .i64 n] w fun e w' => e = .returned (.bool true) ∧ LogIn B a w' g v l n bytes :=
  (trunc_yes B g v l base bytes n w h.log h1 h2).mono fun e w' ⟨he, hl, hc⟩ => ⟨he, hl, Ch.onto h.below hc h.hB (fun i e => by subst e; exact h.hg), Nat.le_trans h.hB hc.size, h.hg⟩
set_option maxHeartbeats 1000000 in
theorem awake_any (w : World) : Calls Try.prog 6 #[] w fun e w' => e = .returned (.bool true) ∧ Below w.heap.size w w' := by
  have HB := Aside0.mk (Below.refl w.heap.size w)
  go_enter Try.func6, Try.ntmps6
  go_wp2_with (go_at_call 7; refine (new_in _ HB.out (Nat.le_refl _)).mono ?_; rintro e w1 ⟨g, rfl, hl, _, _⟩; have HL := Aside0.mk hl; clear hl HB)
  refine (append_in g _ [] 0 0 xT _ HL.out (by decide) (by decide) (by decide) (by decide)).mono ?_
  rintro e w2 ⟨v2, rfl, hl⟩
  have zz_HL := Aside0.mk (hl); clear HL; have HL := zz_HL; clear zz_HL
  clear hl
  go_wp2_with fail
  refine (append_in g _ ([] ++ [xT]) 0 _ yT _ HL.out (by decide) (by decide) (by decide) (by decide)).mono ?_
  rintro e w3 ⟨v3, rfl, hl⟩
  have zz_HL := Aside0.mk (hl); clear HL; have HL := zz_HL; clear zz_HL
  clear hl
  go_wp2_with fail
  refine (trunc_in g _ _ 0 _ 1 _ HL.out (by decide) (by decide)).mono ?_
  rintro e w4 ⟨rfl, hl⟩
  have zz_HL := Aside0.mk (hl); clear HL; have HL := zz_HL; clear zz_HL
  clear hl
  go_wp2_with fail
  refine (at_any _ g _ _ 1 _ 0 _ HL.out.log).mono ?_
  rintro e w5 ⟨rfl, rfl⟩
  rw [show atL ([] ++ [xT] ++ [yT]) 1 0 = ({ data := #[] }, 7) by rfl]
  go_wp2_with fail
  refine (at_any _ g _ _ 1 _ 1 _ HL.out.log).mono ?_
  rintro e w6 ⟨rfl, rfl⟩
  rw [show atL ([] ++ [xT] ++ [yT]) 1 1 = ({ data := #[121] }, 0) by rfl]
  go_wp2_with ((go_at_call 9; refine (len_any _ g _ _ _ _ _ HL.out.log).mono ?_; rintro e w7 ⟨rfl, rfl⟩; skip))
  go_ret
  exact ⟨rfl, HL.out.below⟩
end Go.Proofs.Ytfcpjblogeofpad
