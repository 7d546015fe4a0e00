/- The walk of awake: it answers true. -/
import Derived.Test.YtfcpjblogeofpabRingE
namespace Go.Proofs.Ytfcpjblogeofpab
open Go.RowKit Go.Proofs.YtfcpjblogeofpabW.PrintWords Go.Proofs.YtfcpjblogeofpabW.PrintLast Go.Proofs.YtfcpjblogeofpabW.PrintMore Go.Proofs.Ytfcpjblogeofpab.Fr
set_option linter.unusedVariables false
set_option linter.unusedSimpArgs false

theorem addr_zero (ad : Addr) : ad.add 0 = ad := by
  unfold Addr.add
  split <;> simp_all
def aT : ByteArray := { data := #[97] }
def bT : ByteArray := { data := #[98] }
def cT : ByteArray := { data := #[99] }
/-- A contract of ours, from a base on. -/
theorem onto {B g gl : Nat} {a w w1 : World} (h : Below B a w) (k : Ch (two g gl) w w1) (hB : B ≤ w.heap.size) (h1 : B ≤ g) (h2 : B ≤ gl) : Below B a w1 := Ch.onto h k hB (fun i e => by rcases e with rfl | rfl <;> assumption)
theorem add_rep {c : Nat} {l : List ByteArray} (g gl : Nat) (r : R) (s : ByteArray) (w : World) (h : RingAt w g gl r) (hr : Rep c r (lastL l c)) (hl : ∀ s ∈ l, s.size ≤ 140737488351232) (hs : s.size ≤ 140737488351232) :
    Calls Try.prog 8 #[.pointer (some ⟨g, 0, none⟩), .string s] w fun e w' => ∃ r', e = .returned (.tuple #[]) ∧ RingAt w' g gl r' ∧ Rep c r' (lastL (l ++ [s]) c) ∧ Ch (two g gl) w w' :=
  (add_any g gl r s w h (hr.ok fun s hs => hl s (last_mem hs)) hs (head_le hr)).mono fun e w' ⟨he, h1, h2⟩ => ⟨_, he, h1, rep_add hr s, h2⟩
set_option maxHeartbeats 1000000 in
theorem awake_any (w : World) : Calls Try.prog 6 #[] w fun e w' => e = .returned (.bool true) ∧ Below w.heap.size w w' := by
  have H0 : Aside0 (∀ s ∈ ([] : List ByteArray), s.size ≤ 140737488351232) := ⟨by simp⟩
  have H1 : Aside0 (∀ s ∈ [aT], s.size ≤ 140737488351232) := ⟨by simp; decide⟩
  have H2 : Aside0 (∀ s ∈ [aT, bT], s.size ≤ 140737488351232) := ⟨by simp; decide⟩
  have H3 : Aside0 (∀ s ∈ [bT, cT], s.size ≤ 140737488351232) := ⟨by simp; decide⟩
  have HB := Aside0.mk (Below.refl w.heap.size w)
  go_enter Try.func6, Try.ntmps6
  go_wp2_with (go_at_call 7; refine (new_any 2 2 (by rfl) _).mono ?_; rintro e w1 ⟨g, gl, rfl, hr, hb, hg1, hg2⟩; have HR := Aside0.mk (And.intro hr (rep_new 2 (by decide) (by decide))); have HG := Aside0.mk (And.intro hg1 hg2); have zz_HB := Aside0.mk (hb); clear HB; have HB := zz_HB; clear zz_HB; clear hr hb hg1 hg2)
  refine (add_rep (c := 2) (l := []) g gl _ aT _ HR.out.1 HR.out.2 H0.out (by decide)).mono ?_
  rintro e w2 ⟨r1, rfl, hr, hp, hc⟩
  have zz_HR := Aside0.mk (And.intro hr hp); have zz_HB := Aside0.mk (onto HB.out hc HB.out.size HG.out.1 HG.out.2); clear HR; clear HB; have HR := zz_HR; have HB := zz_HB; clear zz_HR; clear zz_HB
  clear hr hp hc
  go_wp2_with fail
  refine (add_rep (c := 2) (l := [aT]) g gl _ bT _ HR.out.1 HR.out.2 H1.out (by decide)).mono ?_
  rintro e w3 ⟨r2, rfl, hr, hp, hc⟩
  have zz_HR := Aside0.mk (And.intro hr hp); have zz_HB := Aside0.mk (onto HB.out hc HB.out.size HG.out.1 HG.out.2); clear HR; clear HB; have HR := zz_HR; have HB := zz_HB; clear zz_HR; clear zz_HB
  clear hr hp hc
  go_wp2_with fail
  refine (add_rep (c := 2) (l := [aT, bT]) g gl _ cT _ HR.out.1 HR.out.2 H2.out (by decide)).mono ?_
  rintro e w4 ⟨r3, rfl, hr, hp, hc⟩
  have zz_HR := Aside0.mk (And.intro hr hp); have zz_HB := Aside0.mk (onto HB.out hc HB.out.size HG.out.1 HG.out.2); clear HR; clear HB; have HR := zz_HR; have HB := zz_HB; clear zz_HR; clear zz_HB
  clear hr hp hc
  go_wp2_with fail
  refine (all_any g gl r3 _ HR.out.1 (HR.out.2.ok H3.out)).mono ?_
  rintro e w5 ⟨v, rfl, ho, hb⟩
  rw [HR.out.2.recs] at ho
  rw [show lastL ([aT, bT] ++ [cT]) 2 = [bT, cT] from rfl] at ho
  obtain ⟨gv, c, rfl, hgv, hc, hrd, _⟩ := own_row ho (by decide)
  have zz_HB := Aside0.mk (below_step HB.out hb); clear HB; have HB := zz_HB; clear zz_HB
  have HR5 := Aside0.mk (HR.out.1.below hb)
  have hby : r3.bytes = 2 := HR.out.2.bytes
  have hc0 : w5.cell? ⟨gv, 0, none⟩ = some (.string { data := #[98] }) := hrd 0 (by decide)
  have hc1 : w5.cell? ⟨gv, 1, none⟩ = some (.string { data := #[99] }) := hrd 1 (by decide)
  clear ho hb hrd
  have HBY := Aside0.mk hby
  clear hby
  go_wp2_with ((go_at_call 11; refine (bytes_any g gl r3 _ HR5.out).mono ?_; rintro e w6 ⟨rfl, rfl⟩; rw [HBY.out]))
  go_ret
  exact ⟨rfl, HB.out⟩
end Go.Proofs.Ytfcpjblogeofpab
