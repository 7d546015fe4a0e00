/- The check that all is awake. -/
import Derived.Test.YtfijbhacobjjgagNextA
namespace Go.Proofs.Ytfijbhacobjjgag
open Go.RowKit Go.Proofs.YtfijbhacobjjgagW.PrintWords Go.Proofs.YtfijbhacobjjgagW.PrintLast Go.Proofs.YtfijbhacobjjgagW.PrintMore Go.Proofs.Ytfijbhacobjjgag.Fr
set_option linter.unusedVariables false
set_option linter.unusedSimpArgs false
attribute [local go_sem] max2_int min2_int max_two min_two

open Pl Hp
theorem delay32 (w : World) : Calls Try.prog 20 #[.int .i64 3, .int .i64 2] w fun e w' => e = .returned (.int .i64 12) ∧ w = w' := by
  go_enter Try.func20, Try.ntmps20
  go_wp2_with fail
  refine (brought_any 3 1 1000 w).mono ?_
  rintro e w1 ⟨rfl, rfl⟩
  rw [show brI 3 1 1000 = 3 from by decide]
  go_wp2_with fail
  refine (brought_any 2 0 20 w).mono ?_
  rintro e w1 ⟨rfl, rfl⟩
  rw [show brI 2 0 20 = 2 from by decide]
  go_wp2
  go_ret
  exact ⟨rfl, rfl⟩
def e1 : E := ⟨5, 1, ⟨0, 1, 0, false, ⟨#[]⟩⟩⟩
def e2 : E := ⟨3, 2, ⟨0, 2, 0, false, ⟨#[]⟩⟩⟩
theorem psh1 : psh elt ez [] e1 = [e1] := by unfold psh; exact up_zero elt ez _
theorem psh2 : psh elt ez [e1] e2 = [e2, e1] := by
  unfold psh
  show up elt ez [e1, e2] 1 = _
  rw [up_go elt ez (by decide) (by decide), up_zero]
  rfl
theorem dwn2 : down elt ez (swp ez [e2, e1] 0 1) 0 1 = [e1, e2] := by rw [down_end elt ez (by decide)]; rfl
theorem awake_any (w0 : World) : Calls Try.prog 6 #[] w0 fun e w' => e = .returned (.bool true) ∧ Below w0.heap.size w0 w' := by
  go_enter Try.func6, Try.ntmps6
  go_wp2_with fail
  refine (new_any w0).mono ?_
  rintro e w1 ⟨s, rfl, hs, hb⟩
  have HS := Aside0.mk hs
  have HB := Aside0.mk hb
  clear hs hb
  go_wp2_with fail
  refine (put_any 5 ⟨0, 1, 0, false, ⟨#[]⟩⟩ w1 HS.out HB.out.size (by decide) (by decide) (by decide) (by decide) (by decide)).mono ?_
  rintro e w2 ⟨v2, rfl, hs2, hc2, hv2⟩
  have hs2' : SC w0.heap.size w2 s v2 0 1 [e1] := by rw [← psh1]; exact hs2
  have HS2 := Aside0.mk hs2'
  have HB2 : Aside0 (Below w0.heap.size w0 w2) := ⟨Ch.onto HB.out hc2 HB.out.size (fun i e => by rcases e with e | e; exact e ▸ HS.out.lo; simp [Value.ownBlock] at e)⟩
  clear hs2 hs2' hc2 hv2 HB
  go_wp2_with fail
  refine (put_any 3 ⟨0, 2, 0, false, ⟨#[]⟩⟩ w2 HS2.out HB2.out.size (by decide) (by decide) (by decide) (by decide) (by decide)).mono ?_
  rintro e w3 ⟨v3, rfl, hs3, hc3, hv3⟩
  have hs3' : SC w0.heap.size w3 s v3 0 2 [e2, e1] := by rw [← psh2]; exact hs3
  have HS3 := Aside0.mk hs3'
  have HB3 : Aside0 (Below w0.heap.size w0 w3) := ⟨Ch.onto HB2.out hc3 HB2.out.size (fun i e => by rcases e with e | e; exact e ▸ HS2.out.lo; exact own_base HS2.out.row i e.symm)⟩
  clear hs3 hs3' hc3 hv3 HB2
  go_wp2_with fail
  refine (next_any 1 w3 HS3.out rfl (by decide)).mono ?_
  rintro e w4 ⟨y, v4, hy, rfl, hs4, hc4, hv4⟩
  have hy2 : y = e2 := by rw [hy, dwn2]; rfl
  subst hy2
  have hs4' : SC w0.heap.size w4 s v4 3 2 [e1] := by
    have hp : pop elt ez [e2, e1] = [e1] := by
      show (down elt ez (swp ez [e2, e1] 0 1) 0 1).take 1 = _
      rw [dwn2]; rfl
    rw [← hp]; exact hs4
  have HS4 := Aside0.mk hs4'
  have HB4 : Aside0 (Below w0.heap.size w0 w4) := ⟨Ch.onto HB3.out hc4 HB3.out.size (fun i e => by rcases e with e | e; exact e ▸ HS3.out.lo; exact own_base HS3.out.row i e.symm)⟩
  clear hs4 hs4' hc4 hv4 hy HB3
  unfold actV e2
  have hal : Below w0.heap.size w0 (w4.alloc (.cells #[.int .i64 0, .int .i64 2, .int .i64 0, .bool false, .string ⟨#[]⟩] 28)) := below_step HB4.out (below_alloc (Below.refl _ _) _)
  have HA := Aside0.mk hal
  have hn := fun w (h : SC w0.heap.size w s v4 3 2 [e1]) => now_any h
  clear hal
  go_wp2_with fail
  refine (now_any (HS4.out.below (below_alloc (Below.refl _ _) _))).mono ?_
  rintro e w5 ⟨rfl, rfl⟩
  go_wp2_with fail
  refine (len_any (HS4.out.below (below_alloc (Below.refl _ _) _))).mono ?_
  rintro e w6 ⟨rfl, rfl⟩
  rw [show (([e1] : List E).length : Int) = 1 from rfl]
  go_wp2_with ((go_at_call 20; refine (delay32 _).mono ?_; rintro e w7 ⟨rfl, rfl⟩; skip))
  go_ret
  exact ⟨rfl, HA.out⟩
end Go.Proofs.Ytfijbhacobjjgag
