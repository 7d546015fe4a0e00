/- The check that all is awake. -/
import Derived.Test.YtfijbhacobjjgahTopA
import Derived.Test.YtfijbhacobjjgahWEqStruct
namespace Go.Proofs.Ytfijbhacobjjgah
open Go.RowKit Go.Proofs.YtfijbhacobjjgahW.PrintWords Go.Proofs.YtfijbhacobjjgahW.PrintLast Go.Proofs.YtfijbhacobjjgahW.PrintMore Go.Proofs.Ytfijbhacobjjgah.Fr
set_option linter.unusedVariables false
set_option linter.unusedSimpArgs false
attribute [local go_sem] max2_int min2_int max_two min_two

open Pl Hp
theorem eqA47 (d : Nat) (w : World) (x0 y0 : ByteArray) (x1 y1 : Int) :
    (Op.equalIn (d + 2) 47 (.agg #[.string x0, .int .i64 x1]) (.agg #[.string y0, .int .i64 y1])).run Try.prog w = .ok (x0.toList == y0.toList && (x1 == y1)) w := by
  refine eqA_of Try.underlying47 (by kernel_rfl) ?_
  refine eqf_cons (by rfl) (by go_simp; rfl) (by go_simp; rfl) (by go_simp) ?_
  exact eqf_last (by rfl) (by go_simp; rfl) (by go_simp; rfl) (by go_simp)
section
attribute [local go_sem high] eqA47
theorem item_eq2 {s s' : ByteArray} {c c' : Int} (w : World) : (binOp .eql 47 (.agg #[.string s, .int .i64 c]) (.agg #[.string s', .int .i64 c'])).run Try.prog w = .ok (.bool (s.toList == s'.toList && c == c')) w := by
  go_simp
end
theorem item_eq (x : It) (w : World) : (binOp .eql 47 (.agg #[.string x.t, .int .i64 x.c]) (.agg #[.string x.t, .int .i64 x.c])).run Try.prog w = .ok (.bool true) w := by
  rw [item_eq2]
  simp
abbrev tA : ByteArray := ⟨#[97]⟩
abbrev tB : ByteArray := ⟨#[98]⟩
theorem aw1 : addL 5 tB 1 [] = ([⟨tB, 1⟩], true) := by rfl
theorem aw2 : addL 5 tA 1 [⟨tB, 1⟩] = ([⟨tB, 1⟩, ⟨tA, 1⟩], true) := by rfl
theorem aw3 : addL 5 tA 1 [⟨tB, 1⟩, ⟨tA, 1⟩] = ([⟨tB, 1⟩, ⟨tA, 2⟩], true) := by rfl
theorem aw4 : cnt tB [⟨tB, 1⟩, ⟨tA, 2⟩] = 1 := by rfl
theorem aw5 : halL [⟨tB, 1⟩, ⟨tA, 2⟩] = [⟨tA, 1⟩] := by rfl
theorem aw6 {o R : List It} (ho : (o.length : Int) = brI 9 0 (2 : Nat)) (hp : (o ++ R).Perm [⟨tB, 1⟩, ⟨tA, 2⟩]) (hs : o.Pairwise (fun x y => ilt x y = true)) : o = [⟨tA, 2⟩, ⟨tB, 1⟩] := by
  have h2 : o.length = 2 := by have : brI 9 0 (2 : Nat) = 2 := by decide
                               omega
  match o, h2 with
  | [x, y], _ =>
    have hx : x = ⟨tB, 1⟩ ∨ x = ⟨tA, 2⟩ := by
      have := hp.mem_iff.1 (by simp : x ∈ [x, y] ++ R); simpa using this
    have hy : y = ⟨tB, 1⟩ ∨ y = ⟨tA, 2⟩ := by
      have := hp.mem_iff.1 (by simp : y ∈ [x, y] ++ R); simpa using this
    have hxy : ilt x y = true := by simpa using hs
    rcases hx with rfl | rfl <;> rcases hy with rfl | rfl
    · rw [ilt_irr] at hxy; cases hxy
    · rw [ilt_iff] at hxy; simp at hxy
    · rfl
    · rw [ilt_irr] at hxy; cases hxy
theorem awake_any (w0 : World) : Calls Try.prog 6 #[] w0 fun e w' => e = .returned (.bool true) ∧ Below w0.heap.size w0 w' := by
  go_enter Try.func6, Try.ntmps6
  go_wp2_with fail
  refine (new_any 5 w0).mono ?_
  rintro e w1 ⟨g, md, room, hroom, rfl, hs, hb⟩
  have hr5 : room = 5 := by have : brI 5 1 1000 = 5 := by decide
                            omega
  subst hr5
  have HS := Aside0.mk hs
  have HB := Aside0.mk hb
  clear hs hb hroom
  go_wp2_with fail
  refine (tadd_any tB (by decide) 1 w1 HS.out).mono ?_
  rintro e w2 ⟨D2, rfl, hs2, hc2⟩
  rw [aw1] at hs2 ⊢
  have HS2 := Aside0.mk hs2
  have HB2 : Aside0 (Below w0.heap.size w0 w2) := ⟨Ch.onto HB.out hc2 HB.out.size (fun i e => e ▸ HS.out.lom)⟩
  clear hs2 hc2 HB
  go_wp2_with fail
  refine (tadd_any tA (by decide) 1 w2 HS2.out).mono ?_
  rintro e w3 ⟨D3, rfl, hs3, hc3⟩
  rw [aw2] at hs3 ⊢
  have HS3 := Aside0.mk hs3
  have HB3 : Aside0 (Below w0.heap.size w0 w3) := ⟨Ch.onto HB2.out hc3 HB2.out.size (fun i e => e ▸ HS.out.lom)⟩
  clear hs3 hc3 HB2
  go_wp2_with fail
  refine (tadd_any tA (by decide) 1 w3 HS3.out).mono ?_
  rintro e w4 ⟨D4, rfl, hs4, hc4⟩
  rw [aw3] at hs4 ⊢
  have HS4 := Aside0.mk hs4
  have HB4 : Aside0 (Below w0.heap.size w0 w4) := ⟨Ch.onto HB3.out hc4 HB3.out.size (fun i e => e ▸ HS.out.lom)⟩
  clear hs4 hc4 HB3
  go_wp2_with fail
  refine (ttop_any 9 w4 HS4.out).mono ?_
  rintro e w5 ⟨p, c, o, R, rfl, ho, hrd, hpm, hpw, _, hb5⟩
  have hoe := aw6 ho hpm hpw
  subst hoe
  obtain ⟨g5, o5, rfl, x0, x1⟩ := hrd.item 0 (by decide)
  have HS5 : Aside0 (TB w0.heap.size w5 g md 5 D4 [⟨tB, 1⟩, ⟨tA, 2⟩]) := ⟨HS4.out.below hb5⟩
  have HB5 : Aside0 (Below w0.heap.size w0 w5) := ⟨below_step HB4.out hb5⟩
  clear ho hrd hpm hpw hb5 HB4
  rw [show ([⟨tA, 2⟩, ⟨tB, 1⟩] : List It).length = 2 from rfl]
  simp only [Nat.zero_mul, Nat.add_zero] at x0 x1
  have hq := item_eq ⟨tA, 2⟩ w5
  have y0 : w5.cell? ⟨g5, o5, none⟩ = some (.string ⟨#[97]⟩) := x0
  have y1 : w5.cell? ⟨g5, o5 + 1, none⟩ = some (.int .i64 2) := x1
  have hq' : (binOp .eql 47 (.agg #[.string ⟨#[97]⟩, .int .i64 2]) (.agg #[.string ⟨#[97]⟩, .int .i64 2])).run Try.prog w5 = .ok (.bool true) w5 := hq
  clear x0 x1 hq
  simp only [ap, Option.map_some]
  go_wp2_with fail
  refine (tcount_any HS5.out tB (by decide)).mono ?_
  rintro e w6 ⟨rfl, rfl⟩
  rw [aw4]
  go_wp2_with fail
  refine (thalve_any w5 HS5.out).mono ?_
  rintro e w6 ⟨D6, rfl, hs6, hc6⟩
  rw [aw5] at hs6 ⊢
  rw [show (([⟨tB, 1⟩, ⟨tA, 2⟩] : List It).length : Int) - (([⟨tA, 1⟩] : List It).length : Nat) = 1 from rfl]
  have HB6 : Aside0 (Below w0.heap.size w0 w6) := ⟨Ch.onto HB5.out hc6 HB5.out.size (fun i e => e ▸ HS.out.lom)⟩
  clear hs6 hc6
  go_wp2
  go_ret
  exact ⟨rfl, HB6.out⟩
end Go.Proofs.Ytfijbhacobjjgah
