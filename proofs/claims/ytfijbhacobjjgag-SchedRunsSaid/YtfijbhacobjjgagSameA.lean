/- Two rows of acts are compared. -/
import Derived.Test.YtfijbhacobjjgagDocE
import Derived.Test.YtfijbhacobjjgagWEqStruct
namespace Go.Proofs.Ytfijbhacobjjgag
open Go.RowKit Go.Proofs.YtfijbhacobjjgagW.PrintWords Go.Proofs.YtfijbhacobjjgagW.PrintLast Go.Proofs.YtfijbhacobjjgagW.PrintMore Go.Proofs.Ytfijbhacobjjgag.Fr
set_option linter.unusedVariables false
set_option linter.unusedSimpArgs false
attribute [local go_sem] max2_int min2_int max_two min_two

open Pl Hp
theorem eqA28 (d : Nat) (w : World) (x0 y0 : Int) (x1 y1 : Int) (x2 y2 : Int) (x3 y3 : Bool) (x4 y4 : ByteArray) :
    (Op.equalIn (d + 2) 28 (.agg #[.int .i64 x0, .int .i64 x1, .int .i64 x2, .bool x3, .string x4]) (.agg #[.int .i64 y0, .int .i64 y1, .int .i64 y2, .bool y3, .string y4])).run Try.prog w = .ok (x0 == y0 && (x1 == y1 && (x2 == y2 && (x3 == y3 && (x4.toList == y4.toList))))) w := by
  refine eqA_of Try.underlying28 (by kernel_rfl) ?_
  refine eqf_cons (by rfl) (by go_simp; rfl) (by go_simp; rfl) (by go_simp) ?_
  refine eqf_cons (by rfl) (by go_simp; rfl) (by go_simp; rfl) (by go_simp) ?_
  refine eqf_cons (by rfl) (by go_simp; rfl) (by go_simp; rfl) (by go_simp) ?_
  refine eqf_cons (by rfl) (by go_simp; rfl) (by go_simp; rfl) (by go_simp) ?_
  exact eqf_last (by rfl) (by go_simp; rfl) (by go_simp; rfl) (by go_simp)
section
attribute [local go_sem high] eqA28
theorem act_eq2 {k nd n : Int} {up : Bool} {s : ByteArray} {k' nd' n' : Int} {up' : Bool} {s' : ByteArray} (w : World) : (binOp .eql 28 (.agg #[.int .i64 k, .int .i64 nd, .int .i64 n, .bool up, .string s]) (.agg #[.int .i64 k', .int .i64 nd', .int .i64 n', .bool up', .string s'])).run Try.prog w = .ok (.bool (k == k' && (nd == nd' && (n == n' && (up == up' && (s.toList == s'.toList)))))) w := by
  go_simp
theorem act_ne2 {k nd n : Int} {up : Bool} {s : ByteArray} {k' nd' n' : Int} {up' : Bool} {s' : ByteArray} (w : World) : (binOp .neq 28 (.agg #[.int .i64 k, .int .i64 nd, .int .i64 n, .bool up, .string s]) (.agg #[.int .i64 k', .int .i64 nd', .int .i64 n', .bool up', .string s'])).run Try.prog w = .ok (.bool (!(k == k' && (nd == nd' && (n == n' && (up == up' && (s.toList == s'.toList))))))) w := by
  go_simp
end
theorem act_eq (a : Ac) (w : World) : (binOp .eql 28 (actV a) (actV a)).run Try.prog w = .ok (.bool true) w := by
  unfold actV
  rw [act_eq2]
  simp
theorem act_ne (a : Ac) (w : World) : (binOp .neq 28 (actV a) (actV a)).run Try.prog w = .ok (.bool false) w := by
  unfold actV
  rw [act_ne2]
  simp
set_option maxHeartbeats 2000000 in
theorem same_any (l : List Ac) (p q : Option (Nat × Nat)) (c c' : Nat) (w0 : World) (h1 : RdC w0 p (acs l)) (h2 : RdC w0 q (acs l)) (hl : l.length ≤ 100000) :
    Calls Try.prog 14 #[.slice (ap p) l.length c, .slice (ap q) l.length c'] w0 fun e w' => e = .returned (.bool true) ∧ Drawn0 w0 w' := by
  obtain ⟨n, hn⟩ : ∃ n, l.length = n := ⟨_, rfl⟩
  have H := Aside0.mk (And.intro h1 (And.intro h2 hn))
  rw [hn] at hl ⊢
  clear h1 h2 hn
  have hqn : ((n : Int) == n) = true := by simp
  have hnn : ((n : Int) != n) = false := by simp
  go_enter Try.func14, Try.ntmps14
  go_wp2_with fail
  go_loopg [13] n (fun d x13 wr => ∃ (i : Nat), Aside0 (i + d = n) ∧ x13 = .int .i64 i ∧ Drawn0 w0 wr)
  case atStart => exact ⟨0, ⟨by omega⟩, rfl, Drawn0.refl _⟩
  case round =>
    obtain ⟨i, HK, rfl, hd⟩ := hrel
    obtain ⟨⟨dn, rfl⟩⟩ := hd
    by_cases hlt : i < n
    · obtain ⟨g1, o1, e1, x, hx, a0, a1, a2, a3, a4⟩ := (show RdC (w0.drewN dn) p (acs l) from H.out.1).act i (by rw [H.out.2.2]; exact hlt)
      obtain ⟨g2, o2, e2, x', hx', b0, b1, b2, b3, b4⟩ := (show RdC (w0.drewN dn) q (acs l) from H.out.2.1).act i (by rw [H.out.2.2]; exact hlt)
      rw [hx] at hx'
      cases hx'
      subst e1 e2
      have hli : (i : Int) < n := by omega
      have HC0 : Aside0 (((w0.drewN dn).cell? ⟨g1, o1 + i * 5, none⟩ = some (.int .i64 x.k) ∧ (w0.drewN dn).cell? ⟨g1, o1 + i * 5 + 1, none⟩ = some (.int .i64 x.nd) ∧ (w0.drewN dn).cell? ⟨g1, o1 + i * 5 + 2, none⟩ = some (.int .i64 x.n) ∧ (w0.drewN dn).cell? ⟨g1, o1 + i * 5 + 3, none⟩ = some (.bool x.up) ∧ (w0.drewN dn).cell? ⟨g1, o1 + i * 5 + 4, none⟩ = some (.string x.s)) ∧ (w0.drewN dn).cell? ⟨g2, o2 + i * 5, none⟩ = some (.int .i64 x.k) ∧ (w0.drewN dn).cell? ⟨g2, o2 + i * 5 + 1, none⟩ = some (.int .i64 x.nd) ∧ (w0.drewN dn).cell? ⟨g2, o2 + i * 5 + 2, none⟩ = some (.int .i64 x.n) ∧ (w0.drewN dn).cell? ⟨g2, o2 + i * 5 + 3, none⟩ = some (.bool x.up) ∧ (w0.drewN dn).cell? ⟨g2, o2 + i * 5 + 4, none⟩ = some (.string x.s)) := ⟨⟨⟨a0, a1, a2, a3, a4⟩, b0, b1, b2, b3, b4⟩⟩
      clear a0 a1 a2 a3 a4 b0 b1 b2 b3 b4 hx
      simp only [ap, Option.map_some]
      go_upto_region 6 with fail
      go_wp2
      obtain ⟨wd, hwd⟩ : ∃ wd, (w0.drewN dn).drew = wd := ⟨_, rfl⟩
      have HS : Aside0 ((wd.cell? ⟨g1, o1 + i * 5, none⟩ = some (.int .i64 x.k) ∧ wd.cell? ⟨g1, o1 + i * 5 + 1, none⟩ = some (.int .i64 x.nd) ∧ wd.cell? ⟨g1, o1 + i * 5 + 2, none⟩ = some (.int .i64 x.n) ∧ wd.cell? ⟨g1, o1 + i * 5 + 3, none⟩ = some (.bool x.up) ∧ wd.cell? ⟨g1, o1 + i * 5 + 4, none⟩ = some (.string x.s)) ∧ wd.cell? ⟨g2, o2 + i * 5, none⟩ = some (.int .i64 x.k) ∧ wd.cell? ⟨g2, o2 + i * 5 + 1, none⟩ = some (.int .i64 x.nd) ∧ wd.cell? ⟨g2, o2 + i * 5 + 2, none⟩ = some (.int .i64 x.n) ∧ wd.cell? ⟨g2, o2 + i * 5 + 3, none⟩ = some (.bool x.up) ∧ wd.cell? ⟨g2, o2 + i * 5 + 4, none⟩ = some (.string x.s)) := ⟨hwd ▸ HC0.out⟩
      have HDR : Aside0 (Drawn0 w0 wd) := ⟨hwd ▸ (⟨⟨dn, rfl⟩⟩ : Drawn0 w0 (w0.drewN dn)).step 1⟩
      clear HC0
      refine St.steadyR (n := 9) (by kernel_rfl) ([] :: [] :: [(0, 16), (1, 17)] :: [(2, 18)] :: [] :: [] :: [(4, 20), (5, 21)] :: [(6, 22)] :: [(3, 19), (7, 23)] :: []) (some 16 :: some 17 :: some 18 :: some 19 :: some 20 :: some 21 :: some 22 :: some 23 :: some 24 :: []) (by kernel_rfl) ((St.eqT ?c6_0x12) :: (St.eqT ?c6_1x12) :: (St.eqT ?c6_2x12) :: (St.eqT (actV x)) :: (St.eqT ?c6_4x12) :: (St.eqT ?c6_5x12) :: (St.eqT ?c6_6x12) :: (St.eqT (actV x)) :: (St.eqT (.bool false)) :: []) rfl (by rfl) (fun w' => w' = wd) (fun w w' => w = w') ?hst ?h0 ?hB ?hop ?hend
      case hop =>
        refine ⟨?_, ?_, ?_, ?_, ?_, ?_, ?_, ?_, ?_, trivial⟩
        · intro w hB
          simp only [St.withD]
          refine St.ob_value (v := ?_) (w' := w) (by rfl) ?_ ⟨rfl, ?_⟩
          rotate_left
          · go_simp
            with_reducible rfl
          · rfl
        · intro w hB
          simp only [St.withD]
          refine St.ob_value (v := ?_) (w' := w) (by rfl) ?_ ⟨rfl, ?_⟩
          rotate_left
          · go_simp
            with_reducible rfl
          · rfl
        · intro w hB; rintro _ ⟨_, rfl⟩ _ ⟨_, rfl⟩
          simp only [St.withD, List.nil_append, List.cons_append, Act.put, List.setIfInBounds_toArray, List.set_cons_zero, List.set_cons_succ]
          refine St.ob_value (v := ?_) (w' := w) (by rfl) ?_ ⟨rfl, ?_⟩
          rotate_left
          · go_simp
            with_reducible rfl
          · rfl
        · intro w hB; rintro _ ⟨_, rfl⟩
          simp only [St.withD, List.nil_append, List.cons_append, Act.put, List.setIfInBounds_toArray, List.set_cons_zero, List.set_cons_succ]
          have hs := HS.out
          rw [← hB] at hs
          obtain ⟨⟨b0, b1, b2, b3, b4⟩, _⟩ := hs
          clear hB
          refine St.ob_value (v := actV x) (w' := w) (by rfl) ?_ ⟨rfl, rfl⟩
          unfold actV
          go_simp
        · intro w hB
          simp only [St.withD]
          refine St.ob_value (v := ?_) (w' := w) (by rfl) ?_ ⟨rfl, ?_⟩
          rotate_left
          · go_simp
            with_reducible rfl
          · rfl
        · intro w hB
          simp only [St.withD]
          refine St.ob_value (v := ?_) (w' := w) (by rfl) ?_ ⟨rfl, ?_⟩
          rotate_left
          · go_simp
            with_reducible rfl
          · rfl
        · intro w hB; rintro _ ⟨_, rfl⟩ _ ⟨_, rfl⟩
          simp only [St.withD, List.nil_append, List.cons_append, Act.put, List.setIfInBounds_toArray, List.set_cons_zero, List.set_cons_succ]
          refine St.ob_value (v := ?_) (w' := w) (by rfl) ?_ ⟨rfl, ?_⟩
          rotate_left
          · go_simp
            with_reducible rfl
          · rfl
        · intro w hB; rintro _ ⟨_, rfl⟩
          simp only [St.withD, List.nil_append, List.cons_append, Act.put, List.setIfInBounds_toArray, List.set_cons_zero, List.set_cons_succ]
          have hs := HS.out
          rw [← hB] at hs
          obtain ⟨_, b0, b1, b2, b3, b4⟩ := hs
          clear hB
          refine St.ob_value (v := actV x) (w' := w) (by rfl) ?_ ⟨rfl, rfl⟩
          unfold actV
          go_simp
        · intro w hB; rintro _ ⟨_, rfl⟩ _ ⟨_, rfl⟩
          simp only [St.withD, List.nil_append, List.cons_append, Act.put, List.setIfInBounds_toArray, List.set_cons_zero, List.set_cons_succ]
          clear hB
          have hne := act_ne x w
          refine St.ob_value (v := .bool false) (w' := w) (by rfl) ?_ ⟨rfl, rfl⟩
          unfold actV at hne ⊢
          go_simp
      case hst => exact ⟨St.eqT_st, St.eqT_st, St.eqT_st, St.eqT_st, St.eqT_st, St.eqT_st, St.eqT_st, St.eqT_st, St.eqT_st, trivial⟩
      case h0 => exact hwd
      case hB => exact fun w w' h e => e ▸ h
      case hend =>
        intro w hB
        rintro _ rfl _ rfl _ rfl _ rfl _ rfl _ rfl _ rfl _ rfl _ rfl
        simp only [List.map_cons, List.map_nil, List.nil_append, List.cons_append, List.getD_cons_zero, List.getD_cons_succ, Act.put, List.setIfInBounds_toArray, List.set_cons_zero, List.set_cons_succ]
        rw [St.withE_nil]
        subst hB
        go_wp2
        go_roundg (gk - 1)
        case measure => have := HK.out; omega
        case rel => exact ⟨i + 1, ⟨by have := HK.out; omega⟩, by go_num, HDR.out⟩
    · have him : i = n := by have := HK.out; omega
      subst him
      have hii : ¬ (i : Int) < i := by omega
      go_wp2
      go_ret
      exact ⟨rfl, ⟨⟨_, rfl⟩⟩⟩
end Go.Proofs.Ytfijbhacobjjgag
