/- The contract of the document's decoder: the walk. -/
import Derived.Test.YtfijbhacobjjgaeProg
import Derived.Test.YtfijbhacobjjgaeVals
import Derived.Test.YtfijbhacobjjgaeWLast
import Derived.Test.YtfijbhacobjjgaeWMore
import Derived.RegionTactic
import Derived.ChangeAlike
import Derived.BigRegion
import Derived.WalkLawsBesides
import Derived.WalkSpells
import Derived.Deep.LoopGhost
import Derived.Deep.QuietTactic
import Derived.BigQuiet
import Derived.OwnWalk
import Derived.Test.YtfijbhacobjjgaeRefC
namespace Go.Proofs.Ytfijbhacobjjgae
open Go.RowKit Go.Proofs.YtfijbhacobjjgaeW.PrintWords Go.Proofs.YtfijbhacobjjgaeW.PrintLast Go.Proofs.YtfijbhacobjjgaeW.PrintMore Go.Proofs.Ytfijbhacobjjgae.Fr
set_option linter.unusedVariables false
set_option linter.unusedSimpArgs false
attribute [local go_sem] max2_int min2_int max_two min_two

open Pl
set_option maxRecDepth 100000 in
set_option maxHeartbeats 2000000 in
theorem refdec_any (T : ByteArray) (n : Nat) (hT : T.size ≤ 30000) (hn : n ≤ 30000) (w0 : World) : Calls Try.prog 8 #[.string T, .int .i64 n] w0 fun e w' => e = .returned (ansV (ans (bz T) n)) ∧ Below w0.heap.size w0 w' := by
  by_cases hs4 : T.size < 4
  · have HA : Aside0 (ans (bz T) n = none) := ⟨ans_short T n (by have := dd_len n (bz T) c0; rw [bz_len] at this; omega)⟩
    go_enter Try.func8, Try.ntmps8
    go_wp2
    go_ret2
    rw [HA.out]
    exact ⟨rfl, Below.refl _ _⟩
  obtain ⟨R0, hR0⟩ : ∃ R0, dd n (bz T) c0 = R0 := ⟨_, rfl⟩
  have HBAD : Aside0 (R0.2.1.length < 4 → ans (bz T) n = none) := ⟨fun h => ans_short T n (by rw [hR0]; exact h)⟩
  have HGOOD : Aside0 (4 ≤ R0.2.1.length → ans (bz T) n = if strOfNums (code R0.1) = T then some R0.1 else none) := ⟨fun h => by
    have hr := ans_ref (bz T) n (bz_byt T) (by rw [hR0]; exact h)
    have e : (strOfNums (code R0.1) = T) ↔ (code R0.1 = bz T) := ⟨fun e => by rw [← e, bz_of _ (code_byt _)], fun e => by rw [e, of_bz]⟩
    rw [hR0] at hr
    unfold ans
    rw [hR0]
    by_cases h1 : code R0.1 = bz T
    · rw [if_pos (hr.1 h1), if_pos (e.2 h1)]
    · rw [if_neg (fun h2 => h1 (hr.2 h2)), if_neg (fun h2 => h1 (e.1 h2))]⟩
  have HL8 : Aside0 ((∀ v ∈ R0.1, v < 256) ∧ R0.1.length = n) := ⟨by rw [← hR0]; exact ⟨dd_lt n _ _, (dd_ok n _ _ c0_ok).2⟩⟩
  have hge4 : 4 ≤ T.size := by omega
  clear hs4
  go_enter Try.func8, Try.ntmps8
  go_wp2_with fail
  refine (rnew_any w0).mono ?_
  rintro e w1 ⟨g, rfl, hg, hm1, hb1⟩
  have HR0 : Aside0 (RW w0 w1 g c0 (.slice none 0 0) (toI [])) := ⟨⟨hm1, ⟨rfl, .inl ⟨rfl, rfl⟩⟩, hb1, hg⟩⟩
  clear hg hm1 hb1
  go_wp2
  have HIN : Aside0 (([] : List Nat).length + n = n ∧ OkS c0 ∧ [] ++ (dd n ((bz T).drop 0) c0).1 = R0.1 ∧ (dd n ((bz T).drop 0) c0).2 = R0.2 ∧ 0 + 4 ≤ T.size) := ⟨Nat.zero_add _, c0_ok, by rw [List.drop_zero, hR0]; rfl, by rw [List.drop_zero, hR0], by omega⟩
  clear hR0
  go_loopg [7, 8, 9, 10, 11, 12] n (fun gj x7 x8 x9 x10 x11 x12 wr => ∃ (a : Nat) (s : Cs) (o : List Nat), x7 = .int .i64 a ∧ Aside0 (o.length + gj = n ∧ OkS s ∧ o ++ (dd gj ((bz T).drop a) s).1 = R0.1 ∧ (dd gj ((bz T).drop a) s).2 = R0.2 ∧ a + 4 ≤ T.size) ∧ Aside0 (RW w0 wr g s x8 (toI o)))
  case atStart => exact ⟨0, c0, [], rfl, HIN, HR0⟩
  case round =>
    clear HR0 HIN
    obtain ⟨a, s, o, rfl, HI, HW⟩ := hrel
    obtain ⟨A, cc, hv, hoc, _⟩ := own_nums HW.out.row
    rw [toI_len] at hv hoc
    subst hv
    by_cases hlt : o.length < n
    · obtain ⟨j, rfl⟩ : ∃ j, gk = j + 1 := ⟨gk - 1, by have := HI.out.1; omega⟩
      have h1 : (o.length : Int) < (n : Int) := by omega
      obtain ⟨RES, hRES⟩ : ∃ RES, dn 8 ((bz T).drop a) 1 s = RES := ⟨_, rfl⟩
      have HNX : Aside0 (o ++ ((RES.1 - 256) :: (dd j RES.2.1 RES.2.2).1) = R0.1 ∧ (dd j RES.2.1 RES.2.2).2 = R0.2 ∧ o.length + (j + 1) = n) := ⟨by
        have h := HI.out.2.2
        simp only [dd, hRES] at h
        exact ⟨h.1, h.2.1, HI.out.1⟩⟩
      have HN0 : Aside0 (0 + 8 = 8 ∧ Nd 0 1 ∧ OkS s ∧ dn 8 ((bz T).drop a) 1 s = RES ∧ a + 4 ≤ T.size) := ⟨rfl, nd_one, HI.out.2.1, hRES, HI.out.2.2.2.2⟩
      clear hRES HI
      go_wp2
      go_loopg [7, 9, 10, 11, 12] 8 (fun gn x7 x9 x10 x11 x12 wr => ∃ (k node a1 : Nat) (s1 : Cs), x7 = .int .i64 a1 ∧ x9 = .int .i64 node ∧ Aside0 (k + gn = 8 ∧ Nd k node ∧ OkS s1 ∧ dn gn ((bz T).drop a1) node s1 = RES ∧ a1 + 4 ≤ T.size) ∧ Aside0 (RW w0 wr g s1 (.slice A o.length cc) (toI o)))
      case atStart => exact ⟨0, 1, a, s, rfl, rfl, ⟨rfl, HN0.out.2⟩, HW⟩
      case round =>
        clear HN0 HW
        obtain ⟨k, node, a1, s1, rfl, rfl, HI, HW⟩ := hrel
        by_cases hlt : node < 256
        · obtain ⟨f, rfl⟩ : ∃ f, gk = f + 1 := ⟨gk - 1, by
            have hk := HI.out.1
            have hnd := HI.out.2.1
            rcases Nat.eq_zero_or_pos gk with e | e
            · have : k = 8 := by omega
              subst this
              have := hnd.1
              omega
            · omega⟩
          have ha1 : a1 + 4 ≤ T.size := HI.out.2.2.2.2
          have dlt : decide ((node : Int) < 256) = true := decide_eq_true (by omega)
          go_wp2
          go_loopg [10, 11] 4 (fun gq x10 x11 wq => ∃ q : Nat, x10 = .int .u64 (vv (bz T) a1 q) ∧ x11 = .int .i64 q ∧ Aside0 (q + gq = 4) ∧ wq = wr)
          case atStart => exact ⟨0, rfl, rfl, ⟨rfl⟩, rfl⟩
          case round =>
            obtain ⟨q, rfl, rfl, HQ, rfl⟩ := hrel
            have hvq := vv_in (bz_byt T) a1 q (by have := HQ.out; omega)
            by_cases hq4 : q < 4
            · have hvn := vv_in (bz_byt T) a1 (q + 1) (by omega)
              have hsv : vv (bz T) a1 (q + 1) = vv (bz T) a1 q * 256 + (bz T).getD (a1 + q) 0 := rfl
              have hix := bz_at T (a1 + q) (by omega)
              have hb8 := byt_get (bz_byt T) (a1 + q)
              obtain ⟨bb, hbb⟩ : ∃ bb, (bz T).getD (a1 + q) 0 = bb := ⟨_, rfl⟩
              obtain ⟨v0, hv0⟩ : ∃ v0, vv (bz T) a1 q = v0 := ⟨_, rfl⟩
              have HV : Aside0 (v0 * 256 + bb = vv (bz T) a1 (q + 1)) := ⟨by rw [hsv, hbb, hv0]⟩
              rw [hsv] at hvn
              rw [hbb] at hix hb8 hvn
              rw [hv0] at hvq hvn
              rw [hv0]
              obtain ⟨hb8a, hb8b⟩ := hb8
              obtain ⟨hvqa, hvqb⟩ := hvq
              have hvnb := hvn.2
              have hix2 : a1 + q < T.size := by omega
              clear hsv hbb hv0 hvn
              go_wp2
              go_roundg (gk - 1)
              case measure => have := HQ.out; omega
              case rel => exact ⟨q + 1, by rw [HV.out], by go_num, ⟨by have := HQ.out; omega⟩, rfl⟩
            · obtain rfl : q = 4 := by have := HQ.out; omega
              obtain ⟨v4v, hv4v⟩ : ∃ v4v, vv (bz T) a1 4 = v4v := ⟨_, rfl⟩
              have hvV : V ((bz T).drop a1) = v4v := by rw [← hv4v, vv_four (bz_byt T)]
              rw [hv4v] at hvq ⊢
              clear hv4v
              obtain ⟨i0, i1, hO, hdn, i4⟩ := HI.out
              have hx := hO.2.2.2.2.2 node hlt
              have hslt : s1.l < s1.h := by
                obtain ⟨x1, x2, x3, x4, x5⟩ := hO
                omega
              have HMD0 := refmid_any g node s1.l s1.h s1.c hO.1 hslt hO.2.2.1 hO.2.2.2.2 hlt wr HW.out.box
              obtain ⟨b, hb⟩ : ∃ b, db ((bz T).drop a1) node s1 = b := ⟨_, rfl⟩
              have hsn : dn (f + 1) ((bz T).drop a1) node s1 = dn f (dr ((bz T).drop a1) node s1) (nx node (db ((bz T).drop a1) node s1)) (put s1 node (db ((bz T).drop a1) node s1)) := rfl
              rw [hsn, ← drop_dr, hb] at hdn
              have HPT0 : Aside0 (∀ w : World, CB w g s1.l s1.h s1.c → Calls Try.prog 15 #[.pointer (some ⟨g, 0, none⟩), .int .i64 node, .int .i64 (bv b)] w (RPost g (put s1 node b) (out s1 node b) w)) := ⟨fun w h => refput_any g node s1 b hO hlt w h⟩
              have hmid : mid s1.l s1.h (s1.c.getD node 0) = mid s1.l s1.h (s1.c.getD node 0) := rfl
              unfold db at hb
              rw [hvV] at hb
              obtain ⟨m, hm⟩ : ∃ m, mid s1.l s1.h (s1.c.getD node 0) = m := ⟨_, rfl⟩
              rw [hm] at hb HMD0
              have HMD := Aside0.mk HMD0
              have HNV := Aside0.mk (nx_bv node b)
              have hol := out_four hO hlt b
              have hnx := nd_nx b i1
              have hpo := put_ok hO hlt b
              obtain ⟨P, hP⟩ : ∃ P, put s1 node b = P := ⟨_, rfl⟩
              obtain ⟨oo, ho⟩ : ∃ oo, out s1 node b = oo := ⟨_, rfl⟩
              obtain ⟨n2, hn2e⟩ : ∃ n2, nx node b = n2 := ⟨_, rfl⟩
              obtain ⟨ol, hole⟩ : ∃ ol, oo.length = ol := ⟨_, rfl⟩
              rw [hP, ho] at HPT0
              rw [hP, hn2e, ho, hole] at hdn
              rw [hn2e] at HNV hnx
              rw [hP] at hpo
              rw [ho, hole] at hol
              have HNX2 : Aside0 (k + 1 + f = 8 ∧ Nd (k + 1) n2 ∧ OkS P ∧ dn f ((bz T).drop (a1 + ol)) n2 P = RES) := ⟨by omega, hnx, hpo, hdn⟩
              have HBAD2 : Aside0 (T.size < a1 + ol + 4 → ans (bz T) n = none) := ⟨fun h => HBAD.out (by
                have e1 := dd_len j RES.2.1 RES.2.2
                rw [HNX.out.2.1] at e1
                have e2 := dn_len f ((bz T).drop (a1 + ol)) n2 P
                rw [hdn, List.length_drop, bz_len] at e2
                omega)⟩
              have HOL := Aside0.mk hole
              clear hx hslt HMD0 hsn hvV hmid hm hnx hpo hP ho hn2e hole hdn hO i1 i0 HI
              cases b
              · have hle : ¬ v4v ≤ m := of_decide_eq_false hb
                have HPT : Aside0 (∀ w : World, CB w g s1.l s1.h s1.c → Calls Try.prog 15 #[.pointer (some ⟨g, 0, none⟩), .int .i64 node, .int .i64 0] w (RPost g P oo w)) := ⟨HPT0.out⟩
                have HNW : Aside0 ((node : Int) * 2 + 0 = (n2 : Int)) := ⟨HNV.out⟩
                clear hb HPT0 HNV
                go_wp2_with fail
                refine HMD.out.mono ?_
                rintro e w3 ⟨rfl, hd3⟩
                have HW3 : Aside0 (RW w0 w3 g s1 (.slice A o.length cc) (toI o)) := ⟨by obtain ⟨⟨nq, rfl⟩⟩ := hd3; exact HW.out.below (below_drewN (Below.refl _ _) nq)⟩
                clear hd3 HMD HW
                go_wp2_with fail
                refine (HPT.out _ HW3.out.box).mono ?_
                rintro e w4 ⟨v4, rfl, hr4, hb4, hc4⟩
                obtain ⟨A4, cc4, rfl, hrd4⟩ := own_reads hr4
                have HW4 : Aside0 (RW w0 w4 g P (.slice A o.length cc) (toI o)) := ⟨HW3.out.step hb4 hc4⟩
                rw [HOL.out]
                clear hr4 hb4 hc4 HPT HW3 hrd4
                by_cases hfit : a1 + ol + 4 ≤ T.size
                · have h2 : ¬ (T.size : Int) < (a1 : Int) + ol + 4 := by omega
                  go_wp2
                  go_roundg f
                  case measure => omega
                  case rel => exact ⟨k + 1, n2, a1 + ol, P, by go_num, by first | (rw [← HNW.out]; done) | (rw [← HNW.out]; go_num), ⟨HNX2.out.1, HNX2.out.2.1, HNX2.out.2.2.1, HNX2.out.2.2.2, hfit⟩, HW4⟩
                · have h2 : (T.size : Int) < (a1 : Int) + ol + 4 := by omega
                  have HA : Aside0 (ans (bz T) n = none) := ⟨HBAD2.out (by omega)⟩
                  go_wp2
                  go_ret2
                  rw [HA.out]
                  exact ⟨rfl, HW4.out.bel⟩
              · have hle : v4v ≤ m := of_decide_eq_true hb
                have HPT : Aside0 (∀ w : World, CB w g s1.l s1.h s1.c → Calls Try.prog 15 #[.pointer (some ⟨g, 0, none⟩), .int .i64 node, .int .i64 1] w (RPost g P oo w)) := ⟨HPT0.out⟩
                have HNW : Aside0 ((node : Int) * 2 + 1 = (n2 : Int)) := ⟨HNV.out⟩
                clear hb HPT0 HNV
                go_wp2_with fail
                refine HMD.out.mono ?_
                rintro e w3 ⟨rfl, hd3⟩
                have HW3 : Aside0 (RW w0 w3 g s1 (.slice A o.length cc) (toI o)) := ⟨by obtain ⟨⟨nq, rfl⟩⟩ := hd3; exact HW.out.below (below_drewN (Below.refl _ _) nq)⟩
                clear hd3 HMD HW
                go_wp2_with fail
                refine (HPT.out _ HW3.out.box).mono ?_
                rintro e w4 ⟨v4, rfl, hr4, hb4, hc4⟩
                obtain ⟨A4, cc4, rfl, hrd4⟩ := own_reads hr4
                have HW4 : Aside0 (RW w0 w4 g P (.slice A o.length cc) (toI o)) := ⟨HW3.out.step hb4 hc4⟩
                rw [HOL.out]
                clear hr4 hb4 hc4 HPT HW3 hrd4
                by_cases hfit : a1 + ol + 4 ≤ T.size
                · have h2 : ¬ (T.size : Int) < (a1 : Int) + ol + 4 := by omega
                  go_wp2
                  go_roundg f
                  case measure => omega
                  case rel => exact ⟨k + 1, n2, a1 + ol, P, by go_num, by first | (rw [← HNW.out]; done) | (rw [← HNW.out]; go_num), ⟨HNX2.out.1, HNX2.out.2.1, HNX2.out.2.2.1, HNX2.out.2.2.2, hfit⟩, HW4⟩
                · have h2 : (T.size : Int) < (a1 : Int) + ol + 4 := by omega
                  have HA : Aside0 (ans (bz T) n = none) := ⟨HBAD2.out (by omega)⟩
                  go_wp2
                  go_ret2
                  rw [HA.out]
                  exact ⟨rfl, HW4.out.bel⟩
        · have hk8 : k = 8 := by
            have hk := HI.out.1
            rcases Nat.lt_or_ge k 8 with h | h
            · exact absurd (nd_lt HI.out.2.1 (by omega)) hlt
            · omega
          subst hk8
          obtain rfl : gk = 0 := by have := HI.out.1; omega
          have hdn0 : (node, (bz T).drop a1, s1) = RES := HI.out.2.2.2.1
          have hu : node < 512 := HI.out.2.1.2
          have hw8 : IntKind.u8.wrap ((node : Int) - 256) = ((node - 256 : Nat) : Int) := by rw [IntKind.wrap_u8]; omega
          have hm8 : (node : Int) % 256 = (node : Int) - 256 := by omega
          have HNZ : Aside0 (o ++ ((node - 256) :: (dd j ((bz T).drop a1) s1).1) = R0.1 ∧ (dd j ((bz T).drop a1) s1).2 = R0.2 ∧ o.length + (j + 1) = n ∧ OkS s1 ∧ a1 + 4 ≤ T.size) := ⟨by
            have := HNX.out
            rw [← hdn0] at this
            exact ⟨this.1, this.2.1, this.2.2, HI.out.2.2.1, HI.out.2.2.2.2⟩⟩
          have h1 : ¬ (node : Int) < 256 := by omega
          have hle : o.length ≤ 30000 := by have := HNZ.out.2.2.1; omega
          have HRW : Aside0 (wr.ownsRow (g + 1) 5 1 (.slice A o.length cc) (toI o).length (nums .u8 (toI o))) := ⟨HW.out.row⟩
          have hlt' := toI_len o
          have hgl := HW.out.box.lt
          clear hdn0 HI HNX hlt
          go_wp2_with ((with_reducible refine gate_dst (N := 62) rfl ?_); refine print_append_num (w0 := wr) (g + 1) rfl (.tmp 57) (.tmp 61) 36 5 .u8 1 rfl Try.underlying36 info5 (by decide) (.slice A o.length cc) (toI o) ((node - 256 : Nat) : Int) rfl rfl HRW.out (Below.refl _ _) (by omega) (by omega) ?_; intro v1 w8 hown hbel hgrow hat; have HG8 := Aside0.mk (And.intro hown hgrow); clear hown hbel hgrow hat)
          go_roundg j
          case measure => omega
          case rel => exact ⟨a1, s1, o ++ [node - 256], rfl, ⟨by rw [List.length_append]; have := HNZ.out.2.2.1; simp only [List.length_cons, List.length_nil]; omega, HNZ.out.2.2.2.1, by rw [List.append_assoc]; exact HNZ.out.1, HNZ.out.2.1, HNZ.out.2.2.2.2⟩, ⟨HW.out.grown (by have := HG8.out.1; rw [toI_snoc] at this; exact this) HG8.out.2⟩⟩
    · have hz : gk = 0 := by have := HI.out.1; omega
      subst hz
      have h1 : ¬ (o.length : Int) < (n : Int) := by omega
      obtain ⟨i1, i2, i3, i4, i5⟩ := HI.out
      have e3 : o = R0.1 := by rw [← i3]; exact (List.append_nil o).symm
      have hrl : 4 ≤ R0.2.1.length := by
        rw [← i4]
        show 4 ≤ ((bz T).drop a).length
        rw [List.length_drop, bz_len]
        omega
      have HA0 := Aside0.mk (HGOOD.out hrl)
      rw [← e3] at HA0
      have ho8 : ∀ v ∈ o, v < 256 := by rw [e3]; exact HL8.out.1
      have HCV : Aside0 ((convert 36 9 (.slice A o.length cc)).run Try.prog wr = .ok (.string (strOfNums (toI o))) wr) := ⟨own_string Try.underlying36 Try.underlying5 Try.underlying9 HW.out.row⟩
      have HCW : Aside0 (∀ w, Below wr.heap.size wr w → (convert 36 9 (.slice A o.length cc)).run Try.prog w = .ok (.string (strOfNums (toI o))) w) := ⟨fun w hb => own_string Try.underlying36 Try.underlying5 Try.underlying9 (HW.out.below hb).row⟩
      have HEN : Aside0 (∀ w : World, Calls Try.prog 10 #[.string (strOfNums (toI o))] w fun e w' => e = .returned (.string (strOfNums (code o))) ∧ Below w.heap.size w w') := ⟨fun w => by
        have := refenc_any (strOfNums (toI o)) (by rw [sn_size, toI_len]; omega) w
        rwa [nb_of o ho8] at this⟩
      have HBE := Aside0.mk HW.out.bel
      obtain ⟨S1, hS1⟩ : ∃ S1, strOfNums (code o) = S1 := ⟨_, rfl⟩
      rw [hS1] at HA0 HEN
      obtain ⟨S2, hS2⟩ : ∃ S2, strOfNums (toI o) = S2 := ⟨_, rfl⟩
      have HS2 := Aside0.mk hS2
      rw [hS2] at HCV HCW HEN
      clear i1 i2 i3 i4 i5 hrl e3 ho8 hS1 hS2 HI HW HGOOD HBAD HL8
      by_cases he : S1 = T
      · rw [if_pos he] at HA0
        go_wp2
        rw [HCV.out]
        go_wp2_with fail
        refine (HEN.out _).mono ?_
        rintro e w3 ⟨rfl, hb3⟩
        have HB3 := Aside0.mk hb3
        clear hb3
        go_wp2
        rw [HCW.out _ HB3.out]
        go_wp2
        go_ret2
        rw [HA0.out, ← HS2.out]
        exact ⟨rfl, below_step HBE.out HB3.out⟩
      · rw [if_neg he] at HA0
        have hne : (!(S1.toList == T.toList)) = true := by rw [str_ne he]; rfl
        clear he
        go_wp2
        rw [HCV.out]
        go_wp2_with fail
        refine (HEN.out _).mono ?_
        rintro e w3 ⟨rfl, hb3⟩
        have HB3 := Aside0.mk hb3
        clear hb3
        go_wp2
        go_ret2
        rw [HA0.out]
        exact ⟨rfl, below_step HBE.out HB3.out⟩
end Go.Proofs.Ytfijbhacobjjgae
