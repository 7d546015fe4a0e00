/- The walk of PaceShares: it answers true. -/
import Derived.Test.YtfijbhacobjjgabPaceAwake
import Derived.Test.YtfijbhacobjjgabOpen
namespace Go.Proofs.Ytfijbhacobjjgab
open Go.RowKit Go.Proofs.YtfijbhacobjjgabW.PrintWords Go.Proofs.YtfijbhacobjjgabW.PrintLast Go.Proofs.YtfijbhacobjjgabW.PrintMore Go.Proofs.Ytfijbhacobjjgab.Fr
set_option linter.unusedVariables false
set_option linter.unusedSimpArgs false

open Go.Proofs.Ytfijbhacobjjgab.Pl
attribute [local go_sem] max2_int min2_int max_two min_two
theorem rnd_br : ∀ (ws os : List Int) (l : Int), (∀ w ∈ ws, w ≤ 1000) → (∀ o ∈ os, 0 ≤ o) → rnd (ws.map br) os l = rnd ws os l ∧ ∀ o ∈ (rnd ws os l).1, 0 ≤ o
  | [], os, l, _, h => by simp [rnd]; exact h
  | w :: ws, [], l, _, h => by simp [rnd]
  | w :: ws, o :: os, l, hw, h => by
    have ho := h o (List.mem_cons_self ..)
    have hw0 := hw w (List.mem_cons_self ..)
    have ih := fun l => rnd_br ws os l (fun x hx => hw x (List.mem_cons_of_mem _ hx)) (fun x hx => h x (List.mem_cons_of_mem _ hx))
    have hb : o < br w ↔ o < w := by unfold br bring mn mx; constructor <;> intro h <;> (repeat' split at *) <;> omega
    simp only [List.map_cons, rnd, hb]
    by_cases hc : 0 < l ∧ o < w
    · rw [if_pos hc, if_pos hc, (ih _).1]
      refine ⟨rfl, fun x hx => ?_⟩
      rcases List.mem_cons.1 hx with rfl | hx
      · omega
      · exact (ih _).2 x hx
    · rw [if_neg hc, if_neg hc, (ih _).1]
      refine ⟨rfl, fun x hx => ?_⟩
      rcases List.mem_cons.1 hx with rfl | hx
      · exact ho
      · exact (ih _).2 x hx
theorem rnds_br (ws : List Int) (hw : ∀ w ∈ ws, w ≤ 1000) : ∀ (n : Nat) (s : List Int × Int), (∀ o ∈ s.1, 0 ≤ o) → rnds (ws.map br) n s = rnds ws n s
  | 0, s, _ => rfl
  | n + 1, s, h => by
    have h1 := rnd_br ws s.1 s.2 hw h
    simp only [rnds]
    rw [h1.1]
    exact rnds_br ws hw n _ h1.2
theorem one_end (ws : List Int) (hw : ∀ w ∈ ws, w ≤ 1000) (total : Int) (ht : total ≤ 3000) {r q : List Int} {l m : Int} (h : Pl.Ends (ws.map br) ((ws.map br).map (fun _ => 0), br total) (r, l)) (k : Pl.Ends ws (ws.map (fun _ => 0), total) (q, m)) : r = q := by
  have e0 : (ws.map br).map (fun _ => (0 : Int)) = ws.map (fun _ => 0) := by simp
  rw [e0] at h
  have hz : ∀ o ∈ ws.map (fun _ => (0 : Int)), 0 ≤ o := fun o ho => by
    obtain ⟨_, _, rfl⟩ := List.mem_map.1 ho
    exact Int.le_refl _
  by_cases hp : 0 < total
  · have e1 : br total = total := by unfold br bring mn mx; (repeat' split) <;> omega
    rw [e1] at h
    obtain ⟨h1, n, hn⟩ := h
    rw [rnds_br ws hw n _ hz] at hn
    obtain ⟨k1, n2, hn2⟩ := k
    have h1' : rnd (ws.map br) q m = (q, m) := by
      have := rnds_br ws hw n2 (ws.map (fun _ => 0), total) hz
      have hq : ∀ (n : Nat) (s : List Int × Int), (∀ o ∈ s.1, 0 ≤ o) → ∀ o ∈ (rnds ws n s).1, 0 ≤ o := by
        intro n
        induction n with
        | zero => intro s h; exact h
        | succ n ih => intro s h; simp only [rnds]; exact ih _ (rnd_br ws s.1 s.2 hw h).2
      have hq2 := hq n2 (ws.map (fun _ => 0), total) hz
      rw [hn2] at hq2
      rw [(rnd_br ws q m hw hq2).1]
      exact k1
    have hh : Pl.Ends (ws.map br) (ws.map (fun _ => 0), total) (r, l) := ⟨h1, n, by rw [rnds_br ws hw n _ hz]; exact hn⟩
    have kk : Pl.Ends (ws.map br) (ws.map (fun _ => 0), total) (q, m) := ⟨h1', n2, by rw [rnds_br ws hw n2 _ hz]; exact hn2⟩
    exact (Prod.mk.inj (hh.one kk)).1
  · have e1 : br total = 0 := by unfold br bring mn mx; (repeat' split) <;> omega
    rw [e1] at h
    obtain ⟨_, n, hn⟩ := h
    obtain ⟨_, n2, hn2⟩ := k
    rw [rnds_fix _ _ (rnd_zero _ _ _ (by simp))] at hn
    rw [rnds_fix _ _ (rnd_zero _ _ _ (by simp; omega))] at hn2
    exact (Prod.mk.inj hn).1.symm.trans (Prod.mk.inj hn2).1
set_option maxRecDepth 100000 in
set_option maxHeartbeats 4000000 in
theorem shares_walk (total : Int) (ht : (Lit.int .i64 total).wf = true) (A : Option Addr) (len cap : Nat) (ws : List Int) (w0 : World) (hcap : len ≤ cap) (hC : Kd.C (Kd.int .i64) w0 A len ws) (hwf : ∀ p ∈ ws, (Lit.int .i64 p).wf = true) :
    Calls Try.prog 3 #[.int .i64 total, .slice A len cap] w0 fun e w' => e = .returned (.bool true) ∧ Below w0.heap.size w0 w' := by
  have HB := Aside0.mk (Below.refl w0.heap.size w0)
  obtain ⟨ht0, ht1⟩ := wf_i64 ht
  have hlm : len ≤ 9223372036854775807 := hC.2.1
  have HCL := Aside0.mk hC.1
  have HRD : Aside0 (∀ k, k < len → ∃ ad, A = some ad ∧ w0.cell? (ad.add k) = some (.int .i64 (rd ws k))) := ⟨fun k hk => by
    have := Kd.at_int hC k (by omega) (by omega)
    simpa using this⟩
  have HC := Aside0.mk hC
  clear hC ht hwf
  by_cases hbig : 3000 < total
  · have hd : decide ((3000 : Int) < total) = true := decide_eq_true hbig
    go_enter Try.func3, Try.ntmps3
    go_wp2_with ((go_at_call 6; refine (awake_any _).mono ?_; rintro e w1 ⟨rfl, hb⟩; have zz_HB := Aside0.mk (below_step HB.out hb); clear HB; have HB := zz_HB; clear zz_HB; clear hb))
    go_ret
    exact ⟨rfl, HB.out⟩
  · have hd : decide ((3000 : Int) < total) = false := decide_eq_false hbig
    by_cases hlen : 30 < len
    · have hd2 : decide ((30 : Int) < (len : Int)) = true := decide_eq_true (by omega)
      go_enter Try.func3, Try.ntmps3
      go_wp2_with ((go_at_call 6; refine (awake_any _).mono ?_; rintro e w1 ⟨rfl, hb⟩; have zz_HB := Aside0.mk (below_step HB.out hb); clear HB; have HB := zz_HB; clear zz_HB; clear hb))
      go_ret
      exact ⟨rfl, HB.out⟩
    · have hd2 : decide ((30 : Int) < (len : Int)) = false := decide_eq_false (by omega)
      have hl30 : len ≤ 30 := by omega
      have ht3 : total ≤ 3000 := by omega
      go_enter Try.func3, Try.ntmps3
      go_wp2_with ((go_at_call 6; refine (awake_any _).mono ?_; rintro e w1 ⟨rfl, hb⟩; have zz_HB := Aside0.mk (below_step HB.out hb); clear HB; have HB := zz_HB; clear zz_HB; clear hb))
      clear hbig hlen
      go_loop [21] (fun y => ∃ k : Nat, k ≤ len ∧ y = .int .i64 k ∧ Aside0 (∀ j, j < k → rd ws j ≤ 1000)) (fun y => len - (intOf y).toNat)
      case atStart => exact ⟨0, Nat.zero_le _, rfl, ⟨fun j hj => by omega⟩⟩
      case round =>
        obtain ⟨k, hk, rfl, HA⟩ := hrel
        by_cases hlt : k < len
        · obtain ⟨ad, rfl, hc1⟩ := HRD.out k hlt
          have hc2 := pw_cell_below HB.out hc1
          obtain ⟨x, hx⟩ : ∃ x, rd ws k = x := ⟨_, rfl⟩
          rw [hx] at hc2
          have HX := Aside0.mk hx
          clear hc1 hx
          by_cases hx1 : 1000 < x
          · go_wp2
            go_ret
            exact ⟨rfl, HB.out⟩
          · have hx2 : x ≤ 1000 := by omega
            go_wp2
            go_round
            case rel => exact ⟨k + 1, by omega, by go_num, ⟨fun j hj => by
              rcases Nat.lt_succ_iff_lt_or_eq.1 hj with h | h
              · exact HA.out j h
              · rw [h, HX.out]; exact hx2⟩⟩
            case measure => simp [intOf]; omega
        · have HW1 : Aside0 (∀ w ∈ ws, w ≤ 1000) := ⟨fun w hw => by
            obtain ⟨j, hj, rfl⟩ := List.mem_iff_getElem.1 hw
            have := HA.out j (by have := HCL.out; omega)
            unfold rd at this
            rw [Int.toNat_natCast, List.getD_eq_getElem?_getD, List.getElem?_eq_getElem hj] at this
            exact this⟩
          go_wp2_with fail
          have HS : Aside0 (∀ w, Kd.C (Kd.int .i64) w A len ws → Calls Try.prog 7 #[.int .i64 total, .slice A len cap] w (SharePost ws total w)) := ⟨fun w h => by
            have hl := HCL.out
            subst hl
            exact share_any A cap ws total w h hcap (by omega)⟩
          refine (HS.out _ (Kd.C_below HC.out HB.out)).mono ?_
          rintro e w2 ⟨v, r, rfl, hrow, hbel, hsh⟩
          have HB2 := Aside0.mk (below_step HB.out hbel)
          have HSH := Aside0.mk hsh
          have HROW := Aside0.mk hrow
          clear hrow hbel hsh
          go_wp2_with fail
          refine (ref_share_any A cap len ws total _ HCL.out (Kd.C_below HC.out HB2.out) hcap hl30 ht3 ht0 HW1.out).mono ?_
          rintro e w3 ⟨g3, q, l3, rfl, hql, hblk, hg3, hbel, hends⟩
          obtain ⟨l4, hends2⟩ := HSH.out.ends
          have htk : ws.take 100 = ws := List.take_of_length_le (by have := HCL.out; omega)
          rw [htk] at hends2
          obtain rfl := one_end ws HW1.out total ht3 hends2 hends
          rw [HCL.out] at hql
          rw [HCL.out]
          have hrow3 := Kd.R_below HROW.out hbel
          obtain ⟨A3, c3, rfl, hc3, hread⟩ := Kd.R_reads hrow3
          have HR3 : Aside0 (∀ k, k < len → ∃ ad, A3 = some ad ∧ w3.cell? (ad.add k) = some (.int .i64 (r.getD k 0))) := ⟨fun k hk => by
            have := Kd.at_int hread k (by omega) (by omega)
            simpa [rd] using this⟩
          have HBK : Aside0 (∀ k, k < len → w3.cell? ⟨g3, k, none⟩ = some (.int .i64 (r.getD k 0))) := ⟨fun k hk => hblk.cell k 0 (by omega)⟩
          have HB3 := Aside0.mk (below_step HB2.out hbel)
          have HQL := Aside0.mk hql
          clear hbel hends hends2 htk hrow3 hread hblk hg3 hql hc3 HSH HROW
          rw [HQL.out]
          go_wp2_with fail
          go_loopw [41] (fun y wr => ∃ k : Nat, k ≤ len ∧ y = .int .i64 k ∧ Aside0 (Drawn0 w3 wr)) (fun y _ => len - (intOf y).toNat)
          case atStart => exact ⟨0, Nat.zero_le _, rfl, ⟨Drawn0.refl _⟩⟩
          case round =>
            obtain ⟨k, hk, rfl, HD⟩ := hrel
            by_cases hlt : k < len
            · obtain ⟨ad, rfl, hc1⟩ := HR3.out k hlt
              have hc2 := HBK.out k hlt
              have hc3 := pw_cell_below HD.out.below hc1
              have hc4 := pw_cell_below HD.out.below hc2
              obtain ⟨x, hx⟩ : ∃ x, r.getD k 0 = x := ⟨_, rfl⟩
              rw [hx] at hc3 hc4
              clear hc1 hc2 hx
              go_wp2
              go_quiet (fail)
              go_wp2
              go_roundw
              case rel => exact ⟨k + 1, by omega, by go_num, ⟨Drawn0.step HD.out _⟩⟩
              case measure => simp [intOf]; omega
            · go_wp2
              go_ret
              exact ⟨rfl, below_step HB3.out HD.out.below⟩
end Go.Proofs.Ytfijbhacobjjgab
