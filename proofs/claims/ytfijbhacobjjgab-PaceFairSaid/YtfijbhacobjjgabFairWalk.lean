/- The walk of PaceFair: it answers true. -/
import Derived.Test.YtfijbhacobjjgabPaceAwake
import Derived.Test.YtfijbhacobjjgabOpen
namespace Go.Proofs.Ytfijbhacobjjgab
open Go.RowKit Go.Proofs.YtfijbhacobjjgabW.PrintWords Go.Proofs.YtfijbhacobjjgabW.PrintLast Go.Proofs.YtfijbhacobjjgabW.PrintMore Go.Proofs.Ytfijbhacobjjgab.Fr
set_option linter.unusedVariables false
set_option linter.unusedSimpArgs false

open Go.Proofs.Ytfijbhacobjjgab.Pl
attribute [local go_sem] max2_int min2_int max_two min_two
theorem tick_none (n : Int) (w : World) : Calls Try.prog 15 #[.pointer none, .int .i64 n] w fun e w' => e = .returned (.int .i64 0) ∧ w = w' := by
  go_enter Try.func15, Try.ntmps15
  go_wp2
  go_ret
  exact ⟨rfl, rfl⟩
theorem some_zero (n : Int) (w : World) : Calls Try.prog 13 #[.pointer none, .int .i64 n] w fun e w' => e = .returned (.int .i64 0) ∧ w = w' := by
  have e : bring n 0 0 = 0 := by unfold bring mn mx; (repeat' split) <;> omega
  have := some_none n w
  rwa [e] at this
theorem total_take_snoc (r : List Int) (k : Nat) (hk : k < r.length) : Pl.total (r.take (k + 1)) = Pl.total (r.take k) + r.getD k 0 := by
  have h : ∀ (l : List Int) (x : Int), Pl.total (l ++ [x]) = Pl.total l + x := by
    intro l x
    induction l with
    | nil => unfold Pl.total; simp
    | cons y l ih => unfold Pl.total at *; simp only [List.cons_append, List.foldr_cons]; omega
  rw [List.take_succ_eq_append_getElem hk, h]
  simp [List.getD_eq_getElem?_getD, hk]
theorem total_take_le (r : List Int) (h : ∀ x ∈ r, 0 ≤ x) (k : Nat) : 0 ≤ Pl.total (r.take k) ∧ Pl.total (r.take k) ≤ Pl.total r := by
  induction r generalizing k with
  | nil => simp [Pl.total]
  | cons x r ih =>
    have hx := h x (List.mem_cons_self ..)
    have ih' := fun k => ih (fun y hy => h y (List.mem_cons_of_mem _ hy)) k
    cases k with
    | zero => have := ih' r.length; rw [List.take_length] at this; unfold Pl.total at *; simp only [List.take_zero, List.foldr_nil, List.foldr_cons]; omega
    | succ k => have := ih' k; unfold Pl.total at *; simp only [List.take_succ_cons, List.foldr_cons]; omega
set_option maxRecDepth 100000 in
set_option maxHeartbeats 4000000 in
theorem fair_walk (total : Int) (ht : (Lit.int .i64 total).wf = true) (A : Option Addr) (len cap : Nat) (ws : List Int) (w0 : World) (hcap : len ≤ cap) (hC : Kd.C (Kd.int .i64) w0 A len ws) (hwf : ∀ p ∈ ws, (Lit.int .i64 p).wf = true) :
    Calls Try.prog 5 #[.int .i64 total, .slice A len cap] w0 fun e w' => e = .returned (.bool true) ∧ Below w0.heap.size w0 w' := by
  have HB := Aside0.mk (Below.refl w0.heap.size w0)
  obtain ⟨ht0, ht1⟩ := wf_i64 ht
  have hlm : len ≤ 9223372036854775807 := hC.2.1
  have HCL := Aside0.mk hC.1
  have HRD : Aside0 (∀ k, k < len → ∃ ad, A = some ad ∧ w0.cell? (ad.add k) = some (.int .i64 (rd ws k))) := ⟨fun k hk => by
    have := Kd.at_int hC k (by omega) (by omega)
    simpa using this⟩
  have HC := Aside0.mk hC
  clear hC ht hwf
  by_cases hlen : 120 < len
  · have hd2 : decide ((120 : Int) < (len : Int)) = true := decide_eq_true (by omega)
    go_enter Try.func5, Try.ntmps5
    go_wp2_with ((go_at_call 6; refine (awake_any _).mono ?_; rintro e w1 ⟨rfl, hb⟩; have zz_HB := Aside0.mk (below_step HB.out hb); clear HB; have HB := zz_HB; clear zz_HB; clear hb))
    go_ret
    exact ⟨rfl, HB.out⟩
  · have hd2 : decide ((120 : Int) < (len : Int)) = false := decide_eq_false (by omega)
    have hl120 : len ≤ 120 := by omega
    clear hlen
    obtain ⟨n, hn⟩ : ∃ n : Nat, min len 100 = n := ⟨_, rfl⟩
    have hmn : (if (100 : Int) < (len : Int) then 100 else (len : Int)) = (n : Int) := by split <;> omega
    have hnl : n ≤ len := by omega
    have hn100 : n ≤ 100 := by omega
    have HS : Aside0 (∀ w, Kd.C (Kd.int .i64) w A len ws → Calls Try.prog 7 #[.int .i64 total, .slice A len cap] w (SharePost ws total w)) := ⟨fun w h => by
      have hl := HCL.out
      subst hl
      exact share_any A cap ws total w h hcap (by omega)⟩
    have HWL : Aside0 (((ws.take 100).map br).length = n) := ⟨by rw [List.length_map, List.length_take, HCL.out]; omega⟩
    clear hn
    go_enter Try.func5, Try.ntmps5
    go_wp2_with fail
    refine (awake_any _).mono ?_
    rintro e w1 ⟨rfl, hb⟩
    have zz_HB := Aside0.mk (below_step HB.out hb); clear HB; have HB := zz_HB; clear zz_HB
    clear hb
    go_wp2_with fail
    refine (HS.out _ (Kd.C_below HC.out HB.out)).mono ?_
    rintro e w2 ⟨v, r, rfl, hrow, hbel, hsh⟩
    have HSH := Aside0.mk hsh
    have HB2 := Aside0.mk (below_step HB.out hbel)
    have hrl : r.length = n := by rw [hsh.length]; exact HWL.out
    obtain ⟨A3, c3, rfl, hc3, hread⟩ := Kd.R_reads hrow
    have HR3 : Aside0 (∀ k, k < n → ∃ ad, A3 = some ad ∧ w2.cell? (ad.add k) = some (.int .i64 (r.getD k 0))) := ⟨fun k hk => by
      have := Kd.at_int hread k (by omega) (by omega)
      simpa [rd] using this⟩
    have HRL := Aside0.mk hrl
    have HFA : Aside0 (∃ m, ∀ j, j < n → fairAt m (br (rd ws j)) (r.getD j 0)) := ⟨by
      obtain ⟨m, hm⟩ := hsh.fair
      refine ⟨m, fun j hj => ?_⟩
      have := hm j (by rw [HWL.out]; exact hj)
      have e : ((ws.take 100).map br).getD j 0 = br (rd ws j) := by
        unfold rd
        rw [Int.toNat_natCast]
        have hj2 : j < ws.length := by have := HCL.out; omega
        have hj3 : j < 100 := by omega
        simp [List.getD_eq_getElem?_getD, List.getElem?_take, hj3, hj2]
      rwa [e] at this⟩
    have HPOS : Aside0 (∀ x ∈ r, 0 ≤ x) := ⟨fun x hx => by
      obtain ⟨j, hj, rfl⟩ := List.mem_iff_getElem.1 hx
      obtain ⟨m, hm⟩ := HFA.out
      have := (hm j (by omega)).1
      simpa [List.getD_eq_getElem?_getD, hj] using this⟩
    clear hread hrow hbel hsh
    rw [hrl]
    clear hrl
    go_wp2_with fail
    go_loopg [6, 7, 8, 32] n (fun d x y z u wr => ∃ (k : Nat) (S L M : Int), Aside0 (k + d = n) ∧ u = .int .i64 k ∧ x = .int .i64 S ∧ y = .int .i64 L ∧ z = .int .i64 M ∧ Aside0 (S = Pl.total (r.take k) ∧ 0 ≤ L ∧ L ≤ 2199023255552 ∧ 0 ≤ M ∧ M ≤ 1099511627776 ∧ (L = 2199023255552 ∨ ∃ j, j < k ∧ r.getD j 0 < br (rd ws j) ∧ L = r.getD j 0) ∧ (M = 0 ∨ ∃ j, j < k ∧ M = r.getD j 0)) ∧ Aside0 (Drawn0 w2 wr))
    case atStart => exact ⟨0, 0, 2199023255552, 0, ⟨by omega⟩, rfl, rfl, rfl, rfl, ⟨by simp [Pl.total], by decide, by decide, by decide, by decide, .inl rfl, .inl rfl⟩, ⟨Drawn0.refl _⟩⟩
    case round =>
      obtain ⟨k, S, L, M, HK, rfl, rfl, rfl, rfl, HI, HD⟩ := hrel
      have hS : 0 ≤ S ∧ S ≤ 1099511627776 := by
        have h1 := total_take_le r HPOS.out k
        rw [← HI.out.1] at h1
        have h2 := HSH.out.all_in
        have h3 := (br_in total).2
        omega
      obtain ⟨hS0, hS1⟩ := hS
      have hL0 := HI.out.2.1
      have hL1 := HI.out.2.2.1
      have hM0 := HI.out.2.2.2.1
      have hM1 := HI.out.2.2.2.2.1
      by_cases hlt : k < n
      · obtain ⟨ad3, rfl, hc1⟩ := HR3.out k hlt
        obtain ⟨ad, rfl, hc2⟩ := HRD.out k (by omega)
        have hc3 := pw_cell_below HD.out.below hc1
        have hc4 := pw_cell_below (below_step HB2.out HD.out.below) hc2
        have hkl : k < len := by omega
        obtain ⟨x, hx⟩ : ∃ x, rd ws k = x := ⟨_, rfl⟩
        obtain ⟨o, ho⟩ : ∃ o, r.getD k 0 = o := ⟨_, rfl⟩
        have hf : fairAt 0 (br x) o ∨ True := .inr trivial
        have hob : 0 ≤ o ∧ o ≤ br x := by
          obtain ⟨m, hm⟩ := HFA.out
          have := hm k hlt
          rw [hx, ho] at this
          exact ⟨this.1, this.2.1⟩
        obtain ⟨ho0, ho1⟩ := hob
        have hT : Aside0 (Pl.total (r.take (k + 1)) = S + o) := ⟨by rw [total_take_snoc r k (by rw [HRL.out]; exact hlt), ← HI.out.1, ho]⟩
        have hSo : S + o ≤ 1099511627776 := by
          have h1 := total_take_le r HPOS.out (k + 1)
          rw [hT.out] at h1
          have h2 := HSH.out.all_in
          have h3 := (br_in total).2
          omega
        have hyb := br_in x
        have HXO : Aside0 (rd ws k = x ∧ r.getD k 0 = o) := ⟨hx, ho⟩
        rw [hx] at hc4
        rw [ho] at hc3
        clear hc1 hc2 hx ho hf
        have hcase : (x < 0 ∧ br x = 0) ∨ (0 ≤ x ∧ x ≤ 1099511627776 ∧ br x = x) ∨ (1099511627776 < x ∧ br x = 1099511627776) := by
          unfold br bring mn mx
          (repeat' split) <;> omega
        obtain ⟨y, hy⟩ : ∃ y, br x = y := ⟨_, rfl⟩
        have HY := Aside0.mk hy
        rw [hy] at ho1 hyb hcase
        clear hy
        obtain ⟨hyb0, hyb1⟩ := hyb
        obtain ⟨M', hM'⟩ : ∃ M', (if M < o then o else M) = M' := ⟨_, rfl⟩
        have HM' : Aside0 (0 ≤ M' ∧ M' ≤ 1099511627776 ∧ (M' = 0 ∨ ∃ j, j < k + 1 ∧ M' = r.getD j 0)) := ⟨by
          rw [← hM']
          split
          · exact ⟨by omega, by omega, .inr ⟨k, by omega, HXO.out.2.symm⟩⟩
          · refine ⟨hM0, hM1, ?_⟩
            rcases HI.out.2.2.2.2.2.2 with h | ⟨j, hj, h⟩
            · exact .inl h
            · exact .inr ⟨j, by omega, h⟩⟩
        rcases hcase with ⟨q1, rfl⟩ | ⟨q1, q2, q3⟩ | ⟨q1, rfl⟩
        · by_cases hp : o < 0
          · omega
          · have HL' : Aside0 (L = 2199023255552 ∨ ∃ j, j < k + 1 ∧ r.getD j 0 < br (rd ws j) ∧ L = r.getD j 0) := ⟨by
              rcases HI.out.2.2.2.2.2.1 with h | ⟨j, hj, h⟩
              · exact .inl h
              · exact .inr ⟨j, by omega, h⟩⟩
            go_wp2
            go_roundg (gk - 1)
            case measure => have := HK.out; omega
            case rel => exact ⟨k + 1, S + o, L, M', ⟨by have := HK.out; omega⟩, by go_num, rfl, rfl, by first | rfl | (rw [← hM', if_neg (by omega)]), ⟨hT.out.symm, hL0, hL1, HM'.out.1, HM'.out.2.1, HL'.out, HM'.out.2.2⟩, HD⟩
        · obtain rfl : x = y := q3.symm
          by_cases hp : o < x
          · obtain ⟨L', hL'⟩ : ∃ L', (if o < L then o else L) = L' := ⟨_, rfl⟩
            have HL' : Aside0 (0 ≤ L' ∧ L' ≤ 2199023255552 ∧ (L' = 2199023255552 ∨ ∃ j, j < k + 1 ∧ r.getD j 0 < br (rd ws j) ∧ L' = r.getD j 0)) := ⟨by
              rw [← hL']
              split
              · exact ⟨by omega, by omega, .inr ⟨k, by omega, by rw [HXO.out.1, HXO.out.2, HY.out]; exact hp, HXO.out.2.symm⟩⟩
              · refine ⟨hL0, hL1, ?_⟩
                rcases HI.out.2.2.2.2.2.1 with h | ⟨j, hj, h⟩
                · exact .inl h
                · exact .inr ⟨j, by omega, h⟩⟩
            go_wp2
            go_roundg (gk - 1)
            case measure => have := HK.out; omega
            case rel => exact ⟨k + 1, S + o, L', M', ⟨by have := HK.out; omega⟩, by go_num, rfl, rfl, by first | rfl | (rw [← hM', if_neg (by omega)]), ⟨hT.out.symm, HL'.out.1, HL'.out.2.1, HM'.out.1, HM'.out.2.1, HL'.out.2.2, HM'.out.2.2⟩, HD⟩
          · have HL' : Aside0 (L = 2199023255552 ∨ ∃ j, j < k + 1 ∧ r.getD j 0 < br (rd ws j) ∧ L = r.getD j 0) := ⟨by
              rcases HI.out.2.2.2.2.2.1 with h | ⟨j, hj, h⟩
              · exact .inl h
              · exact .inr ⟨j, by omega, h⟩⟩
            go_wp2
            go_roundg (gk - 1)
            case measure => have := HK.out; omega
            case rel => exact ⟨k + 1, S + o, L, M', ⟨by have := HK.out; omega⟩, by go_num, rfl, rfl, by first | rfl | (rw [← hM', if_neg (by omega)]), ⟨hT.out.symm, hL0, hL1, HM'.out.1, HM'.out.2.1, HL'.out, HM'.out.2.2⟩, HD⟩
        · by_cases hp : o < 1099511627776
          · obtain ⟨L', hL'⟩ : ∃ L', (if o < L then o else L) = L' := ⟨_, rfl⟩
            have HL' : Aside0 (0 ≤ L' ∧ L' ≤ 2199023255552 ∧ (L' = 2199023255552 ∨ ∃ j, j < k + 1 ∧ r.getD j 0 < br (rd ws j) ∧ L' = r.getD j 0)) := ⟨by
              rw [← hL']
              split
              · exact ⟨by omega, by omega, .inr ⟨k, by omega, by rw [HXO.out.1, HXO.out.2, HY.out]; exact hp, HXO.out.2.symm⟩⟩
              · refine ⟨hL0, hL1, ?_⟩
                rcases HI.out.2.2.2.2.2.1 with h | ⟨j, hj, h⟩
                · exact .inl h
                · exact .inr ⟨j, by omega, h⟩⟩
            go_wp2
            go_roundg (gk - 1)
            case measure => have := HK.out; omega
            case rel => exact ⟨k + 1, S + o, L', M', ⟨by have := HK.out; omega⟩, by go_num, rfl, rfl, by first | rfl | (rw [← hM', if_neg (by omega)]), ⟨hT.out.symm, HL'.out.1, HL'.out.2.1, HM'.out.1, HM'.out.2.1, HL'.out.2.2, HM'.out.2.2⟩, HD⟩
          · have HL' : Aside0 (L = 2199023255552 ∨ ∃ j, j < k + 1 ∧ r.getD j 0 < br (rd ws j) ∧ L = r.getD j 0) := ⟨by
              rcases HI.out.2.2.2.2.2.1 with h | ⟨j, hj, h⟩
              · exact .inl h
              · exact .inr ⟨j, by omega, h⟩⟩
            go_wp2
            go_roundg (gk - 1)
            case measure => have := HK.out; omega
            case rel => exact ⟨k + 1, S + o, L, M', ⟨by have := HK.out; omega⟩, by go_num, rfl, rfl, by first | rfl | (rw [← hM', if_neg (by omega)]), ⟨hT.out.symm, hL0, hL1, HM'.out.1, HM'.out.2.1, HL'.out, HM'.out.2.2⟩, HD⟩
      · have HKN : Aside0 (n = k) := ⟨by have := HK.out; omega⟩
        obtain ⟨y1, hy1⟩ : ∃ y1, (if total < 0 then 0 else total) = y1 := ⟨_, rfl⟩
        obtain ⟨y, hy⟩ : ∃ y, (if 1099511627776 < y1 then 1099511627776 else y1) = y := ⟨_, rfl⟩
        have HY : Aside0 (br total = y) := ⟨by rw [← hy, ← hy1]; rfl⟩
        have HSE : Aside0 (S = Pl.total r) := ⟨by rw [HI.out.1, List.take_of_length_le (by rw [HRL.out]; have := HKN.out; omega)]⟩
        have hle : S ≤ y := by rw [HSE.out, ← HY.out]; exact HSH.out.all_in
        have HEND : Aside0 (L ≠ 2199023255552 → S = y ∧ M ≤ L + 1) := ⟨fun hne => by
          rcases HI.out.2.2.2.2.2.1 with h | ⟨j, hj, hjl, hjL⟩
          · exact absurd h hne
          · obtain ⟨m, hm⟩ := HFA.out
            have hjn : j < n := by have := HKN.out; omega
            have hfj := hm j hjn
            have e : ((ws.take 100).map br).getD j 0 = br (rd ws j) := by
              unfold rd
              rw [Int.toNat_natCast]
              have hj2 : j < ws.length := by have := HCL.out; omega
              have hj3 : j < 100 := by omega
              simp [List.getD_eq_getElem?_getD, List.getElem?_take, hj3, hj2]
            refine ⟨by rw [HSE.out, ← HY.out]; exact HSH.out.all ⟨j, by rw [HWL.out]; exact hjn, by rw [e]; exact hjl⟩, ?_⟩
            rcases HI.out.2.2.2.2.2.2 with h | ⟨i, hi, hiM⟩
            · omega
            · have hfi := hm i (by have := HKN.out; omega)
              have h1 := hfi.2.2.1
              have h2 := hfj.2.2.2 hjl
              omega⟩
        have HFIN : Aside0 (Below w0.heap.size w0 wr) := ⟨below_step HB2.out HD.out.below⟩
        clear HI HK HD
        have hd5 : decide (S ≤ y) = true := decide_eq_true hle
        by_cases hL : L = 2199023255552
        · have hL2 : (L == 2199023255552) = true := by simp [hL]
          have HLL := Aside0.mk hL
          clear hL
          go_wp2_with (first
            | (go_at_call 16; refine (wait_none total _).mono ?_; rintro e w7 ⟨rfl, rfl⟩; skip)
            | (go_at_call 17; refine (has_none _).mono ?_; rintro e w7 ⟨rfl, rfl⟩; skip)
            | (go_at_call 15; refine (tick_none total _).mono ?_; rintro e w7 ⟨rfl, rfl⟩; skip)
            | (go_at_call 11; refine (take_none 0 _).mono ?_; rintro e w7 ⟨rfl, rfl⟩; skip)
            | (go_at_call 13; refine (some_zero total _).mono ?_; rintro e w7 ⟨rfl, rfl⟩; skip))
          go_ret
          exact ⟨rfl, HFIN.out⟩
        · have hL2 : (L == 2199023255552) = false := by simp [hL]
          obtain ⟨hSy, hML⟩ := HEND.out hL
          have hS2 : (S == y) = true := by simp [hSy]
          have hd6 : decide (M ≤ L + 1) = true := decide_eq_true hML
          have HLL := Aside0.mk (And.intro hL hSy)
          clear hL hSy
          go_wp2_with (first
            | (go_at_call 16; refine (wait_none total _).mono ?_; rintro e w7 ⟨rfl, rfl⟩; skip)
            | (go_at_call 17; refine (has_none _).mono ?_; rintro e w7 ⟨rfl, rfl⟩; skip)
            | (go_at_call 15; refine (tick_none total _).mono ?_; rintro e w7 ⟨rfl, rfl⟩; skip)
            | (go_at_call 11; refine (take_none 0 _).mono ?_; rintro e w7 ⟨rfl, rfl⟩; skip)
            | (go_at_call 13; refine (some_zero total _).mono ?_; rintro e w7 ⟨rfl, rfl⟩; skip))
          go_ret
          exact ⟨rfl, HFIN.out⟩
end Go.Proofs.Ytfijbhacobjjgab
