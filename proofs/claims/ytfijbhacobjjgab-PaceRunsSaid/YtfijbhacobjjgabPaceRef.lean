/- The contract of the document's Share. -/
import Derived.Test.YtfijbhacobjjgabPaceShr
namespace Go.Proofs.Ytfijbhacobjjgab
open Go.RowKit Go.Proofs.YtfijbhacobjjgabW.PrintWords Go.Proofs.YtfijbhacobjjgabW.PrintLast Go.Proofs.YtfijbhacobjjgabW.PrintMore Go.Proofs.Ytfijbhacobjjgab.Fr
set_option linter.unusedVariables false
set_option linter.unusedSimpArgs false

open Go.Proofs.Ytfijbhacobjjgab.Pl
attribute [local go_sem] max2_int min2_int max_two min_two
/-- The document's end. -/
def RefPost (ws : List Int) (total : Int) (w : World) (e : Ending) (w' : World) : Prop := ∃ g r l, e = .returned (.slice (some ⟨g, 0, none⟩) ws.length ws.length) ∧ r.length = ws.length ∧ Blk w' g 3 (Value.int .i64) r ∧ w.heap.size ≤ g ∧ Below w.heap.size w w' ∧ Pl.Ends ws (ws.map (fun _ => 0), total) (r, l)
set_option maxRecDepth 100000 in
set_option maxHeartbeats 4000000 in
theorem ref_share_any (A : Option Addr) (c n : Nat) (ws : List Int) (total : Int) (w0 : World) (hn : ws.length = n) (hr : Kd.C (Kd.int .i64) w0 A n ws) (hc : n ≤ c) (hlen : n ≤ 30) (ht : total ≤ 3000) (ht0 : -9223372036854775808 ≤ total) (hws : ∀ w ∈ ws, w ≤ 1000) :
    Calls Try.prog 8 #[.int .i64 total, .slice A n c] w0 (RefPost ws total w0) := by
  have HN := Aside0.mk hn
  have HR := Aside0.mk hr
  have HRD : Aside0 (∀ k, k < n → ∃ ad, A = some ad ∧ w0.cell? (ad.add k) = some (.int .i64 (rd ws k))) := ⟨fun k hk => by
    have := Kd.at_int hr k (by omega) (by omega)
    simpa using this⟩
  have HWS := Aside0.mk hws
  clear hr hn hws
  have hmk := print_make (P := Try.prog) 22 3 .i64 8 Try.underlying22 info3 (by decide) n (by omega)
  go_enter Try.func8, Try.ntmps8
  go_wp2_with fail
  obtain ⟨os0, hos0⟩ : ∃ os0 : List Int, List.replicate n 0 = os0 := ⟨_, rfl⟩
  have HW : Aside0 (Blk (w0.alloc (.cells (madeCells #[.int .i64 0] n) 3)) w0.heap.size 3 (Value.int .i64) os0) := ⟨hos0 ▸ Blk.make w0 3 (Value.int .i64) n 0⟩
  have HBL : Aside0 (Below w0.heap.size w0 (w0.alloc (.cells (madeCells #[.int .i64 0] n) 3))) := ⟨below_alloc (Below.refl _ _) _⟩
  have HOS : Aside0 (os0 = ws.map (fun _ => 0) ∧ os0.length = n ∧ ∀ o ∈ os0, 0 ≤ o ∧ o ≤ 1000) := ⟨by
    have hz : os0 = ws.map (fun _ => 0) := by
      rw [← hos0, ← HN.out]
      apply List.ext_getElem
      · simp
      · intro i h1 h2; simp
    refine ⟨hz, by rw [← hos0]; simp, fun o ho => ?_⟩
    rw [← hos0] at ho
    have := List.eq_of_mem_replicate ho
    omega⟩
  clear hos0
  obtain ⟨g, HG⟩ : ∃ g, Aside0 (w0.heap.size = g) := ⟨_, ⟨rfl⟩⟩
  generalize w0.alloc (.cells (madeCells #[.int .i64 0] n) 3) = W at HW HBL ⊢
  rw [HG.out] at HW
  rw [HG.out]
  go_loopg [0] total.toNat (fun d x wr => ∃ (l : Int) (os : List Int), Aside0 (l.toNat = d) ∧ x = .int .i64 l ∧ Aside0 (∃ m, rnds ws m (ws.map (fun _ => 0), total) = (os, l)) ∧ Aside0 (Blk wr g 3 (Value.int .i64) os) ∧ Aside0 (Below w0.heap.size w0 wr) ∧ Aside0 (os.length = n ∧ (∀ o ∈ os, 0 ≤ o ∧ o ≤ 1000) ∧ l ≤ 3000 ∧ -9223372036854775808 ≤ l))
  case atStart => exact ⟨total, os0, ⟨rfl⟩, rfl, ⟨0, by rw [HOS.out.1]; rfl⟩, HW, HBL, ⟨HOS.out.2.1, HOS.out.2.2, ht, ht0⟩⟩
  case round =>
    clear HW HBL HOS
    obtain ⟨l, os, HD, rfl, HM, HW, HBL, HF⟩ := hrel
    have hl1 := HF.out.2.2.1
    have hl0 := HF.out.2.2.2
    go_wp2_with fail
    obtain ⟨wo, rfl⟩ : ∃ wo : World, wo = wr := ⟨_, rfl⟩
    go_loopg [0, 6, 7] n (fun d x y z wz => ∃ (k : Nat) (m : Int) (b : Bool) (p : List Int), Aside0 (k + d = n) ∧ z = .int .i64 k ∧ x = .int .i64 m ∧ y = .bool b ∧ Aside0 (rnd (ws.take k) (os.take k) l = (p, m) ∧ (b = true ↔ m < l) ∧ m ≤ l ∧ -9223372036854775808 ≤ m ∧ (∀ o ∈ p, 0 ≤ o ∧ o ≤ 1000) ∧ p.length = k ∧ (m ≤ 0 → 0 < l → 0 ≤ m)) ∧ Aside0 (Blk wz g 3 (Value.int .i64) (p ++ os.drop k)) ∧ Aside0 (Below w0.heap.size w0 wz))
    case atStart => exact ⟨0, l, false, [], ⟨by omega⟩, rfl, rfl, rfl, ⟨by simp [rnd], by simp, Int.le_refl _, hl0, by simp, rfl, by omega⟩, ⟨by simpa using HW.out⟩, HBL⟩
    case round =>
      clear HW HBL
      obtain ⟨k, m, b, p, HK, rfl, rfl, rfl, HP, HW, HBL⟩ := hrel
      have hm1 : m ≤ 3000 := by have := HP.out; omega
      have hm0 := HP.out.2.2.2.1
      by_cases hlt : k < n
      · obtain ⟨ad, rfl, hc1⟩ := HRD.out k hlt
        have hc2 := pw_cell_below HBL.out hc1
        have hko : k < os.length := by rw [HF.out.1]; exact hlt
        have hPl := HP.out.2.2.2.2.2.1
        have hc3 : wr.cell? ⟨g, k, none⟩ = some (.int .i64 (os.getD k 0)) := by
          have := HW.out.cell k 0 (by rw [List.length_append, hPl, List.length_drop]; omega)
          rwa [mid_getD _ _ _ hPl hko] at this
        have hf3 := HW.out.free k
        obtain ⟨x, hx⟩ : ∃ x, rd ws k = x := ⟨_, rfl⟩
        obtain ⟨o, ho⟩ : ∃ o, os.getD k 0 = o := ⟨_, rfl⟩
        have hkw : k < ws.length := by rw [HN.out]; exact hlt
        have hsn1 : ws.take (k + 1) = ws.take k ++ [x] := by
          rw [List.take_succ_eq_append_getElem hkw, ← hx]
          unfold rd
          simp [List.getD_eq_getElem?_getD, hkw]
        have hsn2 : os.take (k + 1) = os.take k ++ [o] := by
          rw [List.take_succ_eq_append_getElem hko, ← ho]
          simp [List.getD_eq_getElem?_getD, hko]
        have hll : (ws.take k).length = (os.take k).length := by rw [List.length_take, List.length_take, HN.out, HF.out.1]
        have HS : Aside0 (rnd (ws.take (k + 1)) (os.take (k + 1)) l = if 0 < m ∧ o < x then (p ++ [o + 1], m - 1) else (p ++ [o], m)) := ⟨by rw [hsn1, hsn2, rnd_snoc _ _ _ _ _ hll, HP.out.1]⟩
        have hofit := HF.out.2.1 o (by rw [← ho, List.getD_eq_getElem?_getD, List.getElem?_eq_getElem hko]; exact List.getElem_mem _)
        obtain ⟨ho0, ho1⟩ := hofit
        have hx1 : x ≤ 1000 := HWS.out x (by rw [← hx]; unfold rd; rw [Int.toNat_natCast, List.getD_eq_getElem?_getD, List.getElem?_eq_getElem hkw]; exact List.getElem_mem _)
        rw [hx] at hc2
        have HPL := Aside0.mk (And.intro hPl hko)
        have HO := Aside0.mk ho
        rw [ho] at hc3
        have HKEEP : Aside0 (∀ V : World, Below wr.heap.size wr V → (¬ (0 < m ∧ o < x)) → Aside0 (rnd (ws.take (k + 1)) (os.take (k + 1)) l = (p ++ [o], m) ∧ (b = true ↔ m < l) ∧ m ≤ l ∧ -9223372036854775808 ≤ m ∧ (∀ q ∈ p ++ [o], 0 ≤ q ∧ q ≤ 1000) ∧ (p ++ [o]).length = k + 1 ∧ (m ≤ 0 → 0 < l → 0 ≤ m)) ∧ Aside0 (Blk V g 3 (Value.int .i64) ((p ++ [o]) ++ os.drop (k + 1))) ∧ Aside0 (Below w0.heap.size w0 V)) := ⟨fun V hV hne => by
          have h1 := HP.out
          refine ⟨⟨by rw [HS.out, if_neg hne], h1.2.1, h1.2.2.1, h1.2.2.2.1, ?_, by simp [h1.2.2.2.2.2.1], h1.2.2.2.2.2.2⟩, ⟨?_⟩, ⟨below_step HBL.out hV⟩⟩
          · intro q hq
            rcases List.mem_append.1 hq with hq | hq
            · exact h1.2.2.2.2.1 q hq
            · rw [List.mem_singleton.1 hq]; exact ⟨ho0, ho1⟩
          · have h2 := HW.out.below hV
            rw [mid_keep _ _ _ HPL.out.1 HPL.out.2, HO.out] at h2
            exact h2⟩
        clear hsn1 hsn2 hll hc1 hx ho hPl hko
        by_cases hm : 0 < m
        · by_cases hp : o < x
          · have hd1 : decide ((0 : Int) < m) = true := decide_eq_true hm
            have hd2 : decide (o < x) = true := decide_eq_true hp
            go_wp2
            go_quiet (fail)
            have hf4 : (wr.drewN nq).frozen? ⟨g, k, none⟩ = false := hf3
            have hc4 : (wr.drewN nq).cell? ⟨g, k, none⟩ = some (.int .i64 o) := hc3
            go_wp2
            go_roundg (gk - 1)
            case measure => have := HK.out; omega
            case rel =>
              have h1 := HP.out
              refine ⟨k + 1, m - 1, true, p ++ [o + 1], ⟨by have := HK.out; omega⟩, by go_num, rfl, rfl, ⟨by rw [HS.out, if_pos ⟨hm, hp⟩], by simp; omega, by omega, by omega, ?_, by simp [h1.2.2.2.2.2.1], by omega⟩, ⟨?_⟩, ⟨?_⟩⟩
              · intro q hq
                rcases List.mem_append.1 hq with hq | hq
                · exact h1.2.2.2.2.1 q hq
                · rw [List.mem_singleton.1 hq]; omega
              · have h1 := Blk.put (w := wr.drewN nq) HW.out k (o + 1)
                rw [mid_set _ _ _ _ HPL.out.1 HPL.out.2] at h1
                exact h1
              · exact Ch.onto (S := fun j => j = g) HBL.out (((Ch.refl _ _).drewN nq).set rfl) HBL.out.size (fun i e => by have := HG.out; omega)
          · have hd1 : decide ((0 : Int) < m) = true := decide_eq_true hm
            have hd2 : decide (o < x) = false := decide_eq_false hp
            have HNE : Aside0 (¬ (0 < m ∧ o < x)) := ⟨by omega⟩
            go_wp2
            go_quiet (fail)
            go_wp2
            go_roundg (gk - 1)
            case measure => have := HK.out; omega
            case rel =>
              obtain ⟨r1, r2, r3⟩ := HKEEP.out (wr.drewN nq) (Drawn0.below (Drawn0.step (Drawn0.refl _) _)) HNE.out
              exact ⟨k + 1, m, b, p ++ [o], ⟨by have := HK.out; omega⟩, by go_num, rfl, rfl, r1, r2, r3⟩
        · have hd1 : decide ((0 : Int) < m) = false := decide_eq_false hm
          have HNE : Aside0 (¬ (0 < m ∧ o < x)) := ⟨by omega⟩
          go_wp2
          go_quiet (fail)
          go_wp2
          go_roundg (gk - 1)
          case measure => have := HK.out; omega
          case rel =>
            obtain ⟨r1, r2, r3⟩ := HKEEP.out (wr.drewN nq) (Drawn0.below (Drawn0.step (Drawn0.refl _) _)) HNE.out
            exact ⟨k + 1, m, b, p ++ [o], ⟨by have := HK.out; omega⟩, by go_num, rfl, rfl, r1, r2, r3⟩
      · have HKN : Aside0 (n = k) := ⟨by have := HK.out; omega⟩
        have HW2 : Aside0 (Blk wr g 3 (Value.int .i64) p) := ⟨by
          have h1 := HW.out
          rwa [← HKN.out, List.drop_of_length_le (by rw [HF.out.1]; omega), List.append_nil] at h1⟩
        have HP2 : Aside0 (rnd ws os l = (p, m)) := ⟨by
          have h1 := HP.out.1
          rwa [← HKN.out, List.take_of_length_le (l := os) (by rw [HF.out.1]; omega), List.take_of_length_le (l := ws) (by rw [HN.out]; omega)] at h1⟩
        cases b with
        | true =>
          have HLT : Aside0 (m < l) := ⟨HP.out.2.1.1 rfl⟩
          go_wp2
          go_roundg m.toNat
          case measure =>
            have h1 := HD.out
            have h2 := HLT.out
            have h3 := rnd_zero ws os l
            rw [HP2.out] at h3
            have h4 : 0 < l := by
              refine Decidable.byContradiction fun h => ?_
              have := (Prod.mk.inj (h3 (by omega))).2
              omega
            omega
          case rel =>
            refine ⟨m, p, ⟨rfl⟩, rfl, ⟨?_⟩, HW2, HBL, ⟨by rw [HKN.out]; exact HP.out.2.2.2.2.2.1, HP.out.2.2.2.2.1, hm1, hm0⟩⟩
            obtain ⟨q, hq⟩ := HM.out
            exact ⟨q + 1, by rw [rnds_add, hq]; simp only [rnds]; exact HP2.out⟩
        | false =>
          have HEQ : Aside0 (m = l) := ⟨by
            have h1 := HP.out.2.1
            have h2 := HP.out.2.2.1
            by_cases h3 : m < l
            · exact absurd (h1.2 h3) (by simp)
            · omega⟩
          go_wp2
          go_ret
          have hfix := (rnd_le ws os l).2 (by rw [HP2.out]; exact HEQ.out)
          rw [HP2.out] at hfix
          have hpo := (Prod.mk.inj hfix).1
          refine ⟨g, os, l, by rw [HN.out]; rfl, by rw [HN.out]; exact HF.out.1, hpo ▸ HW2.out, by rw [HG.out]; exact Nat.le_refl _, HBL.out, ?_, HM.out⟩
          simp only
          rw [HP2.out]
          exact hfix
end Go.Proofs.Ytfijbhacobjjgab
