/- What the printed 'last' comes to; the contract of Share: what is fair. -/
import Derived.Test.YtfijbhacobjjgabPPaceSharesx1
import Derived.Test.YtfijbhacobjjgabLaw44
import Derived.Test.YtfijbhacobjjgabVals
import Derived.Test.YtfijbhacobjjgabPaceA
import Derived.Deep.QuietTactic
import Derived.BigQuiet
namespace Go.Proofs.Ytfijbhacobjjgab
open Go.RowKit Go.Proofs.YtfijbhacobjjgabW.PrintWords Go.Proofs.YtfijbhacobjjgabW.PrintLast Go.Proofs.YtfijbhacobjjgabW.PrintMore Go.Proofs.Ytfijbhacobjjgab.Fr
set_option linter.unusedVariables false
set_option linter.unusedSimpArgs false

open Go.Proofs.Ytfijbhacobjjgab.PPaceShares Go.Proofs.Ytfijbhacobjjgab.Pl
attribute [local go_sem] max2_int min2_int max_two min_two
def br (w : Int) : Int := bring w 0 1099511627776
theorem br_in (w : Int) : 0 ≤ br w ∧ br w ≤ 1099511627776 := by unfold br bring mn mx; constructor <;> (repeat' split) <;> omega
theorem brought_br (w : Int) : pace_brought.f w 0 1099511627776 = some (br w) := rfl
theorem rd_mid (Q : List Int) (x : Int) (l : List Int) (n : Nat) (h : Q.length = n) : rd (Q ++ x :: l) (n : Int) = x := by
  subst h
  unfold rd
  simp [List.getD_eq_getElem?_getD]
theorem set_mid (P : List Int) (x v : Int) (l : List Int) : (P ++ x :: l).set (P.length : Int).toNat v = (P ++ [v]) ++ l := by
  simp
theorem wrap_small {x : Int} (h0 : 0 ≤ x) (h1 : x ≤ 4398046511104) : wrap64 x = x := by unfold wrap64; omega
theorem last_ev : ∀ (ws os P Pw : List Int) (m : Int), Pw.length = P.length → os.length = ws.length → (Pw ++ ws).length ≤ 1000 → 0 ≤ m → m ≤ 1099511627776 → (∀ o ∈ os, 0 ≤ o ∧ o ≤ 1099511627776) →
    Ev (fun k => pace_last.l0 k (P ++ os) m (Pw ++ ws) ((Pw ++ ws).length : Int) (P.length : Int)) (P ++ (rnd (ws.map br) os m).1)
  | [], os, P, Pw, m, h1, h2, _, _, _, _ => by
    obtain rfl : os = [] := List.eq_nil_of_length_eq_zero (by simpa using h2)
    refine Ev.step (f := fun _ => some (P ++ [])) (fun k => ?_) (Ev.now _)
    simp only [pace_last.l0]
    rw [if_neg (by simp; omega)]
  | w :: ws, [], P, Pw, m, h1, h2, _, _, _, _ => by simp at h2
  | w :: ws, o :: os, P, Pw, m, h1, h2, h3, h4, h5, h6 => by
    have ho := h6 o (List.mem_cons_self ..)
    have hr := fun x hx => h6 x (List.mem_cons_of_mem _ hx)
    have hl : (Pw ++ w :: ws).length = P.length + 1 + ws.length := by simp [h1]; omega
    have hl2 : (P ++ o :: os).length = P.length + 1 + ws.length := by simp at h2 ⊢; omega
    have w1 : wrap64 ((P.length : Int) + 1) = ((P.length + 1 : Nat) : Int) := by rw [wrap_small (by omega) (by omega)]; simp
    have c1 : (P.length : Int) < ((Pw ++ w :: ws).length : Int) := by rw [hl]; omega
    have c2 : (P.length : Int) < ((P ++ o :: os).length : Int) := by rw [hl2]; omega
    have c0 : (0 : Int) ≤ (P.length : Int) := by omega
    have e1 : Pw ++ w :: ws = (Pw ++ [w]) ++ ws := by simp
    have q1 : ∀ v : Int, ((P ++ [v]).length : Int) = ((P.length + 1 : Nat) : Int) := fun v => by simp
    have keep := last_ev ws os (P ++ [o]) (Pw ++ [w]) m (by simp [h1]) (by simpa using h2) (by rw [← e1]; exact h3) h4 h5 hr
    simp only [List.map_cons, rnd]
    by_cases hm : 0 < m
    · by_cases hw : o < br w
      · have ih := last_ev ws os (P ++ [o + 1]) (Pw ++ [w]) (m - 1) (by simp [h1]) (by simpa using h2) (by rw [← e1]; exact h3) (by omega) (by omega) hr
        rw [if_pos ⟨hm, hw⟩]
        have e2 : P ++ (o + 1) :: (rnd (ws.map br) os (m - 1)).1 = (P ++ [o + 1]) ++ (rnd (ws.map br) os (m - 1)).1 := by simp
        simp only [e2]
        refine Ev.step (fun k => ?_) ih
        simp only [pace_last.l0]
        rw [if_pos c1, if_pos c0, if_pos c1, if_pos hm, rd_mid Pw w ws _ h1, brought_br]
        simp only [Option.bind_some]
        rw [if_pos c2, rd_mid P o os _ rfl, if_pos hw, set_mid, wrap_small (x := o + 1) (by omega) (by omega), wrap_small (x := m - 1) (by omega) (by omega), w1, ← e1, q1]
      · rw [if_neg (fun h => hw h.2)]
        have e2 : P ++ o :: (rnd (ws.map br) os m).1 = (P ++ [o]) ++ (rnd (ws.map br) os m).1 := by simp
        simp only [e2]
        refine Ev.step (fun k => ?_) keep
        simp only [pace_last.l0]
        rw [if_pos c1, if_pos c0, if_pos c1, if_pos hm, rd_mid Pw w ws _ h1, brought_br]
        simp only [Option.bind_some]
        rw [if_pos c2, rd_mid P o os _ rfl, if_neg hw, w1, ← e1, q1]
        simp
    · rw [if_neg (fun h => hm h.1)]
      have e2 : P ++ o :: (rnd (ws.map br) os m).1 = (P ++ [o]) ++ (rnd (ws.map br) os m).1 := by simp
      simp only [e2]
      refine Ev.step (fun k => ?_) keep
      simp only [pace_last.l0]
      rw [if_pos c1, if_pos c0, if_pos c1, if_neg hm, w1, ← e1, q1]
      simp
theorem last_f (ws os : List Int) (m : Int) (h2 : os.length = ws.length) (h3 : ws.length ≤ 1000) (h4 : 0 ≤ m) (h5 : m ≤ 1099511627776) (h6 : ∀ o ∈ os, 0 ≤ o ∧ o ≤ 1099511627776) : ∃ k, pace_last.f k os ws m = some (rnd (ws.map br) os m).1 := by
  have := (last_ev ws os [] [] m rfl h2 h3 h4 h5 h6).rounds
  exact this
theorem info3 : (Try.prog.info? 3).map (fun i => (i.zero, i.size, i.bytes)) = some (some (.int .i64 0), 1, 8) := by kernel_rfl
theorem mid_fits {ws : List Int} {t : Int} {o : List Int} {l : Int} (h : Mid (ws.map br) t o l) : ∀ x ∈ o, 0 ≤ x ∧ x ≤ 1099511627776 := by
  obtain ⟨m, hm, rfl⟩ := h.level
  intro x hx
  obtain ⟨y, hy, rfl⟩ := List.mem_map.1 hx
  obtain ⟨z, _, rfl⟩ := List.mem_map.1 hy
  have := br_in z
  omega
theorem last_any (A : Option Addr) (c n g : Nat) (ws os : List Int) (l : Int) (w0 w : World) (hws : ws.length = n) (hos : os.length = n) (hn : n ≤ 1000) (hrd : Kd.C (Kd.int .i64) w0 A n ws) (hb : Below w0.heap.size w0 w) (hblk : Blk w g 3 (Value.int .i64) os) (hg : w0.heap.size ≤ g) (hc : n ≤ c) (h4 : 0 ≤ l) (h5 : l ≤ 1099511627776) (h6 : ∀ o ∈ os, 0 ≤ o ∧ o ≤ 1099511627776) :
    Calls Try.prog 19 #[.slice (some ⟨g, 0, none⟩) n n, .slice A n c, .int .i64 l] w fun e w' => ∃ v, e = .returned v ∧ Kd.R (Kd.int .i64) 3 w' w0.heap.size (fun _ => True) v (rnd (ws.map br) os l).1 ∧ Below w0.heap.size w0 w' := by
  obtain ⟨k, hk⟩ := last_f ws os l (by omega) (by omega) h4 h5 h6
  have hrow := hblk.row (base := w0.heap.size) hg (by omega) (ok := fun k => k = g) rfl
  subst hws
  rw [hos] at hrow
  exact (pace_last.calls k (fun k => k = g) _ os A c ws l _ w0 w hb hrow (Kd.C_kept_came (Kd.heap_int .i64) hrd hb (fun k e => e ▸ hg)) hc hk).mono fun e w' ⟨v, he, hr, hbl, _⟩ => ⟨v, he, Kd.R_mono hr (fun _ _ => trivial), hbl⟩
theorem opn_take_le : ∀ (k : Nat) (ws os : List Int), opn (ws.take k) (os.take k) ≤ opn ws os
  | 0, ws, os => by simp [opn]; exact (opn_nonneg ws os).1
  | k + 1, [], os => by simp [opn]
  | k + 1, w :: ws, [] => by simp [opn]
  | k + 1, w :: ws, o :: os => by
    have := opn_take_le k ws os
    simp only [List.take_succ_cons, opn]
    omega
theorem mid_getD (P os : List Int) (k : Nat) (h : P.length = k) (hk : k < os.length) : (P ++ os.drop k).getD k 0 = os.getD k 0 := by
  subst h
  simp only [List.getD_eq_getElem?_getD]
  rw [List.getElem?_append_right (Nat.le_refl _), Nat.sub_self, List.getElem?_drop, Nat.add_zero]
theorem mid_set (P os : List Int) (k : Nat) (v : Int) (h : P.length = k) (hk : k < os.length) : (P ++ os.drop k).set k v = (P ++ [v]) ++ os.drop (k + 1) := by
  subst h
  rw [List.set_append_right _ _ (Nat.le_refl _), Nat.sub_self, List.drop_eq_getElem_cons hk, List.set_cons_zero, List.append_assoc]
  rfl
theorem mid_keep (P os : List Int) (k : Nat) (h : P.length = k) (hk : k < os.length) : P ++ os.drop k = (P ++ [os.getD k 0]) ++ os.drop (k + 1) := by
  subst h
  rw [List.drop_eq_getElem_cons hk]
  simp [List.getD_eq_getElem?_getD, hk]
def SharePost (ws : List Int) (total : Int) (w : World) (e : Ending) (w' : World) : Prop := ∃ v r, e = .returned v ∧ Kd.R (Kd.int .i64) 3 w' w.heap.size (fun _ => True) v r ∧ Below w.heap.size w w' ∧ Shared ((ws.take 100).map br) (br total) r
set_option maxRecDepth 100000 in
set_option maxHeartbeats 4000000 in
theorem share_any (A : Option Addr) (c : Nat) (ws : List Int) (total : Int) (w0 : World) (hr : Kd.C (Kd.int .i64) w0 A ws.length ws) (hc : ws.length ≤ c) (hlen : ws.length ≤ 1000000) :
    Calls Try.prog 7 #[.int .i64 total, .slice A ws.length c] w0 (SharePost ws total w0) := by
  obtain ⟨n, hn⟩ : ∃ n : Nat, min ws.length 100 = n := ⟨_, rfl⟩
  have hmn : (if (100 : Int) < (ws.length : Int) then 100 else (ws.length : Int)) = (n : Int) := by split <;> omega
  have hn1 : n ≤ ws.length := by omega
  have hn2 : n ≤ 100 := by omega
  have hnc : n ≤ c := by omega
  have HN := Aside0.mk hn
  have HR := Aside0.mk hr
  have HBR : Aside0 (∀ w v, Calls Try.prog 18 #[.int .i64 v, .int .i64 0, .int .i64 1099511627776] w fun e w' => e = .returned (.int .i64 (br v)) ∧ w = w') := ⟨fun w v => brought_any v 0 1099511627776 w⟩
  clear hr hn
  have hmk := print_make (P := Try.prog) 22 3 .i64 8 Try.underlying22 info3 (by decide) n (by omega)
  go_enter Try.func7, Try.ntmps7
  go_wp2_with fail
  refine (HBR.out _ _).mono ?_
  rintro e w1 ⟨rfl, rfl⟩
  go_wp2_with fail
  obtain ⟨os0, hos0⟩ : ∃ os0 : List Int, List.replicate n 0 = os0 := ⟨_, rfl⟩
  have hos0l : os0.length = n := by rw [← hos0]; simp
  have HW : Aside0 (Blk (w0.alloc (.cells (madeCells #[.int .i64 0] n) 3)) w0.heap.size 3 (Value.int .i64) os0) := ⟨hos0 ▸ Blk.make w0 3 (Value.int .i64) n 0⟩
  have HBL : Aside0 (Below w0.heap.size w0 (w0.alloc (.cells (madeCells #[.int .i64 0] n) 3))) := ⟨below_alloc (Below.refl _ _) _⟩
  have hwl : (ws.take n).length = n := by rw [List.length_take]; omega
  have htk : ws.take n = ws.take 100 := by
    rcases Nat.lt_or_ge ws.length 100 with h | h
    · rw [List.take_of_length_le (by have := HN.out; omega), List.take_of_length_le (by omega)]
    · rw [show n = 100 by have := HN.out; omega]
  have HMID : Aside0 (Mid ((ws.take n).map br) (br total) os0 (br total)) := ⟨by
    have := Mid.first ((ws.take n).map br) (by intro w hw; obtain ⟨y, _, rfl⟩ := List.mem_map.1 hw; exact (br_in y).1) (br total) (br_in total).1
    rw [List.map_map] at this
    have e : (ws.take n).map ((fun _ => 0) ∘ br) = os0 := by
      rw [← hos0]
      apply List.ext_getElem
      · simp; omega
      · intro i h1 h2; simp
    rw [e] at this
    exact this⟩
  have HRD : Aside0 (∀ k, k < n → ∃ ad, A = some ad ∧ w0.cell? (ad.add k) = some (.int .i64 (rd ws k))) := ⟨fun k hk => by
    have := Kd.at_int HR.out k (by omega) (by omega)
    simpa using this⟩
  have HT := Aside0.mk htk
  have HWL := Aside0.mk hwl
  have HO0 := Aside0.mk hos0l
  clear hos0 hos0l htk hwl HN
  obtain ⟨g, HG⟩ : ∃ g, Aside0 (w0.heap.size = g) := ⟨_, ⟨rfl⟩⟩
  generalize w0.alloc (.cells (madeCells #[.int .i64 0] n) 3) = W at HW HBL ⊢
  rw [HG.out] at HW
  rw [HG.out]
  obtain ⟨tot, htot⟩ : ∃ tot, br total = tot := ⟨_, rfl⟩
  have HTT : Aside0 (0 ≤ tot ∧ tot ≤ 1099511627776) := ⟨by rw [← htot]; exact br_in total⟩
  have HTE := Aside0.mk htot
  rw [htot] at HMID
  rw [htot]
  clear htot
  go_loopg [6] tot.toNat (fun d x wr => ∃ (l : Int) (os : List Int), Aside0 (l.toNat = d) ∧ x = .int .i64 l ∧ Aside0 (Mid ((ws.take n).map br) tot os l) ∧ Aside0 (Blk wr g 3 (Value.int .i64) os) ∧ Aside0 (Below w0.heap.size w0 wr))
  case atStart => exact ⟨tot, os0, ⟨rfl⟩, rfl, HMID, HW, HBL⟩
  case round =>
    clear HMID HW HBL HO0
    obtain ⟨l, os, HD, rfl, HMID, HW, HBL⟩ := hrel
    have hosl : os.length = n := by have := HMID.out.length; rw [List.length_map, HWL.out] at this; exact this
    have hll : 0 ≤ l ∧ l ≤ 1099511627776 := ⟨HMID.out.left, by
      have h1 := HMID.out.whole
      have h2 : 0 ≤ Pl.total os := by
        have : ∀ os : List Int, (∀ x ∈ os, 0 ≤ x ∧ x ≤ 1099511627776) → 0 ≤ Pl.total os := by
          intro os
          induction os with
          | nil => intro _; exact Int.le_refl _
          | cons x os ih => intro h; have h3 := ih (fun y hy => h y (List.mem_cons_of_mem _ hy)); have h4 := h x (List.mem_cons_self ..); unfold Pl.total at *; simp only [List.foldr_cons]; omega
        exact this os (mid_fits HMID.out)
      have h3 := HTT.out
      omega⟩
    obtain ⟨hl0, hl1⟩ := hll
    have HOL := Aside0.mk hosl
    clear hosl
    go_wp2_with fail
    obtain ⟨wo, rfl⟩ : ∃ wo : World, wo = wr := ⟨_, rfl⟩
    go_loopg [7, 8, 27] n (fun d x y z wz => ∃ (k : Nat) (a b : Int), Aside0 (k + d = n) ∧ z = .int .i64 k ∧ x = .int .i64 a ∧ y = .int .i64 b ∧ Aside0 (a = opn ((ws.map br).take k) (os.take k) ∧ b = lst 1099511627776 ((ws.map br).take k) (os.take k)) ∧ Aside0 (Drawn0 wo wz))
    case atStart => exact ⟨0, _, _, ⟨by omega⟩, rfl, rfl, rfl, ⟨rfl, rfl⟩, ⟨Drawn0.refl _⟩⟩
    case round =>
      obtain ⟨k, a, b, HK, rfl, rfl, rfl, HAB, HDR⟩ := hrel
      have ha : 0 ≤ a ∧ a ≤ 100 := by
        have h1 := opn_nonneg ((ws.map br).take k) (os.take k)
        rw [← HAB.out.1, List.length_take] at h1
        have := HK.out
        omega
      obtain ⟨ha0, ha1⟩ := ha
      have hb : 0 < b ∧ b ≤ 1099511627776 := by
        have h1 := lst_le 1099511627776 ((ws.map br).take k) (os.take k)
        have h2 := lst_pos 1099511627776 (by decide) ((ws.map br).take k) (os.take k)
        rw [← HAB.out.2] at h1 h2
        exact ⟨h2, h1⟩
      obtain ⟨hb0, hb1⟩ := hb
      by_cases hlt : k < n
      · obtain ⟨ad, rfl, hc1⟩ := HRD.out k hlt
        have hc2 := pw_cell_below (below_step HBL.out HDR.out.below) hc1
        obtain ⟨⟨nq, hnq⟩⟩ := HDR.out
        have hc3 : wr.cell? ⟨g, k, none⟩ = some (.int .i64 (os.getD k 0)) := by rw [hnq]; exact HW.out.cell k 0 (by rw [HOL.out]; exact hlt)
        obtain ⟨x, hx⟩ : ∃ x, rd ws k = x := ⟨_, rfl⟩
        obtain ⟨o, ho⟩ : ∃ o, os.getD k 0 = o := ⟨_, rfl⟩
        have hkw : k < ws.length := by omega
        have hsn1 : (ws.map br).take (k + 1) = (ws.map br).take k ++ [br x] := by
          rw [List.take_succ_eq_append_getElem (by simpa using hkw)]
          simp only [List.getElem_map]
          rw [← hx]
          unfold rd
          simp [List.getD_eq_getElem?_getD, hkw]
        have hsn2 : os.take (k + 1) = os.take k ++ [o] := by
          have hko : k < os.length := by rw [HOL.out]; exact hlt
          rw [List.take_succ_eq_append_getElem hko, ← ho]
          simp [List.getD_eq_getElem?_getD, hko]
        have hll : ((ws.map br).take k).length = (os.take k).length := by rw [List.length_take, List.length_take, List.length_map, HOL.out]; omega
        have HS1 : Aside0 (opn ((ws.map br).take (k + 1)) (os.take (k + 1)) = a + if o < br x then 1 else 0) := ⟨by rw [hsn1, hsn2, opn_snoc _ _ _ _ hll, ← HAB.out.1]⟩
        have HS2 : Aside0 (lst 1099511627776 ((ws.map br).take (k + 1)) (os.take (k + 1)) = if o < br x then min b (br x - o) else b) := ⟨by rw [hsn1, hsn2, lst_snoc _ _ _ _ _ hll, ← HAB.out.2]⟩
        have hofit := mid_fits HMID.out o (by rw [← ho, List.getD_eq_getElem?_getD, List.getElem?_eq_getElem (by rw [HOL.out]; exact hlt)]; exact List.getElem_mem _)
        obtain ⟨ho0, ho1⟩ := hofit
        have hxb := br_in x
        obtain ⟨hx0, hx1⟩ := hxb
        have HBX : Aside0 (∀ w, Calls Try.prog 18 #[.int .i64 x, .int .i64 0, .int .i64 1099511627776] w fun e w' => e = .returned (.int .i64 (br x)) ∧ w = w') := ⟨fun w => HBR.out w x⟩
        rw [hx] at hc2
        rw [ho] at hc3
        clear hsn1 hsn2 hll hc1 hx ho hnq
        obtain ⟨y, hy⟩ : ∃ y, br x = y := ⟨_, rfl⟩
        rw [hy] at HS1 HS2 hx0 hx1 HBX
        clear hy
        by_cases hp : o < y
        · obtain ⟨b', hb'⟩ : ∃ b', (if y - o < b then y - o else b) = b' := ⟨_, rfl⟩
          have HB' : Aside0 (b' = min b (y - o)) := ⟨by rw [← hb']; split <;> omega⟩
          have hp' : (0 : Int) < y - o := by omega
          go_wp2
          go_quiet ((go_at_call 18; exact q_same (HBX.out _)))
          go_wp2
          go_roundg (gk - 1)
          case measure => have := HK.out; omega
          case rel =>
            refine ⟨k + 1, a + 1, b', ⟨by have := HK.out; omega⟩, by go_num, rfl, rfl, ⟨by rw [HS1.out, if_pos hp], by rw [HS2.out, if_pos hp]; exact HB'.out⟩, ⟨Drawn0.step HDR.out _⟩⟩
        · have hp' : ¬ (0 : Int) < y - o := by omega
          go_wp2
          go_quiet ((go_at_call 18; exact q_same (HBX.out _)))
          go_wp2
          go_roundg (gk - 1)
          case measure => have := HK.out; omega
          case rel =>
            refine ⟨k + 1, a, b, ⟨by have := HK.out; omega⟩, by go_num, rfl, rfl, ⟨by rw [HS1.out, if_neg (by omega), Int.add_zero], by rw [HS2.out, if_neg (by omega)]⟩, ⟨Drawn0.step HDR.out _⟩⟩
      · have HKN : Aside0 (n = k) := ⟨by have := HK.out; omega⟩
        have HW2 : Aside0 (Blk wr g 3 (Value.int .i64) os) := ⟨by obtain ⟨⟨nq, hnq⟩⟩ := HDR.out; rw [hnq]; exact HW.out⟩
        have HBL2 : Aside0 (Below w0.heap.size w0 wr) := ⟨below_step HBL.out HDR.out.below⟩
        have HWF : Aside0 (∀ w ∈ (ws.take n).map br, 0 ≤ w) := ⟨by intro w hw; obtain ⟨y, _, rfl⟩ := List.mem_map.1 hw; exact (br_in y).1⟩
        have HAB2 : Aside0 (a = opn ((ws.take n).map br) os ∧ b = lst 1099511627776 ((ws.take n).map br) os) := ⟨by
          have h1 := HAB.out
          rw [← HKN.out, ← List.map_take, List.take_of_length_le (l := os) (by rw [HOL.out]; omega)] at h1
          exact h1⟩
        have HGB : Aside0 (w0.heap.size ≤ g) := ⟨by have := HG.out; omega⟩
        have HDONE : Aside0 (a = 0 ∨ l = 0 → SharePost ws total w0 (.returned (.slice (some ⟨g, 0, none⟩) n n)) wr) := ⟨fun h => by
          have hrow := HW2.out.row (base := w0.heap.size) HGB.out (by rw [HOL.out]; omega) (ok := fun _ => True) trivial
          rw [HOL.out] at hrow
          refine ⟨_, os, rfl, hrow, HBL2.out, ?_⟩
          rw [← HT.out, HTE.out]
          exact HMID.out.done HWF.out (by rw [← HAB2.out.1]; exact h)⟩
        clear HAB HK HW HBL HDR
        by_cases h0 : a = 0
        · subst h0
          go_wp2
          go_ret
          exact HDONE.out (.inl trivial)
        · have h0' : (a == 0) = false := by simpa using h0
          by_cases hl : l = 0
          · subst hl
            go_wp2
            go_ret
            exact HDONE.out (.inr trivial)
          · have hl' : (l == 0) = false := by simpa using hl
            have hap : 0 < a := by omega
            have hlp : 0 < l := by omega
            have hdv : 0 ≤ l / a ∧ l / a ≤ l := ⟨Int.ediv_nonneg hl0 ha0, Int.ediv_le_self _ hl0⟩
            obtain ⟨hdv0, hdv1⟩ := hdv
            have HQ : Aside0 (l / a * a ≤ l ∧ l < (l / a + 1) * a) := ⟨Int.ediv_mul_le _ (by omega), Int.lt_ediv_add_one_mul_self _ hap⟩
            obtain ⟨q, hq⟩ : ∃ q, l / a = q := ⟨_, rfl⟩
            have hq2 : l.tdiv a = q := by rw [Int.tdiv_eq_ediv_of_nonneg hl0]; exact hq
            have hqw : IntKind.i64.wrap q = q := by rw [IntKind.wrap_i64]; omega
            rw [hq] at HQ hdv0 hdv1
            obtain ⟨r, hr⟩ : ∃ r, (if q < b then q else b) = r := ⟨_, rfl⟩
            have HR1 : Aside0 (0 ≤ r ∧ r ≤ b ∧ r ≤ q ∧ (r = 0 → q = 0)) := ⟨by rw [← hr]; split <;> omega⟩
            clear HDONE h0 hl
            by_cases hr0 : r = 0
            · have hr0' : (r == 0) = true := by simp [hr0]
              have HL : Aside0 (l ≤ opn ((ws.take n).map br) os) := ⟨by
                have h1 := HQ.out
                rw [HR1.out.2.2.2 hr0] at h1
                rw [← HAB2.out.1]
                omega⟩
              have HRT : Aside0 (Kd.C (Kd.int .i64) w0 A n (ws.take n)) := ⟨by
                refine ⟨HWL.out, by omega, fun h => ?_⟩
                obtain ⟨ad, he, hall⟩ := HR.out.2.2 (by omega)
                refine ⟨ad, he, fun j p hj => hall j p ?_⟩
                rw [List.getElem?_take] at hj
                split at hj
                · exact hj
                · cases hj⟩
              have hr0s := Aside0.mk hr0
              clear hr0
              go_wp2_with fail
              refine (last_any A c n g (ws.take n) os l w0 _ HWL.out HOL.out (by omega) HRT.out HBL2.out HW2.out HGB.out hnc hl0 hl1 (mid_fits HMID.out)).mono ?_
              rintro e w5 ⟨v, rfl, hrow, hbl⟩
              have HK := Aside0.mk (And.intro hrow hbl)
              clear hrow hbl
              go_wp2
              go_ret
              refine ⟨v, _, rfl, HK.out.1, HK.out.2, ?_⟩
              rw [← HT.out, HTE.out]
              exact HMID.out.last HWF.out HL.out
            · have hr0' : (r == 0) = false := by simp [hr0]
              have hrp : 0 < r := by have := HR1.out; omega
              have hr1 : r ≤ 1099511627776 := by have := HR1.out; omega
              have HRO : Aside0 (r * opn ((ws.take n).map br) os ≤ l) := ⟨by
                rw [← HAB2.out.1]
                have h1 : r * a ≤ q * a := Int.mul_le_mul_of_nonneg_right HR1.out.2.2.1 ha0
                have := HQ.out.1
                omega⟩
              clear hr0
              go_wp2_with fail
              obtain ⟨wo, rfl⟩ : ∃ wo : World, wo = wr := ⟨_, rfl⟩
              go_loopg [6, 67] n (fun d x z wz => ∃ (k : Nat) (m : Int), Aside0 (k + d = n) ∧ z = .int .i64 k ∧ x = .int .i64 m ∧ Aside0 (m = l - r * opn (((ws.take n).map br).take k) (os.take k)) ∧ Aside0 (Blk wz g 3 (Value.int .i64) (add r (((ws.take n).map br).take k) (os.take k) ++ os.drop k)) ∧ Aside0 (Below w0.heap.size w0 wz))
              case atStart => exact ⟨0, _, ⟨by omega⟩, rfl, rfl, ⟨by simp [opn]⟩, ⟨by simpa [add] using HW2.out⟩, HBL2⟩
              case round =>
                obtain ⟨k, m, HK, rfl, rfl, HM, HW3, HBL3⟩ := hrel
                have hm : 0 ≤ m ∧ m ≤ l := by
                  rw [HM.out]
                  have h1 := opn_take_le k ((ws.take n).map br) os
                  have h2 := (opn_nonneg (((ws.take n).map br).take k) (os.take k)).1
                  have h3 : r * opn (((ws.take n).map br).take k) (os.take k) ≤ r * opn ((ws.take n).map br) os := Int.mul_le_mul_of_nonneg_left h1 (by omega)
                  have h4 : 0 ≤ r * opn (((ws.take n).map br).take k) (os.take k) := Int.mul_nonneg (by omega) h2
                  have := HRO.out
                  omega
                obtain ⟨hm0, hm1⟩ := hm
                by_cases hlt : k < n
                · obtain ⟨ad, rfl, hc1⟩ := HRD.out k hlt
                  have hc2 := pw_cell_below HBL3.out hc1
                  have hko : k < os.length := by rw [HOL.out]; exact hlt
                  have hPl : (add r (((ws.take n).map br).take k) (os.take k)).length = k := by rw [add_length, List.length_take]; omega
                  have hc3 : wr.cell? ⟨g, k, none⟩ = some (.int .i64 (os.getD k 0)) := by
                    have := HW3.out.cell k 0 (by rw [List.length_append, hPl, List.length_drop]; omega)
                    rwa [mid_getD _ _ _ hPl hko] at this
                  have hf3 := HW3.out.free k
                  obtain ⟨x, hx⟩ : ∃ x, rd ws k = x := ⟨_, rfl⟩
                  obtain ⟨o, ho⟩ : ∃ o, os.getD k 0 = o := ⟨_, rfl⟩
                  have hkw : k < ws.length := by omega
                  have hsn1 : ((ws.take n).map br).take (k + 1) = ((ws.take n).map br).take k ++ [br x] := by
                    rw [List.take_succ_eq_append_getElem (by simp; omega)]
                    simp only [List.getElem_map, List.getElem_take]
                    rw [← hx]
                    unfold rd
                    simp [List.getD_eq_getElem?_getD, hkw]
                  have hsn2 : os.take (k + 1) = os.take k ++ [o] := by
                    rw [List.take_succ_eq_append_getElem hko, ← ho]
                    simp [List.getD_eq_getElem?_getD, hko]
                  have hll : (((ws.take n).map br).take k).length = (os.take k).length := by rw [List.length_take, List.length_take, List.length_map, HWL.out, HOL.out]
                  have HS1 : Aside0 (opn (((ws.take n).map br).take (k + 1)) (os.take (k + 1)) = opn (((ws.take n).map br).take k) (os.take k) + if o < br x then 1 else 0) := ⟨by rw [hsn1, hsn2, opn_snoc _ _ _ _ hll]⟩
                  have HS2 : Aside0 (add r (((ws.take n).map br).take (k + 1)) (os.take (k + 1)) = add r (((ws.take n).map br).take k) (os.take k) ++ [if o < br x then o + r else o]) := ⟨by rw [hsn1, hsn2, add_snoc _ _ _ _ _ hll]⟩
                  have hofit := mid_fits HMID.out o (by rw [← ho, List.getD_eq_getElem?_getD, List.getElem?_eq_getElem hko]; exact List.getElem_mem _)
                  obtain ⟨ho0, ho1⟩ := hofit
                  have hxb := br_in x
                  obtain ⟨hx0, hx1⟩ := hxb
                  have HBX : Aside0 (∀ w, Calls Try.prog 18 #[.int .i64 x, .int .i64 0, .int .i64 1099511627776] w fun e w' => e = .returned (.int .i64 (br x)) ∧ w = w') := ⟨fun w => HBR.out w x⟩
                  rw [hx] at hc2
                  have HPL := Aside0.mk (And.intro hPl hko)
                  have HO := Aside0.mk ho
                  rw [ho] at hc3
                  clear hsn1 hsn2 hll hc1 hx ho hPl hko
                  obtain ⟨y, hy⟩ : ∃ y, br x = y := ⟨_, rfl⟩
                  rw [hy] at HS1 HS2 hx0 hx1 HBX
                  clear hy
                  by_cases hp : o < y
                  · have HOPN : Aside0 (r ≤ m) := ⟨by
                      have h1 := opn_take_le (k + 1) ((ws.take n).map br) os
                      have h3 : r * opn (((ws.take n).map br).take (k + 1)) (os.take (k + 1)) ≤ r * opn ((ws.take n).map br) os := Int.mul_le_mul_of_nonneg_left h1 (by omega)
                      rw [HS1.out, if_pos hp, Int.mul_add, Int.mul_one] at h3
                      have h4 := HRO.out
                      rw [HM.out]
                      omega⟩
                    have hrm := HOPN.out
                    go_wp2
                    go_quiet ((go_at_call 18; exact q_same (HBX.out _)))
                    have hf4 : (wr.drewN nq).frozen? ⟨g, k, none⟩ = false := hf3
                    go_wp2
                    go_roundg (gk - 1)
                    case measure => have := HK.out; omega
                    case rel =>
                      refine ⟨k + 1, m - r, ⟨by have := HK.out; omega⟩, by go_num, rfl, ⟨by rw [HS1.out, if_pos hp, Int.mul_add, Int.mul_one, HM.out]; omega⟩, ⟨?_⟩, ⟨?_⟩⟩
                      · have h1 := Blk.put (w := wr.drewN nq) HW3.out k (o + r)
                        rw [mid_set _ _ _ _ HPL.out.1 HPL.out.2] at h1
                        rw [HS2.out, if_pos hp]
                        exact h1
                      · exact Ch.onto (S := fun j => j = g) HBL3.out (((Ch.refl _ _).drewN nq).set rfl) HBL3.out.size (fun i e => e ▸ HGB.out)
                  · go_wp2
                    go_quiet ((go_at_call 18; exact q_same (HBX.out _)))
                    go_wp2
                    go_roundg (gk - 1)
                    case measure => have := HK.out; omega
                    case rel =>
                      refine ⟨k + 1, m, ⟨by have := HK.out; omega⟩, by go_num, rfl, ⟨by rw [HS1.out, if_neg (by omega), Int.add_zero]; exact HM.out⟩, ⟨?_⟩, ⟨below_step HBL3.out (Drawn0.below (Drawn0.step (Drawn0.refl _) _))⟩⟩
                      have h1 : Blk (wr.drewN nq) g 3 (Value.int .i64) (add r (((ws.take n).map br).take k) (os.take k) ++ os.drop k) := HW3.out
                      rw [HS2.out, if_neg (by omega), ← HO.out, ← mid_keep _ _ _ HPL.out.1 HPL.out.2]
                      exact h1
                · have HKN2 : Aside0 (n = k) := ⟨by have := HK.out; omega⟩
                  have HM2 : Aside0 (m = l - r * opn ((ws.take n).map br) os) := ⟨by
                    have h1 := HM.out
                    rw [← HKN2.out, List.take_of_length_le (l := os) (by rw [HOL.out]; omega), List.take_of_length_le (l := (ws.take n).map br) (by rw [List.length_map, HWL.out]; omega)] at h1
                    exact h1⟩
                  have HW4 : Aside0 (Blk wr g 3 (Value.int .i64) (add r ((ws.take n).map br) os)) := ⟨by
                    have h1 := HW3.out
                    rw [← HKN2.out, List.take_of_length_le (l := os) (by rw [HOL.out]; omega), List.take_of_length_le (l := (ws.take n).map br) (by rw [List.length_map, HWL.out]; omega), List.drop_of_length_le (by rw [HOL.out]; omega), List.append_nil] at h1
                    exact h1⟩
                  have HNEW : Aside0 (Mid ((ws.take n).map br) tot (add r ((ws.take n).map br) os) m) := ⟨by
                    rw [HM2.out]
                    exact HMID.out.step (H := 1099511627776) (by omega) (by rw [← HAB2.out.2]; exact HR1.out.2.1) HRO.out⟩
                  have HLESS : Aside0 (m < l) := ⟨by
                    rw [HM2.out, ← HAB2.out.1]
                    have : 0 < r * a := Int.mul_pos hrp hap
                    omega⟩
                  clear HM HW3 HK
                  go_wp2
                  go_roundg m.toNat
                  case measure => have := HD.out; have := HLESS.out; omega
                  case rel => exact ⟨m, _, ⟨rfl⟩, rfl, HNEW, HW4, HBL3⟩
end Go.Proofs.Ytfijbhacobjjgab
