/- The contract of parse's Steps. -/
import Derived.Test.YtfcpjblogeofpacProg
import Derived.Test.YtfcpjblogeofpacVals
import Derived.Test.YtfcpjblogeofpacWLast
import Derived.Test.YtfcpjblogeofpacWMore
import Derived.RegionTactic
import Derived.ChangeAlike
import Derived.BigRegion
import Derived.WalkLawsBesides
import Derived.WalkSpells
import Derived.Deep.LoopGhost
import Derived.Deep.QuietTactic
import Derived.BigQuiet
import Derived.OwnWalk
import Derived.Test.YtfcpjblogeofpacFindB
namespace Go.Proofs.Ytfcpjblogeofpac
open Go.RowKit Go.Proofs.YtfcpjblogeofpacW.PrintWords Go.Proofs.YtfcpjblogeofpacW.PrintLast Go.Proofs.YtfcpjblogeofpacW.PrintMore Go.Proofs.Ytfcpjblogeofpac.Fr
set_option linter.unusedVariables false
set_option linter.unusedSimpArgs false
attribute [local go_sem] max2_int min2_int max_two min_two

theorem info35p : (Try.prog.info? 37).map (fun i => (i.zero, i.size, i.bytes)) = some (some (.agg #[.int .i64 0, .int .i64 0, .int .i64 0]), 3, 24) := by kernel_rfl
theorem Fnd.lt {w : World} {g gh ga gn : Nat} {T : ByteArray} {rs : List Nat} (x : Fnd w g gh ga gn T rs) : g < w.heap.size ∧ gh < w.heap.size ∧ ga < w.heap.size ∧ gn < w.heap.size := by
  obtain ⟨hs, ah, nt, y, _⟩ := x
  exact ⟨blk_lt y.box, y.heads.lt, y.ahead.lt, y.noted.lt⟩
/-- A finder, and what is kept beside it: B0 where the call began, B1 behind the finder. -/
structure FR (w0 w : World) (B1 g gh ga gn : Nat) (T : ByteArray) (rs : List Nat) : Prop where
  f : Fnd w g gh ga gn T rs
  b : Below w0.heap.size w0 w
  s : B1 ≤ w.heap.size
  o : (w0.heap.size ≤ gh ∧ w0.heap.size ≤ ga ∧ w0.heap.size ≤ gn) ∧ g < B1 ∧ gh < B1 ∧ ga < B1 ∧ gn < B1 ∧ w0.heap.size ≤ B1
theorem FR.drawn {w0 w w1 : World} {B1 g gh ga gn : Nat} {T : ByteArray} {rs : List Nat} (x : FR w0 w B1 g gh ga gn T rs) (h : Drawn0 w w1) : FR w0 w1 B1 g gh ga gn T rs := by
  obtain ⟨⟨n, rfl⟩⟩ := h
  exact ⟨x.f.below (pw_below_drewN (Below.refl _ _) n), pw_below_drewN x.b n, x.s, x.o⟩
theorem FR.alloc {w0 w : World} {B1 g gh ga gn : Nat} {T : ByteArray} {rs : List Nat} (x : FR w0 w B1 g gh ga gn T rs) (o : Obj) : FR w0 (w.alloc o) B1 g gh ga gn T rs :=
  ⟨x.f.below (below_alloc (Below.refl _ _) _), below_alloc x.b _, by have := x.s; simp; omega, x.o⟩
theorem FR.onto {w0 w w1 : World} {B1 g gh ga gn : Nat} {T : ByteArray} {rs : List Nat} (x : FR w0 w B1 g gh ga gn T rs) (h : Below B1 w w1) : FR w0 w1 B1 g gh ga gn T rs :=
  ⟨x.f.ch (ch_below h) (by have := x.o; omega) (by have := x.o; omega) (by have := x.o; omega) (by have := x.o; omega), x.b.trans (h.mono x.o.2.2.2.2.2), Nat.le_trans x.s h.size, x.o⟩
theorem FR.note {w0 w w1 : World} {B1 g gh ga gn : Nat} {T : ByteArray} {rs rs1 : List Nat} (x : FR w0 w B1 g gh ga gn T rs) (h : Fnd w1 g gh ga gn T rs1) (hc : Ch (fun i => i = gh ∨ i = ga ∨ i = gn) w w1) : FR w0 w1 B1 g gh ga gn T rs1 :=
  ⟨h, Ch.onto x.b hc x.b.size (fun i e => by have := x.o; omega), Nat.le_trans x.s hc.size, x.o⟩
theorem own_note {w0 w w1 : World} {B1 g gh ga gn n : Nat} {T : ByteArray} {rs : List Nat} {e : TypeId} {v : Value} {xs : List Value} (x : FR w0 w B1 g gh ga gn T rs) (hc : Ch (fun i => i = gh ∨ i = ga ∨ i = gn) w w1) (ho : w.ownsRow B1 e 3 v n xs) : w1.ownsRow B1 e 3 v n xs :=
  hc.own ho (fun k hk e => by have := own_blk ho k hk; have := x.o; omega)
set_option maxRecDepth 100000 in
set_option maxHeartbeats 4000000 in
theorem psteps_any (D X : ByteArray) (hD : D.size ≤ 600) (hX : X.size ≤ 600) (lev : Int) (w0 : World) : Calls Try.prog 12 #[.string D, .string X, .int .i64 lev] w0 (PsPost D X lev w0) := by
  have HDP := Aside0.mk (depth_any (lvl lev) (by rcases lvl_cases lev with h | h | h | h <;> omega))
  rcases Classical.em (lvl lev = 0) with hl0 | hl0
  · rw [hl0] at HDP
    have HL0 := Aside0.mk hl0
    clear hl0
    go_enter Try.func12, Try.ntmps12
    go_wp2_with fail
    refine (pb_any lev w0).mono ?_
    rintro e w1 ⟨rfl, rfl⟩
    rw [HL0.out]
    go_wp2_with fail
    refine (HDP.out _).mono ?_
    rintro e w2 ⟨rfl, rfl⟩
    rw [show dpt 0 = 0 from rfl]
    go_wp2
    go_ret
    exact ⟨[], none, 0, rfl, Nat.le_refl _, by omega, fun k hk => by simp at hk, Below.refl _ _, trivial, by show D.size ≤ _; omega, fun _ => rfl, by simp⟩
  · have hlp : ¬ lev ≤ 0 := fun h => hl0 (by unfold lvl; rw [if_neg (by omega)]; split <;> omega)
    have hdz : ((dpt (lvl lev) : Int) == 0) = false := by
      unfold dpt
      rw [if_neg hl0]
      split
      · rfl
      · split <;> rfl
    obtain ⟨v, hv⟩ : ∃ v, lvl lev = v := ⟨_, rfl⟩
    rw [hv] at HDP hdz
    obtain ⟨dd, hdd⟩ : ∃ dd, dpt v = dd := ⟨_, rfl⟩
    rw [hdd] at HDP hdz
    have HV := Aside0.mk (And.intro hv hdd)
    have hTs : (D ++ X).size = D.size + X.size := ByteArray.size_append ..
    have HNW := Aside0.mk (fnew_any (D ++ X) (by omega))
    have hmin : (if (600 : Int) < (X.size : Int) then 600 else (X.size : Int)) = (X.size : Int) := by rw [if_neg (by omega)]
    obtain ⟨T, hT⟩ : ∃ T, D ++ X = T := ⟨_, rfl⟩
    rw [hT] at hTs HNW
    have HT := Aside0.mk (And.intro hT hTs)
    have hts : T.size ≤ 1200 := by omega
    have HLP := Aside0.mk hlp
    clear hv hdd hT hTs hl0 hlp
    go_enter Try.func12, Try.ntmps12
    go_wp2_with fail
    refine (pb_any lev w0).mono ?_
    rintro e w1 ⟨rfl, rfl⟩
    rw [HV.out.1]
    go_wp2_with fail
    refine (HDP.out _).mono ?_
    rintro e w2 ⟨rfl, rfl⟩
    go_wp2
    go_quiet ((go_at_call 18; exact q_same (last_any D hD _)))
    clear hmin
    have HBD := fun n => pw_below_drewN (Below.refl w2.heap.size w2) n
    go_wp2_with fail
    rw [HT.out.1]
    refine (HNW.out _).mono ?_
    rintro e w3 ⟨g, gh, ga, gn, hs, rfl, hf, hh, hb, hg1, hg2, hg3, hg4⟩
    have HF0 : Aside0 (FR w2 w3 w3.heap.size g gh ga gn T []) := ⟨⟨fnew_of hf hh, (HBD _).trans hb, Nat.le_refl _, ⟨hg2, hg3, hg4⟩, blk_lt hf.box, hf.heads.lt, hf.ahead.lt, hf.noted.lt, hb.size⟩⟩
    clear hf hh hb hg1 hg2 hg3 hg4 HBD HNW HDP
    obtain ⟨B1, hB1⟩ : ∃ B1, w3.heap.size = B1 := ⟨_, rfl⟩
    rw [hB1] at HF0
    clear hB1
    go_wp2
    go_loopg [36] D.size (fun gk x wr => ∃ (k : Nat) (rs : List Nat), Aside0 (k + gk = D.size) ∧ x = .int .i64 k ∧ Aside0 (FR w2 wr B1 g gh ga gn T rs))
    case atStart => exact ⟨0, [], ⟨by omega⟩, rfl, HF0⟩
    case round =>
      clear HF0
      obtain ⟨k, rs, HK, rfl, HF⟩ := hrel
      by_cases hlt : k < D.size
      · go_wp2_with fail
        refine (fnote (k : Int) (by omega) HF.out.f).mono ?_
        rintro e w4 ⟨rfl, hf, hc⟩
        have HF2 := Aside0.mk (HF.out.note hf hc)
        clear hf hc
        go_wp2
        go_roundg (gk - 1)
        case measure => have := HK.out; omega
        case rel => exact ⟨k + 1, _, ⟨by have := HK.out; omega⟩, by go_num, HF2⟩
      · go_wp2
        go_loopg [11, 12, 13] X.size (fun gk x y z wr => ∃ (a l c : Nat) (os : List Pl.Stp) (A : Option Addr) (rs : List Nat), Aside0 (a + gk = T.size ∧ D.size + os.length + l ≤ a ∧ a ≤ T.size ∧ pos os D.size + l = a ∧ Pl.right T.data.toList os D.size) ∧ x = .slice A os.length c ∧ y = .int .i64 l ∧ z = .int .i64 a ∧ Aside0 (FR w2 wr B1 g gh ga gn T rs ∧ wr.ownsRow B1 37 3 (.slice A os.length c) os.length (sq os)))
        case atStart => exact ⟨D.size, 0, 0, [], none, rs, ⟨by have := HT.out.2; omega, by simp, by have := HT.out.2; omega, rfl, trivial⟩, rfl, rfl, rfl, ⟨HF.out, ⟨rfl, .inl ⟨rfl, rfl⟩⟩⟩⟩
        case round =>
          clear HF HK
          obtain ⟨a, l, c, os, A, rs, HK, rfl, rfl, rfl, HI⟩ := hrel
          have hk1 := HK.out.1
          have hk2 := HK.out.2.1
          have hk3 := HK.out.2.2.1
          by_cases hlt : a < T.size
          · have hal : (a : Int) < (T.size : Int) := by omega
            have hfi := found_is T rs a dd
            have HFI := Aside0.mk (ffind (a : Int) dd (by omega) HI.out.1.f)
            obtain ⟨o0, n0, hon⟩ : ∃ o0 n0, foundI T rs (a : Int) dd = (o0, n0) := ⟨_, _, rfl⟩
            rw [hon] at hfi HFI
            have HIS := Aside0.mk hfi
            clear hfi hon
            go_wp2_with fail
            refine HFI.out.mono ?_
            rintro e w4 ⟨rfl, hd⟩
            have HI4 : Aside0 (FR w2 w4 B1 g gh ga gn T rs ∧ w4.ownsRow B1 37 3 (.slice A os.length c) os.length (sq os)) := ⟨HI.out.1.drawn hd, by obtain ⟨⟨q, rfl⟩⟩ := hd; exact HI.out.2⟩
            clear hd HFI HI
            go_wp2_with fail
            refine (fnote (a : Int) (by omega) HI4.out.1.f).mono ?_
            rintro e w5 ⟨rfl, hf, hc⟩
            have HI5 : Aside0 (FR w2 w5 B1 g gh ga gn T (newR T rs a) ∧ w5.ownsRow B1 37 3 (.slice A os.length c) os.length (sq os)) := ⟨HI4.out.1.note hf hc, own_note HI4.out.1 hc HI4.out.2⟩
            clear hf hc HI4
            have HSK : Aside0 (D.size + os.length + (l + 1) ≤ a + 1 ∧ a + 1 ≤ T.size ∧ pos os D.size + (l + 1) = a + 1 ∧ Pl.right T.data.toList os D.size) := ⟨by omega, by omega, by have := HK.out.2.2.2.1; omega, HK.out.2.2.2.2⟩
            have hl600 : l ≤ 1200 := by omega
            rcases HIS.out with hz | ⟨o, n, hz, hn3, ho1, hoa, han, hby⟩
            · obtain ⟨rfl, rfl⟩ := Prod.mk.inj hz
              clear hz HIS
              go_wp2
              go_roundg (gk - 1)
              case measure => omega
              case rel => exact ⟨a + 1, l + 1, c, os, A, _, ⟨by omega, HSK.out⟩, rfl, by go_num, by go_num, HI5⟩
            · obtain ⟨rfl, rfl⟩ := Prod.mk.inj hz
              have HRN : Aside0 (Pl.right T.data.toList (os ++ [((l : Int), (n : Int), (o : Int))]) D.size ∧ pos (os ++ [((l : Int), (n : Int), (o : Int))]) D.size = a + n) := ⟨by
                have hp := HK.out.2.2.2.1
                refine right_snoc _ _ _ _ HK.out.2.2.2.2 ?_ ?_
                · unfold Pl.okStep
                  simp only [data_length]
                  omega
                · intro i hi
                  simp only [Int.toNat_natCast] at hi ⊢
                  rw [hp]
                  exact congrArg id (hby i hi), by
                rw [pos_snoc]
                have hp := HK.out.2.2.2.1
                simp only [Int.toNat_natCast]
                omega⟩
              have hne : ((n : Int) == 0) = false := by simp; omega
              clear hz HIS hby
              have HBT := Aside0.mk (better_any (a : Int) dd (n : Int) v (by omega) (by omega) (by omega) (by omega) HI5.out.1.f)
              go_wp2_with fail
              refine HBT.out.mono ?_
              rintro e w6 ⟨⟨bb, rfl⟩, hd⟩
              have HI6 : Aside0 (FR w2 w6 B1 g gh ga gn T (newR T rs a) ∧ w6.ownsRow B1 37 3 (.slice A os.length c) os.length (sq os)) := ⟨HI5.out.1.drawn hd, by obtain ⟨⟨q, rfl⟩⟩ := hd; exact HI5.out.2⟩
              clear hd HBT HI5
              cases bb
              · have HSQ : Aside0 (sq (os ++ [((l : Int), (n : Int), (o : Int))]) = sq os ++ [.int .i64 l, .int .i64 n, .int .i64 o]) := ⟨sq_app _ _⟩
                have HLN : Aside0 ((os ++ [((l : Int), (n : Int), (o : Int))]).length = os.length + 1) := ⟨by simp⟩
                obtain ⟨gk1, rfl⟩ : ∃ g1 : Nat, g1 = gk := ⟨_, rfl⟩
                obtain ⟨wo, rfl⟩ : ∃ wo : World, wo = wr := ⟨_, rfl⟩
                go_wp2_with ((with_reducible refine gate_dst (N := 79) rfl ?_); refine print_append_cells (w0 := w6) B1 rfl (.tmp 73) (.tmp 78) 23 37 (.agg #[.int .i64 0, .int .i64 0, .int .i64 0]) 3 24 rfl Try.underlying23 info35p rfl (by decide) (by decide) (.slice A os.length c) os.length (sq os) [.int .i64 l, .int .i64 n, .int .i64 o] rfl rfl rfl (by simp [Value.oneCell']) HI6.out.2 (Below.refl _ _) HI6.out.1.s (by omega) ?_; intro v1 w7 hown hbel hgrow hat; rw [← HSQ.out, ← HLN.out] at hown; obtain ⟨A1, c1, rfl, hc1, hc2, _⟩ := own_steps hown; have HI7 := Aside0.mk (And.intro (HI6.out.1.onto hbel) hown); clear hown hbel hgrow hat hc1 hc2)
                rw [HLN.out] at HI7
                clear HI6
                go_loopg [13, 81] n (fun gk x y wr => ∃ (j : Nat) (rs : List Nat), Aside0 (j + gk = n) ∧ x = .int .i64 ((a : Int) + (j : Int)) ∧ y = .int .i64 j ∧ Aside0 (FR w2 wr B1 g gh ga gn T rs ∧ wr.ownsRow B1 37 3 (.slice A1 (os.length + 1) c1) (os.length + 1) (sq (os ++ [((l : Int), (n : Int), (o : Int))]))))
                case atStart => exact ⟨0, _, ⟨by omega⟩, by simp, rfl, HI7⟩
                case round =>
                  clear HI7
                  obtain ⟨j, rs2, HJ, rfl, rfl, HI⟩ := hrel
                  by_cases hj : j < n
                  · have hjn : (j : Int) < (n : Int) := by omega
                    go_wp2_with fail
                    refine (fnote ((a : Int) + (j : Int)) (by omega) HI.out.1.f).mono ?_
                    rintro e w8 ⟨rfl, hf, hc⟩
                    have HI8 : Aside0 (FR w2 w8 B1 g gh ga gn T (newR T rs2 ((a : Int) + (j : Int))) ∧ w8.ownsRow B1 37 3 (.slice A1 (os.length + 1) c1) (os.length + 1) (sq (os ++ [((l : Int), (n : Int), (o : Int))]))) := ⟨HI.out.1.note hf hc, own_note HI.out.1 hc HI.out.2⟩
                    clear hf hc HI
                    go_wp2
                    go_roundg (gk - 1)
                    case measure => have := HJ.out; omega
                    case rel => exact ⟨j + 1, _, ⟨by have := HJ.out; omega⟩, by go_num, by go_num, HI8⟩
                  · obtain rfl : j = n := by have := HJ.out; omega
                    have hjn : ¬ (j : Int) < (j : Int) := by omega
                    go_wp2
                    go_roundg (gk1 - j)
                    case measure => omega
                    case rel => exact ⟨a + j, 0, c1, os ++ [((l : Int), (j : Int), (o : Int))], A1, rs2, ⟨by omega, by rw [HLN.out]; omega, by omega, by rw [HRN.out.2]; rfl, HRN.out.1⟩, by rw [HLN.out], rfl, by go_num, ⟨HI.out.1, by rw [HLN.out]; exact HI.out.2⟩⟩
              · go_wp2
                go_roundg (gk - 1)
                case measure => omega
                case rel => exact ⟨a + 1, l + 1, c, os, A, _, ⟨by omega, HSK.out⟩, rfl, by go_num, by go_num, HI6⟩
          · have hal : ¬ (a : Int) < (T.size : Int) := by omega
            obtain ⟨A0, c0, hA0, hc, hc2, hst⟩ := own_steps HI.out.2
            cases hA0
            have HST := Aside0.mk hst
            have HFI : Aside0 (Pl.right (D.data.toList ++ X.data.toList) os D.size ∧ pos os D.size ≤ D.size + X.size ∧ os.length ≤ X.size) := ⟨by
              rw [← app_list, HT.out.1]; exact HK.out.2.2.2.2, by have := HK.out.2.2.2.1; have := HT.out.2; omega, by have := HT.out.2; omega⟩
            clear hst
            go_wp2
            go_ret
            exact ⟨os, A, c, rfl, hc, hc2, HST.out, HI.out.1.b, HFI.out.1, HFI.out.2.1, fun h => absurd h (by have := HLP.out; omega), HFI.out.2.2⟩

end Go.Proofs.Ytfcpjblogeofpac
