/- The contract of Decode: the walk. -/
import Derived.Test.YtfijbhacobjjgaeProg
import Derived.Test.YtfijbhacobjjgaeVals
import Derived.Test.YtfijbhacobjjgaeWLast
import Derived.Test.YtfijbhacobjjgaeWMore
import Derived.RegionTactic
import Derived.ChangeAlike
import Derived.BigRegion
import Derived.WalkLawsBesides
import Derived.WalkSpells
import Derived.Deep.LoopGhost
import Derived.Deep.QuietTactic
import Derived.BigQuiet
import Derived.OwnWalk
import Derived.Test.YtfijbhacobjjgaeDecA
namespace Go.Proofs.Ytfijbhacobjjgae
open Go.RowKit Go.Proofs.YtfijbhacobjjgaeW.PrintWords Go.Proofs.YtfijbhacobjjgaeW.PrintLast Go.Proofs.YtfijbhacobjjgaeW.PrintMore Go.Proofs.Ytfijbhacobjjgae.Fr
set_option linter.unusedVariables false
set_option linter.unusedSimpArgs false
attribute [local go_sem] max2_int min2_int max_two min_two

open Pl
set_option maxRecDepth 100000 in
set_option maxHeartbeats 8000000 in
theorem dec_any (T : ByteArray) (n : Nat) (hT : T.size ≤ 1000000) (hn : n ≤ 1048576) (w0 : World) : Calls Try.prog 7 #[.string T, .int .i64 n] w0 fun e w' => e = .returned (ansV (ans (bz T) n)) ∧ Below w0.heap.size w0 w' := by
  have HRN := Aside0.mk (rnew_reader T)
  have hn0 : ¬ (n : Int) < 0 := by omega
  have hn1 : ¬ (1048576 : Int) < (n : Int) := by omega
  have d1 : decide ((1048576 : Int) < (n : Int)) = false := decide_eq_false hn1
  go_enter Try.func7, Try.ntmps7
  go_wp2_with fail
  refine (HRN.out w0).mono ?_
  rintro e w1 ⟨rfl, hr1, hb1⟩
  go_wp2_with fail
  refine (new_any w1).mono ?_
  rintro e w2 ⟨gm, rfl, hgm, hm2, hb2⟩
  have HW2 : Aside0 (RD w2 w0.heap.size T 0 ∧ Blk w2 gm 66 (Value.int .i64) c0.c ∧ Below w0.heap.size w0 w2 ∧ w0.heap.size < gm ∧ gm < w2.heap.size ∧ w0.heap.size < w2.heap.size) := ⟨blk_below hr1 hb2, hm2, below_step hb1 hb2, by have := blk_lt hr1; omega, hm2.lt, by have := blk_lt hr1; have := hm2.lt; omega⟩
  clear hr1 hb1 hm2 hb2 hgm
  go_wp2
  have HX0 : Aside0 (P0 w0 (w2.alloc (.cells #[.pointer (some ⟨w0.heap.size, 0, none⟩), .int .u32 0, .int .u32 4294967295, .int .u32 0, .pointer (some ⟨gm, 0, none⟩)] 51)) w2.heap.size w0.heap.size gm T 0) := ⟨by
    have hal : Below w2.heap.size w2 (w2.alloc (.cells #[.pointer (some ⟨w0.heap.size, 0, none⟩), .int .u32 0, .int .u32 4294967295, .int .u32 0, .pointer (some ⟨gm, 0, none⟩)] 51)) := below_alloc (Below.refl _ _) _
    obtain ⟨x1, x2, x3, x4, x5, x6⟩ := HW2.out
    exact ⟨blk_new _ _, blk_below x1 hal, x2.below hal, below_step x3 hal, Nat.le_refl _, by omega, by omega, by omega, by omega⟩⟩
  generalize w2.alloc (.cells #[.pointer (some ⟨w0.heap.size, 0, none⟩), .int .u32 0, .int .u32 4294967295, .int .u32 0, .pointer (some ⟨gm, 0, none⟩)] 51) = W at HX0 ⊢
  generalize w2.heap.size = gx at HX0 ⊢
  obtain ⟨gr, hgr⟩ : ∃ gr, gr = w0.heap.size := ⟨_, rfl⟩
  rw [← hgr] at HX0 ⊢
  have HGR := Aside0.mk hgr
  clear HW2 hgr HRN
  go_loopg [21] 4 (fun gk x wr => ∃ k : Nat, Aside0 (k + gk = 4) ∧ x = .int .i64 k ∧ Aside0 (P0 w0 wr gx gr gm T k))
  case atStart => exact ⟨0, ⟨by omega⟩, rfl, HX0⟩
  case round =>
    clear HX0
    obtain ⟨k, HK, rfl, HP⟩ := hrel
    by_cases hlt : k < 4
    · have HBY : Aside0 (Calls Try.prog 18 #[.pointer (some ⟨gx, 0, none⟩)] wr (BytePost gx gr gm 0 4294967295 (pv (bz T) k) T k wr)) := ⟨byte_any gx gr gm 0 4294967295 _ T k HP.out.ne.1 (pv_in (bz_byt T) k).1 (pv_in (bz_byt T) k).2 hT wr HP.out.box HP.out.rdr⟩
      have h1 : (k : Int) < 4 := by omega
      go_wp2_with fail
      refine HBY.out.mono ?_
      rintro e w4 ⟨rfl, hx4, hr4, hc4⟩
      have HP4 : Aside0 (P0 w0 w4 gx gr gm T (k + 1)) := ⟨HP.out.next hx4 hr4 hc4⟩
      clear hx4 hr4 hc4 HBY
      go_wp2
      go_roundg (gk - 1)
      case measure => have := HK.out; omega
      case rel => exact ⟨k + 1, ⟨by have := HK.out; omega⟩, by go_num, HP4⟩
    · have hk : k = 4 := by have := HK.out; omega
      subst hk
      have HD0 := Aside0.mk (HP.out.start)
      clear HP
      go_wp2
      obtain ⟨R0, hR0⟩ : ∃ R0, dd n ((bz T).drop 0) c0 = R0 := ⟨_, rfl⟩
      have HAN : Aside0 (∀ (a : Nat) (s : Cs) (o : List Nat) (j : Nat), o ++ (dd j ((bz T).drop a) s).1 = R0.1 → (dd j ((bz T).drop a) s).2 = R0.2 → j = 0 ∨ T.size < a + 4 → ans (bz T) n = if T.size = a + 4 ∧ V ((bz T).drop a) = s.l then some o else none) := ⟨fun a s o j h1 h2 h3 => by
        rw [List.drop_zero] at hR0
        exact ans_of T n a s o j (by rw [hR0]; exact h1) (by rw [hR0]; exact h2) h3⟩
      have HIN : Aside0 (((0 : Nat) + n = n ∧ OkS c0 ∧ [] ++ (dd n ((bz T).drop 0) c0).1 = R0.1 ∧ (dd n ((bz T).drop 0) c0).2 = R0.2)) := ⟨Nat.zero_add n, c0_ok, by rw [hR0]; rfl, by rw [hR0]⟩
      clear hR0
      go_loopg [7] n (fun gj x wr => ∃ (a : Nat) (s : Cs) (o : List Nat), Aside0 (o.length + gj = n ∧ OkS s ∧ o ++ (dd gj ((bz T).drop a) s).1 = R0.1 ∧ (dd gj ((bz T).drop a) s).2 = R0.2) ∧ Aside0 (DW w0 wr gx gr gm T a s x o))
      case atStart => exact ⟨0, c0, [], HIN, HD0⟩
      case round =>
        clear HD0 HIN
        obtain ⟨a, s, o, HI, HD⟩ := hrel
        obtain ⟨A, c, hv, hoc, _⟩ := own_nums HD.out.row
        rw [toI_len] at hv hoc
        subst hv
        have HBA : Aside0 (Calls Try.prog 19 #[.pointer (some ⟨gr, 0, none⟩)] wr fun e w' => e = .returned (.bool (decide (T.size < a + 4))) ∧ w' = wr) := ⟨bad_any gr T (a + 4) wr HD.out.ds.rdr⟩
        have p0 : wr.cell? ⟨gx, 0, none⟩ = some (.pointer (some ⟨gr, 0, none⟩)) := HD.out.ds.box.cell 0 undef (by simp [XB])
        by_cases hgo : o.length < n ∧ ¬ T.size < a + 4
        · have h1 : (o.length : Int) < (n : Int) := by have := hgo.1; omega
          have h2 : decide (T.size < a + 4) = false := decide_eq_false hgo.2
          obtain ⟨j, rfl⟩ : ∃ j, gk = j + 1 := ⟨gk - 1, by have := HI.out.1; omega⟩
          clear hgo
          go_wp2_with fail
          refine HBA.out.mono ?_
          rintro e w5 ⟨rfl, rfl⟩
          rw [h2]
          clear h1 h2 HBA p0
          go_wp2
          obtain ⟨RES, hRES⟩ : ∃ RES, dn 8 ((bz T).drop a) 1 s = RES := ⟨_, rfl⟩
          have HNX : Aside0 (o ++ ((RES.1 - 256) :: (dd j RES.2.1 RES.2.2).1) = R0.1 ∧ (dd j RES.2.1 RES.2.2).2 = R0.2 ∧ o.length + (j + 1) = n) := ⟨by
            have h := HI.out.2.2
            simp only [dd, hRES] at h
            exact ⟨h.1, h.2, HI.out.1⟩⟩
          have HN0 : Aside0 (0 + 8 = 8 ∧ Nd 0 1 ∧ OkS s ∧ dn 8 ((bz T).drop a) 1 s = RES) := ⟨rfl, nd_one, HI.out.2.1, hRES⟩
          clear hRES HI
          go_loopg [8] 8 (fun gn x wr => ∃ (k node a1 : Nat) (s1 : Cs), Aside0 (k + gn = 8 ∧ Nd k node ∧ OkS s1 ∧ dn gn ((bz T).drop a1) node s1 = RES) ∧ x = .int .i64 node ∧ Aside0 (DW w0 wr gx gr gm T a1 s1 (.slice A o.length c) o))
          case atStart => exact ⟨0, 1, a, s, HN0, rfl, HD⟩
          case round =>
            clear HN0 HD
            obtain ⟨k, node, a1, s1, HI, rfl, HD⟩ := hrel
            obtain ⟨hk, hnd, hok, hdn⟩ := HI.out
            by_cases hlt : node < 256
            · obtain ⟨f, rfl⟩ : ∃ f, gk = f + 1 := ⟨gk - 1, by
                rcases Nat.eq_zero_or_pos gk with e | e
                · have : k = 8 := by omega
                  subst this
                  have := hnd.1
                  omega
                · omega⟩
              have hn1' : 1 ≤ node := Nat.le_trans (Nat.pow_pos (by decide)) hnd.1
              have HBT : Aside0 (Calls Try.prog 21 #[.pointer (some ⟨gx, 0, none⟩), .int .i64 node] wr (BitPost gx gr gm T a1 s1 node wr)) := ⟨bit_any gx gr gm T a1 s1 node hn1' hlt hT hok wr HD.out.ds⟩
              have hsn : dn (f + 1) ((bz T).drop a1) node s1 = dn f (dr ((bz T).drop a1) node s1) (nx node (db ((bz T).drop a1) node s1)) (put s1 node (db ((bz T).drop a1) node s1)) := rfl
              rw [hsn, ← drop_dr] at hdn
              have hnx := nd_nx (db ((bz T).drop a1) node s1) hnd
              have hpo := put_ok hok hlt (db ((bz T).drop a1) node s1)
              unfold BitPost at HBT
              obtain ⟨b, hb⟩ : ∃ b, db ((bz T).drop a1) node s1 = b := ⟨_, rfl⟩
              rw [hb] at hdn hnx hpo HBT
              have HNE : Aside0 (k + 1 + f = 8 ∧ Nd (k + 1) (nx node b) ∧ OkS (put s1 node b) ∧ dn f ((bz T).drop (a1 + (out s1 node b).length)) (nx node b) (put s1 node b) = RES) := ⟨by omega, hnx, hpo, hdn⟩
              have HNT : Aside0 (∀ w : World, Calls Try.prog 20 #[.int .i64 node, .bool b] w fun e w' => e = .returned (.int .i64 (nx node b : Nat)) ∧ w' = w) := ⟨next_any node b (by omega)⟩
              have h1 : (node : Int) < 256 := by omega
              obtain ⟨nd2, hnd2⟩ : ∃ nd2, nx node b = nd2 := ⟨_, rfl⟩
              rw [hnd2] at HNE HNT
              clear hk hnd hok hdn hlt hn1' hsn hnx hpo hb hnd2 HI
              go_wp2_with fail
              refine HBT.out.mono ?_
              rintro e w6 ⟨rfl, hd6, hc6⟩
              have HD6 := Aside0.mk (HD.out.turn hd6 hc6)
              clear hd6 hc6 HBT HD
              go_wp2_with fail
              refine (HNT.out w6).mono ?_
              rintro e w7 ⟨rfl, rfl⟩
              go_wp2
              go_roundg f
              case measure => omega
              case rel => exact ⟨k + 1, nd2, _, _, HNE, rfl, HD6⟩
            · have hk8 : k = 8 := by
                rcases Nat.lt_or_ge k 8 with h | h
                · exact absurd (nd_lt hnd (by omega)) hlt
                · omega
              subst hk8
              obtain rfl : gk = 0 := by omega
              have hdn0 : (node, (bz T).drop a1, s1) = RES := hdn
              have hu : node < 512 := hnd.2
              have hw8 : IntKind.u8.wrap (node : Int) = ((node - 256 : Nat) : Int) := by rw [IntKind.wrap_u8]; omega
              have HNZ : Aside0 (o ++ ((node - 256) :: (dd j ((bz T).drop a1) s1).1) = R0.1 ∧ (dd j ((bz T).drop a1) s1).2 = R0.2 ∧ o.length + (j + 1) = n ∧ OkS s1) := ⟨by
                have := HNX.out
                rw [← hdn0] at this
                exact ⟨this.1, this.2.1, this.2.2, hok⟩⟩
              have h1 : ¬ (node : Int) < 256 := by omega
              have hrw := HD.out.row
              rw [toI_len] at hrw
              have hle : o.length ≤ 1048576 := by have := HNZ.out.2.2.1; omega
              have HRW : Aside0 (wr.ownsRow (gx + 1) 5 1 (.slice A o.length c) (toI o).length (nums .u8 (toI o))) := ⟨HD.out.row⟩
              have hlt' := toI_len o
              have hgl := HD.out.ds.box.lt
              clear hk hnd hok hdn hdn0 HI HNX hrw hu hlt
              go_wp2_with ((with_reducible refine gate_dst (N := 49) rfl ?_); refine print_append_num (w0 := wr) (gx + 1) rfl (.tmp 45) (.tmp 48) 36 5 .u8 1 rfl Try.underlying36 info5 (by decide) (.slice A o.length c) (toI o) ((node - 256 : Nat) : Int) rfl rfl HRW.out (Below.refl _ _) (by omega) (by omega) ?_; intro v1 w8 hown hbel hgrow hat; have HG8 := Aside0.mk (And.intro hown hgrow); clear hown hbel hgrow hat)
              go_roundg j
              case measure => omega
              case rel => exact ⟨a1, s1, o ++ [node - 256], ⟨by rw [List.length_append]; have := HNZ.out.2.2.1; simp only [List.length_cons, List.length_nil]; omega, HNZ.out.2.2.2, by rw [List.append_assoc]; exact HNZ.out.1, HNZ.out.2.1⟩, ⟨HD.out.grown HG8.out.2 (by have := HG8.out.1; rw [toI_snoc] at this; exact this)⟩⟩
        · have HA : Aside0 (ans (bz T) n = if T.size = a + 4 ∧ V ((bz T).drop a) = s.l then some o else none) := ⟨HAN.out a s o gk HI.out.2.2.1 HI.out.2.2.2 (by
            rcases Nat.lt_or_ge o.length n with h | h
            · exact Or.inr (Decidable.of_not_not fun h2 => hgo ⟨h, h2⟩)
            · exact Or.inl (by have := HI.out.1; omega))⟩
          have HDN : Aside0 (∀ w, Drawn0 wr w → Calls Try.prog 22 #[.pointer (some ⟨gr, 0, none⟩)] w fun e w' => e = .returned (.bool (decide (T.size = a + 4))) ∧ w = w') := ⟨fun w hd => (done_any gr T (a + 4) w (by obtain ⟨⟨q, rfl⟩⟩ := hd; exact HD.out.ds.rdr)).mono fun _ _ h => ⟨h.1, h.2.symm⟩⟩
          have HCV : Aside0 (∀ nq, (convert 36 9 (.slice A o.length c)).run Try.prog (wr.drewN nq) = .ok (.string (strOfNums (toI o))) (wr.drewN nq)) := ⟨fun nq => own_string (w := wr.drewN nq) Try.underlying36 Try.underlying5 Try.underlying9 HD.out.row⟩
          by_cases hlt : o.length < n
          · have h1 : (o.length : Int) < (n : Int) := by omega
            have h2 : decide (T.size < a + 4) = true := decide_eq_true (Decidable.of_not_not fun h2 => hgo ⟨hlt, h2⟩)
            clear hgo hlt HI
            go_wp2_with fail
            refine HBA.out.mono ?_
            rintro e w5 ⟨rfl, rfl⟩
            rw [h2]
            clear h2 HBA
            go_wp2
            have p3 : w5.cell? ⟨gx, 3, none⟩ = some (.int .u32 (V ((bz T).drop a))) := HD.out.ds.box.cell 3 undef (by simp [XB])
            have p1 : w5.cell? ⟨gx, 1, none⟩ = some (.int .u32 s.l) := HD.out.ds.box.cell 1 undef (by simp [XB])
            have HB5 : Aside0 (Below w0.heap.size w0 w5) := ⟨HD.out.bel⟩
            obtain ⟨vv, hvv⟩ : ∃ vv, V ((bz T).drop a) = vv := ⟨_, rfl⟩
            obtain ⟨ll, hll⟩ : ∃ ll, s.l = ll := ⟨_, rfl⟩
            rw [hvv] at p3 HA
            rw [hll] at p1 HA
            clear hvv hll HD HAN HK
            by_cases e1 : T.size = a + 4
            · have d1 : decide (T.size = a + 4) = true := decide_eq_true e1
              rw [d1] at HDN
              clear d1
              by_cases e2 : vv = ll
              · subst e2
                rw [if_pos ⟨e1, rfl⟩] at HA
                clear e1
                go_quiet ((go_at_call 22; exact q_same (HDN.out _ ⟨⟨_, rfl⟩⟩)))
                go_wp2
                rw [HCV.out]
                go_wp2
                go_ret2
                rw [HA.out]
                exact ⟨rfl, pw_below_drewN HB5.out _⟩
              · rw [if_neg (fun h => e2 h.2)] at HA
                have d2 : (vv == ll) = false := beq_eq_false_iff_ne.2 e2
                clear e1
                go_quiet ((go_at_call 22; exact q_same (HDN.out _ ⟨⟨_, rfl⟩⟩)))
                go_wp2
                go_ret2
                rw [HA.out]
                exact ⟨rfl, pw_below_drewN HB5.out _⟩
            · have d1 : decide (T.size = a + 4) = false := decide_eq_false e1
              rw [d1] at HDN
              rw [if_neg (fun h => e1 h.1)] at HA
              clear d1 e1
              go_quiet ((go_at_call 22; exact q_same (HDN.out _ ⟨⟨_, rfl⟩⟩)))
              go_wp2
              go_ret2
              rw [HA.out]
              exact ⟨rfl, pw_below_drewN HB5.out _⟩
          · have h1 : ¬ (o.length : Int) < (n : Int) := by omega
            clear hgo hlt HI HBA
            go_wp2
            have p3 : wr.cell? ⟨gx, 3, none⟩ = some (.int .u32 (V ((bz T).drop a))) := HD.out.ds.box.cell 3 undef (by simp [XB])
            have p1 : wr.cell? ⟨gx, 1, none⟩ = some (.int .u32 s.l) := HD.out.ds.box.cell 1 undef (by simp [XB])
            have HB5 : Aside0 (Below w0.heap.size w0 wr) := ⟨HD.out.bel⟩
            obtain ⟨vv, hvv⟩ : ∃ vv, V ((bz T).drop a) = vv := ⟨_, rfl⟩
            obtain ⟨ll, hll⟩ : ∃ ll, s.l = ll := ⟨_, rfl⟩
            rw [hvv] at p3 HA
            rw [hll] at p1 HA
            clear hvv hll HD HAN HK
            by_cases e1 : T.size = a + 4
            · have d1 : decide (T.size = a + 4) = true := decide_eq_true e1
              rw [d1] at HDN
              clear d1
              by_cases e2 : vv = ll
              · subst e2
                rw [if_pos ⟨e1, rfl⟩] at HA
                clear e1
                go_quiet ((go_at_call 22; exact q_same (HDN.out _ ⟨⟨_, rfl⟩⟩)))
                go_wp2
                rw [HCV.out]
                go_wp2
                go_ret2
                rw [HA.out]
                exact ⟨rfl, pw_below_drewN HB5.out _⟩
              · rw [if_neg (fun h => e2 h.2)] at HA
                have d2 : (vv == ll) = false := beq_eq_false_iff_ne.2 e2
                clear e1
                go_quiet ((go_at_call 22; exact q_same (HDN.out _ ⟨⟨_, rfl⟩⟩)))
                go_wp2
                go_ret2
                rw [HA.out]
                exact ⟨rfl, pw_below_drewN HB5.out _⟩
            · have d1 : decide (T.size = a + 4) = false := decide_eq_false e1
              rw [d1] at HDN
              rw [if_neg (fun h => e1 h.1)] at HA
              clear d1 e1
              go_quiet ((go_at_call 22; exact q_same (HDN.out _ ⟨⟨_, rfl⟩⟩)))
              go_wp2
              go_ret2
              rw [HA.out]
              exact ⟨rfl, pw_below_drewN HB5.out _⟩
end Go.Proofs.Ytfijbhacobjjgae
