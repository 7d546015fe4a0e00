/- SchedOrder: the walk. -/
import Derived.Test.YtfijbhacobjjgagOrderP
import Derived.Deep.CutBlock
namespace Go.Proofs.Ytfijbhacobjjgag
open Go.RowKit Go.Proofs.YtfijbhacobjjgagW.PrintWords Go.Proofs.YtfijbhacobjjgagW.PrintLast Go.Proofs.YtfijbhacobjjgagW.PrintMore Go.Proofs.Ytfijbhacobjjgag.Fr
set_option linter.unusedVariables false
set_option linter.unusedSimpArgs false
attribute [local go_sem] max2_int min2_int max_two min_two

open Pl Hp
theorem info4 : (Try.prog.info? 4).map (fun i => (i.zero, i.size, i.bytes)) = some (some (.bool false), 1, 1) := by kernel_rfl
set_option maxRecDepth 100000 in
set_option maxHeartbeats 8000000 in
theorem order_walk (A : Option Addr) (len cap : Nat) (ls : List Int) (hcap : len ≤ cap) (w0 : World) (hL : ls.length = len) (hR : RdK .i64 w0 A ls) :
    Calls Try.prog 3 #[.slice A len cap] w0 fun e w' => e = .returned (.bool true) ∧ Below w0.heap.size w0 w' := by
  have HB := Aside0.mk (Below.refl w0.heap.size w0)
  by_cases hbig : 100 < len
  · go_enter Try.func3, Try.ntmps3
    go_wp2_with ((go_at_call 6; refine (awake_any _).mono ?_; rintro e w1 ⟨rfl, hb⟩; have zz_HB := Aside0.mk (below_step HB.out hb); clear HB; have HB := zz_HB; clear zz_HB; clear hb))
    go_ret
    exact ⟨rfl, HB.out⟩
  have hl100 : len ≤ 100 := by omega
  have HR := Aside0.mk hR
  have HLN := Aside0.mk hL
  clear hR hL hbig
  go_enter Try.func3, Try.ntmps3
  go_wp2_with ((go_at_call 6; refine (awake_any _).mono ?_; rintro e w1 ⟨rfl, hb⟩; have zz_HB := Aside0.mk (below_step HB.out hb); clear HB; have HB := zz_HB; clear zz_HB; clear hb))
  have HS0 : Aside0 (Below w0.heap.size w0 w1 ∧ w0.heap.size ≤ w1.heap.size) := ⟨HB.out, HB.out.size⟩
  refine (new_any w1).mono ?_
  rintro e w2 ⟨s, rfl, hs, hb⟩
  have HS : Aside0 (SC w0.heap.size w2 s (.slice none 0 0) 0 0 [] ∧ Below w0.heap.size w0 w2) := ⟨⟨⟨hs.box, own_less hs.row HS0.out.2, hs.ne, Nat.le_trans HS0.out.2 hs.lo⟩, below_step HB.out hb⟩⟩
  clear hs hb HS0 HB
  go_wp2_with fail
  go_loopg [22] len (fun d x22 wr => ∃ (k : Nat) (v : Value) (H D : List E), Aside0 (k + d = len) ∧ x22 = .int .i64 k ∧ Aside0 (In ls k H D) ∧ Aside0 (SC w0.heap.size wr s v 0 k H ∧ Below w0.heap.size w0 wr))
  case atStart => exact ⟨0, _, [], [], ⟨by omega⟩, rfl, ⟨In.start ls⟩, HS⟩
  case round =>
    clear HS
    obtain ⟨k, v, H, D, HK, rfl, HI, HS⟩ := hrel
    by_cases hlt : k < len
    · obtain ⟨ad, rfl, hc0⟩ := (HR.out.below HS.out.2) k (by rw [HLN.out]; exact hlt)
      obtain ⟨z, hz⟩ : ∃ z, ls.getD k 0 = z := ⟨_, rfl⟩
      rw [hz] at hc0
      have HZ := Aside0.mk hz
      have hk2 : k < 100 := by omega
      clear hz
      go_wp2_with fail
      refine (put_any z ⟨0, k, 0, false, ⟨#[]⟩⟩ wr HS.out.1 HS.out.2.size (by rw [HI.out.len]; omega) (by decide) (by decide) (by omega) (by omega)).mono ?_
      rintro e w3 ⟨v3, rfl, hs3, hc3, hv3⟩
      have HS3 : Aside0 (SC w0.heap.size w3 s v3 0 ((k + 1 : Nat) : Int) (psh elt ez H (entO ls k)) ∧ Below w0.heap.size w0 w3) := ⟨⟨by
        unfold entO
        rw [HZ.out]
        exact hs3, Ch.onto HS.out.2 hc3 HS.out.2.size (fun i e => by rcases e with e | e; exact e ▸ HS.out.1.lo; exact own_base HS.out.1.row i e.symm)⟩⟩
      clear hs3 hc3 hv3 hc0
      go_wp2
      go_roundg (gk - 1)
      case measure => have := HK.out; omega
      case rel => exact ⟨k + 1, v3, _, _, ⟨by have := HK.out; omega⟩, by go_num, ⟨HI.out.step⟩, HS3⟩
    · have hk : k = len := by have := HK.out; omega
      subst hk
      have hlt2 : ¬ (k : Int) < k := by omega
      have hmk := print_make_of (P := Try.prog) 29 4 (.bool false) 1 Try.underlying29 info4 rfl (by decide) k (by omega)
      have hk0 : (0 : Int) ≤ k := by omega
      have HMB : Aside0 (MB (wr.alloc (.cells (madeCells #[.bool false] k) 4)) wr.heap.size k (List.replicate k false)) := ⟨MB.made wr k (by omega)⟩
      have hal : Below wr.heap.size wr (wr.alloc (.cells (madeCells #[.bool false] k) 4)) := below_alloc (Below.refl _ _) _
      have HS1 : Aside0 (SC w0.heap.size (wr.alloc (.cells (madeCells #[.bool false] k) 4)) s v 0 k H ∧ Below w0.heap.size w0 (wr.alloc (.cells (madeCells #[.bool false] k) 4)) ∧ wr.heap.size ≠ s ∧ v.ownBlock ≠ some wr.heap.size ∧ w0.heap.size ≤ wr.heap.size) := ⟨HS.out.1.below hal, below_step HS.out.2 hal, fun e => by have := blk_lt HS.out.1.box; omega, fun e => by have := own_lt HS.out.1.row _ e; omega, HS.out.2.size⟩
      have HO : Aside0 (Out ls k D 0 (-1) (List.replicate k false)) := ⟨Out.start HI.out⟩
      have HSD : Aside0 (Sch ez H D k ∧ D.length = k) := ⟨HI.out.sch, by rw [← HI.out.sch.len]; exact HI.out.len⟩
      clear hal HS HI
      go_wp2_with fail
      generalize wr.alloc (.cells (madeCells #[.bool false] k) 4) = W at HMB HS1 ⊢
      generalize wr.heap.size = gm at HMB HS1 ⊢
      clear hmk
      go_loopg [7, 8, 38] k (fun d x7 x8 x38 wz => ∃ (j : Nat) (last node : Int) (v : Value) (H D : List E) (mt : List Bool), Aside0 (j + d = k) ∧ x7 = .int .i64 last ∧ x8 = .int .i64 node ∧ x38 = .int .i64 j ∧ Aside0 (Out ls k D last node mt ∧ Sch ez H D k ∧ D.length + j = k ∧ 0 ≤ last) ∧ Aside0 (MB wz gm k mt) ∧ Aside0 (SC w0.heap.size wz s v last k H ∧ Below w0.heap.size w0 wz ∧ gm ≠ s ∧ v.ownBlock ≠ some gm ∧ w0.heap.size ≤ gm))
      case atStart => exact ⟨0, 0, -1, v, H, D, _, ⟨by omega⟩, rfl, rfl, rfl, ⟨HO.out, HSD.out.1, by have := HSD.out.2; omega, by decide⟩, HMB, HS1⟩
      case round =>
        clear HMB HS1 HO HSD
        obtain ⟨j, last, node, v, H, D, mt, HK2, rfl, rfl, rfl, HO, HMB, HS⟩ := hrel
        by_cases hjk : j < k
        · obtain ⟨y, r, rfl⟩ : ∃ y r, D = y :: r := by
            cases D with
            | nil => have := HO.out.2.2.1; simp at this; omega
            | cons y r => exact ⟨y, r, rfl⟩
          obtain ⟨i, hi, hy, hmi, hlo, hno, hout⟩ := HO.out.1.step
          obtain ⟨hsn, hh0, hdn⟩ := HO.out.2.1.next
          have hHl : H.length = r.length + 1 := by rw [HO.out.2.1.len]; simp
          have hrl : r.length + 1 + j = k := by have := HO.out.2.2.1; simpa using this
          go_wp2_with fail
          refine (next_any r.length wr HS.out.1 hHl (by omega)).mono ?_
          rintro e w4 ⟨y', v4, hy', rfl, hs4, hc4, hv4⟩
          have hyy : y' = y := by rw [hy', ← hdn, hHl, Nat.add_sub_cancel]
          subst hyy
          have ha : actV y'.a = .agg #[.int .i64 0, .int .i64 i, .int .i64 0, .bool false, .string ⟨#[]⟩] := by rw [hy]; rfl
          rw [ha]
          obtain ⟨z, hz⟩ : ∃ z, ls.getD i 0 = z := ⟨_, rfl⟩
          obtain ⟨tm, htm⟩ : ∃ tm, y'.t = tm := ⟨_, rfl⟩
          have htz : tm = min (max z 0) 1073741824 := by rw [← htm, hy, ← hz, ← putT0]; rfl
          rw [htm] at hlo hno hout hs4
          rw [show max last tm = tm by omega] at hs4
          have HTM := Aside0.mk htz
          have HS4 : Aside0 (SC w0.heap.size w4 s v4 tm k (pop elt ez H) ∧ Below w0.heap.size w0 w4 ∧ gm ≠ s ∧ v4.ownBlock ≠ some gm ∧ w0.heap.size ≤ gm) := ⟨hs4, Ch.onto HS.out.2.1 hc4 HS.out.2.1.size (fun q e => by rcases e with e | e; exact e ▸ HS.out.1.lo; exact own_base HS.out.1.row q e.symm), HS.out.2.2.1, by rw [hv4]; exact HS.out.2.2.2.1, HS.out.2.2.2.2⟩
          have HM4 : Aside0 (MB w4 gm k mt) := ⟨HMB.out.ch hc4 (by rintro (e | e); exact HS.out.2.2.1 e; exact HS.out.2.2.2.1 e.symm)⟩
          have HOUT : Aside0 (Out ls k r tm i (mt.set i true) ∧ Sch ez (pop elt ez H) r k ∧ r.length + (j + 1) = k ∧ 0 ≤ tm) := ⟨hout, hsn, by omega, by have := HO.out.2.2.2; omega⟩
          have HMI := Aside0.mk (And.intro hmi HO.out.1.mlen)
          clear hs4 hc4 hv4 hout hsn hh0 hdn hHl hy hy' ha htm htz HMB HS HO hmi
          go_upto_region 16 with fail
          have hal : Below w4.heap.size w4 (w4.alloc (.cells #[.int .i64 0, .int .i64 i, .int .i64 0, .bool false, .string ⟨#[]⟩] 28)) := below_alloc (Below.refl _ _) _
          have HS5 : Aside0 (SC w0.heap.size (w4.alloc (.cells #[.int .i64 0, .int .i64 i, .int .i64 0, .bool false, .string ⟨#[]⟩] 28)) s v4 tm k (pop elt ez H) ∧ Below w0.heap.size w0 (w4.alloc (.cells #[.int .i64 0, .int .i64 i, .int .i64 0, .bool false, .string ⟨#[]⟩] 28)) ∧ gm ≠ s ∧ v4.ownBlock ≠ some gm ∧ w0.heap.size ≤ gm) := ⟨HS4.out.1.below hal, below_step HS4.out.2.1 hal, HS4.out.2.2⟩
          have HM5 : Aside0 (MB (w4.alloc (.cells #[.int .i64 0, .int .i64 i, .int .i64 0, .bool false, .string ⟨#[]⟩] 28)) gm k mt ∧ (w4.alloc (.cells #[.int .i64 0, .int .i64 i, .int .i64 0, .bool false, .string ⟨#[]⟩] 28)).heap[w4.heap.size]? = some (.cells #[.int .i64 0, .int .i64 i, .int .i64 0, .bool false, .string ⟨#[]⟩] 28 (0, 0))) := ⟨HM4.out.ch (S := fun _ => False) (Ch.of_below hal) (fun e => e), blk_new w4 _⟩
          clear hal HS4 HM4
          generalize w4.alloc (.cells #[.int .i64 0, .int .i64 i, .int .i64 0, .bool false, .string ⟨#[]⟩] 28) = W5 at HS5 HM5 ⊢
          generalize w4.heap.size = x9 at HM5 ⊢
          obtain ⟨ad, rfl, hci⟩ := (HR.out.below HS5.out.2.1) i (by rw [HLN.out]; exact hi)
          rw [hz] at hci
          have c1 : W5.cell? ⟨x9, 1, none⟩ = some (.int .i64 i) := (blk_cell HM5.out.2 1).trans rfl
          have hiI : (i : Int) < k := by omega
          have hi0 : (0 : Int) ≤ i := by omega
          have hki : ¬ (k : Int) ≤ i := by omega
          have hwk : IntKind.i64.wrap ((k : Int) - 1) = (k : Int) - 1 := by rw [IntKind.wrap_i64]; omega
          have hik : ¬ (k : Int) - 1 < i := by omega
          clear hz
          go_cut [11] from 45 to 56 (fun x11 Wx => x11 = .int .i64 tm ∧ W5 = Wx)
          case first =>
            go_wp2_with fail
            all_goals
              go_meet
              case rel => exact ⟨congrArg _ (by have := HTM.out; omega), rfl⟩
          case rest =>
          obtain ⟨rfl, rfl⟩ := hcut
          clear hci
          go_upto_region 17 with fail
          go_cut [99] from 57 to 98 (fun x99 Wx => x99 = .bool false ∧ W5 = Wx)
          case first =>
            obtain ⟨m1, m2⟩ := HM5.out.1.cell i hi
            rw [HMI.out.1] at m1
            have ht1 : ¬ tm < last := by omega
            have hin : ¬ (i : Int) < 0 := by omega
            by_cases hE : tm = last
            · have hn1 := hno hE
              have hn2 : ¬ (i : Int) < node := by omega
              subst hE
              go_wp2_with fail
              refine (now_any HS5.out.1).mono ?_
              rintro e w6 ⟨rfl, rfl⟩
              go_wp2_with fail
              go_meet
              case rel => exact ⟨congrArg Value.bool (decide_eq_false (by omega)), rfl⟩
            · have hq : (tm == last) = false := beq_eq_false_iff_ne.2 hE
              go_wp2_with fail
              refine (now_any HS5.out.1).mono ?_
              rintro e w6 ⟨rfl, rfl⟩
              go_wp2_with fail
              go_meet
              case rel => exact ⟨congrArg Value.bool (decide_eq_false (by omega)), rfl⟩
          case rest =>
          obtain ⟨rfl, rfl⟩ := hcut
          go_wp2
          obtain ⟨wd, hwd⟩ : ∃ wd, W5.drew = wd := ⟨_, rfl⟩
          have HD : Aside0 (MB wd gm k mt ∧ wd.heap[x9]? = some (.cells #[.int .i64 0, .int .i64 i, .int .i64 0, .bool false, .string ⟨#[]⟩] 28 (0, 0)) ∧ SC w0.heap.size wd s v4 tm k (pop elt ez H) ∧ Below w0.heap.size w0 wd) := ⟨hwd ▸ ⟨⟨HM5.out.1.blk⟩, HM5.out.2, ⟨HS5.out.1.box, HS5.out.1.row, HS5.out.1.ne, HS5.out.1.lo⟩, HS5.out.2.1.drew⟩⟩
          have HSL := Aside0.mk HS5.out.2.2
          have HX9G : Aside0 (x9 ≠ gm) := ⟨by obtain ⟨cur, hcu, _⟩ := HM5.out.1.blk; exact blk_ne HM5.out.2 hcu (by decide)⟩
          clear HM5 HS5 c1
          refine St.steadyG (n := 10) (by kernel_rfl) ([] :: [] :: [(1, 101)] :: [] :: [] :: [(4, 104)] :: [(0, 100), (2, 102)] :: [(6, 106)] :: [(3, 103)] :: [(5, 105)] :: []) (some 100 :: some 101 :: some 102 :: some 103 :: some 104 :: some 105 :: some 106 :: none :: some 7 :: some 8 :: []) (by kernel_rfl) ((St.eqT ?c19_0x6) :: (St.eqT ?c19_1x6) :: (St.eqT ?c19_2x6) :: (St.eqT ?c19_3x6) :: (St.eqT ?c19_4x6) :: (St.eqT ?c19_5x6) :: (St.eqT ?c19_6x6) :: (St.eqT undef) :: (St.eqT ?c19_8x6) :: (St.eqT ?c19_9x6) :: []) rfl (by rfl) (fun fl w' => w' = (bif fl 7 then wd.setCell ⟨gm, i, none⟩ (.bool true) else wd)) (fun q wa wb => (q = 7 → wb = wa.setCell ⟨gm, i, none⟩ (.bool true)) ∧ (q ≠ 7 → wa = wb)) ?hst ?h0 (fun q w' => ∃ f, w' = (bif f then wd.setCell ⟨gm, i, none⟩ (.bool true) else wd) ∧ (q = 7 → f = false)) ?hB ?hG ?hop ?hend
          case hop =>
            refine ⟨?_, ?_, ?_, ?_, ?_, ?_, ?_, ?_, ?_, ?_, trivial⟩
            · intro w hB
              simp only [St.withD]
              refine St.ob_value (v := ?_) (w' := w) (by rfl) ?_ ⟨⟨fun e => absurd e (by decide), fun _ => rfl⟩, ?_⟩
              rotate_left
              · go_simp
                with_reducible rfl
              · rfl
            · intro w hB
              simp only [St.withD]
              refine St.ob_value (v := ?_) (w' := w) (by rfl) ?_ ⟨⟨fun e => absurd e (by decide), fun _ => rfl⟩, ?_⟩
              rotate_left
              · go_simp
                with_reducible rfl
              · rfl
            · intro w hB; rintro _ ⟨_, rfl⟩
              simp only [St.withD, List.nil_append, List.cons_append, Act.put, List.setIfInBounds_toArray, List.set_cons_zero, List.set_cons_succ]
              obtain ⟨f, hw, _⟩ := hB
              have c1 : w.cell? ⟨x9, 1, none⟩ = some (.int .i64 i) := by
                cases f
                · rw [hw]; exact (blk_cell HD.out.2.1 1).trans rfl
                · rw [hw]; exact (blk_cell (blk_far HD.out.2.1 (p := ⟨gm, i, none⟩) HX9G.out _) 1).trans rfl
              clear hw
              refine St.ob_value (v := ?_) (w' := w) (by rfl) ?_ ⟨⟨fun e => absurd e (by decide), fun _ => rfl⟩, ?_⟩
              rotate_left
              · go_simp
                with_reducible rfl
              · rfl
            · intro w hB
              simp only [St.withD]
              refine St.ob_value (v := ?_) (w' := w) (by rfl) ?_ ⟨⟨fun e => absurd e (by decide), fun _ => rfl⟩, ?_⟩
              rotate_left
              · go_simp
                with_reducible rfl
              · rfl
            · intro w hB
              simp only [St.withD]
              refine St.ob_value (v := ?_) (w' := w) (by rfl) ?_ ⟨⟨fun e => absurd e (by decide), fun _ => rfl⟩, ?_⟩
              rotate_left
              · go_simp
                with_reducible rfl
              · rfl
            · intro w hB; rintro _ ⟨_, rfl⟩
              simp only [St.withD, List.nil_append, List.cons_append, Act.put, List.setIfInBounds_toArray, List.set_cons_zero, List.set_cons_succ]
              obtain ⟨f, hw, _⟩ := hB
              have c1 : w.cell? ⟨x9, 1, none⟩ = some (.int .i64 i) := by
                cases f
                · rw [hw]; exact (blk_cell HD.out.2.1 1).trans rfl
                · rw [hw]; exact (blk_cell (blk_far HD.out.2.1 (p := ⟨gm, i, none⟩) HX9G.out _) 1).trans rfl
              clear hw
              refine St.ob_value (v := ?_) (w' := w) (by rfl) ?_ ⟨⟨fun e => absurd e (by decide), fun _ => rfl⟩, ?_⟩
              rotate_left
              · go_simp
                with_reducible rfl
              · rfl
            · intro w hB; rintro _ ⟨_, rfl⟩ _ ⟨_, rfl⟩
              simp only [St.withD, List.nil_append, List.cons_append, Act.put, List.setIfInBounds_toArray, List.set_cons_zero, List.set_cons_succ]
              refine St.ob_value (v := ?_) (w' := w) (by rfl) ?_ ⟨⟨fun e => absurd e (by decide), fun _ => rfl⟩, ?_⟩
              rotate_left
              · go_simp
                with_reducible rfl
              · rfl
            · intro w hB; rintro _ ⟨_, rfl⟩
              simp only [St.withD, List.nil_append, List.cons_append, Act.put, List.setIfInBounds_toArray, List.set_cons_zero, List.set_cons_succ]
              obtain ⟨f, hw, h7⟩ := hB
              have e := h7 rfl
              subst e
              have hw2 : w = wd := hw
              obtain ⟨m1, m2⟩ := HD.out.1.cell i hi
              rw [← hw2] at m1 m2
              refine St.ob_skip (w' := w.setCell ⟨gm, i, none⟩ (.bool true)) (by rfl) ?_ ⟨⟨fun _ => rfl, fun e => absurd rfl e⟩, rfl⟩
              clear hw hw2
              go_simp
            · intro w hB; rintro _ ⟨_, rfl⟩
              simp only [St.withD, List.nil_append, List.cons_append, Act.put, List.setIfInBounds_toArray, List.set_cons_zero, List.set_cons_succ]
              refine St.ob_value (v := ?_) (w' := w) (by rfl) ?_ ⟨⟨fun e => absurd e (by decide), fun _ => rfl⟩, ?_⟩
              rotate_left
              · go_simp
                with_reducible rfl
              · rfl
            · intro w hB; rintro _ ⟨_, rfl⟩
              simp only [St.withD, List.nil_append, List.cons_append, Act.put, List.setIfInBounds_toArray, List.set_cons_zero, List.set_cons_succ]
              refine St.ob_value (v := ?_) (w' := w) (by rfl) ?_ ⟨⟨fun e => absurd e (by decide), fun _ => rfl⟩, ?_⟩
              rotate_left
              · go_simp
                with_reducible rfl
              · rfl
          case hst =>
            intro i j fl hi hj _ _ _ ds v wa wb ht _
            refine St.sts_get (Rel := fun _ _ _ => True) 0 _ j (by simpa using hj) ?_ ds v wa wb ht trivial
            exact ⟨St.eqT_st, St.eqT_st, St.eqT_st, St.eqT_st, St.eqT_st, St.eqT_st, St.eqT_st, St.eqT_st, St.eqT_st, St.eqT_st, trivial⟩
          case h0 => exact hwd
          case hB => exact fun q fl w' _ hfq _ _ hG => ⟨_, hG, fun e => e ▸ hfq⟩
          case hG => (
            intro q fl wa wb hq hfq _ _ hG hR
            by_cases h7 : q = 7
            · subst h7
              have e := hR.1 rfl
              rw [hfq] at hG
              have a7 : St.upB fl 7 7 = true := by unfold St.upB; rw [if_pos rfl]
              rw [a7, e, hG]
              rfl
            · have e := hR.2 h7
              subst e
              have a7 : St.upB fl q 7 = fl 7 := by unfold St.upB; rw [if_neg (Ne.symm h7)]
              rw [a7]
              exact hG)
          case hend =>
            intro fl w hall hB
            rintro _ rfl _ rfl _ rfl _ rfl _ rfl _ rfl _ rfl _ rfl _ rfl _ rfl
            simp only [List.map_cons, List.map_nil, List.nil_append, List.cons_append, List.getD_cons_zero, List.getD_cons_succ, Act.put, List.setIfInBounds_toArray, List.set_cons_zero, List.set_cons_succ]
            rw [St.withE_nil]
            have h7 := hall 7 (by decide)
            rw [h7] at hB
            have hBB : w = wd.setCell ⟨gm, i, none⟩ (.bool true) := hB
            clear hB hall h7
            subst hBB
            have HFM : Aside0 (MB (wd.setCell ⟨gm, i, none⟩ (.bool true)) gm k (mt.set i true)) := ⟨HD.out.1.set i hi HMI.out.2⟩
            have HFS : Aside0 (SC w0.heap.size (wd.setCell ⟨gm, i, none⟩ (.bool true)) s v4 tm k (pop elt ez H) ∧ Below w0.heap.size w0 (wd.setCell ⟨gm, i, none⟩ (.bool true)) ∧ gm ≠ s ∧ v4.ownBlock ≠ some gm ∧ w0.heap.size ≤ gm) := ⟨HD.out.2.2.1.far HSL.out.1 HSL.out.2.1, Below.setCell HD.out.2.2.2 HSL.out.2.2 _, HSL.out⟩
            go_wp2
            go_roundg (gk - 1)
            case measure => have := HK2.out; omega
            case rel => exact ⟨j + 1, tm, i, v4, pop elt ez H, r, mt.set i true, ⟨by have := HK2.out; omega⟩, rfl, rfl, by go_num, HOUT, HFM, HFS⟩
        · have hj : j = k := by have := HK2.out; omega
          subst hj
          have hD0 : D = [] := by
            have := HO.out.2.2.1
            exact List.eq_nil_of_length_eq_zero (by omega)
          subst hD0
          have hH0 : H = [] := List.eq_nil_of_length_eq_zero (by rw [HO.out.2.1.len]; rfl)
          subst hH0
          have hjj : ¬ (j : Int) < j := by omega
          go_wp2_with fail
          refine (next_none wr HS.out.1).mono ?_
          rintro e w5 ⟨rfl, hb5⟩
          have hs5 := HS.out.1.below hb5
          have HS5 : Aside0 (SC w0.heap.size w5 s v last j [] ∧ Below w0.heap.size w0 w5) := ⟨hs5, below_step HS.out.2.1 hb5⟩
          clear hs5 hb5
          go_wp2_with fail
          refine (len_any (HS5.out.1.below (below_alloc (Below.refl _ _) _))).mono ?_
          rintro e w6 ⟨rfl, rfl⟩
          have hal := below_step HS5.out.2 (below_alloc (Below.refl w5.heap.size w5) (.cells #[.int .i64 0, .int .i64 0, .int .i64 0, .bool false, .string ⟨#[]⟩] 28))
          have HAL := Aside0.mk hal
          clear hal
          go_wp2
          go_ret
          exact ⟨rfl, HAL.out⟩

end Go.Proofs.Ytfijbhacobjjgag
