/- TopkWords: the walk. -/
import Derived.Test.YtfijbhacobjjgahWordsA
import Derived.Test.YtfijbhacobjjgahOpen
import Derived.Deep.CutBlock
namespace Go.Proofs.Ytfijbhacobjjgah
open Go.RowKit Go.Proofs.YtfijbhacobjjgahW.PrintWords Go.Proofs.YtfijbhacobjjgahW.PrintLast Go.Proofs.YtfijbhacobjjgahW.PrintMore Go.Proofs.Ytfijbhacobjjgah.Fr
set_option linter.unusedVariables false
set_option linter.unusedSimpArgs false
attribute [local go_sem] max2_int min2_int max_two min_two

open Pl Hp
theorem count_n {B g md room : Nat} {D : DW} {L : List It} {w : World} {n : Int} {s : ByteArray} (hn : cnt s L = n) (hs : s.size ≤ 9223372036854775807) (h : TB B w g md room D L) : Calls Try.prog 17 #[.pointer (some ⟨g, 0, none⟩), .string s] w fun e w' => e = .returned (.int .i64 n) ∧ w = w' := by
  rw [← hn]; exact tcount_any h s hs
theorem words_len {sz : Int} {A : Option Addr} {ca k la : Nat} {l : List ByteArray} {w0 : World} (hla : l.length = la) (hrd : RdS w0 A l) (hl : la ≤ 20) (hcap : la ≤ ca) (hsz : ∀ s ∈ l, s.size ≤ 60) (hk : brI sz 1 64 = k) :
    Calls Try.prog 18 #[.slice A la ca, .int .i64 sz] w0 (WordsPost k l w0) := by
  subst hla; exact words_any sz A ca k l w0 hrd hl hcap hsz hk
set_option maxRecDepth 100000 in
set_option maxHeartbeats 8000000 in
theorem words_walk (A : Option Addr) (la ca : Nat) (l : List ByteArray) (sz : Int) (hz : (Lit.int .i64 sz).wf = true) (w0 : World) (hl : IsStrs w0 A la ca l) :
    Calls Try.prog 5 #[.slice A la ca, .int .i64 sz] w0 fun e w' => e = .returned (.bool true) ∧ Below w0.heap.size w0 w' := by
  obtain ⟨hla, hcap, _, hrd, _, _⟩ := hl
  have HB := Aside0.mk (Below.refl w0.heap.size w0)
  clear hz
  by_cases hbig : 20 < la
  · go_enter Try.func5, Try.ntmps5
    go_wp2_with ((go_at_call 6; refine (awake_any _).mono ?_; rintro e w1 ⟨rfl, hb⟩; have zz_HB := Aside0.mk (below_step HB.out hb); clear HB; have HB := zz_HB; clear zz_HB; clear hb))
    go_ret
    exact ⟨rfl, HB.out⟩
  have hl20 : la ≤ 20 := by omega
  obtain ⟨k, hk⟩ : ∃ k : Nat, brI sz 1 64 = k := ⟨(brI sz 1 64).toNat, by unfold brI; omega⟩
  have hk1 : 1 ≤ k ∧ k ≤ 64 := by unfold brI at hk; omega
  have hkm : min (max sz 1) 64 = (k : Int) := hk
  have HK := Aside0.mk hk
  have HD := Aside0.mk (And.intro hrd (And.intro hla hcap))
  clear hrd hla hcap hbig hk
  go_enter Try.func5, Try.ntmps5
  go_upto_region 5 with ((go_at_call 6; refine (awake_any _).mono ?_; rintro e w1 ⟨rfl, hb⟩; have zz_HB := Aside0.mk (below_step HB.out hb); clear HB; have HB := zz_HB; clear zz_HB; clear hb))
  go_cut [5] from 18 to 21 (fun x5 Wx => x5 = .int .i64 k ∧ w1 = Wx)
  case first =>
    go_wp2_with fail
    all_goals
      go_meet
      case rel => exact ⟨congrArg (Value.int .i64) (by omega), rfl⟩
  case rest =>
  obtain ⟨rfl, rfl⟩ := hcut
  clear hkm
  go_wp2_with fail
  refine (rnew_any 1000 w1).mono ?_
  rintro e w2 ⟨b, room, hroom, rfl, ht, hb⟩
  have hrm : room = 1000 := by have : brI 1000 1 1000 = 1000 := by decide
                               omega
  subst hrm
  have HT : Aside0 ((∃ v, DT w0.heap.size w2 b 1000 v (allL k (l.take 0))) ∧ Below w0.heap.size w0 w2 ∧ ∀ s ∈ l.take 0, s.size ≤ 60) := ⟨⟨_, ⟨ht.box, own_less ht.row HB.out.size, ht.ne, Nat.le_trans HB.out.size ht.lo⟩⟩, below_step HB.out hb, by simp⟩
  clear ht hb hroom HB
  go_wp2_with fail
  go_loopg [24] la (fun d x24 wr => ∃ (i : Nat), Aside0 (i + d = la) ∧ x24 = .int .i64 i ∧ Aside0 ((∃ v, DT w0.heap.size wr b 1000 v (allL k (l.take i))) ∧ Below w0.heap.size w0 wr ∧ ∀ s ∈ l.take i, s.size ≤ 60))
  case atStart => exact ⟨0, ⟨by omega⟩, rfl, HT⟩
  case round =>
    clear HT
    obtain ⟨i, HI, rfl, HT⟩ := hrel
    by_cases hlt : i < la
    · have hil : i < l.length := by rw [HD.out.2.1]; exact hlt
      obtain ⟨ad, rfl, hc⟩ := (HD.out.1.below HT.out.2.1) i hil
      obtain ⟨r, hr⟩ : ∃ r, l.getD i ByteArray.empty = r := ⟨_, rfl⟩
      rw [hr] at hc
      have hli : (i : Int) < la := by omega
      by_cases h60 : 60 < r.size
      · have h61 : (60 : Int) < r.size := by omega
        go_wp2
        go_ret
        exact ⟨rfl, HT.out.2.1⟩
      have h61 : (r.size : Int) ≤ 60 := by omega
      have hst := allL_step k l i hil
      rw [hr] at hst
      have hwl := allL_wl k l i (by omega)
      obtain ⟨L0, hL0⟩ : ∃ L0, allL k (l.take i) = L0 := ⟨_, rfl⟩
      rw [hL0] at hst hwl
      have HST := Aside0.mk (And.intro hst (And.intro hwl (And.intro hr hil)))
      have HT2 : Aside0 ((∃ v, DT w0.heap.size wr b 1000 v L0) ∧ Below w0.heap.size w0 wr) := ⟨hL0 ▸ HT.out.1, HT.out.2.1⟩
      have HSZ : Aside0 (∀ s ∈ l.take i, s.size ≤ 60) := ⟨HT.out.2.2⟩
      obtain ⟨m, hm⟩ : ∃ m, r.size = m := ⟨_, rfl⟩
      have HMZ := Aside0.mk hm
      have hm60 : m ≤ 60 := by omega
      clear hst hwl hL0 hr hil HT h60
      go_wp2_with fail
      obtain ⟨gk0, hgk0⟩ : ∃ gk0, gk = gk0 := ⟨_, rfl⟩
      have HG := Aside0.mk hgk0
      clear hgk0 hc
      go_loopg [9] (m + 1 - k) (fun d x9 wr => ∃ (i2 : Nat), Aside0 (i2 + d = m + 1 - k) ∧ x9 = .int .i64 i2 ∧ Aside0 ((∃ v, DT w0.heap.size wr b 1000 v (stp k r L0 i2)) ∧ Below w0.heap.size w0 wr))
      case atStart => exact ⟨0, ⟨by omega⟩, rfl, HT2⟩
      case round =>
        clear HT2
        obtain ⟨i2, HI2, rfl, HT2⟩ := hrel
        by_cases hlt2 : i2 + k ≤ m
        · have hikI : (i2 : Int) + k ≤ m := by omega
          have hwik : IntKind.i64.wrap ((i2 : Int) + k) = (i2 : Int) + k := by rw [IntKind.wrap_i64]; omega
          go_wp2_with fail
          obtain ⟨v, hv⟩ := HT2.out.1
          refine (radd_any (r.extract i2 (i2 + k)) 1 wr hv HT2.out.2.size (stp_wl HST.out.2.1 i2) (by decide)).mono ?_
          rintro e w5 ⟨v5, rfl, h5, hc5, _⟩
          have HT5 : Aside0 ((∃ v, DT w0.heap.size w5 b 1000 v (stp k r L0 (i2 + 1))) ∧ Below w0.heap.size w0 w5) := ⟨⟨v5, h5⟩, Ch.onto HT2.out.2 hc5 HT2.out.2.size (fun j e => by rcases e with e | e; exact e ▸ hv.lo; exact own_base hv.row j e.symm)⟩
          clear h5 hc5 hv HT2
          go_wp2
          go_roundg (gk - 1)
          case measure => have := HI2.out; omega
          case rel => exact ⟨i2 + 1, ⟨by have := HI2.out; omega⟩, by go_num, HT5⟩
        · have hikI : ¬ (i2 : Int) + k ≤ m := by omega
          have hwik : IntKind.i64.wrap ((i2 : Int) + k) = (i2 : Int) + k := by have := HI2.out; rw [IntKind.wrap_i64]; omega
          have hi2 : i2 = r.size + 1 - k := by have := HI2.out; have := HMZ.out; omega
          have HF : Aside0 ((∃ v, DT w0.heap.size wr b 1000 v (allL k (l.take (i + 1)))) ∧ Below w0.heap.size w0 wr ∧ ∀ s ∈ l.take (i + 1), s.size ≤ 60) := ⟨by rw [HST.out.1]; unfold recL; rw [← hi2]; exact HT2.out.1, HT2.out.2, fun s hs => by
            rw [List.take_succ_eq_append_getElem HST.out.2.2.2] at hs
            rcases List.mem_append.1 hs with hs | hs
            · exact HSZ.out s hs
            · simp at hs
              have hr := HST.out.2.2.1
              rw [List.getD_eq_getElem?_getD, List.getElem?_eq_getElem HST.out.2.2.2] at hr
              simp only [Option.getD_some] at hr
              rw [hs, hr, HMZ.out]; exact hm60⟩
          clear hi2 HT2
          go_wp2
          go_roundg (gk0 - 1)
          case measure => have := HI.out; have := HG.out; omega
          case rel => exact ⟨i + 1, ⟨by have := HI.out; have := HG.out; omega⟩, by go_num, HF⟩
    · have hin : i = la := by have := HI.out; omega
      have hii : ¬ (i : Int) < la := by omega
      have htk : l.take i = l := List.take_of_length_le (Nat.le_of_eq (HD.out.2.1.trans hin.symm))
      rw [htk] at HT
      have HWL : Aside0 (WL 1000 (allL k l)) := ⟨by have := allL_wl k l l.length (Nat.le_refl _); rw [List.take_length] at this; exact this⟩
      have HSX : Aside0 (∀ x ∈ allL k l, x.t.size ≤ 64) := ⟨fun x hx => by have := allL_size k l l.length (Nat.le_refl _) x (by rw [List.take_length]; exact hx); omega⟩
      obtain ⟨v, hv⟩ := HT.out.1
      have HV := Aside0.mk hv
      clear hv hlt htk
      go_wp2_with fail
      refine (words_len HD.out.2.1 (HD.out.1.below HT.out.2.1) hl20 HD.out.2.2 HT.out.2.2 HK.out).mono ?_
      rintro e wn ⟨g, md, D, rfl, hx, hbn⟩
      obtain ⟨A2, c2, rfl, _⟩ := HV.out.slice
      obtain ⟨n, hn⟩ : ∃ n, (allL k l).length = n := ⟨_, rfl⟩
      have HN := Aside0.mk hn
      have HX := Aside0.mk hx
      have HY := Aside0.mk (HV.out.below hbn)
      have HB0 := Aside0.mk (below_step HT.out.2.1 hbn)
      have hbx := HY.out.box
      rw [hn] at hbx
      have HBX := Aside0.mk hbx
      have HBN := Aside0.mk (Below.refl wn.heap.size wn)
      have hnn : ((n : Int) != n) = false := by simp
      have hn1000 : n ≤ 1000 := by rw [← hn]; exact HWL.out.len
      have k0 : wn.cell? ⟨b, 1, none⟩ = some (.slice A2 n c2) := (blk_cell hbx 1).trans rfl
      clear hx hbn hn hbx HV HT k0
      go_wp2
      refine St.steadyR (n := 8) (by kernel_rfl) ([] :: [(0, 51)] :: [] :: [(2, 53)] :: [(3, 54)] :: [(4, 55)] :: [(5, 56)] :: [(1, 52), (6, 57)] :: []) (some 51 :: some 52 :: some 53 :: some 54 :: some 55 :: some 56 :: some 57 :: some 58 :: []) (by kernel_rfl) ((St.eqT ?c18_0x17) :: (St.eqT ?c18_1x17) :: (St.eqT ?c18_2x17) :: (St.eqT ?c18_3x17) :: (St.eqT ?c18_4x17) :: (St.eqT ?c18_5x17) :: (St.eqT ?c18_6x17) :: (St.eqT (.bool false)) :: []) rfl (by rfl) (fun w' => Below wn.heap.size wn w') (fun w w' => Below w.heap.size w w') ?hst ?h0 ?hB ?hop ?hend
      case hop =>
        refine ⟨?_, ?_, ?_, ?_, ?_, ?_, ?_, ?_, trivial⟩
        · intro w hB
          simp only [St.withD]
          refine St.ob_value (v := ?_) (w' := w) (by rfl) ?_ ⟨Below.refl _ _, ?_⟩
          rotate_left
          · go_simp
            with_reducible rfl
          · rfl
        · intro w hB; rintro _ ⟨_, rfl⟩
          simp only [St.withD, List.nil_append, List.cons_append, Act.put, List.setIfInBounds_toArray, List.set_cons_zero, List.set_cons_succ]
          refine St.ob_call Try.func16 (by kernel_rfl) rfl #[.pointer (some ⟨g, 0, none⟩)] (by rfl) rfl (by (try simp only [List.map_toArray, List.map_cons, List.map_nil]); first | done | rfl | (simp only [List.length_drop, List.length_take]; rfl)) ?_
          refine (len_x HN.out ⟨_, HX.out.below hB, rfl⟩).mono ?_
          rintro e w1 ⟨rfl, rfl⟩
          refine ⟨_, rfl, Below.refl _ _, ?_⟩
          rfl
        · intro w hB
          simp only [St.withD]
          refine St.ob_value (v := ?_) (w' := w) (by rfl) ?_ ⟨Below.refl _ _, ?_⟩
          rotate_left
          · go_simp
            with_reducible rfl
          · rfl
        · intro w hB; rintro _ ⟨_, rfl⟩
          simp only [St.withD, List.nil_append, List.cons_append, Act.put, List.setIfInBounds_toArray, List.set_cons_zero, List.set_cons_succ]
          refine St.ob_value (v := ?_) (w' := w) (by rfl) ?_ ⟨Below.refl _ _, ?_⟩
          rotate_left
          · go_simp
            with_reducible rfl
          · rfl
        · intro w hB; rintro _ ⟨_, rfl⟩
          simp only [St.withD, List.nil_append, List.cons_append, Act.put, List.setIfInBounds_toArray, List.set_cons_zero, List.set_cons_succ]
          refine St.ob_value (v := ?_) (w' := w) (by rfl) ?_ ⟨Below.refl _ _, ?_⟩
          rotate_left
          · go_simp
            with_reducible rfl
          · rfl
        · intro w hB; rintro _ ⟨_, rfl⟩
          simp only [St.withD, List.nil_append, List.cons_append, Act.put, List.setIfInBounds_toArray, List.set_cons_zero, List.set_cons_succ]
          have k1 : w.cell? ⟨b, 1, none⟩ = some (.slice A2 n c2) := (blk_cell (blk_below HBX.out hB) 1).trans rfl
          refine St.ob_value (v := ?_) (w' := w) (by rfl) ?_ ⟨Below.refl _ _, ?_⟩
          rotate_left
          · go_simp
            with_reducible rfl
          · rfl
        · intro w hB; rintro _ ⟨_, rfl⟩
          simp only [St.withD, List.nil_append, List.cons_append, Act.put, List.setIfInBounds_toArray, List.set_cons_zero, List.set_cons_succ]
          refine St.ob_value (v := ?_) (w' := w) (by rfl) ?_ ⟨Below.refl _ _, ?_⟩
          rotate_left
          · go_simp
            with_reducible rfl
          · rfl
        · intro w hB; rintro _ ⟨_, rfl⟩ _ ⟨_, rfl⟩
          simp only [St.withD, List.nil_append, List.cons_append, Act.put, List.setIfInBounds_toArray, List.set_cons_zero, List.set_cons_succ]
          refine St.ob_value (v := .bool false) (w' := w) (by rfl) ?_ ⟨Below.refl _ _, rfl⟩
          clear hB
          go_simp
          try rfl
      case hst => exact ⟨St.eqT_st, St.eqT_st, St.eqT_st, St.eqT_st, St.eqT_st, St.eqT_st, St.eqT_st, St.eqT_st, trivial⟩
      case h0 => exact below_drew1 HBN.out
      case hB => exact fun w w' h k => below_step h k
      case hend =>
        intro w hB
        rintro _ rfl _ rfl _ rfl _ rfl _ rfl _ rfl _ rfl _ rfl
        simp only [List.map_cons, List.map_nil, List.nil_append, List.cons_append, List.getD_cons_zero, List.getD_cons_succ, Act.put, List.setIfInBounds_toArray, List.set_cons_zero, List.set_cons_succ]
        rw [St.withE_nil]
        have HBN2 := Aside0.mk hB
        clear hB HBN
        have k1 : w.cell? ⟨b, 1, none⟩ = some (.slice A2 n c2) := (blk_cell (blk_below HBX.out HBN2.out) 1).trans rfl
        go_wp2_with fail
        go_loopg [64] n (fun d x64 wr => ∃ (j : Nat), Aside0 (j + d = n) ∧ x64 = .int .i64 j ∧ Aside0 (Below wn.heap.size wn wr))
        case atStart => exact ⟨0, ⟨by omega⟩, rfl, HBN2⟩
        case round =>
          clear HBN2
          obtain ⟨j, HJ, rfl, HW⟩ := hrel
          by_cases hlt : j < n
          · have hjl : j < (allL k l).length := by rw [HN.out]; exact hlt
            obtain ⟨gr, rfl, a0, a1, _⟩ := own_item (HY.out.below HW.out).row j hjl
            obtain ⟨x, hx⟩ : ∃ x, (allL k l).getD j ez = x := ⟨_, rfl⟩
            have hxj : (allL k l)[j] = x := by rw [← hx, List.getD_eq_getElem?_getD, List.getElem?_eq_getElem hjl]; rfl
            have hcx : cnt x.t (allL k l) = x.c := by rw [← hxj]; exact cnt_in HWL.out.nd hjl
            have hsx : x.t.size ≤ 9223372036854775807 := by have := HSX.out x (by rw [← hxj]; exact List.getElem_mem hjl); omega
            rw [hx] at a0 a1
            obtain ⟨tx, cx⟩ := x
            simp only at a0 a1 hcx hsx
            have HCX := Aside0.mk (And.intro hcx hsx)
            have hli : (j : Int) < n := by omega
            have hcc : (cx != cx) = false := by simp
            clear hjl hx hxj hcx hsx
            go_upto_region 23 with fail
            obtain ⟨wq, hwq⟩ : ∃ wq, wr.alloc (.cells #[.string tx, .int .i64 cx] 37) = wq := ⟨_, rfl⟩
            obtain ⟨q, hqs⟩ : ∃ q, wr.heap.size = q := ⟨_, rfl⟩
            have HQ : Aside0 (wq.heap[q]? = some (.cells #[.string tx, .int .i64 cx] 37 (0, 0))) := ⟨by rw [← hwq, ← hqs]; exact blk_new wr _⟩
            have HWQ : Aside0 (Below wn.heap.size wn wq) := ⟨by rw [← hwq]; exact below_alloc HW.out _⟩
            rw [hwq, hqs]
            clear hwq hqs HW a0 a1
            go_wp2
            refine St.steadyR (n := 7) (by kernel_rfl) ([] :: [] :: [(1, 69)] :: [(0, 68), (2, 70)] :: [] :: [(4, 72)] :: [(3, 71), (5, 73)] :: []) (some 68 :: some 69 :: some 70 :: some 71 :: some 72 :: some 73 :: some 74 :: []) (by kernel_rfl) ((St.eqT ?c23_0x18) :: (St.eqT ?c23_1x18) :: (St.eqT ?c23_2x18) :: (St.eqT ?c23_3x18) :: (St.eqT ?c23_4x18) :: (St.eqT ?c23_5x18) :: (St.eqT (.bool false)) :: []) rfl (by rfl) (fun w' => Below wq.heap.size wq w') (fun w w' => Below w.heap.size w w') ?hst ?h0 ?hB ?hop ?hend
            case hop =>
              refine ⟨?_, ?_, ?_, ?_, ?_, ?_, ?_, trivial⟩
              · intro w hB
                simp only [St.withD]
                refine St.ob_value (v := ?_) (w' := w) (by rfl) ?_ ⟨Below.refl _ _, ?_⟩
                rotate_left
                · go_simp
                  with_reducible rfl
                · rfl
              · intro w hB
                simp only [St.withD]
                refine St.ob_value (v := ?_) (w' := w) (by rfl) ?_ ⟨Below.refl _ _, ?_⟩
                rotate_left
                · go_simp
                  with_reducible rfl
                · rfl
              · intro w hB; rintro _ ⟨_, rfl⟩
                simp only [St.withD, List.nil_append, List.cons_append, Act.put, List.setIfInBounds_toArray, List.set_cons_zero, List.set_cons_succ]
                have q0 : w.cell? ⟨q, 0, none⟩ = some (.string tx) := (blk_cell (blk_below HQ.out hB) 0).trans rfl
                have q1 : w.cell? ⟨q, 1, none⟩ = some (.int .i64 cx) := (blk_cell (blk_below HQ.out hB) 1).trans rfl
                refine St.ob_value (v := ?_) (w' := w) (by rfl) ?_ ⟨Below.refl _ _, ?_⟩
                rotate_left
                · go_simp
                  with_reducible rfl
                · rfl
              · intro w hB; rintro _ ⟨_, rfl⟩ _ ⟨_, rfl⟩
                simp only [St.withD, List.nil_append, List.cons_append, Act.put, List.setIfInBounds_toArray, List.set_cons_zero, List.set_cons_succ]
                refine St.ob_call Try.func17 (by kernel_rfl) rfl #[.pointer (some ⟨g, 0, none⟩), .string tx] (by rfl) rfl (by (try simp only [List.map_toArray, List.map_cons, List.map_nil]); first | done | rfl | (simp only [List.length_drop, List.length_take]; rfl)) ?_
                refine (count_n HCX.out.1 HCX.out.2 ((HX.out.below HWQ.out).below hB)).mono ?_
                rintro e w1 ⟨rfl, rfl⟩
                refine ⟨_, rfl, Below.refl _ _, ?_⟩
                rfl
              · intro w hB
                simp only [St.withD]
                refine St.ob_value (v := ?_) (w' := w) (by rfl) ?_ ⟨Below.refl _ _, ?_⟩
                rotate_left
                · go_simp
                  with_reducible rfl
                · rfl
              · intro w hB; rintro _ ⟨_, rfl⟩
                simp only [St.withD, List.nil_append, List.cons_append, Act.put, List.setIfInBounds_toArray, List.set_cons_zero, List.set_cons_succ]
                have q0 : w.cell? ⟨q, 0, none⟩ = some (.string tx) := (blk_cell (blk_below HQ.out hB) 0).trans rfl
                have q1 : w.cell? ⟨q, 1, none⟩ = some (.int .i64 cx) := (blk_cell (blk_below HQ.out hB) 1).trans rfl
                refine St.ob_value (v := ?_) (w' := w) (by rfl) ?_ ⟨Below.refl _ _, ?_⟩
                rotate_left
                · go_simp
                  with_reducible rfl
                · rfl
              · intro w hB; rintro _ ⟨_, rfl⟩ _ ⟨_, rfl⟩
                simp only [St.withD, List.nil_append, List.cons_append, Act.put, List.setIfInBounds_toArray, List.set_cons_zero, List.set_cons_succ]
                refine St.ob_value (v := .bool false) (w' := w) (by rfl) ?_ ⟨Below.refl _ _, rfl⟩
                clear hB
                go_simp
                try rfl
            case hst => exact ⟨St.eqT_st, St.eqT_st, St.eqT_st, St.eqT_st, St.eqT_st, St.eqT_st, St.eqT_st, trivial⟩
            case h0 => exact below_drew1 (Below.refl _ _)
            case hB => exact fun w w' h k => below_step h k
            case hend =>
              intro w hB
              rintro _ rfl _ rfl _ rfl _ rfl _ rfl _ rfl _ rfl
              simp only [List.map_cons, List.map_nil, List.nil_append, List.cons_append, List.getD_cons_zero, List.getD_cons_succ, Act.put, List.setIfInBounds_toArray, List.set_cons_zero, List.set_cons_succ]
              rw [St.withE_nil]
              have HF := Aside0.mk (below_step HWQ.out hB)
              clear hB
              go_wp2
              go_roundg (gk - 1)
              case measure => have := HJ.out; omega
              case rel => exact ⟨j + 1, ⟨by have := HJ.out; omega⟩, by go_num, HF⟩
          · have hjn : j = n := by have := HJ.out; omega
            have hii : ¬ (j : Int) < n := by omega
            clear hlt
            go_wp2_with fail
            refine (top_is 10 ⟨_, HX.out.below HW.out, rfl⟩).mono ?_
            rintro e w3 ⟨tv, rfl, ht, hb3⟩
            have HTV := Aside0.mk ht
            have HW3 := Aside0.mk (below_step HW.out hb3)
            clear ht hb3 HW
            go_wp2_with fail
            refine (ranked_y HTV.out ⟨_, HY.out.below HW3.out, rfl⟩ HWL.out (by decide)).mono ?_
            rintro e w4 ⟨rfl, hb4⟩
            have HB4 := Aside0.mk (below_low HB0.out (below_step HW3.out hb4) HB0.out.size)
            clear hb4
            go_wp2
            go_ret
            exact ⟨rfl, HB4.out⟩
end Go.Proofs.Ytfijbhacobjjgah
