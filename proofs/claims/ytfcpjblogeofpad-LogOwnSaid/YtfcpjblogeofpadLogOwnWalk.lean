/- The walk of LogOwn: it answers true. -/
import Derived.Test.YtfcpjblogeofpadLogAwake
import Derived.Test.YtfcpjblogeofpadSteadyT
import Derived.Lib.SliceRun
namespace Go.Proofs.Ytfcpjblogeofpad
open Go.RowKit Go.Proofs.YtfcpjblogeofpadW.PrintWords Go.Proofs.YtfcpjblogeofpadW.PrintLast Go.Proofs.YtfcpjblogeofpadW.PrintMore Go.Proofs.Ytfcpjblogeofpad.Fr
set_option linter.unusedVariables false
set_option linter.unusedSimpArgs false

/-- A log, and a row of the caller's that says the same. -/
structure Two (B : Nat) (a : World) (w : World) (g : Nat) (v : Value) (l : List ByteArray) (base : Nat) (bytes : Int) (vk : Value) (lk : List ByteArray) : Prop where
  log : LogIn B a w g v l base bytes
  row : w.ownsRow B 9 1 vk (svals lk).length (svals lk)
  dis : ∀ i, vk.ownBlock = some i → i ≠ g ∧ v.ownBlock ≠ some i
def Free (B g : Nat) (v vk : Value) (i : Nat) : Prop := B ≤ i ∧ i ≠ g ∧ v.ownBlock ≠ some i ∧ vk.ownBlock ≠ some i
variable {B : Nat} {a w w1 : World} {g : Nat} {v vk : Value} {l lk : List ByteArray} {base : Nat} {bytes : Int}
theorem Two.from (h : Two B a w g v l base bytes vk lk) (k : Below w.heap.size w w1) : Two B a w1 g v l base bytes vk lk := ⟨h.log.from k, pw_own_below h.row k, h.dis⟩
theorem Two.free (h : Two B a w g v l base bytes vk lk) {i : Nat} (hi : w.heap.size ≤ i) : Free B g v vk i :=
  ⟨Nat.le_trans h.log.hB hi, fun e => by have := blk_lt h.log.log.box; omega, fun e => by have := own_lt h.log.log.row _ e; omega, fun e => by have := own_lt h.row _ e; omega⟩
theorem Two.set (h : Two B a w g v l base bytes vk lk) {p : Nat} (hf : Free B g v vk p) (i : Nat) (u : Value) : Two B a (w.setCell ⟨p, i, none⟩ u) g v l base bytes vk lk :=
  ⟨⟨⟨blk_far h.log.log.box (Ne.symm hf.2.1) u, own_setCell h.log.log.row (Ne.symm hf.2.2.1) _, h.log.log.ne⟩, Ch.onto (S := fun j => j = p) h.log.below ((Ch.refl _ _).set rfl) h.log.hB (fun i e => e ▸ hf.1), by simp [World.setCell]; exact h.log.hB, h.log.hg⟩, own_setCell h.row (Ne.symm hf.2.2.2) _, h.dis⟩
theorem append_two (s : ByteArray) (h : Two B a w g v l base bytes vk lk) (hs : s.size ≤ 512) (hl : l.length < 400) (hb0 : 0 ≤ bytes) (hb1 : bytes ≤ 1000000000) :
    Calls Try.prog 8 #[.pointer (some ⟨g, 0, none⟩), .string s] w fun e w' => ∃ v1, e = .returned (.tuple #[.int .i64 l.length, .int .i64 0]) ∧ Two B a w' g v1 (l ++ [s]) base (bytes + s.size) vk lk :=
  (append_any B g v l base bytes s w h.log.log h.log.hB hs hl hb0 hb1).mono fun e w' ⟨v1, he, hl, hc, hv⟩ => ⟨v1, he, ⟨hl, onto h.log.below hc h.log.hB h.log.hg (own_base h.log.log.row), Nat.le_trans h.log.hB hc.size, h.log.hg⟩,
    hc.own h.row (fun k e e2 => by rcases e2 with e2 | e2; exact (h.dis k e).1 e2; exact (h.dis k e).2 e2.symm),
    fun i e => ⟨(h.dis i e).1, fun e2 => by
      rcases hv with e3 | ⟨b, e3, hb⟩
      · exact (h.dis i e).2 (e3 ▸ e2)
      · rw [e3] at e2
        cases e2
        have := own_lt h.row _ e
        omega⟩⟩
theorem kept_two {vk1 : Value} {lk1 : List ByteArray} (h : Two B a w g v l base bytes vk lk) (hown : w1.ownsRow B 9 1 vk1 (svals lk1).length (svals lk1)) (hg : w.grownBy w1 vk.ownBlock) (hat : vk1.ownBlock = vk.ownBlock ∨ ∃ b, vk1.ownBlock = some b ∧ w.heap.size ≤ b) : Two B a w1 g v l base bytes vk1 lk1 := by
  have hc : Ch (fun i => some i = vk.ownBlock) w w1 := Ch.grown hg (fun k e => e.symm)
  refine ⟨⟨h.log.log.ch hc (fun e => (h.dis g e.symm).1 rfl) (fun k e e2 => (h.dis k e2.symm).2 e), Ch.onto h.log.below hc h.log.hB (fun i e => own_base h.row i e.symm), Nat.le_trans h.log.hB hc.size, h.log.hg⟩, hown, fun i e => ?_⟩
  rcases hat with e3 | ⟨b, e3, hb⟩
  · exact h.dis i (e3 ▸ e)
  · rw [e3] at e
    cases e
    exact (h.free hb).2.1 |> fun x => ⟨x, (h.free hb).2.2.1⟩
theorem trunc_two (n : Nat) (h : Two B a w g v l 0 bytes vk lk) (h2 : n ≤ l.length) : Calls Try.prog 11 #[.pointer (some ⟨g, 0, none⟩), .int .i64 n] w fun e w' => ∃ b, e = .returned (.bool b) ∧ Two B a w' g v l n bytes vk lk := by
  by_cases h0 : n = 0
  · subst h0
    refine (trunc_no B g v l 0 bytes _ w h.log.log (.inl (by simp))).mono ?_
    rintro e w1 ⟨rfl, rfl⟩
    exact ⟨_, rfl, h⟩
  · refine (trunc_yes B g v l 0 bytes n w h.log.log (by omega) h2).mono ?_
    rintro e w1 ⟨rfl, hl, hc⟩
    exact ⟨_, rfl, ⟨hl, Ch.onto h.log.below hc h.log.hB (fun i e => by subst e; exact h.log.hg), Nat.le_trans h.log.hB hc.size, h.log.hg⟩, hc.own h.row (fun k e => (h.dis k e).1), h.dis⟩
theorem same_self (A A' : Option Addr) (l : List ByteArray) (m ca cb : Nat) (hm : l.length = m) (w : World) (hA : RdS w A l) (hB : RdS w A' l) (hla : m ≤ 1000000) (hca : m ≤ ca) (hcb : m ≤ cb) :
    Calls Try.prog 19 #[.slice A m ca, .slice A' m cb] w fun e w' => e = .returned (.bool true) ∧ Drawn0 w w' := by
  subst hm
  refine (same_any A A' l l ca cb w hA hB hla hca hcb).mono fun e w' h => ⟨?_, h.2⟩
  rw [h.1, decide_eq_true rfl]
set_option maxRecDepth 100000 in
set_option maxHeartbeats 4000000 in
theorem own_walk (A : Option Addr) (la ca : Nat) (d : List ByteArray) (s : ByteArray) (hs : s.size ≤ 140737488351232) (n : Int) (hn : (Lit.int .i64 n).wf = true) (w0 : World) (hd : IsStrs w0 A la ca d) :
    Calls Try.prog 5 #[.slice A la ca, .string s, .int .i64 n] w0 fun e w' => e = .returned (.bool true) ∧ Below w0.heap.size w0 w' := by
  obtain ⟨rfl, hcap, _, hrd, hsz, _⟩ := hd
  have HB := Aside0.mk (Below.refl w0.heap.size w0)
  by_cases hbig : 20 < d.length
  · go_enter Try.func5, Try.ntmps5
    go_wp2_with ((go_at_call 6; refine (awake_any _).mono ?_; rintro e w1 ⟨rfl, hb⟩; have zz_HB := Aside0.mk (below_step HB.out hb); clear HB; have HB := zz_HB; clear zz_HB; clear hb))
    go_ret
    exact ⟨rfl, HB.out⟩
  · have hd20 : d.length ≤ 20 := by omega
    have HD := Aside0.mk hrd
    clear hsz hrd
    go_enter Try.func5, Try.ntmps5
    go_wp2_with (first
      | (go_at_call 6; refine (awake_any _).mono ?_; rintro e w1 ⟨rfl, hb⟩; have zz_HB := Aside0.mk (below_step HB.out hb); clear HB; have HB := zz_HB; clear zz_HB; clear hb)
      | (go_at_call 7; refine (new_in _ HB.out HB.out.size).mono ?_; rintro e w1 ⟨g, rfl, hl, _, _⟩; have HT : Aside0 (Two w0.heap.size w0 w1 g (.slice none 0 0) [] 0 0 (.slice none 0 0) []) := ⟨⟨hl, own_nil _ _ _ _, by intro i e; simp [Value.ownBlock] at e⟩⟩; clear hl HB))
    go_loopg [8, 30] d.length (fun i x y wr => ∃ (k : Nat) (v : Value) (l : List ByteArray) (bytes : Int), Aside0 (k + i = d.length) ∧ y = .int .i64 k ∧ Aside0 (l.length ≤ k ∧ 0 ≤ bytes ∧ bytes ≤ 512 * k) ∧ Aside0 (Two w0.heap.size w0 wr g v l 0 bytes x l))
    case atStart => exact ⟨0, _, _, _, ⟨by omega⟩, rfl, ⟨by simp⟩, HT⟩
    case round =>
      clear HT
      obtain ⟨k, v, l, bytes, HK, rfl, HM, HT⟩ := hrel
      by_cases hlt : k < d.length
      · obtain ⟨x, hx⟩ : ∃ x, d.getD k ByteArray.empty = x := ⟨_, rfl⟩
        have hrdw := HD.out.below HT.out.log.below
        obtain ⟨ad, rfl, hc1⟩ := hrdw k hlt
        rw [hx] at hc1
        clear hrdw hx
        have hk2 : k < 20 := by omega
        by_cases h5 : x.size ≤ 512
        · obtain ⟨A0, c0, e0, hc0, hr0⟩ := own_rds HT.out.row
          have HE0 := Aside0.mk e0
          clear e0 hr0
          go_wp2_with fail
          refine (append_two x HT.out h5 (by have := HM.out.1; omega) HM.out.2.1 (by have := HM.out.2.2; omega)).mono ?_
          rintro e w4 ⟨v1, rfl, ht⟩
          have HM1 : Aside0 ((l ++ [x]).length ≤ k + 1 ∧ 0 ≤ bytes + x.size ∧ bytes + x.size ≤ 512 * ((k + 1 : Nat) : Int)) := ⟨by
            have h1 := HM.out
            rw [List.length_append, List.length_singleton]
            refine ⟨by omega, by omega, by omega⟩⟩
          have zz_HT := Aside0.mk (ht); clear HT; have HT := zz_HT; clear zz_HT
          clear ht hc1
          go_wp2_with ((with_reducible refine gate_dst (N := 45) rfl ?_); go_loud (refine print_append (w0 := w4) w0.heap.size rfl (.tmp 42) (.tmp 44) 30 9 (.string ByteArray.empty) 16 rfl Try.underlying30 info9 (by rfl) (by decide) u8 (svals l) (.string x) rfl rfl (by rfl) HT.out.row (Below.refl _ _) HT.out.log.hB (by rw [svals_length]; have := HM.out.1; omega) ?_; intro v9 w9 hown hbel hgrow hat; (rw [svals_snoc] at hown); have zz_HT := Aside0.mk (kept_two HT.out hown hgrow hat); clear HT; have HT := zz_HT; clear zz_HT; clear hown hbel hgrow hat))
          go_wp2
          go_roundg (gk - 1)
          case measure => have := HK.out; omega
          case rel => exact ⟨k + 1, _, _, _, ⟨by have := HK.out; omega⟩, by go_num, HM1, HT⟩
        · have h5i : (512 : Int) < (x.size : Int) := by omega
          go_wp2_with fail
          refine (append_long w0.heap.size g v l 0 bytes x _ (by omega)).mono ?_
          rintro e w4 ⟨rfl, rfl⟩
          go_wp2
          go_roundg (gk - 1)
          case measure => have := HK.out; omega
          case rel => exact ⟨k + 1, _, _, _, ⟨by have := HK.out; omega⟩, by go_num, ⟨by have := HM.out; omega⟩, HT⟩
      · obtain ⟨VK, ck, hvk, hck, _⟩ := own_rds HT.out.row
        subst hvk
        have hl20 : l.length ≤ 20 := by have := HM.out.1; have := HK.out; omega
        obtain ⟨hh, hhe, hhl⟩ : ∃ hh : Nat, (l.length : Int) / 2 = (hh : Int) ∧ hh ≤ l.length := ⟨l.length / 2, by omega, by omega⟩
        have hhc : hh ≤ ck := by omega
        have hh20 : hh ≤ 20 := by omega
        have HTL : Aside0 ((l.take hh).length = hh) := ⟨by rw [List.length_take]; omega⟩
        clear HM HK
        go_wp2_with fail
        refine (trunc_two hh HT.out hhl).mono ?_
        rintro e w4 ⟨b4, rfl, ht⟩
        have zz_HT := Aside0.mk (ht); clear HT; have HT := zz_HT; clear zz_HT
        clear ht
        go_wp2_with fail
        refine (all_any _ g v l hh bytes _ HT.out.log.log (by omega)).mono ?_
        rintro e w5 ⟨va, rfl, ho, hb⟩
        have hfa : ∀ i, va.ownBlock = some i → Free w0.heap.size g v (.slice VK l.length ck) i ∧ i < w5.heap.size := fun i e => ⟨HT.out.free (own_base ho i e), own_lt ho i e⟩
        have ho1 := own_less ho HT.out.log.hB
        have zz_HT := Aside0.mk (HT.out.from hb); clear HT; have HT := zz_HT; clear zz_HT
        clear hb ho
        go_wp2_with fail
        refine (old_any _ g v l hh bytes _ HT.out.log.log (by omega) hhl).mono ?_
        rintro e w6 ⟨vb, rfl, ho, hb⟩
        have hfb : ∀ i, vb.ownBlock = some i → Free w0.heap.size g v (.slice VK l.length ck) i ∧ w5.heap.size ≤ i := fun i e => ⟨HT.out.free (own_base ho i e), own_base ho i e⟩
        have ho2 := own_less ho HT.out.log.hB
        rw [svals_length] at ho1
        rw [svals_length, HTL.out] at ho2
        have ho3 := pw_own_below ho1 hb
        have zz_HT := Aside0.mk (HT.out.from hb); clear HT; have HT := zz_HT; clear zz_HT
        clear hb ho ho1
        obtain ⟨VA, ca1, rfl, hca1, _⟩ := own_rds ho3
        obtain ⟨VB, cb1, eb, hcb1, _⟩ := own_rds ho2
        rw [HTL.out] at eb hcb1
        subst eb
        have HVA : Aside0 (∀ gv, VA = some ⟨gv, 0, none⟩ → Free w0.heap.size g v (.slice VK l.length ck) gv ∧ some gv ≠ (Value.slice VB hh cb1).ownBlock) := ⟨fun gv e => by
          have h1 := hfa gv (by rw [e]; rfl)
          exact ⟨h1.1, fun e2 => by have := (hfb gv e2.symm).2; omega⟩⟩
        have HVB : Aside0 (∀ gv, VB = some ⟨gv, 0, none⟩ → Free w0.heap.size g v (.slice VK l.length ck) gv) := ⟨fun gv e => (hfb gv (by rw [e]; rfl)).1⟩
        have HW1 : Aside0 (l.length = l.length ∧ w6.ownsRow w0.heap.size 9 1 (.slice VA l.length ca1) l.length (svals l)) := ⟨rfl, ho3⟩
        have HW2 := Aside0.mk ho2
        clear hfa hfb ho3 ho2
        go_wp2_with fail
        go_loopg [58] l.length (fun i y wr => ∃ (k : Nat) (ys : List ByteArray), Aside0 (k + i = l.length) ∧ y = .int .i64 k ∧ Aside0 (ys.length = l.length ∧ wr.ownsRow w0.heap.size 9 1 (.slice VA l.length ca1) l.length (svals ys)) ∧ Aside0 (Two w0.heap.size w0 wr g v l hh bytes (.slice VK l.length ck) l) ∧ Aside0 (wr.ownsRow w0.heap.size 9 1 (.slice VB hh cb1) hh (svals (l.take hh))))
        case atStart => exact ⟨0, l, ⟨by omega⟩, rfl, ⟨rfl, HW1.out.2⟩, HT, HW2⟩
        case round =>
          clear HT HW1 HW2
          obtain ⟨k, ys, HK, rfl, HW, HT, HW2⟩ := hrel
          by_cases hlt : k < l.length
          · obtain ⟨gv, c, hv, _, _, hcell, hfr⟩ := own_row (l := ys) (by rw [← HW.out.1] at HW; exact HW.out.2) (by rw [HW.out.1]; omega)
            have hck := hcell k (by rw [HW.out.1]; exact hlt)
            have hfk := hfr k
            rw [HW.out.1] at hv
            obtain ⟨rfl, rfl⟩ : VA = some ⟨gv, 0, none⟩ ∧ ca1 = c := by simpa using hv
            have HVV := Aside0.mk (HVA.out gv rfl)
            clear hcell hfr hv
            go_wp2
            go_roundg (gk - 1)
            case measure => have := HK.out; omega
            case rel =>
              have h1 := own_put (by rw [← HW.out.1] at HW; exact HW.out.2) k (by rw [HW.out.1]; exact hlt) s
              refine ⟨k + 1, ys.set k s, ⟨by have := HK.out; omega⟩, by go_num, ⟨by rw [List.length_set]; exact HW.out.1, ?_⟩, ⟨HT.out.set HVV.out.1 _ _⟩, ⟨own_setCell HW2.out HVV.out.2 _⟩⟩
              rw [List.length_set, HW.out.1] at h1
              exact h1
          · clear HW
            have HW3 : Aside0 ((l.take hh).length = hh ∧ wr.ownsRow w0.heap.size 9 1 (.slice VB hh cb1) hh (svals (l.take hh))) := ⟨HTL.out, HW2.out⟩
            clear HK HW2
            go_wp2_with fail
            go_loopg [68] hh (fun i y wr => ∃ (k : Nat) (ys : List ByteArray), Aside0 (k + i = hh) ∧ y = .int .i64 k ∧ Aside0 (ys.length = hh ∧ wr.ownsRow w0.heap.size 9 1 (.slice VB hh cb1) hh (svals ys)) ∧ Aside0 (Two w0.heap.size w0 wr g v l hh bytes (.slice VK l.length ck) l))
            case atStart => exact ⟨0, l.take hh, ⟨by omega⟩, rfl, ⟨HTL.out, HW3.out.2⟩, HT⟩
            case round =>
              clear HT HW3
              obtain ⟨k, ys, HK, rfl, HW, HT⟩ := hrel
              by_cases hlt : k < hh
              · obtain ⟨gv, c, hv, _, _, hcell, hfr⟩ := own_row (l := ys) (by rw [← HW.out.1] at HW; exact HW.out.2) (by rw [HW.out.1]; omega)
                have hck := hcell k (by rw [HW.out.1]; exact hlt)
                have hfk := hfr k
                rw [HW.out.1] at hv
                obtain ⟨rfl, rfl⟩ : VB = some ⟨gv, 0, none⟩ ∧ cb1 = c := by simpa using hv
                have HVV := Aside0.mk (HVB.out gv rfl)
                clear hcell hfr hv
                go_wp2
                go_roundg (gk - 1)
                case measure => have := HK.out; omega
                case rel =>
                  have h1 := own_put (by rw [← HW.out.1] at HW; exact HW.out.2) k (by rw [HW.out.1]; exact hlt) s
                  refine ⟨k + 1, ys.set k s, ⟨by have := HK.out; omega⟩, by go_num, ⟨by rw [List.length_set]; exact HW.out.1, ?_⟩, ⟨HT.out.set HVV.out _ _⟩⟩
                  rw [List.length_set, HW.out.1] at h1
                  exact h1
              · clear HW
                go_wp2_with (first
                  | (go_at_call 8; refine (append_none s _).mono ?_; rintro e w7 ⟨rfl, rfl⟩; skip)
                  | (go_at_call 15; refine (at_none n _).mono ?_; rintro e w7 ⟨rfl, rfl⟩; skip))
                refine St.steadyR (n := 56) (by kernel_rfl) ([] :: [(0, 88)] :: [] :: [(1, 89), (2, 90)] :: [(3, 91)] :: [(4, 92)] :: [(4, 92), (5, 93)] :: [(4, 92)] :: [(4, 92)] :: [(4, 92), (8, 96)] :: [(4, 92), (9, 97)] :: [(4, 92), (7, 95), (10, 98)] :: [(4, 92), (6, 94), (11, 99)] :: [(4, 92), (12, 100)] :: [(13, 101)] :: [(14, 102)] :: [(14, 102), (15, 103)] :: [(14, 102), (16, 104)] :: [(17, 105)] :: [(18, 106)] :: [(18, 106), (19, 107)] :: [(18, 106), (20, 108)] :: [(21, 109)] :: [(22, 110)] :: [(22, 110)] :: [(22, 110), (23, 111), (24, 112)] :: [(22, 110), (25, 113)] :: [(22, 110), (26, 114)] :: [(27, 115)] :: [(28, 116)] :: [(28, 116), (29, 117)] :: [(28, 116), (30, 118)] :: [(28, 116), (31, 119)] :: [(32, 120)] :: [(33, 121)] :: [(33, 121), (34, 122)] :: [(33, 121), (35, 123)] :: [(33, 121), (36, 124)] :: [(37, 125)] :: [(38, 126)] :: [(38, 126), (39, 127)] :: [(38, 126), (40, 128)] :: [(38, 126), (41, 129)] :: [(42, 130)] :: [(43, 131)] :: [(43, 131), (44, 132)] :: [(43, 131), (45, 133)] :: [(43, 131), (46, 134)] :: [(43, 131), (47, 135)] :: [(48, 136)] :: [(49, 137)] :: [(49, 137), (50, 138)] :: [(49, 137), (51, 139)] :: [(49, 137), (52, 140)] :: [(49, 137), (53, 141)] :: [(54, 142)] :: []) (some 88 :: some 89 :: some 90 :: some 91 :: some 92 :: some 93 :: some 94 :: some 95 :: some 96 :: some 97 :: some 98 :: some 99 :: some 100 :: some 101 :: some 102 :: some 103 :: some 104 :: some 105 :: some 106 :: some 107 :: some 108 :: some 109 :: some 110 :: some 111 :: some 112 :: some 113 :: some 114 :: some 115 :: some 116 :: some 117 :: some 118 :: some 119 :: some 120 :: some 121 :: some 122 :: some 123 :: some 124 :: some 125 :: some 126 :: some 127 :: some 128 :: some 129 :: some 130 :: some 131 :: some 132 :: some 133 :: some 134 :: some 135 :: some 136 :: some 137 :: some 138 :: some 139 :: some 140 :: some 141 :: some 142 :: some 6 :: []) (by kernel_rfl) ((St.eqT ?c29_0) :: (fun _ v w => ∃ A c, v = .slice A l.length c ∧ l.length ≤ c ∧ RdS w A l) :: (St.eqT ?c29_2) :: (St.eqT ?c29_3) :: (St.eqT ?c29_4) :: (St.eqT ?c29_5) :: (fun _ v w => ∃ A c, v = .slice A hh c ∧ hh ≤ c ∧ RdS w A (l.take hh)) :: (St.eqT ?c29_7) :: (St.eqT ?c29_8) :: (St.eqT ?c29_9) :: (St.eqT ?c29_10) :: (St.eqT ?c29_11) :: (St.eqT ?c29_12) :: (St.eqT ?c29_13) :: (St.eqT ?c29_14) :: (St.eqT ?c29_15) :: (St.eqT ?c29_16) :: (St.eqT ?c29_17) :: (St.eqT ?c29_18) :: (St.eqT ?c29_19) :: (St.eqT ?c29_20) :: (St.eqT ?c29_21) :: (St.eqT ?c29_22) :: (St.eqT ?c29_23) :: (St.eqT ?c29_24) :: (St.eqT ?c29_25) :: (St.eqT ?c29_26) :: (St.eqT ?c29_27) :: (St.eqT ?c29_28) :: (St.eqT ?c29_29) :: (St.eqT ?c29_30) :: (St.eqT ?c29_31) :: (St.eqT ?c29_32) :: (St.eqT ?c29_33) :: (St.eqT ?c29_34) :: (St.eqT ?c29_35) :: (St.eqT ?c29_36) :: (St.eqT ?c29_37) :: (St.eqT ?c29_38) :: (St.eqT ?c29_39) :: (St.eqT ?c29_40) :: (St.eqT ?c29_41) :: (St.eqT ?c29_42) :: (St.eqT ?c29_43) :: (St.eqT ?c29_44) :: (St.eqT ?c29_45) :: (St.eqT ?c29_46) :: (St.eqT ?c29_47) :: (St.eqT ?c29_48) :: (St.eqT ?c29_49) :: (St.eqT ?c29_50) :: (St.eqT ?c29_51) :: (St.eqT ?c29_52) :: (St.eqT ?c29_53) :: (St.eqT ?c29_54) :: (St.eqT ?c29_55) :: []) rfl (by rfl) (fun w' => Two w0.heap.size w0 w' g v l hh bytes (.slice VK l.length ck) l) (fun w w' => Below w.heap.size w w') ?hst ?h0 ?hB ?hop ?hend
                case hop =>
                  refine ⟨?_, ?_, ?_, ?_, ?_, ?_, ?_, ?_, ?_, ?_, ?_, ?_, ?_, ?_, ?_, ?_, ?_, ?_, ?_, ?_, ?_, ?_, ?_, ?_, ?_, ?_, ?_, ?_, ?_, ?_, ?_, ?_, ?_, ?_, ?_, ?_, ?_, ?_, ?_, ?_, ?_, ?_, ?_, ?_, ?_, ?_, ?_, ?_, ?_, ?_, ?_, ?_, ?_, ?_, ?_, ?_, trivial⟩
                  · intro w hB
                    simp only [St.withD]
                    refine St.ob_value (v := ?_) (w' := w) (by rfl) ?_ ⟨Below.refl _ _, ?_⟩
                    rotate_left
                    · go_simp
                      with_reducible rfl
                    · rfl
                  · intro w hB; rintro _ ⟨_, rfl⟩
                    simp only [St.withD, List.nil_append, List.cons_append, Act.put, List.setIfInBounds_toArray, List.set_cons_zero, List.set_cons_succ]
                    refine St.ob_call Try.func20 (by kernel_rfl) rfl #[.pointer (some ⟨g, 0, none⟩)] (by rfl) rfl (by (try simp only [List.map_toArray, List.map_cons, List.map_nil]); first | done | rfl | (simp only [List.length_drop, List.length_take]; rfl)) ?_
                    refine (all_any _ g v l hh bytes w hB.log.log (by omega)).mono ?_
                    rintro e w1 ⟨v, rfl, ho, hb⟩
                    refine ⟨_, rfl, hb, ?_⟩
                    exact own_rds ho
                  · intro w hB
                    simp only [St.withD]
                    refine St.ob_value (v := ?_) (w' := w) (by rfl) ?_ ⟨Below.refl _ _, ?_⟩
                    rotate_left
                    · go_simp
                      with_reducible rfl
                    · rfl
                  · intro w hB; rintro v1 ⟨ds1, ht1⟩ _ ⟨_, rfl⟩
                    simp only [St.withD, List.nil_append, List.cons_append, Act.put, List.setIfInBounds_toArray, List.set_cons_zero, List.set_cons_succ]
                    obtain ⟨A1, c1, rfl, hc1, hr1⟩ := ht1
                    obtain ⟨A2, c2, e2, hc2, hr2⟩ := own_rds hB.row
                    cases e2
                    refine St.ob_call Try.func19 (by kernel_rfl) rfl #[.slice A1 l.length c1, .slice VK l.length ck] (by rfl) rfl (by (try simp only [List.map_toArray, List.map_cons, List.map_nil]); first | done | rfl | (simp only [List.length_drop, List.length_take]; rfl)) ?_
                    refine (same_self A1 VK l l.length c1 ck rfl w hr1 hr2 (by omega) hc1 hc2).mono ?_
                    rintro e w1 ⟨rfl, hd⟩
                    refine ⟨_, rfl, hd.below, ?_⟩
                    rfl
                  · intro w hB; rintro _ ⟨_, rfl⟩
                    simp only [St.withD, List.nil_append, List.cons_append, Act.put, List.setIfInBounds_toArray, List.set_cons_zero, List.set_cons_succ]
                    refine St.ob_value (v := ?_) (w' := w) (by rfl) ?_ ⟨Below.refl _ _, ?_⟩
                    rotate_left
                    · go_simp
                      with_reducible rfl
                    · rfl
                  · intro w hB; rintro _ ⟨_, rfl⟩
                    simp only [St.withD, List.nil_append, List.cons_append, Act.put, List.setIfInBounds_toArray, List.set_cons_zero, List.set_cons_succ]
                    refine St.ob_value (v := ?_) (w' := w) (by rfl) ?_ ⟨Below.refl _ _, ?_⟩
                    rotate_left
                    · go_simp
                      with_reducible rfl
                    · rfl
                  · intro w hB; rintro _ ⟨_, rfl⟩ _ ⟨_, rfl⟩
                    simp only [St.withD, List.nil_append, List.cons_append, Act.put, List.setIfInBounds_toArray, List.set_cons_zero, List.set_cons_succ]
                    refine St.ob_call Try.func12 (by kernel_rfl) rfl #[.pointer (some ⟨g, 0, none⟩)] (by rfl) rfl (by (try simp only [List.map_toArray, List.map_cons, List.map_nil]); first | done | rfl | (simp only [List.length_drop, List.length_take]; rfl)) ?_
                    refine (old_any _ g v l hh bytes w hB.log.log (by omega) hhl).mono ?_
                    rintro e w1 ⟨v, rfl, ho, hb⟩
                    refine ⟨_, rfl, hb, ?_⟩
                    exact (by obtain ⟨A, c, e, hc, hr⟩ := own_rds ho; rw [HTL.out] at e hc; exact ⟨A, c, e, hc, hr⟩)
                  · intro w hB; rintro _ ⟨_, rfl⟩
                    simp only [St.withD, List.nil_append, List.cons_append, Act.put, List.setIfInBounds_toArray, List.set_cons_zero, List.set_cons_succ]
                    refine St.ob_value (v := ?_) (w' := w) (by rfl) ?_ ⟨Below.refl _ _, ?_⟩
                    rotate_left
                    · go_simp
                      with_reducible rfl
                    · rfl
                  · intro w hB; rintro _ ⟨_, rfl⟩
                    simp only [St.withD, List.nil_append, List.cons_append, Act.put, List.setIfInBounds_toArray, List.set_cons_zero, List.set_cons_succ]
                    refine St.ob_value (v := ?_) (w' := w) (by rfl) ?_ ⟨Below.refl _ _, ?_⟩
                    rotate_left
                    · go_simp
                      with_reducible rfl
                    · rfl
                  · intro w hB; rintro _ ⟨_, rfl⟩ _ ⟨_, rfl⟩
                    simp only [St.withD, List.nil_append, List.cons_append, Act.put, List.setIfInBounds_toArray, List.set_cons_zero, List.set_cons_succ]
                    refine St.ob_value (v := ?_) (w' := w) (by rfl) ?_ ⟨Below.refl _ _, ?_⟩
                    rotate_left
                    · go_simp
                      with_reducible rfl
                    · rfl
                  · intro w hB; rintro _ ⟨_, rfl⟩ _ ⟨_, rfl⟩
                    simp only [St.withD, List.nil_append, List.cons_append, Act.put, List.setIfInBounds_toArray, List.set_cons_zero, List.set_cons_succ]
                    refine St.ob_value (v := ?_) (w' := w) (by rfl) ?_ ⟨Below.refl _ _, ?_⟩
                    rotate_left
                    · go_simp
                      with_reducible rfl
                    · rfl
                  · intro w hB; rintro _ ⟨_, rfl⟩ _ ⟨_, rfl⟩ _ ⟨_, rfl⟩
                    simp only [St.withD, List.nil_append, List.cons_append, Act.put, List.setIfInBounds_toArray, List.set_cons_zero, List.set_cons_succ]
                    refine St.ob_value (v := .slice VK hh ck) (w' := w) (by rfl) ?_ ⟨Below.refl _ _, ?_⟩
                    · have hhw : IntKind.i64.wrap (hh : Int) = (hh : Int) := by rw [IntKind.wrap_i64]; omega
                      go_simp
                      first | done | (rw [hhw, if_pos ⟨by omega, by omega⟩, Int.toNat_natCast]) | (rw [if_pos ⟨by omega, by omega⟩, Int.toNat_natCast])
                    · rfl
                  · intro w hB; rintro _ ⟨_, rfl⟩ v6 ⟨ds6, ht6⟩ _ ⟨_, rfl⟩
                    simp only [St.withD, List.nil_append, List.cons_append, Act.put, List.setIfInBounds_toArray, List.set_cons_zero, List.set_cons_succ]
                    obtain ⟨A1, c1, rfl, hc1, hr1⟩ := ht6
                    obtain ⟨A2, c2, e2, hc2, hr2⟩ := own_rds hB.row
                    cases e2
                    refine St.ob_call Try.func19 (by kernel_rfl) rfl #[.slice A1 hh c1, .slice VK hh ck] (by rfl) rfl (by (try simp only [List.map_toArray, List.map_cons, List.map_nil]); first | done | rfl | (simp only [List.length_drop, List.length_take]; rfl)) ?_
                    refine (same_self A1 VK (l.take hh) hh c1 ck HTL.out w hr1 (hr2.take hh) (by omega) hc1 hhc).mono ?_
                    rintro e w1 ⟨rfl, hd⟩
                    refine ⟨_, rfl, hd.below, ?_⟩
                    rfl
                  · intro w hB; rintro _ ⟨_, rfl⟩ _ ⟨_, rfl⟩
                    simp only [St.withD, List.nil_append, List.cons_append, Act.put, List.setIfInBounds_toArray, List.set_cons_zero, List.set_cons_succ]
                    refine St.ob_value (v := ?_) (w' := w) (by rfl) ?_ ⟨Below.refl _ _, ?_⟩
                    rotate_left
                    · go_simp
                      with_reducible rfl
                    · rfl
                  · intro w hB; rintro _ ⟨_, rfl⟩
                    simp only [St.withD, List.nil_append, List.cons_append, Act.put, List.setIfInBounds_toArray, List.set_cons_zero, List.set_cons_succ]
                    refine St.ob_value (v := ?_) (w' := w) (by rfl) ?_ ⟨Below.refl _ _, ?_⟩
                    rotate_left
                    · go_simp
                      with_reducible rfl
                    · rfl
                  · intro w hB; rintro _ ⟨_, rfl⟩
                    simp only [St.withD, List.nil_append, List.cons_append, Act.put, List.setIfInBounds_toArray, List.set_cons_zero, List.set_cons_succ]
                    refine St.ob_value (v := ?_) (w' := w) (by rfl) ?_ ⟨Below.refl _ _, ?_⟩
                    rotate_left
                    · go_simp
                      with_reducible rfl
                    · rfl
                  · intro w hB; rintro _ ⟨_, rfl⟩ _ ⟨_, rfl⟩
                    simp only [St.withD, List.nil_append, List.cons_append, Act.put, List.setIfInBounds_toArray, List.set_cons_zero, List.set_cons_succ]
                    refine St.ob_value (v := ?_) (w' := w) (by rfl) ?_ ⟨Below.refl _ _, ?_⟩
                    rotate_left
                    · go_simp
                      with_reducible rfl
                    · rfl
                  · intro w hB; rintro _ ⟨_, rfl⟩ _ ⟨_, rfl⟩
                    simp only [St.withD, List.nil_append, List.cons_append, Act.put, List.setIfInBounds_toArray, List.set_cons_zero, List.set_cons_succ]
                    refine St.ob_value (v := ?_) (w' := w) (by rfl) ?_ ⟨Below.refl _ _, ?_⟩
                    rotate_left
                    · go_simp
                      with_reducible rfl
                    · rfl
                  · intro w hB; rintro _ ⟨_, rfl⟩
                    simp only [St.withD, List.nil_append, List.cons_append, Act.put, List.setIfInBounds_toArray, List.set_cons_zero, List.set_cons_succ]
                    refine St.ob_value (v := ?_) (w' := w) (by rfl) ?_ ⟨Below.refl _ _, ?_⟩
                    rotate_left
                    · go_simp
                      with_reducible rfl
                    · rfl
                  · intro w hB; rintro _ ⟨_, rfl⟩
                    simp only [St.withD, List.nil_append, List.cons_append, Act.put, List.setIfInBounds_toArray, List.set_cons_zero, List.set_cons_succ]
                    refine St.ob_value (v := ?_) (w' := w) (by rfl) ?_ ⟨Below.refl _ _, ?_⟩
                    rotate_left
                    · go_simp
                      with_reducible rfl
                    · rfl
                  · intro w hB; rintro _ ⟨_, rfl⟩ _ ⟨_, rfl⟩
                    simp only [St.withD, List.nil_append, List.cons_append, Act.put, List.setIfInBounds_toArray, List.set_cons_zero, List.set_cons_succ]
                    refine St.ob_value (v := ?_) (w' := w) (by rfl) ?_ ⟨Below.refl _ _, ?_⟩
                    rotate_left
                    · go_simp
                      with_reducible rfl
                    · rfl
                  · intro w hB; rintro _ ⟨_, rfl⟩ _ ⟨_, rfl⟩
                    simp only [St.withD, List.nil_append, List.cons_append, Act.put, List.setIfInBounds_toArray, List.set_cons_zero, List.set_cons_succ]
                    refine St.ob_value (v := ?_) (w' := w) (by rfl) ?_ ⟨Below.refl _ _, ?_⟩
                    rotate_left
                    · go_simp
                      with_reducible rfl
                    · rfl
                  · intro w hB; rintro _ ⟨_, rfl⟩
                    simp only [St.withD, List.nil_append, List.cons_append, Act.put, List.setIfInBounds_toArray, List.set_cons_zero, List.set_cons_succ]
                    refine St.ob_value (v := ?_) (w' := w) (by rfl) ?_ ⟨Below.refl _ _, ?_⟩
                    rotate_left
                    · go_simp
                      with_reducible rfl
                    · rfl
                  · intro w hB; rintro _ ⟨_, rfl⟩
                    simp only [St.withD, List.nil_append, List.cons_append, Act.put, List.setIfInBounds_toArray, List.set_cons_zero, List.set_cons_succ]
                    refine St.ob_value (v := ?_) (w' := w) (by rfl) ?_ ⟨Below.refl _ _, ?_⟩
                    rotate_left
                    · go_simp
                      with_reducible rfl
                    · rfl
                  · intro w hB; rintro _ ⟨_, rfl⟩
                    simp only [St.withD, List.nil_append, List.cons_append, Act.put, List.setIfInBounds_toArray, List.set_cons_zero, List.set_cons_succ]
                    refine St.ob_value (v := ?_) (w' := w) (by rfl) ?_ ⟨Below.refl _ _, ?_⟩
                    rotate_left
                    · go_simp
                      with_reducible rfl
                    · rfl
                  · intro w hB; rintro _ ⟨_, rfl⟩ _ ⟨_, rfl⟩ _ ⟨_, rfl⟩
                    simp only [St.withD, List.nil_append, List.cons_append, Act.put, List.setIfInBounds_toArray, List.set_cons_zero, List.set_cons_succ]
                    refine St.ob_call Try.func11 (by kernel_rfl) rfl #[.pointer none, .int .i64 n] (by rfl) rfl (by (try simp only [List.map_toArray, List.map_cons, List.map_nil]); first | done | rfl | (simp only [List.length_drop, List.length_take]; rfl)) ?_
                    refine (trunc_none n w).mono ?_
                    rintro e w1 ⟨rfl, rfl⟩
                    refine ⟨_, rfl, Below.refl _ _, ?_⟩
                    rfl
                  · intro w hB; rintro _ ⟨_, rfl⟩ _ ⟨_, rfl⟩
                    simp only [St.withD, List.nil_append, List.cons_append, Act.put, List.setIfInBounds_toArray, List.set_cons_zero, List.set_cons_succ]
                    refine St.ob_value (v := ?_) (w' := w) (by rfl) ?_ ⟨Below.refl _ _, ?_⟩
                    rotate_left
                    · go_simp
                      with_reducible rfl
                    · rfl
                  · intro w hB; rintro _ ⟨_, rfl⟩ _ ⟨_, rfl⟩
                    simp only [St.withD, List.nil_append, List.cons_append, Act.put, List.setIfInBounds_toArray, List.set_cons_zero, List.set_cons_succ]
                    refine St.ob_value (v := ?_) (w' := w) (by rfl) ?_ ⟨Below.refl _ _, ?_⟩
                    rotate_left
                    · go_simp
                      with_reducible rfl
                    · rfl
                  · intro w hB; rintro _ ⟨_, rfl⟩
                    simp only [St.withD, List.nil_append, List.cons_append, Act.put, List.setIfInBounds_toArray, List.set_cons_zero, List.set_cons_succ]
                    refine St.ob_value (v := ?_) (w' := w) (by rfl) ?_ ⟨Below.refl _ _, ?_⟩
                    rotate_left
                    · go_simp
                      with_reducible rfl
                    · rfl
                  · intro w hB; rintro _ ⟨_, rfl⟩
                    simp only [St.withD, List.nil_append, List.cons_append, Act.put, List.setIfInBounds_toArray, List.set_cons_zero, List.set_cons_succ]
                    refine St.ob_value (v := ?_) (w' := w) (by rfl) ?_ ⟨Below.refl _ _, ?_⟩
                    rotate_left
                    · go_simp
                      with_reducible rfl
                    · rfl
                  · intro w hB; rintro _ ⟨_, rfl⟩ _ ⟨_, rfl⟩
                    simp only [St.withD, List.nil_append, List.cons_append, Act.put, List.setIfInBounds_toArray, List.set_cons_zero, List.set_cons_succ]
                    refine St.ob_call Try.func9 (by kernel_rfl) rfl #[.pointer none] (by rfl) rfl (by (try simp only [List.map_toArray, List.map_cons, List.map_nil]); first | done | rfl | (simp only [List.length_drop, List.length_take]; rfl)) ?_
                    refine (len_none w).mono ?_
                    rintro e w1 ⟨rfl, rfl⟩
                    refine ⟨_, rfl, Below.refl _ _, ?_⟩
                    rfl
                  · intro w hB; rintro _ ⟨_, rfl⟩ _ ⟨_, rfl⟩
                    simp only [St.withD, List.nil_append, List.cons_append, Act.put, List.setIfInBounds_toArray, List.set_cons_zero, List.set_cons_succ]
                    refine St.ob_value (v := ?_) (w' := w) (by rfl) ?_ ⟨Below.refl _ _, ?_⟩
                    rotate_left
                    · go_simp
                      with_reducible rfl
                    · rfl
                  · intro w hB; rintro _ ⟨_, rfl⟩ _ ⟨_, rfl⟩
                    simp only [St.withD, List.nil_append, List.cons_append, Act.put, List.setIfInBounds_toArray, List.set_cons_zero, List.set_cons_succ]
                    refine St.ob_value (v := ?_) (w' := w) (by rfl) ?_ ⟨Below.refl _ _, ?_⟩
                    rotate_left
                    · go_simp
                      with_reducible rfl
                    · rfl
                  · intro w hB; rintro _ ⟨_, rfl⟩
                    simp only [St.withD, List.nil_append, List.cons_append, Act.put, List.setIfInBounds_toArray, List.set_cons_zero, List.set_cons_succ]
                    refine St.ob_value (v := ?_) (w' := w) (by rfl) ?_ ⟨Below.refl _ _, ?_⟩
                    rotate_left
                    · go_simp
                      with_reducible rfl
                    · rfl
                  · intro w hB; rintro _ ⟨_, rfl⟩
                    simp only [St.withD, List.nil_append, List.cons_append, Act.put, List.setIfInBounds_toArray, List.set_cons_zero, List.set_cons_succ]
                    refine St.ob_value (v := ?_) (w' := w) (by rfl) ?_ ⟨Below.refl _ _, ?_⟩
                    rotate_left
                    · go_simp
                      with_reducible rfl
                    · rfl
                  · intro w hB; rintro _ ⟨_, rfl⟩ _ ⟨_, rfl⟩
                    simp only [St.withD, List.nil_append, List.cons_append, Act.put, List.setIfInBounds_toArray, List.set_cons_zero, List.set_cons_succ]
                    refine St.ob_call Try.func17 (by kernel_rfl) rfl #[.pointer none] (by rfl) rfl (by (try simp only [List.map_toArray, List.map_cons, List.map_nil]); first | done | rfl | (simp only [List.length_drop, List.length_take]; rfl)) ?_
                    refine (base_none w).mono ?_
                    rintro e w1 ⟨rfl, rfl⟩
                    refine ⟨_, rfl, Below.refl _ _, ?_⟩
                    rfl
                  · intro w hB; rintro _ ⟨_, rfl⟩ _ ⟨_, rfl⟩
                    simp only [St.withD, List.nil_append, List.cons_append, Act.put, List.setIfInBounds_toArray, List.set_cons_zero, List.set_cons_succ]
                    refine St.ob_value (v := ?_) (w' := w) (by rfl) ?_ ⟨Below.refl _ _, ?_⟩
                    rotate_left
                    · go_simp
                      with_reducible rfl
                    · rfl
                  · intro w hB; rintro _ ⟨_, rfl⟩ _ ⟨_, rfl⟩
                    simp only [St.withD, List.nil_append, List.cons_append, Act.put, List.setIfInBounds_toArray, List.set_cons_zero, List.set_cons_succ]
                    refine St.ob_value (v := ?_) (w' := w) (by rfl) ?_ ⟨Below.refl _ _, ?_⟩
                    rotate_left
                    · go_simp
                      with_reducible rfl
                    · rfl
                  · intro w hB; rintro _ ⟨_, rfl⟩
                    simp only [St.withD, List.nil_append, List.cons_append, Act.put, List.setIfInBounds_toArray, List.set_cons_zero, List.set_cons_succ]
                    refine St.ob_value (v := ?_) (w' := w) (by rfl) ?_ ⟨Below.refl _ _, ?_⟩
                    rotate_left
                    · go_simp
                      with_reducible rfl
                    · rfl
                  · intro w hB; rintro _ ⟨_, rfl⟩
                    simp only [St.withD, List.nil_append, List.cons_append, Act.put, List.setIfInBounds_toArray, List.set_cons_zero, List.set_cons_succ]
                    refine St.ob_value (v := ?_) (w' := w) (by rfl) ?_ ⟨Below.refl _ _, ?_⟩
                    rotate_left
                    · go_simp
                      with_reducible rfl
                    · rfl
                  · intro w hB; rintro _ ⟨_, rfl⟩ _ ⟨_, rfl⟩
                    simp only [St.withD, List.nil_append, List.cons_append, Act.put, List.setIfInBounds_toArray, List.set_cons_zero, List.set_cons_succ]
                    refine St.ob_call Try.func10 (by kernel_rfl) rfl #[.pointer none] (by rfl) rfl (by (try simp only [List.map_toArray, List.map_cons, List.map_nil]); first | done | rfl | (simp only [List.length_drop, List.length_take]; rfl)) ?_
                    refine (bytes_none w).mono ?_
                    rintro e w1 ⟨rfl, rfl⟩
                    refine ⟨_, rfl, Below.refl _ _, ?_⟩
                    rfl
                  · intro w hB; rintro _ ⟨_, rfl⟩ _ ⟨_, rfl⟩
                    simp only [St.withD, List.nil_append, List.cons_append, Act.put, List.setIfInBounds_toArray, List.set_cons_zero, List.set_cons_succ]
                    refine St.ob_value (v := ?_) (w' := w) (by rfl) ?_ ⟨Below.refl _ _, ?_⟩
                    rotate_left
                    · go_simp
                      with_reducible rfl
                    · rfl
                  · intro w hB; rintro _ ⟨_, rfl⟩ _ ⟨_, rfl⟩
                    simp only [St.withD, List.nil_append, List.cons_append, Act.put, List.setIfInBounds_toArray, List.set_cons_zero, List.set_cons_succ]
                    refine St.ob_value (v := ?_) (w' := w) (by rfl) ?_ ⟨Below.refl _ _, ?_⟩
                    rotate_left
                    · go_simp
                      with_reducible rfl
                    · rfl
                  · intro w hB; rintro _ ⟨_, rfl⟩
                    simp only [St.withD, List.nil_append, List.cons_append, Act.put, List.setIfInBounds_toArray, List.set_cons_zero, List.set_cons_succ]
                    refine St.ob_value (v := ?_) (w' := w) (by rfl) ?_ ⟨Below.refl _ _, ?_⟩
                    rotate_left
                    · go_simp
                      with_reducible rfl
                    · rfl
                  · intro w hB; rintro _ ⟨_, rfl⟩
                    simp only [St.withD, List.nil_append, List.cons_append, Act.put, List.setIfInBounds_toArray, List.set_cons_zero, List.set_cons_succ]
                    refine St.ob_value (v := ?_) (w' := w) (by rfl) ?_ ⟨Below.refl _ _, ?_⟩
                    rotate_left
                    · go_simp
                      with_reducible rfl
                    · rfl
                  · intro w hB; rintro _ ⟨_, rfl⟩ _ ⟨_, rfl⟩
                    simp only [St.withD, List.nil_append, List.cons_append, Act.put, List.setIfInBounds_toArray, List.set_cons_zero, List.set_cons_succ]
                    refine St.ob_call Try.func20 (by kernel_rfl) rfl #[.pointer none] (by rfl) rfl (by (try simp only [List.map_toArray, List.map_cons, List.map_nil]); first | done | rfl | (simp only [List.length_drop, List.length_take]; rfl)) ?_
                    refine (all_none w).mono ?_
                    rintro e w1 ⟨rfl, rfl⟩
                    refine ⟨_, rfl, Below.refl _ _, ?_⟩
                    rfl
                  · intro w hB; rintro _ ⟨_, rfl⟩ _ ⟨_, rfl⟩
                    simp only [St.withD, List.nil_append, List.cons_append, Act.put, List.setIfInBounds_toArray, List.set_cons_zero, List.set_cons_succ]
                    refine St.ob_value (v := ?_) (w' := w) (by rfl) ?_ ⟨Below.refl _ _, ?_⟩
                    rotate_left
                    · go_simp
                      with_reducible rfl
                    · rfl
                  · intro w hB; rintro _ ⟨_, rfl⟩ _ ⟨_, rfl⟩
                    simp only [St.withD, List.nil_append, List.cons_append, Act.put, List.setIfInBounds_toArray, List.set_cons_zero, List.set_cons_succ]
                    refine St.ob_value (v := ?_) (w' := w) (by rfl) ?_ ⟨Below.refl _ _, ?_⟩
                    rotate_left
                    · go_simp
                      with_reducible rfl
                    · rfl
                  · intro w hB; rintro _ ⟨_, rfl⟩ _ ⟨_, rfl⟩
                    simp only [St.withD, List.nil_append, List.cons_append, Act.put, List.setIfInBounds_toArray, List.set_cons_zero, List.set_cons_succ]
                    refine St.ob_value (v := ?_) (w' := w) (by rfl) ?_ ⟨Below.refl _ _, ?_⟩
                    rotate_left
                    · go_simp
                      with_reducible rfl
                    · rfl
                  · intro w hB; rintro _ ⟨_, rfl⟩
                    simp only [St.withD, List.nil_append, List.cons_append, Act.put, List.setIfInBounds_toArray, List.set_cons_zero, List.set_cons_succ]
                    refine St.ob_value (v := ?_) (w' := w) (by rfl) ?_ ⟨Below.refl _ _, ?_⟩
                    rotate_left
                    · go_simp
                      with_reducible rfl
                    · rfl
                  · intro w hB; rintro _ ⟨_, rfl⟩
                    simp only [St.withD, List.nil_append, List.cons_append, Act.put, List.setIfInBounds_toArray, List.set_cons_zero, List.set_cons_succ]
                    refine St.ob_value (v := ?_) (w' := w) (by rfl) ?_ ⟨Below.refl _ _, ?_⟩
                    rotate_left
                    · go_simp
                      with_reducible rfl
                    · rfl
                  · intro w hB; rintro _ ⟨_, rfl⟩ _ ⟨_, rfl⟩
                    simp only [St.withD, List.nil_append, List.cons_append, Act.put, List.setIfInBounds_toArray, List.set_cons_zero, List.set_cons_succ]
                    refine St.ob_call Try.func12 (by kernel_rfl) rfl #[.pointer none] (by rfl) rfl (by (try simp only [List.map_toArray, List.map_cons, List.map_nil]); first | done | rfl | (simp only [List.length_drop, List.length_take]; rfl)) ?_
                    refine (old_none w).mono ?_
                    rintro e w1 ⟨rfl, rfl⟩
                    refine ⟨_, rfl, Below.refl _ _, ?_⟩
                    rfl
                  · intro w hB; rintro _ ⟨_, rfl⟩ _ ⟨_, rfl⟩
                    simp only [St.withD, List.nil_append, List.cons_append, Act.put, List.setIfInBounds_toArray, List.set_cons_zero, List.set_cons_succ]
                    refine St.ob_value (v := ?_) (w' := w) (by rfl) ?_ ⟨Below.refl _ _, ?_⟩
                    rotate_left
                    · go_simp
                      with_reducible rfl
                    · rfl
                  · intro w hB; rintro _ ⟨_, rfl⟩ _ ⟨_, rfl⟩
                    simp only [St.withD, List.nil_append, List.cons_append, Act.put, List.setIfInBounds_toArray, List.set_cons_zero, List.set_cons_succ]
                    refine St.ob_value (v := ?_) (w' := w) (by rfl) ?_ ⟨Below.refl _ _, ?_⟩
                    rotate_left
                    · go_simp
                      with_reducible rfl
                    · rfl
                  · intro w hB; rintro _ ⟨_, rfl⟩ _ ⟨_, rfl⟩
                    simp only [St.withD, List.nil_append, List.cons_append, Act.put, List.setIfInBounds_toArray, List.set_cons_zero, List.set_cons_succ]
                    refine St.ob_value (v := ?_) (w' := w) (by rfl) ?_ ⟨Below.refl _ _, ?_⟩
                    rotate_left
                    · go_simp
                      with_reducible rfl
                    · rfl
                  · intro w hB; rintro _ ⟨_, rfl⟩
                    simp only [St.withD, List.nil_append, List.cons_append, Act.put, List.setIfInBounds_toArray, List.set_cons_zero, List.set_cons_succ]
                    refine St.ob_value (v := ?_) (w' := w) (by rfl) ?_ ⟨Below.refl _ _, ?_⟩
                    rotate_left
                    · go_simp
                      with_reducible rfl
                    · rfl
                case hst => exact ⟨St.eqT_st, fun ds v w w' h hR => by (obtain ⟨A, c, e, hc, hr⟩ := h; exact ⟨A, c, e, hc, hr.below hR⟩), St.eqT_st, St.eqT_st, St.eqT_st, St.eqT_st, fun ds v w w' h hR => by (obtain ⟨A, c, e, hc, hr⟩ := h; exact ⟨A, c, e, hc, hr.below hR⟩), St.eqT_st, St.eqT_st, St.eqT_st, St.eqT_st, St.eqT_st, St.eqT_st, St.eqT_st, St.eqT_st, St.eqT_st, St.eqT_st, St.eqT_st, St.eqT_st, St.eqT_st, St.eqT_st, St.eqT_st, St.eqT_st, St.eqT_st, St.eqT_st, St.eqT_st, St.eqT_st, St.eqT_st, St.eqT_st, St.eqT_st, St.eqT_st, St.eqT_st, St.eqT_st, St.eqT_st, St.eqT_st, St.eqT_st, St.eqT_st, St.eqT_st, St.eqT_st, St.eqT_st, St.eqT_st, St.eqT_st, St.eqT_st, St.eqT_st, St.eqT_st, St.eqT_st, St.eqT_st, St.eqT_st, St.eqT_st, St.eqT_st, St.eqT_st, St.eqT_st, St.eqT_st, St.eqT_st, St.eqT_st, St.eqT_st, trivial⟩
                case h0 => exact HT.out.from (below_drew1 (Below.refl _ _))
                case hB => exact fun w w' h k => h.from k
                case hend =>
                  intro w hB
                  rintro _ rfl v1 ht1 _ rfl _ rfl _ rfl _ rfl v6 ht6 _ rfl _ rfl _ rfl _ rfl _ rfl _ rfl _ rfl _ rfl _ rfl _ rfl _ rfl _ rfl _ rfl _ rfl _ rfl _ rfl _ rfl _ rfl _ rfl _ rfl _ rfl _ rfl _ rfl _ rfl _ rfl _ rfl _ rfl _ rfl _ rfl _ rfl _ rfl _ rfl _ rfl _ rfl _ rfl _ rfl _ rfl _ rfl _ rfl _ rfl _ rfl _ rfl _ rfl _ rfl _ rfl _ rfl _ rfl _ rfl _ rfl
                  simp only [List.map_cons, List.map_nil, List.nil_append, List.cons_append, List.getD_cons_zero, List.getD_cons_succ, Act.put, List.setIfInBounds_toArray, List.set_cons_zero, List.set_cons_succ]
                  rw [St.withE_nil]
                  have HF := Aside0.mk hB.log.below
                  clear hB
                  go_wp2
                  go_ret
                  exact ⟨rfl, HF.out⟩

end Go.Proofs.Ytfcpjblogeofpad
