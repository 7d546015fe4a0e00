/- The contract of sum.Prefixes: behind each byte the sum of all up to it. -/
import Derived.Test.YtfcpjblogeofpaaPSumTextsx1
import Derived.StillTailTactics
namespace Go.Proofs.Ytfcpjblogeofpaa.PSumTexts
open Go.RowKit Go.Proofs.YtfcpjblogeofpaaW.PrintWords Go.Proofs.YtfcpjblogeofpaaW.PrintLast Go.Proofs.YtfcpjblogeofpaaW.PrintMore
set_option linter.unusedVariables false
set_option linter.unusedSimpArgs false
theorem Try.info24 : (Try.prog.info? 24).map (fun i => (i.zero, i.size, i.bytes)) = some (some (.int .u64 0), 1, 8) := by kernel_rfl
def mkPost (W : World) (n : Nat) (w' : World) : Prop := w'.ownsRow W.heap.size 24 1 (.slice (some ⟨W.heap.size, 0, none⟩) 0 n) 0 (nums .u64 []) ∧ Below W.heap.size W w'
theorem run_mk (n : Nat) (h : n ≤ 140737488351232 / 8) (W : World) : ∃ w', (Instr.makeSlice 32 (.int .i64 0) (.int .i64 (n : Int))).run Try.prog W = .ok (.slice (some ⟨W.heap.size, 0, none⟩) 0 n) w' ∧ mkPost W n w' := by
  obtain ⟨i, hi, hz, hs, hb⟩ := info_parts Try.info24
  obtain ⟨w', h1, h2, h3⟩ := run_make_own (P := Try.prog) W W.heap.size 32 24 i (.int .u64 0) 1 Try.underlying32 hi hz hs .i64 .i64 n (by rw [hb]; omega) (by unfold maxLen; omega) (Nat.le_refl _)
  exact ⟨w', h1, h2, (Below.refl _ _).grown h3 (Nat.le_refl _) (fun k hk => by cases hk)⟩

def stepB (s : Int × Int) (b : Int) : Int × Int := (Go.bits .xor .u64 (IntKind.u64.wrap ((Go.bits .xor .u64 s.1 (IntKind.u64.wrap (b))) * 11400714819323198485)) ((IntKind.u64.wrap ((Go.bits .xor .u64 s.1 (IntKind.u64.wrap (b))) * 11400714819323198485)) / 536870912), IntKind.u64.wrap (s.2 + 1))
theorem byte_f (s : Int × Int) (b : Int) : sum_State_Byte.f s.1 s.2 b = some ((stepB s b).1, (stepB s b).2) := rfl
def sumS (s : Int × Int) : Int := Go.bits .xor .u64 (IntKind.u64.wrap ((IntKind.u64.wrap (s.1 + s.2)) * 13787848793156543929)) ((IntKind.u64.wrap ((IntKind.u64.wrap (s.1 + s.2)) * 13787848793156543929)) / 4294967296)
theorem sum_f (s : Int × Int) : sum_State_Sum.f s.1 s.2 = some (sumS s) := rfl
def new0 : Int × Int := (7640891576956012808, 0)
def stA (a : ByteArray) (s : Int × Int) : Nat → Int × Int
  | 0 => s
  | k + 1 => stepB (stA a s k) (bt a k)
def pres (a : ByteArray) (k : Nat) : List Int := (List.range k).map fun i => sumS (stA a new0 (i + 1))
theorem pres_length (a : ByteArray) (k : Nat) : (pres a k).length = k := by simp [pres]
theorem pres_succ (a : ByteArray) (k : Nat) : pres a (k + 1) = pres a k ++ [sumS (stA a new0 (k + 1))] := by simp [pres, List.range_succ]

set_option maxHeartbeats 1000000 in
theorem prefixes_any (a : ByteArray) (w : World) (hs : a.size ≤ 100) :
    Calls Try.prog 12 #[.string a] w fun e w' => ∃ v, e = .returned v ∧ w'.ownsRow w.heap.size 24 1 v (pres a a.size).length (nums .u64 (pres a a.size)) ∧ Below w.heap.size w w' := by
  obtain ⟨w1, hrun, hpost⟩ := run_mk a.size (by omega) w
  have HO := Aside0.mk hpost.1
  have HB := Aside0.mk hpost.2
  clear hpost
  have HN : Aside0 (sum_New.f = some (7640891576956012808, 0)) := Aside0.mk rfl
  go_enter Try.func12, Try.ntmps12
  go_wp2_with (((with_reducible refine gate_dst (N := 9) rfl ?_); (with_reducible refine gate_callee (f := 7) rfl ?_); refine goesL_ (some 9) rfl rfl Try.func7 (by kernel_rfl) rfl #[] rfl (by (try simp only [List.map_toArray, List.map_cons, List.map_nil]); first | done | rfl | (simp only [List.length_drop, List.length_take]; rfl)) ?_; (with_reducible refine (sum_New.calls 7640891576956012808 0 _ HN.out).mono ?_); rintro e w5 ⟨rfl, hb⟩; refine ⟨_, rfl, ?_⟩; have zz_HO := Aside0.mk (pw_own_below HO.out hb); have zz_HB := Aside0.mk (below_step HB.out hb); clear HO; clear HB; have HO := zz_HO; have HB := zz_HB; clear zz_HO; clear zz_HB; clear hb))
  have BK := Aside0.mk (blk_new w5 (.cells #[.int .u64 7640891576956012808, .int .u64 0] 26 (0, 0)))
  have GE := Aside0.mk (below_size HB.out)
  have zz_HO := Aside0.mk (own_alloc HO.out (.cells #[.int .u64 7640891576956012808, .int .u64 0] 26 (0, 0))); have zz_HB := Aside0.mk (below_alloc HB.out (.cells #[.int .u64 7640891576956012808, .int .u64 0] 26 (0, 0))); clear HO; clear HB; have HO := zz_HO; have HB := zz_HB; clear zz_HO; clear zz_HB
  generalize w5.alloc (.cells #[.int .u64 7640891576956012808, .int .u64 0] 26) = w6 at HO HB BK ⊢
  generalize w5.heap.size = gb at BK GE ⊢
  go_loopg [3, 12] a.size (fun d v3 v12 wr => ∃ k : Nat, Aside0 (k + d = a.size) ∧ v12 = .int .i64 k ∧ Aside0 (wr.ownsRow w.heap.size 24 1 v3 (pres a k).length (nums .u64 (pres a k))) ∧ Aside0 (wr.heap[gb]? = some (.cells #[.int .u64 (stA a new0 k).1, .int .u64 (stA a new0 k).2] 26 (0, 0))) ∧ Aside0 (Below w.heap.size w wr))
  case atStart => exact ⟨0, ⟨by omega⟩, rfl, HO, BK, HB⟩
  case round =>
    clear HO BK HB
    obtain ⟨k, HK, rfl, HO, BK, HB⟩ := hrel
    by_cases hlt : k < a.size
    · have hc0 : wr.cell? ⟨gb, 0, none⟩ = some (.int .u64 (stA a new0 k).1) := (blk_cell BK.out 0).trans rfl
      have hc1 : wr.cell? ⟨gb, 1, none⟩ = some (.int .u64 (stA a new0 k).2) := (blk_cell BK.out 1).trans rfl
      have hix : ∀ h : k < a.size, ((a[k]'h).toNat : Int) = bt a (k : Int) := bt_at a k
      go_wp2
      go_still_tail 4, (by kernel_rfl)
      change wpList _ _ _ _ _ wr.drew
      have zz_HO := Aside0.mk ((show wr.drew.ownsRow _ _ _ _ _ _ from HO.out)); have zz_BK := Aside0.mk ((show wr.drew.heap[gb]? = _ from BK.out)); have zz_HB := Aside0.mk (below_drew1 HB.out); clear HO; clear BK; clear HB; have HO := zz_HO; have BK := zz_BK; have HB := zz_HB; clear zz_HO; clear zz_BK; clear zz_HB
      generalize wr.drew = w7 at HO BK HB ⊢
      clear hc0 hc1
      have HY := Aside0.mk (byte_f (stA a new0 k) (bt a k))
      have HZ := Aside0.mk (sum_f (stA a new0 (k + 1)))
      go_wp2_with (first
       | ((with_reducible refine gate_dst (N := 19) rfl ?_); (with_reducible refine gate_callee (f := 13) rfl ?_); refine goesL_ (some 19) rfl rfl Try.func13 (by kernel_rfl) rfl #[.agg #[.int .u64 (stA a new0 k).1, .int .u64 (stA a new0 k).2], .int .u8 (bt a k)] rfl (by (try simp only [List.map_toArray, List.map_cons, List.map_nil]); first | done | rfl | (simp only [List.length_drop, List.length_take]; rfl)) ?_; (with_reducible refine (sum_State_Byte.calls _ _ _ _ _ _ HY.out).mono ?_); rintro e w8 ⟨rfl, hb⟩; refine ⟨_, rfl, ?_⟩; have zz_HO := Aside0.mk (pw_own_below HO.out hb); have zz_BK := Aside0.mk (blk_below BK.out hb); have zz_HB := Aside0.mk (below_step HB.out hb); clear HO; clear BK; clear HB; have HO := zz_HO; have BK := zz_BK; have HB := zz_HB; clear zz_HO; clear zz_BK; clear zz_HB; clear hb; have hc0 : w8.cell? ⟨gb, 0, none⟩ = some (.int .u64 (stA a new0 k).1) := (blk_cell BK.out 0).trans rfl; have hc1 : w8.cell? ⟨gb, 1, none⟩ = some (.int .u64 (stA a new0 k).2) := (blk_cell BK.out 1).trans rfl; have hf0 := blk_frozen BK.out 0; have hf1 := blk_frozen BK.out 1)
       | ((with_reducible refine gate_dst (N := 22) rfl ?_); (with_reducible refine gate_callee (f := 11) rfl ?_); refine goesL_ (some 22) rfl rfl Try.func11 (by kernel_rfl) rfl #[.agg #[.int .u64 (stA a new0 (k + 1)).1, .int .u64 (stA a new0 (k + 1)).2]] rfl (by (try simp only [List.map_toArray, List.map_cons, List.map_nil]); first | done | rfl | (simp only [List.length_drop, List.length_take]; rfl)) ?_; (with_reducible refine (sum_State_Sum.calls _ _ _ _ HZ.out).mono ?_); rintro e w9 ⟨rfl, hb⟩; refine ⟨_, rfl, ?_⟩; have zz_HO := Aside0.mk (pw_own_below (own_setCell (own_setCell HO.out (own_ne HO.out BK.out (by decide)) _) (own_ne HO.out BK.out (by decide)) _) hb); have zz_HB := Aside0.mk (below_step (below_set (below_set HB.out GE.out) GE.out) hb); have zz_BK := Aside0.mk (blk_below (blk_put (cs' := #[.int .u64 (stA a new0 (k + 1)).1, .int .u64 (stA a new0 (k + 1)).2]) (blk_put (cs' := #[.int .u64 (stA a new0 (k + 1)).1, .int .u64 (stA a new0 k).2]) BK.out 0 _ rfl) 1 _ rfl) hb); clear HO; clear HB; clear BK; have HO := zz_HO; have HB := zz_HB; have BK := zz_BK; clear zz_HO; clear zz_HB; clear zz_BK; clear hb hc0 hc1 hf0 hf1)
       | ((with_reducible refine gate_dst (N := 24) rfl ?_); refine print_append_num (k := .u64) (bytes := 8) w.heap.size rfl (.tmp 20) (.tmp 23) 32 24 rfl Try.underlying32 Try.info24 (by decide) _ (pres a k) (sumS (stA a new0 (k + 1))) rfl rfl HO.out HB.out (below_size HB.out) (by rw [pres_length]; omega) ?_; intro v1 w10 hown hbel hgrow hat; have zz_BK := Aside0.mk (blk_grown BK.out hgrow (own_ne HO.out BK.out (by decide))); have zz_HO := Aside0.mk (pres_succ a k ▸ hown); have zz_HB := Aside0.mk (hbel); clear BK; clear HO; clear HB; have BK := zz_BK; have HO := zz_HO; have HB := zz_HB; clear zz_BK; clear zz_HO; clear zz_HB; clear hown hbel hgrow hat))
      go_roundg (gk - 1)
      case measure => have := HK.out; omega
      case rel => exact ⟨k + 1, ⟨by have := HK.out; omega⟩, by go_num, HO, BK, HB⟩
    · obtain rfl : a.size = k := by have := HK.out; omega
      go_wp2
      go_ret
      exact ⟨_, rfl, HO.out, HB.out⟩
end Go.Proofs.Ytfcpjblogeofpaa.PSumTexts
