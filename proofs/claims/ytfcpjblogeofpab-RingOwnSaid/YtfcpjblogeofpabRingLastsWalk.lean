/- The walk of RingLasts: it answers true. -/
import Derived.Test.YtfcpjblogeofpabRingAwake
namespace Go.Proofs.Ytfcpjblogeofpab
open Go.RowKit Go.Proofs.YtfcpjblogeofpabW.PrintWords Go.Proofs.YtfcpjblogeofpabW.PrintLast Go.Proofs.YtfcpjblogeofpabW.PrintMore Go.Proofs.Ytfcpjblogeofpab.Fr
set_option linter.unusedVariables false
set_option linter.unusedSimpArgs false

theorem refLast_at (A : Option Addr) (a : List ByteArray) (m ca : Nat) (n : Int) (k : Nat) (hm : m = a.length) (hk : mn (mx n 1) 64 = (k : Int)) (w : World) (hA : RdS w A a) (hca : a.length ≤ ca) (hla : a.length ≤ 1000) :
    Calls Try.prog 9 #[.slice A m ca, .int .i64 n] w (LastPost A a k w) := by
  subst hm
  exact refLast_any A a ca n k hk w hA hca hla
theorem places (n : Int) : ∃ k : Nat, mn (mx n 1) 64 = (k : Int) ∧ 0 < k ∧ k ≤ 64 := ⟨(mn (mx n 1) 64).toNat, by unfold mn mx; omega, by unfold mn mx; omega, by unfold mn mx; omega⟩
set_option maxHeartbeats 2000000 in
theorem lasts_walk (A : Option Addr) (len cap : Nat) (l : List ByteArray) (n : Int) (_hn : (Lit.int .i64 n).wf = true) (w : World) (hl : IsStrs w A len cap l) :
    Calls Try.prog 3 #[.slice A len cap, .int .i64 n] w fun e w' => e = .returned (.bool true) ∧ Below w.heap.size w w' := by
  obtain ⟨rfl, hcap, _, hrd, hsz, _⟩ := hl
  have HB := Aside0.mk (Below.refl w.heap.size w)
  by_cases hbig : 200 < l.length
  · go_enter Try.func3, Try.ntmps3
    go_wp2_with ((go_at_call 6; refine (awake_any _).mono ?_; rintro e w1 ⟨rfl, hb⟩; have zz_HB := Aside0.mk (below_step HB.out hb); clear HB; have HB := zz_HB; clear zz_HB; clear hb))
    go_ret
    exact ⟨rfl, HB.out⟩
  · obtain ⟨c, hc, hc0, hc64⟩ := places n
    have HC := Aside0.mk hc
    have HS := Aside0.mk hsz
    have HL := Aside0.mk hrd
    clear hc hsz hrd
    go_enter Try.func3, Try.ntmps3
    go_wp2_with (first
     | (go_at_call 6; refine (awake_any _).mono ?_; rintro e w1 ⟨rfl, hb⟩; have zz_HB := Aside0.mk (below_step HB.out hb); clear HB; have HB := zz_HB; clear zz_HB; clear hb)
     | (go_at_call 7; refine (new_any n c HC.out _).mono ?_; rintro e w2 ⟨g, gl, rfl, hr, hb, hg1, hg2⟩; have hsz0 := HB.out.size; have HR := Aside0.mk (And.intro hr (rep_new c hc0 hc64)); have HG := Aside0.mk (And.intro (Nat.le_trans hsz0 hg1) (Nat.le_trans hsz0 hg2)); have zz_HB := Aside0.mk (below_step HB.out hb); clear HB; have HB := zz_HB; clear zz_HB; clear hr hb hg1 hg2 hsz0))
    go_loopg [18] l.length (fun d v18 wr => ∃ (k : Nat) (r : R), Aside0 (k + d = l.length) ∧ v18 = .int .i64 k ∧ Aside0 (RingAt wr g gl r ∧ Rep c r (lastL (l.take k) c)) ∧ Aside0 (Below w.heap.size w wr))
    case atStart => exact ⟨0, _, ⟨by omega⟩, rfl, ⟨HR.out.1, by simpa [lastL] using HR.out.2⟩, HB⟩
    case round =>
      clear HR HB
      obtain ⟨k, r, HK, rfl, HR, HB⟩ := hrel
      by_cases hlt : k < l.length
      · obtain ⟨x, hx⟩ : ∃ x, l.getD k ByteArray.empty = x := ⟨_, rfl⟩
        have hxs : x.size ≤ 140737488351232 := HS.out x (by rw [← hx]; simp [List.getD_eq_getElem?_getD, hlt])
        have hrdw := HL.out.below HB.out
        obtain ⟨ad, rfl, hc1⟩ := hrdw k hlt
        rw [hx] at hc1
        clear hrdw
        have HT : Aside0 (l.take (k + 1) = l.take k ++ [x]) := ⟨by rw [take_snoc l k hlt, hx]⟩
        clear hx
        have HS1 : Aside0 (∀ s ∈ l.take k, s.size ≤ 140737488351232) := ⟨fun s hs => HS.out s (List.mem_of_mem_take hs)⟩
        have hk2 : k < 200 := by omega
        go_wp2_with fail
        refine (add_rep g gl r x _ HR.out.1 HR.out.2 HS1.out hxs).mono ?_
        rintro e w3 ⟨r1, rfl, hr, hp, hch⟩
        rw [← HT.out] at hp
        have zz_HR := Aside0.mk (And.intro hr hp); have zz_HB := Aside0.mk (onto HB.out hch HB.out.size HG.out.1 HG.out.2); clear HR; clear HB; have HR := zz_HR; have HB := zz_HB; clear zz_HR; clear zz_HB
        clear hr hp hch hc1
        have hrdw := (HL.out.below HB.out).take (k + 1)
        have htl : (l.take (k + 1)).length = k + 1 := by rw [List.length_take]; omega
        have HM := Aside0.mk (And.intro htl hrdw)
        clear htl hrdw
        go_wp2_with fail
        refine (refLast_at (some ad) (l.take (k + 1)) (k + 1) cap n c HM.out.1.symm HC.out _ HM.out.2 (by rw [HM.out.1]; omega) (by rw [HM.out.1]; omega)).mono ?_
        rintro e w4 ⟨A', c', rfl, hc', hrl, _, rfl⟩
        have hxsz : ∀ s ∈ lastL (l.take (k + 1)) c, s.size ≤ 140737488351232 := fun s hs => HS.out s (List.mem_of_mem_take (last_mem hs))
        have hxle : (lastL (l.take (k + 1)) c).length ≤ 64 := by have := HR.out.2.le; omega
        obtain ⟨xs, hxs2⟩ : ∃ xs, lastL (l.take (k + 1)) c = xs := ⟨_, rfl⟩
        rw [hxs2] at hrl hc' hxsz hxle HR ⊢
        have HX := Aside0.mk (And.intro hxs2 (And.intro hxsz hrl))
        clear hxs2 hxsz hrl HM
        have HN := Aside0.mk HR.out.2.n
        have HY := Aside0.mk HR.out.2.bytes
        have HA := Aside0.mk HR.out.2.recs
        have HO := Aside0.mk (HR.out.2.ok HX.out.2.1)
        by_cases h7 : (k : Int) % 7 = 0
        · have h7b : ((k : Int) % 7 == 0) = true := by simpa using h7
          clear h7
          go_wp2_with (first
           | (go_at_call 10; refine (len_any g gl r1 _ HR.out.1).mono ?_; rintro e w5 ⟨rfl, rfl⟩; rw [HN.out])
           | (go_at_call 11; refine (bytes_any g gl r1 _ HR.out.1).mono ?_; rintro e w5 ⟨rfl, rfl⟩; rw [HY.out])
           | (go_at_call 12; refine (refBytes_any A' xs c' _ HX.out.2.2 (by omega) hc' HX.out.2.1).mono ?_; rintro e w5 ⟨rfl, rfl⟩; skip)
           | (go_at_call 14; refine (all_any g gl r1 _ HR.out.1 HO.out).mono ?_; rintro e w5 ⟨v, rfl, ho, hb⟩; (rw [HA.out] at ho); obtain ⟨B, cb, rfl, hcb, hrb⟩ := own_rds ho; have HX2 := Aside0.mk (HX.out.2.2.below hb); have HRB := Aside0.mk hrb; have HR2 := Aside0.mk (HR.out.1.below hb); have zz_HB := Aside0.mk (below_step HB.out hb); clear HB; have HB := zz_HB; clear zz_HB; clear hb ho hrb)
           | (go_at_call 13; refine (same_any B A' xs xs cb c' _ HRB.out HX2.out (by omega) hcb hc').mono ?_; rintro e w6 ⟨rfl, hd⟩; have zz_HR2 := Aside0.mk (HR2.out.drawn hd); have zz_HB := Aside0.mk (below_step HB.out hd.below); clear HR2; clear HB; have HR2 := zz_HR2; have HB := zz_HB; clear zz_HR2; clear zz_HB; clear hd))
          go_roundg (gk - 1)
          case measure => have := HK.out; omega
          case rel => exact ⟨k + 1, r1, ⟨by have := HK.out; omega⟩, by go_num, ⟨HR2.out, by rw [HX.out.1]; exact HR.out.2⟩, HB⟩
        · have h7b : ((k : Int) % 7 == 0) = false := by simpa using h7
          clear h7
          go_wp2_with (first
           | (go_at_call 10; refine (len_any g gl r1 _ HR.out.1).mono ?_; rintro e w5 ⟨rfl, rfl⟩; rw [HN.out])
           | (go_at_call 11; refine (bytes_any g gl r1 _ HR.out.1).mono ?_; rintro e w5 ⟨rfl, rfl⟩; rw [HY.out])
           | (go_at_call 12; refine (refBytes_any A' xs c' _ HX.out.2.2 (by omega) hc' HX.out.2.1).mono ?_; rintro e w5 ⟨rfl, rfl⟩; skip))
          go_roundg (gk - 1)
          case measure => have := HK.out; omega
          case rel => exact ⟨k + 1, r1, ⟨by have := HK.out; omega⟩, by go_num, ⟨HR.out.1, by rw [HX.out.1]; exact HR.out.2⟩, HB⟩
      · obtain rfl : l.length = k := by have := HK.out; omega
        have hrdw := HL.out.below HB.out
        have HL2 := Aside0.mk hrdw
        have hxsz : ∀ s ∈ lastL l c, s.size ≤ 140737488351232 := fun s hs => HS.out s (last_mem hs)
        rw [List.take_length] at HR
        have HA := Aside0.mk HR.out.2.recs
        have HO := Aside0.mk (HR.out.2.ok hxsz)
        have hxle : (lastL l c).length ≤ 64 := by have := HR.out.2.le; omega
        clear hrdw hxsz
        go_wp2_with fail
        refine (all_any g gl r _ HR.out.1 HO.out).mono ?_
        rintro e w5 ⟨v, rfl, ho, hb⟩
        rw [HA.out] at ho
        obtain ⟨B, cb, rfl, hcb, hrb⟩ := own_rds ho
        have HRB := Aside0.mk hrb
        have zz_HL2 := Aside0.mk (HL2.out.below hb); have zz_HB := Aside0.mk (below_step HB.out hb); clear HL2; clear HB; have HL2 := zz_HL2; have HB := zz_HB; clear zz_HL2; clear zz_HB
        clear hb ho hrb
        go_wp2_with fail
        refine (refLast_any A l cap n c HC.out _ HL2.out hcap (by omega)).mono ?_
        rintro e w4 ⟨A', c', rfl, hc', hrl, _, rfl⟩
        have HX := Aside0.mk hrl
        clear hrl
        go_wp2_with fail
        refine (same_any B A' _ _ cb c' _ HRB.out HX.out (by omega) hcb hc').mono ?_
        rintro e w6 ⟨rfl, hd⟩
        have zz_HB := Aside0.mk (below_step HB.out hd.below); clear HB; have HB := zz_HB; clear zz_HB
        go_wp2
        go_ret
        exact ⟨by simp, HB.out⟩
end Go.Proofs.Ytfcpjblogeofpab
