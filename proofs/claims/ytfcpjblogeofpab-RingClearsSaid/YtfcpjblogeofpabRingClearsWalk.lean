/- The walk of RingClears: it answers true. -/
import Derived.Test.YtfcpjblogeofpabRingLastsWalk
namespace Go.Proofs.Ytfcpjblogeofpab
open Go.RowKit Go.Proofs.YtfcpjblogeofpabW.PrintWords Go.Proofs.YtfcpjblogeofpabW.PrintLast Go.Proofs.YtfcpjblogeofpabW.PrintMore Go.Proofs.Ytfcpjblogeofpab.Fr
set_option linter.unusedVariables false
set_option linter.unusedSimpArgs false

set_option maxHeartbeats 2000000 in
theorem clears_walk (A : Option Addr) (la ca : Nat) (a : List ByteArray) (B : Option Addr) (lb cb : Nat) (b : List ByteArray) (n : Int) (_hn : (Lit.int .i64 n).wf = true) (w : World) (ha : IsStrs w A la ca a) (hb : IsStrs w B lb cb b) :
    Calls Try.prog 4 #[.slice A la ca, .slice B lb cb, .int .i64 n] w fun e w' => e = .returned (.bool true) ∧ Below w.heap.size w w' := by
  obtain ⟨rfl, hcapa, _, hrda, hsza, _⟩ := ha
  obtain ⟨rfl, hcapb, _, hrdb, hszb, _⟩ := hb
  have HB := Aside0.mk (Below.refl w.heap.size w)
  by_cases hba : 100 < a.length
  · go_enter Try.func4, Try.ntmps4
    go_wp2_with ((go_at_call 6; refine (awake_any _).mono ?_; rintro e w1 ⟨rfl, hb⟩; have zz_HB := Aside0.mk (below_step HB.out hb); clear HB; have HB := zz_HB; clear zz_HB; clear hb))
    go_ret
    exact ⟨rfl, HB.out⟩
  · by_cases hbb : 100 < b.length
    · go_enter Try.func4, Try.ntmps4
      go_wp2_with ((go_at_call 6; refine (awake_any _).mono ?_; rintro e w1 ⟨rfl, hb⟩; have zz_HB := Aside0.mk (below_step HB.out hb); clear HB; have HB := zz_HB; clear zz_HB; clear hb))
      go_ret
      exact ⟨rfl, HB.out⟩
    · obtain ⟨c, hc, hc0, hc64⟩ := places n
      have HC := Aside0.mk hc
      have HSA := Aside0.mk hsza
      have HSB := Aside0.mk hszb
      have HLA := Aside0.mk hrda
      have HLB := Aside0.mk hrdb
      clear hc hsza hszb hrda hrdb
      go_enter Try.func4, Try.ntmps4
      go_wp2_with ((go_at_call 6; refine (awake_any _).mono ?_; rintro e w1 ⟨rfl, hb⟩; have zz_HB := Aside0.mk (below_step HB.out hb); clear HB; have HB := zz_HB; clear zz_HB; clear hb))
      refine (new_any n c HC.out _).mono ?_
      rintro e w2 ⟨g, gl, rfl, hr, hb, hg1, hg2⟩
      have hsz0 := HB.out.size
      have HR := Aside0.mk (And.intro hr (rep_new c hc0 hc64))
      have HG := Aside0.mk (And.intro (Nat.le_trans hsz0 hg1) (Nat.le_trans hsz0 hg2))
      have zz_HB := Aside0.mk (below_step HB.out hb); clear HB; have HB := zz_HB; clear zz_HB
      clear hr hb hg1 hg2 hsz0
      go_wp2_with fail
      refine (new_any n c HC.out _).mono ?_
      rintro e w3 ⟨h, hl, rfl, hr, hb, hg1, hg2⟩
      have hsz0 := HB.out.size
      have HT := Aside0.mk (And.intro hr (rep_new c hc0 hc64))
      have HH := Aside0.mk (And.intro (Nat.le_trans hsz0 hg1) (Nat.le_trans hsz0 hg2))
      have l1 := blk_lt HR.out.1.1
      have l2 := blk_lt HR.out.1.2.1
      have HD : Aside0 (g ≠ h ∧ g ≠ hl ∧ gl ≠ h ∧ gl ≠ hl) := ⟨by omega, by omega, by omega, by omega⟩
      have zz_HB := Aside0.mk (below_step HB.out hb); have zz_HR := Aside0.mk (And.intro (HR.out.1.below hb) HR.out.2); clear HB; clear HR; have HB := zz_HB; have HR := zz_HR; clear zz_HB; clear zz_HR
      clear hr hb hg1 hg2 hsz0 l1 l2
      go_wp2_with fail
      go_loopg [29] a.length (fun d v wr => ∃ (k : Nat) (r : R), Aside0 (k + d = a.length) ∧ v = .int .i64 k ∧ Aside0 (RingAt wr g gl r ∧ Rep c r (lastL (a.take k) c)) ∧ Aside0 (RingAt wr h hl (newR c)) ∧ Aside0 (Below w.heap.size w wr))
      case atStart => exact ⟨0, _, ⟨by omega⟩, rfl, ⟨HR.out.1, by simpa [lastL] using HR.out.2⟩, ⟨HT.out.1⟩, HB⟩
      case round =>
        clear HR HB
        have HTR := Aside0.mk HT.out.2
        clear HT
        obtain ⟨k, r, HK, rfl, HR, HT, HB⟩ := hrel
        by_cases hlt : k < a.length
        · obtain ⟨x, hx⟩ : ∃ x, a.getD k ByteArray.empty = x := ⟨_, rfl⟩
          have hxs : x.size ≤ 140737488351232 := HSA.out x (by rw [← hx]; simp [List.getD_eq_getElem?_getD, hlt])
          have hrdw := HLA.out.below HB.out
          obtain ⟨ad, rfl, hc1⟩ := hrdw k hlt
          rw [hx] at hc1
          clear hrdw
          have HX : Aside0 (a.take (k + 1) = a.take k ++ [x]) := ⟨by rw [take_snoc a k hlt, hx]⟩
          clear hx
          have HS1 : Aside0 (∀ s ∈ a.take k, s.size ≤ 140737488351232) := ⟨fun s hs => HSA.out s (List.mem_of_mem_take hs)⟩
          have hk2 : k < 100 := by omega
          go_wp2_with fail
          refine (add_rep g gl r x _ HR.out.1 HR.out.2 HS1.out hxs).mono ?_
          rintro e w4 ⟨r1, rfl, hr, hp, hch⟩
          rw [← HX.out] at hp
          have zz_HR := Aside0.mk (And.intro hr hp); have zz_HB := Aside0.mk (onto HB.out hch HB.out.size HG.out.1 HG.out.2); have zz_HT := Aside0.mk (HT.out.ch hch (by have := HD.out; rintro (e | e) <;> omega) (by have := HD.out; rintro (e | e) <;> omega)); clear HR; clear HB; clear HT; have HR := zz_HR; have HB := zz_HB; have HT := zz_HT; clear zz_HR; clear zz_HB; clear zz_HT
          clear hr hp hch hc1
          go_wp2
          go_roundg (gk - 1)
          case measure => have := HK.out; omega
          case rel => exact ⟨k + 1, r1, ⟨by have := HK.out; omega⟩, by go_num, HR, HT, HB⟩
        · have HP := Aside0.mk HR.out.2
          go_wp2_with fail
          refine (clear_any g gl r _ HR.out.1 (by rw [HP.out.len]; exact hc0)).mono ?_
          rintro e w4 ⟨rfl, hr, hch⟩
          have zz_HR := Aside0.mk (And.intro hr (rep_clear HP.out)); have zz_HB := Aside0.mk (onto HB.out hch HB.out.size HG.out.1 HG.out.2); have zz_HT := Aside0.mk (HT.out.ch hch (by have := HD.out; rintro (e | e) <;> omega) (by have := HD.out; rintro (e | e) <;> omega)); clear HR; clear HB; clear HT; have HR := zz_HR; have HB := zz_HB; have HT := zz_HT; clear zz_HR; clear zz_HB; clear zz_HT
          clear hr hch HP
          generalize clearR r = q at HR ⊢
          have HA := Aside0.mk HR.out.2.recs
          have HN : Aside0 (q.n = 0) := ⟨HR.out.2.n⟩
          have HY : Aside0 (q.bytes = 0) := ⟨HR.out.2.bytes⟩
          have HO := Aside0.mk (HR.out.2.ok (fun s hs => by simp at hs))
          go_wp2_with (first
           | (go_at_call 10; refine (len_any g gl q _ HR.out.1).mono ?_; rintro e w5 ⟨rfl, rfl⟩; rw [HN.out])
           | (go_at_call 11; refine (bytes_any g gl q _ HR.out.1).mono ?_; rintro e w5 ⟨rfl, rfl⟩; rw [HY.out])
           | (go_at_call 14; refine (all_any g gl q _ HR.out.1 HO.out).mono ?_; rintro e w5 ⟨v, rfl, ho, hb⟩; (rw [HA.out] at ho); obtain ⟨V, cv, rfl, _, _⟩ := own_rds ho; have zz_HR := Aside0.mk (And.intro (HR.out.1.below hb) HR.out.2); have zz_HT := Aside0.mk (HT.out.below hb); have zz_HB := Aside0.mk (below_step HB.out hb); clear HR; clear HT; clear HB; have HR := zz_HR; have HT := zz_HT; have HB := zz_HB; clear zz_HR; clear zz_HT; clear zz_HB; clear hb ho))
          go_loopg [55] b.length (fun d v wr => ∃ (k : Nat) (r s : R), Aside0 (k + d = b.length) ∧ v = .int .i64 k ∧ Aside0 (RingAt wr g gl r ∧ Rep c r (lastL (b.take k) c)) ∧ Aside0 (RingAt wr h hl s ∧ Rep c s (lastL (b.take k) c)) ∧ Aside0 (Below w.heap.size w wr))
          case atStart => exact ⟨0, _, _, ⟨by omega⟩, rfl, ⟨HR.out.1, by simpa [lastL] using HR.out.2⟩, ⟨HT.out, by simpa [lastL] using HTR.out⟩, HB⟩
          case round =>
            clear HR HB HT HA HN HY HO HTR HK
            obtain ⟨k, r, s, HK, rfl, HR, HT, HB⟩ := hrel
            by_cases hlt : k < b.length
            · obtain ⟨x, hx⟩ : ∃ x, b.getD k ByteArray.empty = x := ⟨_, rfl⟩
              have hxs : x.size ≤ 140737488351232 := HSB.out x (by rw [← hx]; simp [List.getD_eq_getElem?_getD, hlt])
              have hrdw := HLB.out.below HB.out
              obtain ⟨ad, rfl, hc1⟩ := hrdw k hlt
              rw [hx] at hc1
              clear hrdw
              have HX : Aside0 (b.take (k + 1) = b.take k ++ [x]) := ⟨by rw [take_snoc b k hlt, hx]⟩
              clear hx
              have HS1 : Aside0 (∀ s ∈ b.take k, s.size ≤ 140737488351232) := ⟨fun s hs => HSB.out s (List.mem_of_mem_take hs)⟩
              have hk2 : k < 100 := by omega
              go_wp2_with fail
              refine (add_rep g gl r x _ HR.out.1 HR.out.2 HS1.out hxs).mono ?_
              rintro e w4 ⟨r1, rfl, hr, hp, hch⟩
              rw [← HX.out] at hp
              have zz_HR := Aside0.mk (And.intro hr hp); have zz_HB := Aside0.mk (onto HB.out hch HB.out.size HG.out.1 HG.out.2); have zz_HT := Aside0.mk (And.intro (HT.out.1.ch hch (by have := HD.out; rintro (e | e) <;> omega) (by have := HD.out; rintro (e | e) <;> omega)) HT.out.2); clear HR; clear HB; clear HT; have HR := zz_HR; have HB := zz_HB; have HT := zz_HT; clear zz_HR; clear zz_HB; clear zz_HT
              clear hr hp hch hc1
              go_wp2_with fail
              refine (add_rep h hl s x _ HT.out.1 HT.out.2 HS1.out hxs).mono ?_
              rintro e w5 ⟨s1, rfl, hr, hp, hch⟩
              rw [← HX.out] at hp
              have zz_HT := Aside0.mk (And.intro hr hp); have zz_HB := Aside0.mk (onto HB.out hch HB.out.size HH.out.1 HH.out.2); have zz_HR := Aside0.mk (And.intro (HR.out.1.ch hch (by have := HD.out; rintro (e | e) <;> omega) (by have := HD.out; rintro (e | e) <;> omega)) HR.out.2); clear HT; clear HB; clear HR; have HT := zz_HT; have HB := zz_HB; have HR := zz_HR; clear zz_HT; clear zz_HB; clear zz_HR
              clear hr hp hch
              go_wp2
              go_roundg (gk - 1)
              case measure => have := HK.out; omega
              case rel => exact ⟨k + 1, r1, s1, ⟨by have := HK.out; omega⟩, by go_num, HR, HT, HB⟩
            · obtain rfl : b.length = k := by have := HK.out; omega
              rw [List.take_length] at HR HT
              have hxsz : ∀ s ∈ lastL b c, s.size ≤ 140737488351232 := fun s hs => HSB.out s (last_mem hs)
              have hxle : (lastL b c).length ≤ 64 := by have := HR.out.2.le; omega
              generalize lastL b c = xs at HR HT hxsz hxle
              have HA1 := Aside0.mk HR.out.2.recs
              have HA2 := Aside0.mk HT.out.2.recs
              have HO1 := Aside0.mk (HR.out.2.ok hxsz)
              have HO2 := Aside0.mk (HT.out.2.ok hxsz)
              have HY1 := Aside0.mk HR.out.2.bytes
              have HY2 := Aside0.mk HT.out.2.bytes
              clear hxsz
              go_wp2_with fail
              refine (all_any g gl r _ HR.out.1 HO1.out).mono ?_
              rintro e w5 ⟨v, rfl, ho, hb⟩
              rw [HA1.out] at ho
              obtain ⟨V, cv, rfl, hcv, hrv⟩ := own_rds ho
              have HV := Aside0.mk hrv
              have zz_HR := Aside0.mk (And.intro (HR.out.1.below hb) HR.out.2); have zz_HT := Aside0.mk (And.intro (HT.out.1.below hb) HT.out.2); have zz_HB := Aside0.mk (below_step HB.out hb); clear HR; clear HT; clear HB; have HR := zz_HR; have HT := zz_HT; have HB := zz_HB; clear zz_HR; clear zz_HT; clear zz_HB
              clear hb ho hrv
              go_wp2_with fail
              refine (all_any h hl s _ HT.out.1 HO2.out).mono ?_
              rintro e w6 ⟨v, rfl, ho, hb⟩
              rw [HA2.out] at ho
              obtain ⟨U, cu, rfl, hcu, hru⟩ := own_rds ho
              have HU := Aside0.mk hru
              have zz_HV := Aside0.mk (HV.out.below hb); have zz_HR := Aside0.mk (And.intro (HR.out.1.below hb) HR.out.2); have zz_HT := Aside0.mk (And.intro (HT.out.1.below hb) HT.out.2); have zz_HB := Aside0.mk (below_step HB.out hb); clear HV; clear HR; clear HT; clear HB; have HV := zz_HV; have HR := zz_HR; have HT := zz_HT; have HB := zz_HB; clear zz_HV; clear zz_HR; clear zz_HT; clear zz_HB
              clear hb ho hru
              go_wp2_with (first
               | (go_at_call 13; refine (same_any V U xs xs cv cu _ HV.out HU.out (by omega) hcv hcu).mono ?_; rintro e w7 ⟨rfl, hd⟩; have zz_HR := Aside0.mk (And.intro (HR.out.1.drawn hd) HR.out.2); have zz_HT := Aside0.mk (And.intro (HT.out.1.drawn hd) HT.out.2); have zz_HB := Aside0.mk (below_step HB.out hd.below); clear HR; clear HT; clear HB; have HR := zz_HR; have HT := zz_HT; have HB := zz_HB; clear zz_HR; clear zz_HT; clear zz_HB; clear hd)
               | (go_at_call 11; first | (refine (bytes_any g gl r _ HR.out.1).mono ?_; rintro e w8 ⟨rfl, rfl⟩; rw [HY1.out]) | (refine (bytes_any h hl s _ HT.out.1).mono ?_; rintro e w8 ⟨rfl, rfl⟩; rw [HY2.out])))
              go_ret
              exact ⟨rfl, HB.out⟩
end Go.Proofs.Ytfcpjblogeofpab
