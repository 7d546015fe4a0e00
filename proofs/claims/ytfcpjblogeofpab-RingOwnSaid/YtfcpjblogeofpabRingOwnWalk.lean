/- The walk of RingOwn: it answers true. -/
import Derived.Test.YtfcpjblogeofpabRingLastsWalk
namespace Go.Proofs.Ytfcpjblogeofpab
open Go.RowKit Go.Proofs.YtfcpjblogeofpabW.PrintWords Go.Proofs.YtfcpjblogeofpabW.PrintLast Go.Proofs.YtfcpjblogeofpabW.PrintMore Go.Proofs.Ytfcpjblogeofpab.Fr
set_option linter.unusedVariables false
set_option linter.unusedSimpArgs false

set_option maxHeartbeats 2000000 in
theorem own_walk (A : Option Addr) (la ca : Nat) (l : List ByteArray) (s : ByteArray) (hs : s.size ≤ 140737488351232) (w : World) (hl : IsStrs w A la ca l) :
    Calls Try.prog 5 #[.slice A la ca, .string s] w fun e w' => e = .returned (.bool true) ∧ Below w.heap.size w w' := by
  obtain ⟨rfl, hcap, _, hrd, hsz, _⟩ := hl
  have HB := Aside0.mk (Below.refl w.heap.size w)
  by_cases hbig : 20 < l.length
  · go_enter Try.func5, Try.ntmps5
    go_wp2_with ((go_at_call 6; refine (awake_any _).mono ?_; rintro e w1 ⟨rfl, hb⟩; have zz_HB := Aside0.mk (below_step HB.out hb); clear HB; have HB := zz_HB; clear zz_HB; clear hb))
    go_ret
    exact ⟨rfl, HB.out⟩
  · have HSA := Aside0.mk hsz
    have HL := Aside0.mk hrd
    clear hsz hrd
    go_enter Try.func5, Try.ntmps5
    go_wp2_with ((go_at_call 6; refine (awake_any _).mono ?_; rintro e w1 ⟨rfl, hb⟩; have zz_HB := Aside0.mk (below_step HB.out hb); clear HB; have HB := zz_HB; clear zz_HB; clear hb))
    refine (new_any 64 64 (by rfl) _).mono ?_
    rintro e w2 ⟨g, gl, rfl, hr, hb, hg1, hg2⟩
    have hsz0 := HB.out.size
    have HR := Aside0.mk (And.intro hr (rep_new 64 (by decide) (by decide)))
    have HG := Aside0.mk (And.intro (Nat.le_trans hsz0 hg1) (Nat.le_trans hsz0 hg2))
    have zz_HB := Aside0.mk (below_step HB.out hb); clear HB; have HB := zz_HB; clear zz_HB
    clear hr hb hg1 hg2 hsz0
    go_wp2_with fail
    go_loopg [19] l.length (fun d v wr => ∃ (k : Nat) (r : R), Aside0 (k + d = l.length) ∧ v = .int .i64 k ∧ Aside0 (RingAt wr g gl r ∧ Rep 64 r (lastL (l.take k) 64)) ∧ Aside0 (Below w.heap.size w wr))
    case atStart => exact ⟨0, _, ⟨by omega⟩, rfl, ⟨HR.out.1, by simpa [lastL] using HR.out.2⟩, HB⟩
    case round =>
      clear HR HB
      obtain ⟨k, r, HK, rfl, HR, HB⟩ := hrel
      by_cases hlt : k < l.length
      · obtain ⟨x, hx⟩ : ∃ x, l.getD k ByteArray.empty = x := ⟨_, rfl⟩
        have hxs : x.size ≤ 140737488351232 := HSA.out x (by rw [← hx]; simp [List.getD_eq_getElem?_getD, hlt])
        have hrdw := HL.out.below HB.out
        obtain ⟨ad, rfl, hc1⟩ := hrdw k hlt
        rw [hx] at hc1
        clear hrdw
        have HX : Aside0 (l.take (k + 1) = l.take k ++ [x]) := ⟨by rw [take_snoc l k hlt, hx]⟩
        clear hx
        have HS1 : Aside0 (∀ s ∈ l.take k, s.size ≤ 140737488351232) := ⟨fun s hs => HSA.out s (List.mem_of_mem_take hs)⟩
        have hk2 : k < 20 := by omega
        go_wp2_with fail
        refine (add_rep g gl r x _ HR.out.1 HR.out.2 HS1.out hxs).mono ?_
        rintro e w4 ⟨r1, rfl, hr, hp, hch⟩
        rw [← HX.out] at hp
        have zz_HR := Aside0.mk (And.intro hr hp); have zz_HB := Aside0.mk (onto HB.out hch HB.out.size HG.out.1 HG.out.2); clear HR; clear HB; have HR := zz_HR; have HB := zz_HB; clear zz_HR; clear zz_HB
        clear hr hp hch hc1
        go_wp2
        go_roundg (gk - 1)
        case measure => have := HK.out; omega
        case rel => exact ⟨k + 1, r1, ⟨by have := HK.out; omega⟩, by go_num, HR, HB⟩
      · obtain rfl : l.length = k := by have := HK.out; omega
        rw [List.take_length, show lastL l 64 = l by unfold lastL; rw [show l.length - 64 = 0 by omega]; rfl] at HR
        have HA := Aside0.mk HR.out.2.recs
        have HO := Aside0.mk (HR.out.2.ok HSA.out)
        have hl20 : l.length ≤ 20 := by omega
        go_wp2_with fail
        refine (all_any g gl r _ HR.out.1 HO.out).mono ?_
        rintro e w5 ⟨v, rfl, ho, hb⟩
        rw [HA.out] at ho
        have l1 := blk_lt HR.out.1.1
        have l2 := blk_lt HR.out.1.2.1
        have hbs := HB.out.size
        have HB0 := Aside0.mk hbs
        have zz_HR := Aside0.mk (And.intro (HR.out.1.below hb) HR.out.2); have zz_HB := Aside0.mk (below_step HB.out hb); clear HR; clear HB; have HR := zz_HR; have HB := zz_HB; clear zz_HR; clear zz_HB
        clear hb HK
        obtain ⟨V, cv, hv, hcv, hrv⟩ := own_rds ho
        have HV : Aside0 (∀ gv, V = some ⟨gv, 0, none⟩ → w.heap.size ≤ gv ∧ gv ≠ g ∧ gv ≠ gl) := ⟨fun gv e => by
          have := own_base ho gv (by rw [hv, e]; rfl)
          exact ⟨by omega, by omega, by omega⟩⟩
        rw [hv] at ho
        have HW := Aside0.mk ho
        clear l1 l2 hbs hrv ho
        subst hv
        go_wp2_with fail
        go_loopg [31] l.length (fun d v wr => ∃ (k : Nat) (ys : List ByteArray), Aside0 (k + d = l.length) ∧ v = .int .i64 k ∧ Aside0 (ys.length = l.length ∧ wr.ownsRow w.heap.size 9 1 (.slice V l.length cv) l.length (svals ys)) ∧ Aside0 (RingAt wr g gl r ∧ Rep 64 r l) ∧ Aside0 (Below w.heap.size w wr))
        case atStart => exact ⟨0, l, ⟨by omega⟩, rfl, ⟨rfl, own_less (by have := HW.out; rwa [svals_length] at this) HB0.out⟩, HR, HB⟩
        case round =>
          clear HR HB HW
          obtain ⟨k, ys, HK, rfl, HW, HR, HB⟩ := hrel
          by_cases hlt : k < l.length
          · obtain ⟨gv, c, hv, _, _, hcell, hfr⟩ := own_row (l := ys) (by rw [← HW.out.1] at HW; exact HW.out.2) (by rw [HW.out.1]; omega)
            have hck := hcell k (by rw [HW.out.1]; exact hlt)
            have hfk := hfr k
            rw [HW.out.1] at hv
            obtain ⟨rfl, rfl⟩ : V = some ⟨gv, 0, none⟩ ∧ cv = c := by simpa using hv
            have HVV := Aside0.mk (HV.out gv rfl)
            clear hcell hfr hv
            go_wp2
            go_roundg (gk - 1)
            case measure => have := HK.out; omega
            case rel =>
              have h1 := own_put (by rw [← HW.out.1] at HW; exact HW.out.2) k (by rw [HW.out.1]; exact hlt) s
              refine ⟨k + 1, ys.set k s, ⟨by have := HK.out; omega⟩, by go_num, ⟨by rw [List.length_set]; exact HW.out.1, ?_⟩, ⟨⟨blk_far HR.out.1.1 (Ne.symm HVV.out.2.1) _, blk_far HR.out.1.2.1 (Ne.symm HVV.out.2.2) _, HR.out.1.2.2⟩, HR.out.2⟩, ⟨below_set HB.out HVV.out.1⟩⟩
              rw [List.length_set, HW.out.1] at h1
              exact h1
          · have HA := Aside0.mk HR.out.2.recs
            have HO := Aside0.mk (HR.out.2.ok HSA.out)
            have HL2 := Aside0.mk (HL.out.below HB.out)
            go_wp2_with (first
             | (go_at_call 8; refine (add_none s _).mono ?_; rintro e w6 ⟨rfl, rfl⟩; skip)
             | (go_at_call 15; refine (clear_none _).mono ?_; rintro e w6 ⟨rfl, rfl⟩; skip))
            refine (all_any g gl r _ HR.out.1 HO.out).mono ?_
            rintro e w6 ⟨v, rfl, ho, hb⟩
            rw [HA.out] at ho
            obtain ⟨U, cu, rfl, hcu, hru⟩ := own_rds ho
            have HU := Aside0.mk hru
            have zz_HL2 := Aside0.mk (HL2.out.below hb); have zz_HB := Aside0.mk (below_step HB.out hb); clear HL2; clear HB; have HL2 := zz_HL2; have HB := zz_HB; clear zz_HL2; clear zz_HB
            clear hb ho hru
            go_wp2_with (first
             | (go_at_call 13; refine (same_any U A l l cu ca _ HU.out HL2.out (by omega) hcu hcap).mono ?_; rintro e w7 ⟨rfl, hd⟩; have zz_HB := Aside0.mk (below_step HB.out hd.below); clear HB; have HB := zz_HB; clear zz_HB; clear hd)
             | (go_at_call 10; refine (len_none _).mono ?_; rintro e w8 ⟨rfl, rfl⟩; skip)
             | (go_at_call 14; refine (all_none _).mono ?_; rintro e w8 ⟨rfl, rfl⟩; skip)
             | (go_at_call 11; refine (bytes_none _).mono ?_; rintro e w8 ⟨rfl, rfl⟩; skip))
            go_ret
            exact ⟨rfl, HB.out⟩
end Go.Proofs.Ytfcpjblogeofpab
