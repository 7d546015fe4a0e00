/- The walk of StateOwn: it answers true. -/
import Derived.Test.YtfijbhacobjjgacStateC
namespace Go.Proofs.Ytfijbhacobjjgac
open Go.RowKit Go.Proofs.YtfijbhacobjjgacW.PrintWords Go.Proofs.YtfijbhacobjjgacW.PrintLast Go.Proofs.YtfijbhacobjjgacW.PrintMore Go.Proofs.Ytfijbhacobjjgac.Fr
set_option linter.unusedVariables false
set_option linter.unusedSimpArgs false
attribute [local go_sem] max2_int min2_int max_two min_two

theorem own_zero {W : World} {base b : Nat} (h : W.heap[b]? = some (.cells #[] 9 (0, 0))) (hb : base ≤ b) : W.ownsRow base 9 1 (.slice (some ⟨b, 0, none⟩) 0 0) 0 [] := ⟨by simp, .inr ⟨b, 0, #[], rfl, hb, h, Nat.le_refl _, by decide, by simp, by simp⟩⟩
theorem own_in {W : World} {base : Nat} {v : Value} {l : List ByteArray} (h : W.ownsRow base 9 1 v ([] ++ l).length (encs Value.string ([] ++ l))) : W.ownsRow base 9 1 v (svals l).length (svals l) := by
  simpa [encs, svals] using h
theorem reads_of {W : World} {A : Option Addr} {l : List ByteArray} (h : RdS W A l) (hl : l.length ≤ 100000) : ReadsOf Value.string ByteArray.empty W A l.length l :=
  ⟨rfl, by omega, fun h0 => by
    obtain ⟨ad, rfl, _⟩ := h 0 h0
    refine ⟨ad, rfl, fun j hj => ?_⟩
    obtain ⟨ad2, e, hc⟩ := h j hj
    cases e
    exact hc⟩
set_option maxHeartbeats 4000000 in
set_option maxRecDepth 100000 in
theorem own_walk (A : Option Addr) (la ca : Nat) (l : List ByteArray) (s : ByteArray) (hs : s.size ≤ 140737488351232) (n : Int) (hn : (Lit.int .i64 n).wf = true) (w0 : World) (hl : IsStrs w0 A la ca l) :
    Calls Try.prog 5 #[.slice A la ca, .string s, .int .i64 n] w0 fun e w' => e = .returned (.bool true) ∧ Below w0.heap.size w0 w' := by
  obtain ⟨rfl, hcap, _, hrd, hsz, _⟩ := hl
  have HB := Aside0.mk (Below.refl w0.heap.size w0)
  by_cases hbig : 20 < l.length
  · go_enter Try.func5, Try.ntmps5
    go_wp2_with ((go_at_call 6; refine (awake_any _).mono ?_; rintro e w1 ⟨rfl, hb⟩; have zz_HB := Aside0.mk (below_step HB.out hb); clear HB; have HB := zz_HB; clear zz_HB; clear hb))
    go_ret
    exact ⟨rfl, HB.out⟩
  by_cases hnil : l.length = 0
  · have hq : ((l.length : Int) == 0) = true := by simpa using hnil
    go_enter Try.func5, Try.ntmps5
    go_wp2_with ((go_at_call 6; refine (awake_any _).mono ?_; rintro e w1 ⟨rfl, hb⟩; have zz_HB := Aside0.mk (below_step HB.out hb); clear HB; have HB := zz_HB; clear zz_HB; clear hb))
    go_ret
    exact ⟨rfl, HB.out⟩
  have h20 : l.length ≤ 20 := by omega
  have h0 : 0 < l.length := by omega
  have hq : ((l.length : Int) == 0) = false := beq_eq_false_iff_ne.2 (by omega)
  obtain ⟨x, hx⟩ : ∃ x, l.getD 0 ByteArray.empty = x := ⟨_, rfl⟩
  have hxs : x.size ≤ 140737488351232 := hsz x (by rw [← hx]; simp [List.getD_eq_getElem?_getD, h0])
  have HX := Aside0.mk hx
  have HL := Aside0.mk hrd
  clear hsz hrd hbig hnil hx
  go_enter Try.func5, Try.ntmps5
  go_wp2_with (first
    | (go_at_call 6; refine (awake_any _).mono ?_; rintro e w1 ⟨rfl, hb⟩; have zz_HB := Aside0.mk (below_step HB.out hb); clear HB; have HB := zz_HB; clear zz_HB; clear hb)
    | (go_at_call 7; refine (new_in _ HB.out HB.out.size).mono ?_; rintro e w2 ⟨g, md, rfl, ht⟩; have HT := Aside0.mk ht; clear ht HB)
    | ((with_reducible refine gate_dst (N := 28) rfl ?_); refine print_append_row_of (w0 := w2) (W := w2.alloc (.cells #[] 9)) Value.string ByteArray.empty w2.heap.size rfl (.tmp 26) (.tmp 27) 26 9 (.string ByteArray.empty) 16 rfl Try.underlying26 info9 (by rfl) (by decide) (fun _ => rfl) (.slice (some ⟨w2.heap.size, 0, none⟩) 0 0) [] l A l.length ca rfl rfl (own_zero (blk_new _ _) (Nat.le_refl _)) (reads_of (HL.out.below (below_alloc HT.out.below _)) (by omega)) (below_alloc (Below.refl _ _) _) (by simp) (by simp; omega) ?_; intro v3 w3 hown hbel _ _; have HI := Aside0.mk (own_in hown); have HF := Aside0.mk (fun (i : Nat) (hi : w2.heap.size ≤ i) => HT.out.free hi); have zz_HT := Aside0.mk (HT.out.from hbel); clear HT; have HT := zz_HT; clear zz_HT; clear hown hbel))
  obtain ⟨I, ci, rfl, hci, hrI⟩ := own_rds HI.out
  refine (load_in I ci l HT.out hrI h0 (by omega)).mono ?_
  rintro e w4 ⟨v1, rfl, ht, hc, hv⟩
  obtain ⟨gi, ci2, hvI, _, _, hcell, hfr⟩ := own_row (hc.own HI.out (fun k e e2 => (HF.out k (own_base HI.out k e)).2.1 e2)) h0
  obtain ⟨rfl, rfl⟩ : I = some ⟨gi, 0, none⟩ ∧ ci = ci2 := by simpa using hvI
  have HG : Aside0 (Free w0.heap.size g v1 (.slice none 0 0) md gi) := ⟨by
    have h1 := HF.out gi (own_base HI.out gi rfl)
    have h2 := own_lt HI.out gi rfl
    exact ⟨h1.1, h1.2.1, fun e => by have := hv gi e; omega, h1.2.2.2.1, h1.2.2.2.2⟩⟩
  have hck := hcell 0 h0
  rw [HX.out] at hck
  have hfk := hfr 0
  have zz_HT := Aside0.mk (ht); clear HT; have HT := zz_HT; clear zz_HT
  clear ht hc hv hvI hcell hfr hrI HI HF
  go_wp2_with fail
  refine (all_any _ (HT.out.set HG.out 0 _).st (by omega)).mono ?_
  rintro e w5 ⟨v, rfl, ho, hb⟩
  have HF : Aside0 (∀ i, w4.heap.size ≤ i → Free w0.heap.size g v1 (.slice none 0 0) md i) := ⟨fun i hi => HT.out.free hi⟩
  have zz := (HT.out.set HG.out 0 _).from hb
  have zz_HT := Aside0.mk (zz); clear HT; have HT := zz_HT; clear zz_HT
  obtain ⟨U, cu, rfl, hcu, hru⟩ := own_rds ho
  have HU := Aside0.mk (And.intro ho hru)
  clear ho hb hck hfk hru zz HG hci
  go_wp2_with fail
  refine (same_self U A l cu ca _ HU.out.2 (HL.out.below HT.out.below) (by omega) hcu hcap).mono ?_
  rintro e w6 ⟨rfl, hd⟩
  obtain ⟨gu, cu2, hvU, hbu, _, hcell, hfr⟩ := own_row (pw_own_below HU.out.1 hd.below) h0
  obtain ⟨rfl, rfl⟩ : U = some ⟨gu, 0, none⟩ ∧ cu = cu2 := by simpa using hvU
  have HG : Aside0 (Free w0.heap.size g v1 (.slice none 0 0) md gu) := ⟨HF.out gu (by simpa [World.setCell] using hbu)⟩
  have hck := hcell 0 h0
  rw [HX.out] at hck
  have hfk := hfr 0
  have zz_HT := Aside0.mk (HT.out.from hd.below); clear HT; have HT := zz_HT; clear zz_HT
  clear hvU hcell hfr hd HU HF hbu
  go_wp2_with (first
    | (go_at_call 12; refine (crash_none _).mono ?_; rintro e w7 ⟨rfl, rfl⟩; skip)
    | (go_at_call 22; refine (dict_none _ _).mono ?_; rintro e w7 ⟨rfl, rfl⟩; skip))
  refine (all_any _ (HT.out.set HG.out 0 _).st (by omega)).mono ?_
  rintro e w8 ⟨v, rfl, ho, hb⟩
  have zz := (HT.out.set HG.out 0 _).from hb
  have zz_HT := Aside0.mk (zz); clear HT; have HT := zz_HT; clear zz_HT
  obtain ⟨V, cv, rfl, hcv, hrv⟩ := own_rds ho
  have HV := Aside0.mk hrv
  clear ho hb hck hfk hrv zz HG
  go_wp2_with (first
    | (go_at_call 13; refine (same_self V A l cv ca _ HV.out (HL.out.below HT.out.below) (by omega) hcv hcap).mono ?_; rintro e w9 ⟨rfl, hd⟩; have zz_HT := Aside0.mk (HT.out.from hd.below); clear HT; have HT := zz_HT; clear zz_HT; clear hd)
    | (go_at_call 16; refine (len_none _).mono ?_; rintro e w8 ⟨rfl, rfl⟩; skip)
    | (go_at_call 25; refine (dur_none _).mono ?_; rintro e w8 ⟨rfl, rfl⟩; skip)
    | (go_at_call 9; refine (apply_none _ _ _).mono ?_; rintro e w8 ⟨rfl, rfl⟩; skip)
    | (go_at_call 10; refine (load_none _ _).mono ?_; rintro e w8 ⟨rfl, rfl⟩; skip)
    | (go_at_call 11; refine (sync_none _).mono ?_; rintro e w8 ⟨rfl, rfl⟩; skip)
    | (go_at_call 15; refine (keep_none _ _ _).mono ?_; rintro e w8 ⟨rfl, rfl⟩; skip)
    | (go_at_call 14; refine (last_none _).mono ?_; rintro e w8 ⟨rfl, rfl⟩; skip)
    | (go_at_call 8; refine (all_none _).mono ?_; rintro e w8 ⟨rfl, rfl⟩; skip))
  go_ret
  exact ⟨rfl, HT.out.below⟩
end Go.Proofs.Ytfijbhacobjjgac
