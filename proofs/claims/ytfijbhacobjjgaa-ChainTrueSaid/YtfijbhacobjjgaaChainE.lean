/- Finder and document side by side; the walks of awake and ChainSame. -/
import Derived.Test.YtfijbhacobjjgaaChainD
namespace Go.Proofs.Ytfijbhacobjjgaa
open Go.RowKit Go.Proofs.YtfijbhacobjjgaaW.PrintWords Go.Proofs.YtfijbhacobjjgaaW.PrintLast Go.Proofs.YtfijbhacobjjgaaW.PrintMore Go.Proofs.Ytfijbhacobjjgaa.Fr
set_option linter.unusedVariables false
set_option linter.unusedSimpArgs false
attribute [local go_sem] max2_int min2_int max_two min_two

open Go.Proofs.Ytfijbhacobjjgaa.Pl
/-- May a place be noted? -/
def okN (T : ByteArray) (rs : List Nat) (a : Int) : Bool := rightB T.size a && !decide (a.toNat ∈ rs)
def newR (T : ByteArray) (rs : List Nat) (a : Int) : List Nat := if okN T rs a = true then a.toNat :: rs else rs
def foundI (T : ByteArray) (rs : List Nat) (a d : Int) : Int × Int := if rightB T.size a = true then found T rs a.toNat d else (0, 0)
theorem right_in {n : Nat} {a : Int} (h : rightB n a = true) : ∃ m : Nat, a = (m : Int) ∧ m + 3 ≤ n := by
  have := of_decide_eq_true h
  exact ⟨a.toNat, by omega, by omega⟩
/-- A finder in which these places are noted. -/
def Fnd (w : World) (g gh ga gn : Nat) (T : ByteArray) (rs : List Nat) : Prop := ∃ hs ah nt, FinderAt w g gh ga gn T hs ah nt ∧ Chains (hsh T) rs hs ah ∧ (∀ p, p < T.size → nt.getD p false = decide (p ∈ rs)) ∧ (∀ p ∈ rs, p + 3 ≤ T.size)
variable {B g gh ga gn gw : Nat} {w w1 : World} {T : ByteArray} {rs : List Nat} {v : Value} {l : List Int}
theorem Fnd.below (x : Fnd w g gh ga gn T rs) (k : Below w.heap.size w w1) : Fnd w1 g gh ga gn T rs := by
  obtain ⟨hs, ah, nt, h1, h2⟩ := x
  exact ⟨hs, ah, nt, h1.below k, h2⟩
theorem Fnd.ch {S : Nat → Prop} (x : Fnd w g gh ga gn T rs) (hc : Ch S w w1) (h0 : ¬ S g) (h1 : ¬ S gh) (h2 : ¬ S ga) (h3 : ¬ S gn) : Fnd w1 g gh ga gn T rs := by
  obtain ⟨hs, ah, nt, y, r⟩ := x
  exact ⟨hs, ah, nt, ⟨hc.blk y.box h0, y.heads.ch hc h1, y.ahead.ch hc h2, y.noted.ch hc h3, y.hl, y.al, y.nl, y.small, y.d1, y.d2, y.d3, y.d4, y.d5, y.d6⟩, r⟩
theorem fnew_of {hs : List Int} (h1 : FinderAt w g gh ga gn T hs (List.replicate T.size 0) (List.replicate T.size false)) (h2 : ∀ k, k < 1024 → hs.getD k 0 = -1) : Fnd w g gh ga gn T [] :=
  ⟨_, _, _, h1, Chains.first _ _ _ h2, fun p hp => by simp [List.getD_eq_getElem?_getD, List.getElem?_replicate, hp], fun p hp => by cases hp⟩
theorem fnote (a : Int) (ha : -9223372036854775808 ≤ a) (x : Fnd w g gh ga gn T rs) : Calls Try.prog 8 #[.pointer (some ⟨g, 0, none⟩), .int .i64 a] w fun e w' => e = .returned (.bool (okN T rs a)) ∧ Fnd w' g gh ga gn T (newR T rs a) ∧ Ch (fun i => i = gh ∨ i = ga ∨ i = gn) w w' := by
  have hx := x
  obtain ⟨hs, ah, nt, h1, h2, h3, h4⟩ := x
  cases hr : rightB T.size a with
  | false =>
    refine (note_wrong a ha hr h1).mono ?_
    rintro e w' ⟨rfl, rfl⟩
    have e1 : okN T rs a = false := by simp [okN, hr]
    refine ⟨by rw [e1], by unfold newR; rw [e1]; exact hx, Ch.refl _ _⟩
  | true =>
    obtain ⟨m, rfl, hm⟩ := right_in hr
    by_cases hin : m ∈ rs
    · refine (note_again m hm (by rw [h3 m (by omega)]; exact decide_eq_true hin) h1).mono ?_
      rintro e w' ⟨rfl, rfl⟩
      have e1 : okN T rs (m : Int) = false := by simp [okN, hin]
      refine ⟨by rw [e1], by unfold newR; rw [e1]; exact hx, Ch.refl _ _⟩
    · refine (note_yes m hm (by rw [h3 m (by omega)]; exact decide_eq_false hin) h1).mono ?_
      rintro e w' ⟨rfl, hf, hc⟩
      have e1 : okN T rs (m : Int) = true := by simp [okN, hin, hr]
      refine ⟨by rw [e1], ?_, hc⟩
      unfold newR
      rw [if_pos e1]
      refine ⟨_, _, _, hf, Chains.note h2 m hin (by rw [h1.al]; omega) h1.hl (hsh_lt T m), fun p hp => ?_, fun p hp => ?_⟩
      · rw [Int.toNat_natCast]
        by_cases e : p = m
        · subst e
          simp [List.getD_eq_getElem?_getD, List.getElem?_set, h1.nl, hp]
        · have := h3 p hp
          rw [List.getD_eq_getElem?_getD, List.getElem?_set_ne (Ne.symm e), ← List.getD_eq_getElem?_getD, this]
          simp [e]
      · rcases List.mem_cons.1 hp with rfl | hp
        · exact hm
        · exact h4 p hp
theorem ffind (a d : Int) (ha : -9223372036854775808 ≤ a) (x : Fnd w g gh ga gn T rs) : Calls Try.prog 10 #[.pointer (some ⟨g, 0, none⟩), .int .i64 a, .int .i64 d] w fun e w' => e = .returned (.tuple #[.int .i64 (foundI T rs a d).1, .int .i64 (foundI T rs a d).2]) ∧ Drawn0 w w' := by
  obtain ⟨hs, ah, nt, h1, h2, h3, h4⟩ := x
  cases hr : rightB T.size a with
  | false =>
    refine (find_wrong a d ha hr h1).mono ?_
    rintro e w' ⟨rfl, rfl⟩
    have e1 : foundI T rs a d = (0, 0) := by unfold foundI; rw [if_neg (by rw [hr]; simp)]
    exact ⟨by rw [e1], Drawn0.refl _⟩
  | true =>
    obtain ⟨m, rfl, hm⟩ := right_in hr
    refine (find_any m hm d rs h4 h2 h1).mono ?_
    rintro e w' ⟨rfl, hd⟩
    have e1 : foundI T rs (m : Int) d = found T rs m d := by unfold foundI; rw [if_pos hr, Int.toNat_natCast]
    exact ⟨by rw [e1], hd⟩
theorem flen (x : Fnd w g gh ga gn T rs) : Calls Try.prog 12 #[.pointer (some ⟨g, 0, none⟩)] w fun e w' => e = .returned (.int .i64 T.size) ∧ w = w' := by
  obtain ⟨hs, ah, nt, h1, _⟩ := x
  exact len_any h1
theorem ofNats_cons (a : Nat) (rs : List Nat) : ofNats (a :: rs) = ofNats rs ++ [(a : Int)] := by simp [ofNats]
theorem mem_ofNats (a : Nat) (rs : List Nat) : (a : Int) ∈ ofNats rs ↔ a ∈ rs := by
  unfold ofNats
  rw [List.mem_map]
  constructor
  · rintro ⟨b, hb, e⟩
    have : b = a := by exact Int.ofNat.inj e
    subst this
    simpa using hb
  · intro h
    exact ⟨a, by simpa using h, rfl⟩
/-- What the document's Note leaves. -/
def RNoted (B gw : Nat) (T : ByteArray) (v : Value) (rs : List Nat) (a : Int) (w : World) (e : Ending) (w' : World) : Prop := ∃ v', e = .returned (.bool (okN T rs a)) ∧ RefAt B w' gw T v' (ofNats (newR T rs a)) ∧ Ch (fun i => i = gw ∨ some i = v.ownBlock) w w' ∧ (v'.ownBlock = v.ownBlock ∨ ∃ b, v'.ownBlock = some b ∧ w.heap.size ≤ b)
theorem rnote (a : Int) (ha : -9223372036854775808 ≤ a) (hT : T.size ≤ 2000) (hl : rs.length ≤ 1000) (hB : B ≤ w.heap.size) (x : RefAt B w gw T v (ofNats rs)) : Calls Try.prog 9 #[.pointer (some ⟨gw, 0, none⟩), .int .i64 a] w (RNoted B gw T v rs a w) := by
  have hl2 := ofNats_len rs
  cases hr : rightB T.size a with
  | false =>
    refine (rnote_wrong a ha hT hr x).mono ?_
    rintro e w' ⟨rfl, rfl⟩
    have e1 : okN T rs a = false := by simp [okN, hr]
    exact ⟨v, by rw [e1], by unfold newR; rw [e1]; exact x, Ch.refl _ _, .inl rfl⟩
  | true =>
    obtain ⟨m, rfl, hm⟩ := right_in hr
    by_cases hin : m ∈ rs
    · refine (rnote_again m hT hr ((mem_ofNats m rs).2 hin) (by omega) x).mono ?_
      rintro e w' ⟨rfl, rfl⟩
      have e1 : okN T rs (m : Int) = false := by simp [okN, hin]
      exact ⟨v, by rw [e1], by unfold newR; rw [e1]; exact x, Ch.refl _ _, .inl rfl⟩
    · refine (rnote_new m hT hr (fun h => hin ((mem_ofNats m rs).1 h)) (by omega) hB x).mono ?_
      rintro e w' ⟨v', rfl, hf, hc, hv⟩
      have e1 : okN T rs (m : Int) = true := by simp [okN, hin, hr]
      refine ⟨v', by rw [e1], ?_, hc, hv⟩
      unfold newR
      rw [if_pos e1, Int.toNat_natCast, ofNats_cons]
      exact hf
theorem rfind (a d : Int) (ha : -9223372036854775808 ≤ a) (hT : T.size ≤ 2000) (hl : rs.length ≤ 1000) (hrs : ∀ p ∈ rs, p + 3 ≤ T.size) (x : RefAt B w gw T v (ofNats rs)) : Calls Try.prog 11 #[.pointer (some ⟨gw, 0, none⟩), .int .i64 a, .int .i64 d] w fun e w' => e = .returned (.tuple #[.int .i64 (foundI T rs a d).1, .int .i64 (foundI T rs a d).2]) ∧ Drawn0 w w' := by
  cases hr : rightB T.size a with
  | false =>
    refine (rfind_wrong a d ha hT hr x).mono ?_
    rintro e w' ⟨rfl, rfl⟩
    have e1 : foundI T rs a d = (0, 0) := by unfold foundI; rw [if_neg (by rw [hr]; simp)]
    exact ⟨by rw [e1], Drawn0.refl _⟩
  | true =>
    obtain ⟨m, rfl, hm⟩ := right_in hr
    refine (rfind_any m hm hT d rs hrs (by omega) x).mono ?_
    rintro e w' ⟨rfl, hd⟩
    have e1 : foundI T rs (m : Int) d = found T rs m d := by unfold foundI; rw [if_pos hr, Int.toNat_natCast]
    exact ⟨by rw [e1], hd⟩
def abc : ByteArray := { data := #[97, 98, 99, 97, 98, 99, 120] }
theorem abc_ok : okN abc [] 0 = true ∧ newR abc [] 0 = [0] ∧ foundI abc [0] 3 9 = (3, 3) ∧ abc.size = 7 := by decide +kernel
set_option maxRecDepth 100000 in
theorem awake_any (w0 : World) : Calls Try.prog 6 #[] w0 fun e w' => e = .returned (.bool true) ∧ Below w0.heap.size w0 w' := by
  have HNW : Aside0 (∀ w, Calls Try.prog 7 #[.string { data := #[97, 98, 99, 97, 98, 99, 120] }] w (NewPost abc w)) := ⟨fun w => new_any abc (by rw [abc_ok.2.2.2]; decide) w⟩
  have HNT : Aside0 (∀ (w : World) (g gh ga gn : Nat), Fnd w g gh ga gn abc [] → Calls Try.prog 8 #[.pointer (some ⟨g, 0, none⟩), .int .i64 0] w fun e w' => e = .returned (.bool true) ∧ Fnd w' g gh ga gn abc [0] ∧ Ch (fun i => i = gh ∨ i = ga ∨ i = gn) w w') := ⟨fun w g gh ga gn x => by
    have := fnote 0 (by decide) x
    rwa [abc_ok.1, abc_ok.2.1] at this⟩
  have HFD : Aside0 (∀ (w : World) (g gh ga gn : Nat), Fnd w g gh ga gn abc [0] → Calls Try.prog 10 #[.pointer (some ⟨g, 0, none⟩), .int .i64 3, .int .i64 9] w fun e w' => e = .returned (.tuple #[.int .i64 3, .int .i64 3]) ∧ Drawn0 w w') := ⟨fun w g gh ga gn x => by
    have := ffind 3 9 (by decide) x
    rwa [abc_ok.2.2.1] at this⟩
  have HLN : Aside0 (∀ (w : World) (g gh ga gn : Nat), Fnd w g gh ga gn abc [0] → Calls Try.prog 12 #[.pointer (some ⟨g, 0, none⟩)] w fun e w' => e = .returned (.int .i64 7) ∧ w = w') := ⟨fun w g gh ga gn x => by
    have := flen x
    rwa [abc_ok.2.2.2] at this⟩
  go_enter Try.func6, Try.ntmps6
  go_wp2_with fail
  refine (HNW.out _).mono ?_
  rintro e w1 ⟨g, gh, ga, gn, hs, rfl, hf, hh, hb, hg, hgh, hga, hgn⟩
  have HF := Aside0.mk (fnew_of hf hh)
  have HB := Aside0.mk (And.intro hb (And.intro hg (And.intro hgh (And.intro hga hgn))))
  clear hf hh hb hg hgh hga hgn
  go_wp2_with fail
  refine (HNT.out _ _ _ _ _ HF.out).mono ?_
  rintro e w2 ⟨rfl, hf, hc⟩
  have HF2 := Aside0.mk hf
  have HB2 : Aside0 (Below w0.heap.size w0 w2) := ⟨Ch.onto HB.out.1 hc HB.out.1.size (fun i hi => by have := HB.out; omega)⟩
  clear hf hc HF
  go_wp2_with fail
  refine (HFD.out _ _ _ _ _ HF2.out).mono ?_
  rintro e w3 ⟨rfl, hd⟩
  have HF3 := Aside0.mk (HF2.out.below hd.below)
  have HB3 : Aside0 (Below w0.heap.size w0 w3) := ⟨below_step HB2.out hd.below⟩
  clear hd HF2 HB2
  go_wp2_with fail
  refine (HLN.out _ _ _ _ _ HF3.out).mono ?_
  rintro e w4 ⟨rfl, rfl⟩
  go_wp2
  go_ret
  exact ⟨rfl, HB3.out⟩
theorem same_walk (T : ByteArray) (hT : T.size ≤ 140737488351232) (a : Int) (ha : (Lit.int .i64 a).wf = true) (b : Int) (hb : (Lit.int .i64 b).wf = true) (w0 : World) :
    Calls Try.prog 5 #[.string T, .int .i64 a, .int .i64 b] w0 fun e w' => e = .returned (.bool true) ∧ Below w0.heap.size w0 w' := by
  by_cases hlen : 200 < T.size
  · have hd2 : decide ((200 : Int) < (T.size : Int)) = true := decide_eq_true (by omega)
    go_enter Try.func5, Try.ntmps5
    go_wp2_with fail
    refine (awake_any _).mono ?_
    rintro e w1 ⟨rfl, hb⟩
    have HB := Aside0.mk hb
    clear hb
    go_wp2
    go_ret
    exact ⟨rfl, HB.out⟩
  · have hd2 : decide ((200 : Int) < (T.size : Int)) = false := decide_eq_false (by omega)
    obtain ⟨n, hn⟩ : ∃ n, smI T a b = n := ⟨_, rfl⟩
    have H1 : Aside0 (∀ w, Calls Try.prog 14 #[.string T, .int .i64 a, .int .i64 b] w fun e w' => e = .returned (.int .i64 n) ∧ Drawn0 w w') := ⟨fun w => hn ▸ same_any T a b (by omega) w⟩
    have H2 : Aside0 (∀ w, Calls Try.prog 14 #[.string T, .int .i64 b, .int .i64 a] w fun e w' => e = .returned (.int .i64 n) ∧ Drawn0 w w') := ⟨fun w => hn ▸ smI_comm T a b ▸ same_any T b a (by omega) w⟩
    have H3 : Aside0 (∀ w, Calls Try.prog 13 #[.string T, .int .i64 a, .int .i64 b] w fun e w' => e = .returned (.int .i64 n) ∧ Drawn0 w w') := ⟨fun w => hn ▸ rsame_any T a b (by omega) w⟩
    clear hn hlen
    go_enter Try.func5, Try.ntmps5
    go_wp2_with fail
    refine (awake_any _).mono ?_
    rintro e w1 ⟨rfl, hb⟩
    have HB := Aside0.mk hb
    clear hb
    go_wp2_with fail
    refine (find_none a b _).mono ?_
    rintro e w2 ⟨rfl, rfl⟩
    go_wp2_with fail
    refine (H1.out _).mono ?_
    rintro e w2 ⟨rfl, hd⟩
    have HB2 := Aside0.mk (below_step HB.out hd.below)
    clear hd HB
    go_wp2_with fail
    refine (H3.out _).mono ?_
    rintro e w3 ⟨rfl, hd⟩
    have HB3 := Aside0.mk (below_step HB2.out hd.below)
    clear hd HB2
    go_wp2_with fail
    refine (H2.out _).mono ?_
    rintro e w4 ⟨rfl, hd⟩
    have HB4 := Aside0.mk (below_step HB3.out hd.below)
    clear hd HB3
    go_wp2_with fail
    refine (H1.out _).mono ?_
    rintro e w5 ⟨rfl, hd⟩
    have HB5 := Aside0.mk (below_step HB4.out hd.below)
    clear hd HB4
    go_wp2_with fail
    refine (note_none a _).mono ?_
    rintro e w6 ⟨rfl, rfl⟩
    go_wp2_with fail
    refine (len_none _).mono ?_
    rintro e w6 ⟨rfl, rfl⟩
    go_wp2
    go_ret
    exact ⟨rfl, HB5.out⟩
end Go.Proofs.Ytfijbhacobjjgaa
