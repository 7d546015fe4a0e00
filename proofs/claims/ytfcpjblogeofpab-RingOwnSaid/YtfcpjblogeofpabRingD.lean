/- The contracts of the law's own same, and of the document's Last and Bytes. -/
import Derived.Test.YtfcpjblogeofpabRingC
import Derived.Test.YtfcpjblogeofpabStrs
namespace Go.Proofs.Ytfcpjblogeofpab
open Go.RowKit Go.Proofs.YtfcpjblogeofpabW.PrintWords Go.Proofs.YtfcpjblogeofpabW.PrintLast Go.Proofs.YtfcpjblogeofpabW.PrintMore Go.Proofs.Ytfcpjblogeofpab.Fr
set_option linter.unusedVariables false
set_option linter.unusedSimpArgs false

theorem list_ne {a b : List ByteArray} {k : Nat} (h : a.getD k ByteArray.empty ≠ b.getD k ByteArray.empty) : a ≠ b := fun e => h (by rw [e])
theorem list_eq {a b : List ByteArray} (hl : a.length = b.length) (h : ∀ i, i < a.length → a.getD i ByteArray.empty = b.getD i ByteArray.empty) : a = b := by
  apply List.ext_getElem hl
  intro i h1 h2
  have := h i h1
  simpa [List.getD_eq_getElem?_getD, h1, h2] using this
set_option maxHeartbeats 1000000 in
/-- same: are these texts the same? -/
theorem same_any (A B : Option Addr) (a b : List ByteArray) (ca cb : Nat) (w : World) (hA : RdS w A a) (hB : RdS w B b) (hla : a.length ≤ 1000000) (hca : a.length ≤ ca) (hcb : b.length ≤ cb) :
    Calls Try.prog 13 #[.slice A a.length ca, .slice B b.length cb] w fun e w' => e = .returned (.bool (decide (a = b))) ∧ Drawn0 w w' := by
  by_cases hl : a.length = b.length
  · have hneq : ((a.length : Int) == (b.length : Int)) = true := by simp; omega
    have HL := Aside0.mk hl
    have HA := Aside0.mk hA
    have HB := Aside0.mk hB
    clear hl hA hB
    go_enter Try.func13, Try.ntmps13
    go_wp2
    go_loopg [13] a.length (fun d v13 wr => ∃ k : Nat, Aside0 (k + d = a.length) ∧ v13 = .int .i64 k ∧ Aside0 (∀ i, i < k → a.getD i ByteArray.empty = b.getD i ByteArray.empty) ∧ Aside0 (Drawn0 w wr))
    case atStart => exact ⟨0, ⟨by omega⟩, rfl, ⟨fun i hi => by omega⟩, ⟨Drawn0.refl w⟩⟩
    case round =>
      obtain ⟨k, HK, rfl, HE, HD⟩ := hrel
      by_cases hlt : k < a.length
      · obtain ⟨x, hx⟩ : ∃ x, a.getD k ByteArray.empty = x := ⟨_, rfl⟩
        obtain ⟨y, hy⟩ : ∃ y, b.getD k ByteArray.empty = y := ⟨_, rfl⟩
        obtain ⟨ad, rfl, hc1⟩ := HA.out k hlt
        obtain ⟨bd, rfl, hc2⟩ := HB.out k (by have := HL.out; omega)
        rw [hx] at hc1
        rw [hy] at hc2
        have HX := Aside0.mk hx
        have HY := Aside0.mk hy
        have hkb : (k : Int) < (b.length : Int) := by have := HL.out; omega
        have hd1 : wr.cell? (ad.add k) = some (.string x) := by obtain ⟨⟨nq, rfl⟩⟩ := HD.out; exact hc1
        have hd2 : wr.cell? (bd.add k) = some (.string y) := by obtain ⟨⟨nq, rfl⟩⟩ := HD.out; exact hc2
        clear hx hy hc1 hc2
        by_cases hxy : x = y
        · have hne : (x.toList == y.toList) = true := by rw [str_beq]; simpa using hxy
          have HXY := Aside0.mk hxy
          clear hxy
          go_wp2
          go_region
          all_goals go_wp2
          all_goals go_roundg (gk - 1)
          case measure => have := HK.out; omega
          case rel => exact ⟨k + 1, ⟨by have := HK.out; omega⟩, by go_num, ⟨fun i hi => by
            by_cases e : i = k
            · subst e; rw [HX.out, HY.out, HXY.out]
            · exact HE.out i (by omega)⟩, ⟨HD.out.step 1⟩⟩
        · have hne : (x.toList == y.toList) = false := by rw [str_beq]; simpa using hxy
          have HXY := Aside0.mk hxy
          clear hxy
          go_wp2
          go_region
          all_goals go_wp2
          all_goals go_ret
          have hab : a ≠ b := list_ne (k := k) (by rw [HX.out, HY.out]; exact HXY.out)
          exact ⟨by simp [hab], HD.out.step 1⟩
      · go_wp2
        go_ret
        have hab : a = b := list_eq HL.out (fun i hi => HE.out i (by omega))
        exact ⟨by simp [hab], HD.out⟩
  · have hneq : ((a.length : Int) == (b.length : Int)) = false := by simp; omega
    have hab : a ≠ b := fun e => hl (by rw [e])
    have HAB := Aside0.mk hab
    clear hab hl
    go_enter Try.func13, Try.ntmps13
    go_wp2
    go_ret
    exact ⟨by simp [HAB.out], Drawn0.refl w⟩

def total (l : List ByteArray) : Int := ((l.map (·.size)).sum : Nat)
theorem total_snoc (l : List ByteArray) (s : ByteArray) : total (l ++ [s]) = total l + s.size := by simp [total]
theorem total_le : ∀ (l : List ByteArray), (∀ s ∈ l, s.size ≤ 140737488351232) → 0 ≤ total l ∧ total l ≤ l.length * 140737488351232
  | [], _ => by simp [total]
  | s :: l, h => by
    have h1 := h s (List.mem_cons_self ..)
    have h2 := total_le l (fun x hx => h x (List.mem_cons_of_mem _ hx))
    simp only [total, List.map_cons, List.sum_cons, List.length_cons] at h2 ⊢
    omega
theorem take_snoc (l : List ByteArray) (k : Nat) (h : k < l.length) : l.take (k + 1) = l.take k ++ [l.getD k ByteArray.empty] := by
  rw [List.take_succ_eq_append_getElem h]
  simp [List.getD_eq_getElem?_getD, h]
set_option maxHeartbeats 1000000 in
/-- The document's Bytes. -/
theorem refBytes_any (A : Option Addr) (a : List ByteArray) (ca : Nat) (w : World) (hA : RdS w A a) (hla : a.length ≤ 1000) (hca : a.length ≤ ca) (hs : ∀ s ∈ a, s.size ≤ 140737488351232) :
    Calls Try.prog 12 #[.slice A a.length ca] w fun e w' => e = .returned (.int .i64 (total a)) ∧ w = w' := by
  have HA := Aside0.mk hA
  have HS := Aside0.mk hs
  clear hA hs
  go_enter Try.func12, Try.ntmps12
  go_wp2
  go_loopg [3, 4] a.length (fun d v3 v4 wr => ∃ k : Nat, Aside0 (k + d = a.length) ∧ v3 = .int .i64 (total (a.take k)) ∧ v4 = .int .i64 k ∧ w = wr)
  case atStart => exact ⟨0, ⟨by omega⟩, rfl, rfl, rfl⟩
  case round =>
    obtain ⟨k, HK, rfl, rfl, rfl⟩ := hrel
    have ht := total_le (a.take k) (fun s hs => HS.out s (List.mem_of_mem_take hs))
    rw [List.length_take] at ht
    have ht0 : 0 ≤ total (a.take k) := ht.1
    have ht1 : total (a.take k) ≤ 140737488351232000 := by
      have := ht.2
      have h3 : min k a.length ≤ 1000 := by omega
      have h4 : ((min k a.length : Nat) : Int) * 140737488351232 ≤ 1000 * 140737488351232 := Int.mul_le_mul_of_nonneg_right (by omega) (by omega)
      omega
    clear ht
    by_cases hlt : k < a.length
    · obtain ⟨x, hx⟩ : ∃ x, a.getD k ByteArray.empty = x := ⟨_, rfl⟩
      have hxs : x.size ≤ 140737488351232 := HS.out x (by rw [← hx]; simp [List.getD_eq_getElem?_getD, hlt])
      obtain ⟨ad, rfl, hc1⟩ := HA.out k hlt
      rw [hx] at hc1
      have HT : Aside0 (total (a.take (k + 1)) = total (a.take k) + x.size) := ⟨by rw [take_snoc a k hlt, total_snoc, hx]⟩
      clear hx
      generalize total (a.take k) = tk at ht0 ht1 HT ⊢
      go_wp2
      go_roundg (gk - 1)
      case measure => have := HK.out; omega
      case rel => exact ⟨k + 1, ⟨by have := HK.out; omega⟩, by rw [HT.out], by go_num, rfl⟩
    · obtain rfl : a.length = k := by have := HK.out; omega
      go_wp2
      go_ret
      exact ⟨by rw [List.take_length]; rfl, rfl⟩
/-- The document's Last. -/
def lastL (l : List ByteArray) (k : Nat) : List ByteArray := l.drop (l.length - k)
def LastPost (A : Option Addr) (a : List ByteArray) (k : Nat) (w : World) (e : Ending) (w' : World) : Prop :=
  ∃ A' c', e = .returned (.slice A' (lastL a k).length c') ∧ (lastL a k).length ≤ c' ∧ RdS w A' (lastL a k) ∧ (∀ ad, A' = some ad → ∃ a0, A = some a0 ∧ ad.block = a0.block) ∧ w = w'
theorem last_cut (A : Option Addr) (a : List ByteArray) (ca k : Nat) (w : World) (hA : RdS w A a) (hca : a.length ≤ ca) (hk : k < a.length) :
    LastPost A a k w (.returned (.slice (A.map (·.add (a.length - k))) (a.length - (a.length - k)) (ca - (a.length - k)))) w := by
  refine ⟨A.map (·.add (a.length - k)), ca - (a.length - k), by simp only [lastL, List.length_drop], by simp only [lastL, List.length_drop]; omega, hA.drop _, fun ad e => ?_, rfl⟩
  cases A with
  | none => cases e
  | some a0 =>
    simp only [Option.map_some, Option.some.injEq] at e
    exact ⟨a0, rfl, by rw [← e, add_block]⟩
theorem last_whole (A : Option Addr) (a : List ByteArray) (ca k : Nat) (w : World) (hA : RdS w A a) (hca : a.length ≤ ca) (hk : ¬ k < a.length) :
    LastPost A a k w (.returned (.slice A a.length ca)) w := by
  have e : lastL a k = a := by unfold lastL; rw [show a.length - k = 0 by omega]; rfl
  exact ⟨A, ca, by rw [e], by rw [e]; exact hca, by rw [e]; exact hA, fun ad h => ⟨ad, h, rfl⟩, rfl⟩
theorem refLast_any (A : Option Addr) (a : List ByteArray) (ca : Nat) (n : Int) (k : Nat) (hk : mn (mx n 1) 64 = (k : Int)) (w : World) (hA : RdS w A a) (hca : a.length ≤ ca) (hla : a.length ≤ 1000) :
    Calls Try.prog 9 #[.slice A a.length ca, .int .i64 n] w (LastPost A a k w) := by
  have HA := Aside0.mk hA
  clear hA
  unfold mn mx at hk
  by_cases h1 : n < 1
  · obtain rfl : k = 1 := by rw [if_pos h1] at hk; simp at hk; omega
    clear hk
    by_cases hlen : 1 < a.length
    · go_enter Try.func9, Try.ntmps9
      go_wp2
      go_ret
      exact last_cut A a ca 1 w HA.out hca hlen
    · go_enter Try.func9, Try.ntmps9
      go_wp2
      go_ret
      exact last_whole A a ca 1 w HA.out hca hlen
  · rw [if_neg h1] at hk
    by_cases h2 : 64 < n
    · obtain rfl : k = 64 := by rw [if_pos h2] at hk; omega
      clear hk
      by_cases hlen : 64 < a.length
      · go_enter Try.func9, Try.ntmps9
        go_wp2
        go_ret
        exact last_cut A a ca 64 w HA.out hca hlen
      · go_enter Try.func9, Try.ntmps9
        go_wp2
        go_ret
        exact last_whole A a ca 64 w HA.out hca hlen
    · rw [if_neg h2] at hk
      subst hk
      by_cases hlen : k < a.length
      · go_enter Try.func9, Try.ntmps9
        go_wp2
        go_ret
        exact last_cut A a ca k w HA.out hca hlen
      · go_enter Try.func9, Try.ntmps9
        go_wp2
        go_ret
        exact last_whole A a ca k w HA.out hca hlen
end Go.Proofs.Ytfcpjblogeofpab
