/- The document's Put: pieces. -/
import Derived.Test.YtfijbhacobjjgagDocB
import Derived.Test.YtfijbhacobjjgagSteadyF
namespace Go.Proofs.Ytfijbhacobjjgag
open Go.RowKit Go.Proofs.YtfijbhacobjjgagW.PrintWords Go.Proofs.YtfijbhacobjjgagW.PrintLast Go.Proofs.YtfijbhacobjjgagW.PrintMore Go.Proofs.Ytfijbhacobjjgag.Fr
set_option linter.unusedVariables false
set_option linter.unusedSimpArgs false
attribute [local go_sem] max2_int min2_int max_two min_two

open Pl Hp
theorem append_nil_run {P : Program} {t ty e : TypeId} {z : Value} {size bytes : Nat} (ht : P.underlying t = some (.slice e)) (hinfo : (P.info? e).map (fun i => (i.zero, i.size, i.bytes)) = some (some z, size, bytes)) (A : Option Addr) (n c : Nat) (hn : n ≤ c) (w : World) :
    (Builtin.append_ #[t, t] ty #[.slice A n c, .slice none 0 0]).run P w = .ok (.slice A n c) w := by
  obtain ⟨i0, hi, hzz⟩ := Option.map_eq_some_iff.1 hinfo
  unfold Builtin.append_
  cases A <;> simp [underlying, ht, sizeOf, typeInfo, hi, Builtin.lenOf, Builtin.firstCells, hn, storeCells, Result.andThen]
theorem ap_src {P : Program} {w : World} {t ty e : TypeId} {z : Value} {size bytes : Nat} (ht : P.underlying t = some (.slice e)) (hinfo : (P.info? e).map (fun i => (i.zero, i.size, i.bytes)) = some (some z, size, bytes)) (hz : z.cells.size = size) (hs0 : 0 < size)
    {B n m c : Nat} {v : Value} {xs ys : List Value} {p : Option (Nat × Nat)} (HO : w.ownsRow B e size v n xs) (hr : RdC w p ys) (hl : ys.length = m * size) (h1 : ∀ u ∈ ys, u.oneCell' = true) (hp : p = none → c = 0) (hmc : m ≤ c) (hmax : n + m ≤ maxLen) (hby : (n + m) * bytes ≤ 140737488355328) (hbase : B ≤ w.heap.size) :
    ∃ v1 w1, (Builtin.append_ #[t, t] ty #[v, .slice (ap p) m c]).run P w = .ok v1 w1 ∧ w1.ownsRow B e size v1 (n + m) (xs ++ ys) ∧ w.grownBy w1 v.ownBlock ∧ (v1.ownBlock = v.ownBlock ∨ v1.ownBlock = some w.heap.size) := by
  cases p with
  | none =>
    have hc0 := hp rfl
    have hm0 : m = 0 := by omega
    subst hc0 hm0
    have hy : ys = [] := List.eq_nil_of_length_eq_zero (by rw [hl, Nat.zero_mul])
    subst hy
    have hv : ∃ A c, v = .slice A n c ∧ n ≤ c := by
      rcases HO.2 with ⟨rfl, h0⟩ | ⟨g, cap, cur, rfl, _, _, hn, _⟩
      · exact ⟨none, 0, by rw [h0], by omega⟩
      · exact ⟨_, _, rfl, hn⟩
    obtain ⟨A, c', rfl, hn⟩ := hv
    refine ⟨_, w, append_nil_run ht hinfo A n c' hn w, by simpa using HO, ⟨rfl, rfl, rfl, Nat.le_refl _, fun k hk _ => rfl⟩, .inl rfl⟩
  | some q =>
    obtain ⟨i0, hi, hzz⟩ := Option.map_eq_some_iff.1 hinfo
    simp only [Prod.mk.injEq] at hzz
    obtain ⟨hz0, hz1, hz2⟩ := hzz
    obtain ⟨v1, w1, a, b, c1, _, d⟩ := run_append_own_at w B t ty e i0 z size bytes ht hi hz0 hz1 hz2 hz hs0 v n xs HO ⟨q.1, q.2, none⟩ m c ys hl (fun j u hu => by
      obtain ⟨g, o, e1, h2⟩ := hr j u hu
      cases e1
      rw [show (⟨g, o, none⟩ : Addr).add j = ⟨g, o + j, none⟩ by unfold Addr.add; split <;> simp_all]
      exact h2) h1 hmax hby hbase
    exact ⟨v1, w1, a, b, c1, d⟩
theorem ap_cutp1 {p : Option (Nat × Nat)} (c m : Nat) : (if c = m then ap p else Option.map (fun x => x.add m) (ap p)) = ap (cutp c m 1 p) := by
  have := ap_cutp (p := p) c m 1
  rwa [Nat.mul_one] at this
theorem up_ne {l : Nat → Bool} {i k : Nat} (h : St.upB l i k = false) : i ≠ k ∧ l k = false := by
  unfold St.upB at h
  split at h
  · cases h
  · rename_i hk; exact ⟨fun e => hk e.symm, h⟩
theorem tms_one (l : List E) : ∀ u ∈ tms l, u.oneCell' = true := by
  intro u hu
  obtain ⟨e, _, rfl⟩ := List.mem_map.1 hu
  rfl
theorem acs_one (l : List Ac) : ∀ u ∈ acs l, u.oneCell' = true := by
  intro u hu
  obtain ⟨a, _, ha⟩ := List.mem_flatMap.1 hu
  simp only [ac, List.mem_cons, List.not_mem_nil, or_false] at ha
  rcases ha with rfl | rfl | rfl | rfl | rfl <;> rfl
theorem aas_ins (D : List E) (e : E) : (aas D).take (plc e.t (D.map (·.t)) * 5) ++ ac e.a ++ (aas D).drop (plc e.t (D.map (·.t)) * 5) = aas (ins D e) := by
  unfold aas ins
  rw [← acs_take, ← acs_drop]
  simp [acs]
theorem tms_ins (D : List E) (e : E) : (tms D).take (plc e.t (D.map (·.t))) ++ [.int .i64 e.t] ++ (tms D).drop (plc e.t (D.map (·.t))) = tms (ins D e) := by
  unfold tms ins
  simp
theorem ins_len (D : List E) (e : E) : (ins D e).length = D.length + 1 := (ins_perm D e).length_eq
theorem plc_is {t : Int} {T : List Int} {k : Nat} (h : k ≤ plc t T) (hk : k = T.length ∨ t < T.getD k 0) : k = plc t T := by
  have h1 := plc_le t T
  rcases hk with e | e
  · omega
  · by_cases hlt : k < plc t T
    · have := plc_lt t T k hlt; omega
    · omega
theorem plc_on {t : Int} {T : List Int} {k : Nat} (h : k ≤ plc t T) (hk : k < T.length) (ht : T.getD k 0 ≤ t) : k + 1 ≤ plc t T := by
  by_cases hlt : k < plc t T
  · omega
  · have e : plc t T = k := by omega
    have := plc_at t T (by omega)
    rw [e] at this
    omega
theorem brI_put (now after : Int) (h : 0 ≤ now) : brI (now + brI after 0 1073741824) 0 1099511627776 = putT now after := by unfold putT brI; omega
end Go.Proofs.Ytfijbhacobjjgag
