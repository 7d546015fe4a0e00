/- A store at a key that is there, into the map that is ranged over. -/
import Derived.Test.YtfijbhacobjjgahTabB
import Derived.Maps.RangeWalk
namespace Go.Proofs.Ytfijbhacobjjgah
open Go.RowKit Go.Proofs.YtfijbhacobjjgahW.PrintWords Go.Proofs.YtfijbhacobjjgahW.PrintLast Go.Proofs.YtfijbhacobjjgahW.PrintMore Go.Proofs.Ytfijbhacobjjgah.Fr
set_option linter.unusedVariables false
set_option linter.unusedSimpArgs false
attribute [local go_sem] max2_int min2_int max_two min_two

open Go.ChangeMaps Go.MapKept Go.WideShapes
open Go.WideElems (Fit rd rg pl rd_key rd_val rg_of rd_mk other_key)
open Go.Maps (Keyed)
theorem ranges_over {H : Type} {P : Program} {k : TypeId} {R : Value → Option (DataW H × List MemPlace)} {w : World} {b r n : Nat} {D : DataW H} {left : Lit → Bool} {cnt : Nat} {t e : TypeId} (h : w.ranges P k R b r n D left cnt) (K : Keyed P k) (ht : P.underlying t = some (.map k e)) (hn : n < maxLen) {key val : Value} {kl : Lit} {d : DataW H} {ps : List MemPlace}
    (hkey : keyOf P k key = some kl) (hv : R val = some (d, ps)) (hhas : Maps.has D kl = true) : ∃ w', (Instr.mapUpdate t (.map (some b)) key val).run P w = .ok () w' ∧ w'.ranges P k R b r n (D.put kl d) left cnt ∧ w.mapTurned w' b := by
  have hne := h.ne
  obtain ⟨es, clock, since, seen, c0, hb, F, hs, rfl, hr, hold, rfl, hl1, hl2, hsc, hsk⟩ := h
  rcases K.find w hkey es.toList F.keys with ⟨h1, h2⟩ | ⟨j, e0, h1, h2, h3⟩
  · exfalso
    obtain ⟨p, hp, hpk⟩ := List.any_eq_true.1 hhas
    obtain ⟨x, hx, rfl⟩ := List.mem_map.1 (mem_sorted.1 hp)
    obtain ⟨y, hy⟩ := F.reads x hx
    have e1 := WideAt.sameKey_eq hpk
    rw [rg_of hy] at e1
    exact h2 x hx (K.inj (e1 ▸ rd_key hy) hkey)
  · have hj : es[j]? = some e0 := by simpa using h2
    have hjl : j < es.toList.length := (List.getElem?_eq_some_iff.1 h2).1
    have hlist : (es.modify j (fun e' => { e' with key := key, val := val })).toList = es.toList.set j { e0 with key := key, val := val } := by rw [Array.toList_modify, modify_eq_set _ _ _ _ h2]
    have hrun2 : (Instr.mapUpdate t (.map (some b)) key val).run P w = .ok () (setBlock w b (.map (es.modify j (fun e' => { e' with key := key, val := val })) clock)) := by
      simp [Instr.mapUpdate, run_underlying ht, MapKept.run_getObj_map hb, K.check w false hkey, h1, hj, h3, K.stays w hkey, MapKept.run_setObj_map _ hb, Result.andThen, setBlock]
    obtain ⟨es', clock', hrun, F', hput, _⟩ := Maps.fit_store (R' := R) K ht hb F (Nat.lt_of_le_of_lt hs hn) (fun _ _ _ _ hz => hz) hkey hv
    have hsame : es' = es.modify j (fun e' => { e' with key := key, val := val }) ∧ clock' = clock := by
      rw [hrun] at hrun2
      injection hrun2 with _ hw
      have a1 := heap_setBlock_same (w := w) hb (.map es' clock')
      have a2 := heap_setBlock_same (w := w) hb (.map (es.modify j (fun e' => { e' with key := key, val := val })) clock)
      rw [hw] at a1
      rw [a1] at a2
      injection a2 with a2
      injection a2 with a2 a3
      exact ⟨a2, a3⟩
    obtain ⟨rfl, rfl⟩ := hsame
    have he0 : e0 ∈ es.toList := List.mem_of_getElem? h2
    obtain ⟨y0, hy0⟩ := F.reads e0 he0
    have hk0 : (rg P k R e0).1 = kl := by
      rw [rg_of hy0]
      have := rd_key hy0
      rw [h3, hkey] at this
      exact (Option.some.inj this).symm
    have hkn : (rg P k R { e0 with key := key, val := val }).1 = kl := by rw [rg_of (rd_mk hkey hv)]
    have who : ∀ x ∈ es.toList.set j { e0 with key := key, val := val }, ∃ x0 ∈ es.toList, x.born = x0.born ∧ (rg P k R x).1 = (rg P k R x0).1 := fun x hx => by
      rcases List.mem_or_eq_of_mem_set hx with hx | rfl
      · exact ⟨x, hx, rfl, rfl⟩
      · exact ⟨e0, he0, rfl, by rw [hkn, hk0]⟩
    have hborn : (es.toList.set j { e0 with key := key, val := val }).map (·.born) = es.toList.map (·.born) := by
      rw [List.map_set]
      apply List.ext_getElem?
      intro i
      rw [List.getElem?_set]
      split
      · rename_i hij
        subst hij
        rw [if_pos (by simpa using hjl), List.getElem?_map, h2]
        rfl
      · rfl
    have hleft : ∀ a : Array MapEntry, (leftOf a seen).size = ((a.toList.map (·.born)).filter fun x => !seen.contains x).length := fun a => by
      have : (leftOf a seen).size = (a.toList.filter fun e => !seen.contains e.born).length := by
        unfold leftOf
        rw [← Array.toList_filter, Array.length_toList]
      rw [this, List.filter_map, List.length_map]
      rfl
    refine ⟨_, hrun2, ⟨_, _, since, seen, c0, heap_setBlock_same hb _, F', ?_, by rw [DataW.put_eq, hput], (heap_setBlock_other hb _ hne).trans hr, fun x hx => ?_, ?_, fun x hx => ?_, fun kl' hk' => ?_, hsc, hsk⟩, ⟨es, _, _, _, hb, rfl⟩⟩
    · simpa using hs
    · rw [hlist] at hx
      obtain ⟨x0, hx0, e1, _⟩ := who x hx
      rw [e1]; exact hold x0 hx0
    · rw [hleft, hleft, hlist, hborn]
    · rw [hlist] at hx
      obtain ⟨x0, hx0, e1, e2⟩ := who x hx
      rw [e1, e2]; exact hl1 x0 hx0
    · obtain ⟨x, hx, rfl⟩ := hl2 kl' hk'
      obtain ⟨i, hi, rfl⟩ := List.mem_iff_getElem.1 hx
      have hi' : i < (es.toList.set j { e0 with key := key, val := val }).length := by simpa using hi
      refine ⟨(es.toList.set j { e0 with key := key, val := val })[i], by rw [hlist]; exact List.getElem_mem hi', ?_⟩
      rw [List.getElem_set]
      split
      · rename_i hij
        subst hij
        have : es.toList[j] = e0 := by rw [List.getElem?_eq_getElem hi] at h2; exact Option.some.inj h2
        rw [this, hkn, hk0]
      · rfl
end Go.Proofs.Ytfijbhacobjjgah
