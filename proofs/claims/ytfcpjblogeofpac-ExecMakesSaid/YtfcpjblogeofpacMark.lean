/- Rows of one-cell elements that may bear a mark behind their last cell, as those that a conversion of a string makes: how they read, and grow. -/
import Derived.Test.YtfcpjblogeofpacFrame
import Derived.Lib.AppendStr
import Derived.Lib.ConvBytes
import Derived.Maps.AppendAt
namespace Go.Proofs.Ytfcpjblogeofpac.Fr
open Go Go.RowKit Go.Proofs.YtfcpjblogeofpacW.PrintWords
set_option linter.unusedVariables false
set_option linter.unusedSimpArgs false
def unmarked (fr : Nat × Nat) (n : Nat) : Prop := ∀ i, i < n → ¬ (fr.1 ≤ i ∧ i < fr.2)
theorem unmarked_zero (n : Nat) : unmarked (0, 0) n := fun i _ h => by have := h.2; simp at this
/-- A row of the call's own, whatever its mark, so it hits none of the cells. -/
def MRow (w : World) (base : Nat) (e : TypeId) (v : Value) (xs : List Value) : Prop :=
  (v = .slice none 0 0 ∧ xs = []) ∨ ∃ g cap cur fr, v = .slice (some ⟨g, 0, none⟩) xs.length cap ∧ base ≤ g ∧ w.heap[g]? = some (.cells cur e fr) ∧ unmarked fr cap ∧ xs.length ≤ cap ∧ cap ≤ maxLen ∧ cur.size = cap ∧ cur.toList.take xs.length = xs
section
variable {w w1 : World} {base : Nat} {e : TypeId} {v : Value} {xs : List Value}
theorem MRow.of_own {n : Nat} (h : w.ownsRow base e 1 v n xs) : MRow w base e v xs := by
  have hl : xs.length = n := by have := h.1; omega
  rcases h.2 with ⟨rfl, h0⟩ | ⟨g, cap, cur, rfl, hb, hh, hn, hc, hs, ht⟩
  · exact .inl ⟨rfl, List.eq_nil_of_length_eq_zero (by omega)⟩
  · refine .inr ⟨g, cap, cur, (0, 0), by rw [hl], hb, hh, unmarked_zero _, by omega, hc, by omega, ?_⟩
    rw [hl]; simpa using ht
theorem MRow.shape (h : MRow w base e v xs) : ∃ A c, v = .slice A xs.length c ∧ xs.length ≤ c := by
  rcases h with ⟨rfl, rfl⟩ | ⟨g, cap, cur, fr, rfl, _, _, _, hl, _⟩
  · exact ⟨none, 0, rfl, Nat.le_refl _⟩
  · exact ⟨_, cap, rfl, hl⟩
theorem MRow.blk (h : MRow w base e v xs) {k : Nat} (hk : v.ownBlock = some k) : base ≤ k ∧ ∃ cs fr, w.heap[k]? = some (.cells cs e fr) := by
  rcases h with ⟨rfl, _⟩ | ⟨g, cap, cur, fr, rfl, hb, hh, _⟩
  · cases hk
  · have : g = k := by simpa [Value.ownBlock] using hk
    subst this
    exact ⟨hb, _, _, hh⟩
theorem MRow.move (h : MRow w base e v xs) (hm : ∀ k, v.ownBlock = some k → w1.heap[k]? = w.heap[k]?) : MRow w1 base e v xs := by
  rcases h with h | ⟨g, cap, cur, fr, rfl, hb, hh, r⟩
  · exact .inl h
  · exact .inr ⟨g, cap, cur, fr, rfl, hb, (hm g rfl).trans hh, r⟩
theorem MRow.below (h : MRow w base e v xs) (hb : Below w.heap.size w w1) : MRow w1 base e v xs :=
  h.move fun k hk => by
    obtain ⟨_, cs, fr, hh⟩ := h.blk hk
    exact hb.block k (blk_lt hh)
theorem MRow.ch {S : Nat → Prop} (h : MRow w base e v xs) (hc : Ch S w w1) (hs : ∀ k, v.ownBlock = some k → ¬ S k) : MRow w1 base e v xs :=
  h.move fun k hk => by
    obtain ⟨_, cs, fr, hh⟩ := h.blk hk
    exact hc.block k (blk_lt hh) (hs k hk)
theorem MRow.far (h : MRow w base e v xs) {g i : Nat} {u : Value} (hne : some g ≠ v.ownBlock) : MRow (w.setCell ⟨g, i, none⟩ u) base e v xs :=
  h.move fun k hk => Below.heap_setCell _ _ _ _ (fun e => hne (by rw [hk, e]))
theorem MRow.lower {base' : Nat} (h : MRow w base e v xs) (hb : base' ≤ base) : MRow w base' e v xs := by
  rcases h with h | ⟨g, cap, cur, fr, e1, h1, r⟩
  · exact .inl h
  · exact .inr ⟨g, cap, cur, fr, e1, Nat.le_trans hb h1, r⟩
theorem MRow.cell (h : MRow w base e v xs) (i : Nat) (hi : i < xs.length) : ∃ g c, v = .slice (some ⟨g, 0, none⟩) xs.length c ∧ w.cell? ⟨g, i, none⟩ = xs[i]? := by
  rcases h with ⟨rfl, rfl⟩ | ⟨g, cap, cur, fr, rfl, _, hh, _, _, _, _, ht⟩
  · simp at hi
  · refine ⟨g, cap, rfl, ?_⟩
    have e2 : (cur.toList.take xs.length)[i]? = xs[i]? := by rw [ht]
    rw [List.getElem?_take, if_pos hi] at e2
    rw [← e2]
    have : w.cell? ⟨g, i, none⟩ = cur[i]? := by simp [World.cell?, hh]
    rw [this, Array.getElem?_toList]
theorem MRow.reads {l : List Int} (h : MRow w base e v (nums .u8 l)) : ∃ A c, v = .slice A l.length c ∧ l.length ≤ c ∧ ReadsInt w .u8 A l.length l := by
  obtain ⟨A, c, hv, hc⟩ := h.shape
  rw [nums_length] at hv hc
  refine ⟨A, c, hv, hc, rfl, ?_, fun hp => ?_⟩
  · rcases h with ⟨_, h0⟩ | ⟨g, cap, cur, fr, e1, _, _, _, h1, h2, _⟩
    · have h3 := congrArg List.length h0
      rw [nums_length] at h3
      simp at h3
      simp [h3]
    · rw [nums_length] at h1; simp only [maxLen] at h2; omega
  · obtain ⟨g, c', hv', _⟩ := h.cell 0 (by rw [nums_length]; exact hp)
    rw [hv] at hv'
    simp only [Value.slice.injEq] at hv'
    obtain ⟨rfl, _, _⟩ := hv'
    refine ⟨_, rfl, fun j hj => ?_⟩
    obtain ⟨g', c2, e1, hcell⟩ := h.cell j (by rw [nums_length]; exact hj)
    rw [hv] at e1
    simp only [Value.slice.injEq, Option.some.injEq, Addr.mk.injEq] at e1
    obtain ⟨⟨rfl, _⟩, _, _⟩ := e1
    rw [Go.Proofs.YtfcpjblogeofpacW.PrintWords.add_plain, hcell]
    simp [nums, hj, List.getD_eq_getElem?_getD]
theorem MRow.bytes (W : World) (e : TypeId) (s : ByteArray) (hs : s.size ≤ 9223372036854775807) : MRow (Lib.bytesWorld W e s) W.heap.size e (.slice (some ⟨W.heap.size, 0, none⟩) s.size (grownCap W s.size 0 e)) (nums .u8 (bytesOf s)) := by
  have hl : (nums .u8 (bytesOf s)).length = s.size := by rw [nums_length, bytesOf_length]
  have hcs : (Lib.bytesCells W e s).size = grownCap W s.size 0 e := by
    have := grownCap_ge W s.size 0 e
    have hd : s.data.size = s.size := rfl
    simp [Lib.bytesCells, hd]
    omega
  refine .inr ⟨W.heap.size, grownCap W s.size 0 e, Lib.bytesCells W e s, _, by rw [hl], Nat.le_refl _, Lib.bytesWorld_at_new W e s, fun i hi h => ?_, by rw [hl]; exact grownCap_ge W s.size 0 e, grownCap_le_maxLen W s.size 0 e (by simp only [maxLen]; omega), hcs, ?_⟩
  · have := h.1
    rw [hcs] at this
    omega
  · rw [hl]
    have hd : s.data.toList.length = s.size := data_length s
    simp [Lib.bytesCells, nums, bytesOf]
end
section
variable {P : Program} (w : World)
theorem run_storeCells_M (g o : Nat) (t : TypeId) (fr : Nat × Nat) : ∀ (vs : List Value) (i : Nat) (cur : Array Value) (w : World), w.heap[g]? = some (.cells cur t fr) → unmarked fr cur.size → o + i + vs.length ≤ cur.size → (∀ v ∈ vs, v.oneCell' = true) →
    (storeCells ⟨g, o, none⟩ vs i).run P w = .ok () (w.setRow g (cur.toList.take (o + i) ++ vs ++ cur.toList.drop (o + i + vs.length)).toArray)
  | [], i, cur, w, hg, _, _, _ => by
    simp only [storeCells, List.append_nil, List.length_nil, Nat.add_zero, List.take_append_drop, Array.toArray_toList]
    rw [setRow_self w g cur t fr hg]
    rfl
  | v :: rest, i, cur, w, hg, hu, hl, h1 => by
    have hi : o + i < cur.size := by simp at hl; omega
    have hadd : (⟨g, o, none⟩ : Addr).add i = ⟨g, o + i, none⟩ := by unfold Addr.add; split <;> simp_all
    have hcell : w.cell? ⟨g, o + i, none⟩ = some cur[o + i] := by simp [World.cell?, hg, hi]
    have hfro : w.frozen? ⟨g, o + i, none⟩ = false := by
      have := hu (o + i) hi
      obtain ⟨lo, hi'⟩ := fr
      simp only [World.frozen?, hg, Bool.and_eq_false_iff, decide_eq_false_iff_not]
      simp only at this
      omega
    have hst : (store ((⟨g, o, none⟩ : Addr).add i) v).run P w = .ok () (w.setRow g (cur.setIfInBounds (o + i) v)) := by
      rw [hadd, run_store P w _ v _ (h1 v (by simp)), hcell]
      simp [hfro, setCell_eq_setRow w g (o + i) cur t fr v hg]
    have ih := run_storeCells_M g o t fr rest (i + 1) (cur.setIfInBounds (o + i) v) (w.setRow g (cur.setIfInBounds (o + i) v)) (setRow_heap w g cur _ t _ hg) (by simpa using hu) (by simp at hl ⊢; omega) (fun x hx => h1 x (by simp [hx]))
    simp only [storeCells, Sem.run_bind, hst, Result.andThen_ok, ih, setRow_setRow]
    congr 3
    have e := list_seg_step cur.toList (o + i) v rest (by simp at hl ⊢; omega)
    simpa [Array.toList_setIfInBounds, Nat.add_assoc] using e
theorem mrow_room {g cap : Nat} {base : Nat} {e : TypeId} {fr : Nat × Nat} {cur : Array Value} {xs news : List Value} (hb : base ≤ g) (hg : w.heap[g]? = some (.cells cur e fr)) (hu : unmarked fr cap) (hc : cap ≤ maxLen) (hs : cur.size = cap) (ht : cur.toList.take xs.length = xs) (hroom : xs.length + news.length ≤ cap) :
    MRow (w.setRow g (cur.toList.take xs.length ++ news ++ cur.toList.drop (xs.length + news.length)).toArray) base e (.slice (some ⟨g, 0, none⟩) (xs ++ news).length cap) (xs ++ news) ∧ w.grownBy (w.setRow g (cur.toList.take xs.length ++ news ++ cur.toList.drop (xs.length + news.length)).toArray) (some g) := by
  refine ⟨.inr ⟨g, cap, _, fr, rfl, hb, setRow_heap w g cur _ e _ hg, hu, by simpa using hroom, hc, ?_, ?_⟩, ⟨rfl, rfl, rfl, by simp, fun k _ hk => setRow_other w g k _ (fun e => hk (by rw [e]))⟩⟩
  · simp only [List.size_toArray, List.length_append, List.length_take, List.length_drop, Array.length_toList]
    omega
  · rw [ht]
    exact List.take_left
theorem mrow_grown {base old : Nat} {e : TypeId} {xs news : List Value} (hbase : base ≤ w.heap.size) (h63 : xs.length + news.length ≤ maxLen) (row : Option Nat) :
    MRow (w.drew.alloc (.cells (xs.toArray ++ news.toArray ++ Builtin.zeroCells (Value.int .u8 0).cells (grownCap w (xs.length + news.length) old e - (xs.length + news.length))) e)) base e (.slice (some ⟨w.heap.size, 0, none⟩) (xs ++ news).length (grownCap w (xs.length + news.length) old e)) (xs ++ news) ∧
    w.grownBy (w.drew.alloc (.cells (xs.toArray ++ news.toArray ++ Builtin.zeroCells (Value.int .u8 0).cells (grownCap w (xs.length + news.length) old e - (xs.length + news.length))) e)) row := by
  have hge := grownCap_ge w (xs.length + news.length) old e
  have hcm : grownCap w (xs.length + news.length) old e ≤ maxLen := grownCap_le_maxLen w _ old e h63
  refine ⟨.inr ⟨w.heap.size, _, _, (0, 0), rfl, hbase, heap_alloc_new w.drew _, unmarked_zero _, by simpa using hge, hcm, ?_, ?_⟩, ⟨rfl, rfl, rfl, by simp, fun k hk _ => Below.heap_alloc w.drew _ k hk⟩⟩
  · have hz1 : (Value.int IntKind.u8 0).cells.size = 1 := rfl
    simp only [Array.size_append, List.size_toArray, size_zeroCells, hz1]
    omega
  · simp only [Array.toList_append, List.append_assoc]
    rw [← List.append_assoc]
    exact List.take_left
/-- One byte more. -/
theorem run_append_M1 (base : Nat) (t ty e : TypeId) (ht : P.underlying t = some (.slice e)) (hinfo : (P.info? e).map (fun i => (i.zero, i.size, i.bytes)) = some (some (.int .u8 0), 1, 1))
    {v : Value} {xs : List Value} (h : MRow w base e v xs) {k : Nat} {y : Value} (hk : w.heap[k]? = some (.cells #[y] e (0, 0))) (h1 : y.oneCell' = true) (hl : xs.length + 1 ≤ 140737488355328) (hbase : base ≤ w.heap.size) :
    ∃ v1 w1, (Builtin.append_ #[t, t] ty #[v, .slice (some ⟨k, 0, none⟩) 1 1]).run P w = .ok v1 w1 ∧ MRow w1 base e v1 (xs ++ [y]) ∧ w.grownBy w1 v.ownBlock := by
  obtain ⟨i, hi, hzz⟩ := Option.map_eq_some_iff.1 hinfo
  simp only [Prod.mk.injEq] at hzz
  obtain ⟨hz, hsize, hby⟩ := hzz
  have hnews : ∀ j u, [y][j]? = some u → w.cell? ((⟨k, 0, none⟩ : Addr).add j) = some u := World.news_of_block (cs := #[y]) (t := e) (fr := (0, 0)) hk
  rcases h with ⟨rfl, rfl⟩ | ⟨g, cap, cur, fr, rfl, hb, hg, hu, hnc, hcm, hcs, htake⟩
  · obtain ⟨v1, w1, hr, ho, hgr, _, _⟩ := run_append_own_at (P := P) w base t ty e i (.int .u8 0) 1 1 ht hi hz hsize hby rfl (by omega) (.slice none 0 0) 0 [] (World.ownsRow_nil w base e 1) ⟨k, 0, none⟩ 1 1 [y] rfl hnews (by simpa using h1) (by decide) (by omega) hbase
    exact ⟨v1, w1, hr, MRow.of_own ho, hgr⟩
  · by_cases hroom : xs.length + 1 ≤ cap
    · have hf := run_firstCells_some (P := P) w i.size 1 ⟨k, 0, none⟩ 1 1 [y] (by rw [hsize]; rfl) hnews
      have hst := run_storeCells_M (P := P) g xs.length e fr [y] 0 cur w hg (by rw [hcs]; exact hu) (by simp; omega) (by simpa using h1)
      simp only [Nat.add_zero, List.length_singleton] at hst
      have hrun : (Builtin.append_ #[t, t] ty #[.slice (some ⟨g, 0, none⟩) xs.length cap, .slice (some ⟨k, 0, none⟩) 1 1]).run P w = .ok (.slice (some ⟨g, 0, none⟩) (xs.length + 1) cap) (w.setRow g (cur.toList.take xs.length ++ [y] ++ cur.toList.drop (xs.length + 1)).toArray) := by
        rw [hsize] at hf
        simp [Builtin.append_, run_underlying ht, sizeOf, typeInfo, hi, hsize, Builtin.lenOf, hroom, hf, Addr.add_lit]
        rw [hst]
        simp [Result.andThen]
      obtain ⟨m1, m2⟩ := mrow_room (news := [y]) w hb hg hu hcm hcs htake (by simpa using hroom)
      exact ⟨_, _, hrun, by simpa using m1, by simpa [Value.ownBlock] using m2⟩
    · have holds : ∀ j u, xs[j]? = some u → w.cell? ((⟨g, 0, none⟩ : Addr).add j) = some u := fun j u hju => by
        have hj : j < xs.length := (List.getElem?_eq_some_iff.1 hju).1
        obtain ⟨g', c', e1, hc'⟩ := MRow.cell (w := w) (base := base) (e := e) (v := .slice (some ⟨g, 0, none⟩) xs.length cap) (xs := xs) (.inr ⟨g, cap, cur, fr, rfl, hb, hg, hu, hnc, hcm, hcs, htake⟩) j hj
        cases e1
        rw [Go.Proofs.YtfcpjblogeofpacW.PrintWords.add_plain, hc', hju]
      have hr := run_append_grow (P := P) w t ty e i (.int .u8 0) ht hi hz ⟨g, 0, none⟩ xs.length cap xs (by rw [hsize]; omega) holds ⟨k, 0, none⟩ 1 1 [y] (by rw [hsize]; rfl) hnews (by omega) (by omega) (by rw [hby]; exact growslice_fits (by omega) (by omega))
      obtain ⟨m1, m2⟩ := mrow_grown (news := [y]) (old := cap) (e := e) (xs := xs) w hbase (by simp only [maxLen, List.length_singleton]; omega) (some g)
      exact ⟨_, _, hr, by simpa using m1, m2⟩
/-- A string's bytes more. -/
theorem run_append_Ms (base : Nat) (t u ty e : TypeId) (ht : P.underlying t = some (.slice e)) (hut : P.underlying u = some .string) (hinfo : (P.info? e).map (fun i => (i.zero, i.size, i.bytes)) = some (some (.int .u8 0), 1, 1))
    {v : Value} {xs : List Value} (h : MRow w base e v xs) (s : ByteArray) (hl : xs.length + s.size ≤ 140737488355328) (hbase : base ≤ w.heap.size) :
    ∃ v1 w1, (Builtin.append_ #[t, u] ty #[v, .string s]).run P w = .ok v1 w1 ∧ MRow w1 base e v1 (xs ++ Lib.strCells s) ∧ w.grownBy w1 v.ownBlock := by
  obtain ⟨i, hi, hzz⟩ := Option.map_eq_some_iff.1 hinfo
  simp only [Prod.mk.injEq] at hzz
  obtain ⟨hz, hsize, hby⟩ := hzz
  have hsl := Lib.strCells_length s
  rcases h with ⟨rfl, rfl⟩ | ⟨g, cap, cur, fr, rfl, hb, hg, hu, hnc, hcm, hcs, htake⟩
  · obtain ⟨v1, w1, hr, ho, hgr, _⟩ := Lib.run_append_own_string (P := P) w base t u ty e i ht hut hi hz hsize hby (.slice none 0 0) 0 [] (World.ownsRow_nil w base e 1) s (by simp only [maxLen]; simp at hl; omega) (by simpa using hl) hbase
    exact ⟨v1, w1, hr, MRow.of_own ho, hgr⟩
  · by_cases hroom : xs.length + s.size ≤ cap
    · have hf := Lib.run_firstCells_string (P := P) w 1 s
      have hst := run_storeCells_M (P := P) g xs.length e fr (Lib.strCells s) 0 cur w hg (by rw [hcs]; exact hu) (by rw [hsl]; omega) (Lib.strCells_oneCell s)
      simp only [Nat.add_zero, hsl] at hst
      have hrun : (Builtin.append_ #[t, u] ty #[.slice (some ⟨g, 0, none⟩) xs.length cap, .string s]).run P w = .ok (.slice (some ⟨g, 0, none⟩) (xs.length + s.size) cap) (w.setRow g (cur.toList.take xs.length ++ Lib.strCells s ++ cur.toList.drop (xs.length + s.size)).toArray) := by
        simp [Builtin.append_, run_underlying ht, run_underlying hut, sizeOf, typeInfo, hi, hsize, Builtin.lenOf, hroom, hf, Addr.add_lit, hst]
      obtain ⟨m1, m2⟩ := mrow_room (news := Lib.strCells s) w hb hg hu hcm hcs htake (by rw [hsl]; exact hroom)
      rw [hsl] at m1 m2
      exact ⟨_, _, hrun, by simpa [hsl] using m1, by simpa [Value.ownBlock] using m2⟩
    · have holds : ∀ j u, xs[j]? = some u → w.cell? ((⟨g, 0, none⟩ : Addr).add j) = some u := fun j u hju => by
        have hj : j < xs.length := (List.getElem?_eq_some_iff.1 hju).1
        obtain ⟨g', c', e1, hc'⟩ := MRow.cell (w := w) (base := base) (e := e) (v := .slice (some ⟨g, 0, none⟩) xs.length cap) (xs := xs) (.inr ⟨g, cap, cur, fr, rfl, hb, hg, hu, hnc, hcm, hcs, htake⟩) j hj
        cases e1
        rw [Go.Proofs.YtfcpjblogeofpacW.PrintWords.add_plain, hc', hju]
      have hr := Lib.run_append_grow_string (P := P) w t u ty e i (.int .u8 0) ht hut hi hz ⟨g, 0, none⟩ xs.length cap xs (by rw [hsize]; omega) holds s (by omega) (by omega) (by rw [hby]; exact growslice_fits (by omega) (by omega))
      obtain ⟨m1, m2⟩ := mrow_grown (news := Lib.strCells s) (old := cap) (e := e) (xs := xs) w hbase (by simp only [maxLen, hsl]; omega) (some g)
      rw [hsl] at m1 m2
      exact ⟨_, _, hr, by simpa [hsl] using m1, m2⟩
theorem nums_bytes (l : List Int) (s : ByteArray) : nums .u8 l ++ Lib.strCells s = nums .u8 (l ++ bytesOf s) := by
  rw [nums_append]
  congr 1
  simp [nums, bytesOf, Lib.strCells]
end
end Go.Proofs.Ytfcpjblogeofpac.Fr
