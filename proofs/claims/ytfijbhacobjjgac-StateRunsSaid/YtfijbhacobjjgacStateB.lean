/- A state: the contracts that write. -/
import Derived.Test.YtfijbhacobjjgacStateA
import Derived.Maps.OwnSet
import Derived.MapKept
namespace Go.Proofs.Ytfijbhacobjjgac
open Go.RowKit Go.Proofs.YtfijbhacobjjgacW.PrintWords Go.Proofs.YtfijbhacobjjgacW.PrintLast Go.Proofs.YtfijbhacobjjgacW.PrintMore Go.Proofs.Ytfijbhacobjjgac.Fr
set_option linter.unusedVariables false
set_option linter.unusedSimpArgs false
attribute [local go_sem] max2_int min2_int max_two min_two

section
variable {B : Nat} {w w1 : World} {g : Nat} {rv dv v1 : Value} {md n : Nat} {rs ds l1 : List ByteArray} {D : DW} {S : Nat → Prop}
theorem ST.put0 (h : ST B w g rv dv md n rs ds D) (hc : Ch S w w1) (s1 : ¬ S g) (s3 : ∀ k, dv.ownBlock = some k → ¬ S k) (s4 : ¬ S md) (ho : w1.ownsRow B 9 1 v1 (svals l1).length (svals l1))
    (hat : ∀ k, v1.ownBlock = some k → rv.ownBlock = some k ∨ w.heap.size ≤ k) : ST B (w1.setCell ⟨g, 0, none⟩ v1) g v1 dv md n l1 ds D := by
  have hg := blk_lt h.box
  have hmd := h.map.lt
  have e1 : some g ≠ v1.ownBlock := fun e => by rcases hat g e.symm with e2 | e2; exact h.ne1 e2.symm; omega
  refine ⟨blk_put (hc.blk h.box s1) 0 _ rfl, own_setCell ho e1 _, own_setCell (hc.own h.dsk s3) h.ne2 _, (map_ch h.map hc s4).setCell h.nm1 _, e1, h.ne2, ?_, h.lo, h.lom, h.nm1, ?_, h.nm3⟩
  · intro k e e2
    rcases hat k e with e3 | e3
    · exact h.ne3 k e3 e2
    · have := own_lt h.dsk _ e2; omega
  · intro e
    rcases hat md e with e3 | e3
    · exact h.nm2 e3
    · omega
theorem ST.put1 (h : ST B w g rv dv md n rs ds D) (hc : Ch S w w1) (s1 : ¬ S g) (s3 : ∀ k, rv.ownBlock = some k → ¬ S k) (s4 : ¬ S md) (ho : w1.ownsRow B 9 1 v1 (svals l1).length (svals l1))
    (hat : ∀ k, v1.ownBlock = some k → w.heap.size ≤ k) : ST B (w1.setCell ⟨g, 1, none⟩ v1) g rv v1 md n rs l1 D := by
  have hg := blk_lt h.box
  have hmd := h.map.lt
  have e1 : some g ≠ v1.ownBlock := fun e => by have := hat g e.symm; omega
  refine ⟨blk_put (hc.blk h.box s1) 1 _ rfl, own_setCell (hc.own h.rcs s3) h.ne1 _, own_setCell ho e1 _, (map_ch h.map hc s4).setCell h.nm1 _, h.ne1, e1, ?_, h.lo, h.lom, h.nm1, h.nm2, ?_⟩
  · intro k e e2
    have := own_lt h.rcs _ e; have := hat k e2; omega
  · intro e
    have := hat md e; omega
end
section
variable {B : Nat} {g : Nat} {rv dv : Value} {md n : Nat} {rs ds : List ByteArray} {D : DW}
def AppPost (B g : Nat) (rv dv : Value) (md n : Nat) (rs ds : List ByteArray) (D : DW) (s : ByteArray) (w : World) (e : Ending) (w' : World) : Prop :=
  ∃ v1, e = .returned (.int .i64 0) ∧ ST B w' g v1 dv md n (rs ++ [s]) ds D ∧ Ch (fun i => i = g ∨ some i = rv.ownBlock) w w' ∧ (∀ k, v1.ownBlock = some k → rv.ownBlock = some k ∨ w.heap.size ≤ k)
set_option maxRecDepth 100000 in
theorem apply_any (at' : Int) (s : ByteArray) (w : World) (h : ST B w g rv dv md n rs ds D) (hB : B ≤ w.heap.size) (hat : at' = rs.length) (hl : rs.length < 400) :
    Calls Try.prog 9 #[.pointer (some ⟨g, 0, none⟩), .int .i64 at', .string s] w (AppPost B g rv dv md n rs ds D s w) := by
  obtain ⟨A, c, hv, _, _⟩ := h.rows.1
  have c0 : w.cell? ⟨g, 0, none⟩ = some (.slice A rs.length c) := hv ▸ (blk_cell h.box 0).trans rfl
  have H := Aside0.mk h
  have HV := Aside0.mk hv
  have hq : (at' == (rs.length : Int)) = true := by simpa using hat
  clear h hv hat
  go_enter Try.func9, Try.ntmps9
  go_wp2_with ((with_reducible refine gate_dst (N := 32) rfl ?_); refine print_append (w0 := w) B rfl (.tmp 29) (.tmp 31) 26 9 (.string ByteArray.empty) 16 rfl Try.underlying26 info9 (by rfl) (by decide) rv (svals rs) (.string s) HV.out.symm rfl (by rfl) H.out.rcs (Below.refl _ _) hB (by rw [svals_length]; omega) ?_; intro v1 w1 hown hbel hgrow hat; (rw [svals_snoc] at hown); obtain ⟨A1, c1, rfl, hc1, hr1⟩ := own_rds hown; have HW := Aside0.mk (And.intro hown (And.intro hgrow hat)); have HK := Aside0.mk (blk_grown H.out.box hgrow H.out.ne1); have k0 : w1.cell? ⟨g, 0, none⟩ = some rv := (blk_cell HK.out 0).trans rfl; have f0 := blk_frozen HK.out 0; have hl1 : (rs ++ [s]).length = rs.length + 1 := (by simp); clear hown hbel hgrow hat hc1 hr1)
  go_ret
  rw [hl1] at HW
  have hc : Ch (fun i => some i = rv.ownBlock) w w1 := Ch.grown HW.out.2.1 (fun k e => e.symm)
  have hat : ∀ k, (Value.slice A1 (rs.length + 1) c1).ownBlock = some k → rv.ownBlock = some k ∨ w.heap.size ≤ k := fun k e => by
    rcases HW.out.2.2 with e2 | ⟨b, e2, hb⟩
    · exact .inl (e2 ▸ e)
    · rw [e2] at e; cases e; exact .inr hb
  exact ⟨.slice A1 (rs.length + 1) c1, rfl, H.out.put0 hc H.out.ne1 (fun k e e2 => H.out.ne3 k e2.symm e) (fun e => H.out.nm2 e.symm) HW.out.1 hat, (hc.mono fun i _ e => .inr e).set (.inl rfl), hat⟩
theorem apply_order (k : Int) (s : ByteArray) (w : World) (h : ST B w g rv dv md n rs ds D) (hk : k ≠ rs.length) : Calls Try.prog 9 #[.pointer (some ⟨g, 0, none⟩), .int .i64 k, .string s] w fun e w' => e = .returned (.int .i64 7) ∧ w = w' := by
  obtain ⟨⟨A, c, rfl, _, _⟩, _⟩ := h.rows
  have c0 : w.cell? ⟨g, 0, none⟩ = some (.slice A rs.length c) := (blk_cell h.box 0).trans rfl
  have hq : (k == (rs.length : Int)) = false := by simpa using hk
  clear h
  go_enter Try.func9, Try.ntmps9
  go_wp2
  go_ret
  exact ⟨rfl, rfl⟩
set_option maxRecDepth 100000 in
theorem apply_full (at' : Int) (s : ByteArray) (w : World) (h : ST B w g rv dv md n rs ds D) (hat : at' = rs.length) (hl : 400 ≤ rs.length) : Calls Try.prog 9 #[.pointer (some ⟨g, 0, none⟩), .int .i64 at', .string s] w fun e w' => e = .returned (.int .i64 2) ∧ w = w' := by
  obtain ⟨⟨A, c, rfl, _, _⟩, _⟩ := h.rows
  have c0 : w.cell? ⟨g, 0, none⟩ = some (.slice A rs.length c) := (blk_cell h.box 0).trans rfl
  have hq : (at' == (rs.length : Int)) = true := by simpa using hat
  clear h hat
  go_enter Try.func9, Try.ntmps9
  go_wp2
  go_ret
  exact ⟨rfl, rfl⟩
theorem load_few (A : Option Addr) (la c : Nat) (w : World) (h : ST B w g rv dv md n rs ds D) (hl : la ≤ rs.length) : Calls Try.prog 10 #[.pointer (some ⟨g, 0, none⟩), .slice A la c] w fun e w' => e = .returned (.int .i64 7) ∧ w = w' := by
  obtain ⟨⟨A, c, rfl, _, _⟩, _⟩ := h.rows
  have c0 : w.cell? ⟨g, 0, none⟩ = some (.slice A rs.length c) := (blk_cell h.box 0).trans rfl
  clear h
  go_enter Try.func10, Try.ntmps10
  go_wp2
  go_ret
  exact ⟨rfl, rfl⟩
def LoadPost (B g : Nat) (dv : Value) (md n : Nat) (ds : List ByteArray) (D : DW) (l : List ByteArray) (w : World) (e : Ending) (w' : World) : Prop :=
  ∃ v1, e = .returned (.int .i64 0) ∧ ST B w' g v1 dv md n l ds D ∧ Ch (fun i => i = g) w w' ∧ (∀ k, v1.ownBlock = some k → w.heap.size ≤ k)
theorem load_any (A : Option Addr) (c : Nat) (l : List ByteArray) (w : World) (h : ST B w g rv dv md n rs ds D) (hB : B ≤ w.heap.size) (hrd : RdS w A l) (hl : rs.length < l.length) (hl4 : l.length ≤ 400) :
    Calls Try.prog 10 #[.pointer (some ⟨g, 0, none⟩), .slice A l.length c] w (LoadPost B g dv md n ds D l w) := by
  obtain ⟨A0, c0, hv, _, _⟩ := h.rows.1
  have c0 : w.cell? ⟨g, 0, none⟩ = some (.slice A0 rs.length c0) := hv ▸ (blk_cell h.box 0).trans rfl
  have H := Aside0.mk h
  have HR := Aside0.mk hrd
  have HL := Aside0.mk hl4
  clear h hv hrd
  go_enter Try.func10, Try.ntmps10
  go_wp2_with fail
  refine (clone_any A l c _ HR.out (by have := HL.out; omega)).mono ?_
  rintro e w1 ⟨v, rfl, ho, hb⟩
  obtain ⟨V, cv, rfl, hcv, hrv⟩ := own_rds ho
  have HP := Aside0.mk (And.intro ho hb)
  have k0 : w1.cell? ⟨g, 0, none⟩ = some rv := (blk_cell ((Ch.of_below (S := fun _ => False) hb).blk H.out.box (fun e => e)) 0).trans rfl
  have f0 := blk_frozen ((Ch.of_below (S := fun _ => False) hb).blk H.out.box (fun e => e)) 0
  clear ho hb hrv
  go_wp2
  go_ret
  have hc : Ch (fun _ => False) w w1 := Ch.of_below HP.out.2
  have hat : ∀ k, (Value.slice V l.length cv).ownBlock = some k → w.heap.size ≤ k := fun k e => own_base HP.out.1 k e
  exact ⟨.slice V l.length cv, rfl, H.out.put0 hc (fun e => e) (fun _ _ e => e) (fun e => e) (own_less HP.out.1 hB) (fun k e => .inr (hat k e)), (hc.mono fun i _ e => e.elim).set rfl, hat⟩
def SyncPost (B g : Nat) (rv : Value) (md n : Nat) (rs : List ByteArray) (D : DW) (w : World) (e : Ending) (w' : World) : Prop :=
  ∃ v1, e = .returned (.int .i64 rs.length) ∧ ST B w' g rv v1 md n rs rs D ∧ Ch (fun i => i = g) w w' ∧ (∀ k, v1.ownBlock = some k → w.heap.size ≤ k)
theorem sync_any (w : World) (h : ST B w g rv dv md n rs ds D) (hB : B ≤ w.heap.size) (hl : rs.length ≤ 100000) :
    Calls Try.prog 11 #[.pointer (some ⟨g, 0, none⟩)] w (SyncPost B g rv md n rs D w) := by
  obtain ⟨A, c, hv, hc, hrd⟩ := h.rows.1
  have c0 : w.cell? ⟨g, 0, none⟩ = some (.slice A rs.length c) := hv ▸ (blk_cell h.box 0).trans rfl
  have H := Aside0.mk h
  have HR := Aside0.mk hrd
  clear h hv hrd
  go_enter Try.func11, Try.ntmps11
  go_wp2_with fail
  refine (clone_any A rs c _ HR.out (by omega)).mono ?_
  rintro e w1 ⟨v, rfl, ho, hb⟩
  obtain ⟨V, cv, rfl, hcv, hrv⟩ := own_rds ho
  have HP := Aside0.mk (And.intro ho hb)
  have k1 : w1.cell? ⟨g, 1, none⟩ = some dv := (blk_cell ((Ch.of_below (S := fun _ => False) hb).blk H.out.box (fun e => e)) 1).trans rfl
  have f1 := blk_frozen ((Ch.of_below (S := fun _ => False) hb).blk H.out.box (fun e => e)) 1
  clear ho hb hrv
  go_wp2
  go_ret
  have hc : Ch (fun _ => False) w w1 := Ch.of_below HP.out.2
  have hat : ∀ k, (Value.slice V rs.length cv).ownBlock = some k → w.heap.size ≤ k := fun k e => own_base HP.out.1 k e
  exact ⟨.slice V rs.length cv, rfl, H.out.put1 hc (fun e => e) (fun _ _ e => e) (fun e => e) (own_less HP.out.1 hB) hat, (hc.mono fun i _ e => e.elim).set rfl, hat⟩
theorem clear_map {w : World} (ty : Nat) (h : w.ownsMap Try.prog 3 EL md n D) : ∃ w', (Builtin.clear_ #[45] ty #[.map (some md)]).run Try.prog w = .ok (.tuple #[]) w' ∧ w'.ownsMap Try.prog 3 EL md 0 (.map []) ∧ Ch (fun i => i = md) w w' := by
  obtain ⟨es, clock, hb, Ft, hsz, hD⟩ := h
  refine ⟨{ w with heap := w.heap.setIfInBounds md (.map #[] clock) }, ?_, ⟨#[], clock, (MapKept.heap_set hb).1, ⟨by simp, MapKept.stamped_empty clock, by simp⟩, Nat.le_refl _, rfl⟩, ⟨rfl, rfl, rfl, by simp, fun i hi hs => (MapKept.heap_set hb).2 i hs⟩⟩
  simp [Builtin.clear_, run_underlying Try.underlying45, MapKept.run_getObj_map hb, MapKept.run_setObj_map _ hb, Result.andThen]
def CrashPost (B g : Nat) (dv : Value) (md : Nat) (ds : List ByteArray) (w : World) (e : Ending) (w' : World) : Prop :=
  ∃ v1, e = .returned (.tuple #[]) ∧ ST B w' g v1 dv md 0 ds ds (.map []) ∧ Ch (fun i => i = g ∨ i = md) w w' ∧ (∀ k, v1.ownBlock = some k → w.heap.size ≤ k)
theorem crash_any (w : World) (h : ST B w g rv dv md n rs ds D) (hB : B ≤ w.heap.size) (hl : ds.length ≤ 100000) :
    Calls Try.prog 12 #[.pointer (some ⟨g, 0, none⟩)] w (CrashPost B g dv md ds w) := by
  obtain ⟨A, c, hv, hc, hrd⟩ := h.rows.2
  have c1 : w.cell? ⟨g, 1, none⟩ = some (.slice A ds.length c) := hv ▸ (blk_cell h.box 1).trans rfl
  have H := Aside0.mk h
  have HR := Aside0.mk hrd
  clear h hv hrd
  go_enter Try.func12, Try.ntmps12
  go_wp2_with fail
  refine (clone_any A ds c _ HR.out (by omega)).mono ?_
  rintro e w1 ⟨v, rfl, ho, hb⟩
  obtain ⟨V, cv, rfl, hcv, hrv⟩ := own_rds ho
  have hk := (Ch.of_below (S := fun _ => False) hb).blk H.out.box (fun e => e)
  have k0 : w1.cell? ⟨g, 0, none⟩ = some rv := (blk_cell hk 0).trans rfl
  have f0 := blk_frozen hk 0
  have k2 : (w1.setCell ⟨g, 0, none⟩ (.slice V ds.length cv)).cell? ⟨g, 2, none⟩ = some (.map (some md)) := (blk_cell (blk_put hk 0 _ rfl) 2).trans rfl
  have hc : Ch (fun _ => False) w w1 := Ch.of_below hb
  have hat : ∀ k, (Value.slice V ds.length cv).ownBlock = some k → w.heap.size ≤ k := fun k e => own_base ho k e
  have HS := Aside0.mk (H.out.put0 hc (fun e => e) (fun _ _ e => e) (fun e => e) (own_less ho hB) (fun k e => .inr (hat k e)))
  have HC := Aside0.mk (And.intro hc hat)
  clear ho hb hrv hk hc hat
  obtain ⟨w2, hrun, hm2, hc2⟩ := clear_map 0 HS.out.map
  have HM := Aside0.mk (And.intro hm2 hc2)
  clear hm2 hc2
  go_wp2
  go_end0
  have h := HS.out
  have hc : Ch (fun i => i = md) (w1.setCell ⟨g, 0, none⟩ (.slice V ds.length cv)) w2 := HM.out.2
  refine ⟨.slice V ds.length cv, rfl, ⟨hc.blk h.box (fun e => h.nm1 e.symm), hc.own h.rcs (fun k e e2 => h.nm2 (e2 ▸ e)), hc.own h.dsk (fun k e e2 => h.nm3 (e2 ▸ e)), HM.out.1, h.ne1, h.ne2, h.ne3, h.lo, h.lom, h.nm1, h.nm2, h.nm3⟩, ?_, HC.out.2⟩
  exact ((HC.out.1.mono fun i _ e => e.elim).set (.inl rfl)).trans (hc.mono fun i _ e => .inr e)
end
end Go.Proofs.Ytfijbhacobjjgac
