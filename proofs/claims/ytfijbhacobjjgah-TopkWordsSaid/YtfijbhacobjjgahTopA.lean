/- A table's Top. -/
import Derived.Test.YtfijbhacobjjgahRowsB
import Derived.Test.YtfijbhacobjjgahLaw49d
namespace Go.Proofs.Ytfijbhacobjjgah
open Go.RowKit Go.Proofs.YtfijbhacobjjgahW.PrintWords Go.Proofs.YtfijbhacobjjgahW.PrintLast Go.Proofs.YtfijbhacobjjgahW.PrintMore Go.Proofs.Ytfijbhacobjjgah.Fr
set_option linter.unusedVariables false
set_option linter.unusedSimpArgs false
attribute [local go_sem] max2_int min2_int max_two min_two

open Pl Hp
theorem assert_ok (x : E) (w : World) : (Instr.typeAssert (.iface 47 (.agg #[.string x.t, .int .i64 x.c])) 20 47 true).run Try.prog w = .ok (.tuple #[.agg #[.string x.t, .int .i64 x.c], .bool true]) w := by kernel_rfl
theorem Rel.mem {D : DW} {L : List It} (h : Pl.Rel D L) {s : ByteArray} {c : Int} (hat : ∀ z, D.atKey (ks s) z = vi c) : (⟨s, c⟩ : It) ∈ L := by
  have hh : Maps.has D (ks s) = true := Maps.has_true_of_atKey hat
  rw [h.has] at hh
  have hp : pos s L < L.length := by simpa using hh
  have e := pos_at s (L[pos s L]) L hp
  rw [List.getD_eq_getElem?_getD, List.getElem?_eq_getElem hp] at e
  simp only [Option.getD_some] at e
  have h2 := (h.at_ _ (List.getElem_mem hp)).2 (vi 0)
  rw [e, hat] at h2
  simp at h2
  have : (⟨s, c⟩ : It) = L[pos s L] := by
    cases hx : L[pos s L] with
    | mk t c' => rw [hx] at e h2; simp at e h2; rw [← e, h2]
  rw [this]
  exact List.getElem_mem hp
theorem below_low {w w1 w2 : World} {b n : Nat} (h : Below b w w1) (k : Below n w1 w2) (hn : b ≤ n) : Below b w w2 :=
  h.trans ⟨k.os, k.tape, k.output, k.size, fun i hi => k.block i (by omega)⟩
theorem ranges_ne {w : World} {md r n sz m : Nat} {D : DW} {left : Lit → Bool} {cnt B : Nat} {e : TypeId} {v : Value} {xs : List Value} (h : w.ranges Try.prog 9 EL md r n D left cnt) (ho : w.ownsRow B e sz v m xs) : some md ≠ v.ownBlock ∧ some r ≠ v.ownBlock := by
  obtain ⟨es, clock, since, seen, c0, hb, _, _, _, hr, _⟩ := h
  refine ⟨fun e1 => ?_, fun e1 => ?_⟩
  · obtain ⟨c, hc⟩ := own_typed ho md e1.symm
    rw [hb] at hc; cases hc
  · obtain ⟨c, hc⟩ := own_typed ho r e1.symm
    rw [hr] at hc; cases hc
theorem ranges_set {w : World} {md r n s i : Nat} {D : DW} {left : Lit → Bool} {cnt : Nat} {t : TypeId} {cs : Array Value} {v : Value} (h : w.ranges Try.prog 9 EL md r n D left cnt) (hs : w.heap[s]? = some (.cells cs t (0, 0))) : (w.setCell ⟨s, i, none⟩ v).ranges Try.prog 9 EL md r n D left cnt := by
  have h0 := h
  obtain ⟨es, clock, since, seen, c0, hb, _, _, _, hr, _⟩ := h0
  refine h.kept (row := some s) ⟨rfl, rfl, rfl, by simp [World.setCell], fun k hk hne => Below.heap_setCell _ _ _ _ (fun e => hne (by rw [e]))⟩ (fun e => ?_) (fun e => ?_)
  · cases e; rw [hb] at hs; cases hs
  · cases e; rw [hr] at hs; cases hs
section
variable {B : Nat} {w w1 : World} {g md room : Nat} {D : DW} {L : List It}
def TopPost (L : List It) (k : Int) (W : World) (e : Ending) (w' : World) : Prop :=
  ∃ p c o R, e = .returned (.slice (ap p) o.length c) ∧ (o.length : Int) = brI k 0 L.length ∧ RdC w' p (ents o) ∧ (o ++ R).Perm L ∧ o.Pairwise (fun x y => ilt x y = true) ∧ (∀ x ∈ o, ∀ y ∈ R, ilt x y = true) ∧ Below W.heap.size W w'
set_option maxRecDepth 100000 in
set_option maxHeartbeats 8000000 in
theorem ttop_any (k : Int) (w : World) (h : TB B w g md room D L) : Calls Try.prog 14 #[.pointer (some ⟨g, 0, none⟩), .int .i64 k] w (TopPost L k w) := by
  have H := Aside0.mk h
  obtain ⟨n, hn⟩ : ∃ n, Maps.size D = n := ⟨_, rfl⟩
  have hnL : n = L.length := by rw [← hn, h.rel.sz]
  have hn2 : n ≤ 1000 := by rw [hnL]; have := h.wl.len; have := h.r1; omega
  have HNL := Aside0.mk hnL
  have HSZ := Aside0.mk hn
  have h1 : Below w.heap.size w (w.alloc (.cells #[] 47)) := below_alloc (Below.refl _ _) _
  have h2 : Below (w.alloc (.cells #[] 47)).heap.size (w.alloc (.cells #[] 47)) ((w.alloc (.cells #[] 47)).alloc (.cells #[.slice (some ⟨w.heap.size, 0, none⟩) 0 0] 55)) := below_alloc (Below.refl _ _) _
  have c1 : ((w.alloc (.cells #[] 47)).alloc (.cells #[.slice (some ⟨w.heap.size, 0, none⟩) 0 0] 55)).cell? ⟨g, 1, none⟩ = some (.map (some md)) := (blk_cell (h.below (below_step h1 h2)).box 1).trans rfl
  have HM : Aside0 (((w.alloc (.cells #[] 47)).alloc (.cells #[.slice (some ⟨w.heap.size, 0, none⟩) 0 0] 55)).ownsMap Try.prog 9 EL md n D ∧ ((w.alloc (.cells #[] 47)).alloc (.cells #[.slice (some ⟨w.heap.size, 0, none⟩) 0 0] 55)).heap[w.heap.size + 1]? = some (.cells #[.slice (some ⟨w.heap.size, 0, none⟩) 0 0] 55 (0, 0)) ∧ ((w.alloc (.cells #[] 47)).alloc (.cells #[.slice (some ⟨w.heap.size, 0, none⟩) 0 0] 55)).heap[w.heap.size]? = some (.cells #[] 47 (0, 0)) ∧ Below w.heap.size w ((w.alloc (.cells #[] 47)).alloc (.cells #[.slice (some ⟨w.heap.size, 0, none⟩) 0 0] 55))) := ⟨hn ▸ (h.below (below_step h1 h2)).map, by
    have := blk_new (w.alloc (.cells #[] 47)) (.cells #[.slice (some ⟨w.heap.size, 0, none⟩) 0 0] 55)
    rwa [show (w.alloc (.cells #[] 47)).heap.size = w.heap.size + 1 by simp] at this, blk_below (blk_new w _) h2, below_step h1 h2⟩
  have HLT : Aside0 (md < w.heap.size) := ⟨h.map.lt⟩
  clear h h1 h2 hn hnL
  go_enter Try.func14, Try.ntmps14
  go_upto_region 4 with fail
  generalize (w.alloc (.cells #[] 47)).alloc (.cells #[.slice (some ⟨w.heap.size, 0, none⟩) 0 0] 55) = W at HM c1 ⊢
  obtain ⟨s, hs⟩ : ∃ s, w.heap.size + 1 = s := ⟨_, rfl⟩
  rw [hs] at HM ⊢
  have HS : Aside0 (w.heap.size ≤ s) := ⟨by omega⟩
  clear hs
  go_wp2_with (at_range; refine wpList_range_own _ rfl _ 49 rfl 9 3 law9 Try.underlying49 _ md n D rfl HM.out.1 ?_; intro w1 hrg hg0 hs0; have HRI := Aside0.mk (And.intro hrg (And.intro hg0 hs0)); clear hrg hg0 hs0)
  go_frame
  have HB1 : Aside0 (Below w.heap.size w w1 ∧ w1.heap[s]? = some (.cells #[.slice (some ⟨w.heap.size, 0, none⟩) 0 0] 55 (0, 0)) ∧ w1.heap[w.heap.size]? = some (.cells #[] 47 (0, 0)) ∧ w.heap.size ≤ W.heap.size) := ⟨HM.out.2.2.2.grown HRI.out.2.1 HM.out.2.2.2.size (fun k e => by cases e), blk_grown HM.out.2.1 HRI.out.2.1 (by simp), blk_grown HM.out.2.2.1 HRI.out.2.1 (by simp), HM.out.2.2.2.size⟩
  go_loopg [25] n (fun d x25 wr => ∃ (left : Lit → Bool) (ss : List It) (gr c : Nat), Aside0 (wr.ranges Try.prog 9 EL md W.heap.size n D left d) ∧ Aside0 (CO L left ss ∧ ss.length + d ≤ n) ∧ Aside0 (wr.heap[s]? = some (.cells #[.slice (some ⟨gr, 0, none⟩) ss.length c] 55 (0, 0)) ∧ wr.ownsRow w.heap.size 47 2 (.slice (some ⟨gr, 0, none⟩) ss.length c) ss.length (ents ss) ∧ Below w.heap.size w wr))
  case atStart => exact ⟨_, [], w.heap.size, 0, ⟨by have := HRI.out.1; rw [HSZ.out] at this; exact this⟩, ⟨CO.start H.out.rel, by simp⟩, ⟨HB1.out.2.1, ⟨rfl, .inr ⟨w.heap.size, 0, #[], rfl, Nat.le_refl _, HB1.out.2.2.1, Nat.le_refl _, by decide, rfl, rfl⟩⟩, HB1.out.1⟩⟩
  case round =>
    have HWS : Aside0 (w.heap.size ≤ W.heap.size ∧ s < W.heap.size) := ⟨HB1.out.2.2.2, blk_lt HM.out.2.1⟩
    clear HRI HB1 HM
    obtain ⟨left, ss, gr, c, HRI, HC, HW⟩ := hrel
    go_wp2_with (first
      | (at_next; refine next_si rfl _ rfl md W.heap.size n D left gk rfl HRI.out ?hD ?hM; (case' hD => intro hc0 hl0; have HZ := Aside0.mk hl0; clear hc0 hl0); (case' hM => intro tx ct w2 cnt1 hsz hlx hat hrg1 hlt hg1 hen; have hmem := Rel.mem H.out.rel hat; have hb2 := blk_grown HW.out.1 hg1 (fun e => by have := HWS.out; cases e; omega); have ho2 := own_keep HW.out.2.1 hg1 (fun k e => fun e2 => (ranges_ne HRI.out HW.out.2.1).2 (by rw [e, e2])); have HW2 := Aside0.mk (And.intro hb2 (And.intro ho2 (And.intro (HW.out.2.2.grown hg1 HW.out.2.2.size (fun k e => by cases e; exact HWS.out.1)) (And.intro hrg1 (And.intro hlt (And.intro hmem hlx)))))); have k2 : w2.cell? ⟨s, 0, none⟩ = some (.slice (some ⟨gr, 0, none⟩) ss.length c) := (blk_cell hb2 0).trans rfl; have hsz2 := HW2.out.2.2.1.size; have hss : ss.length ≤ 1000 := (by have := HC.out.2; omega); clear hsz hlx hat hrg1 hlt hg1 hmem hb2 ho2))
      | ((with_reducible refine gate_dst (N := 33) rfl ?_); refine app_cells (w0 := _) w.heap.size rfl (.tmp 28) (.tmp 32) 55 47 (.agg #[.string ByteArray.empty, .int .i64 0]) 2 24 w2.heap.size rfl Try.underlying55 infoI rfl (by decide) (by decide) (.slice (some ⟨gr, 0, none⟩) ss.length c) ss.length (ents ss) [.string tx, .int .i64 ct] rfl rfl rfl rfl (by simp [Value.oneCell']) HW2.out.2.1 (Below.refl _ _) hsz2 (by omega) ?_; intro v1 w5 hown hbel hgrow hat; have hown2 : w5.ownsRow w.heap.size 47 2 v1 (ss ++ [(⟨tx, ct⟩ : It)]).length (ents (ss ++ [(⟨tx, ct⟩ : It)])) := (by rw [← ents_snoc, List.length_append]; exact hown); obtain ⟨g1, c3, rfl, hg1b⟩ := own_someI hown2; have hb5 := blk_grown HW2.out.1 hgrow (own_ne HW2.out.2.1 HW2.out.1 (by decide)); have hr5 := HW2.out.2.2.2.1.kept hgrow (ranges_ne HW2.out.2.2.2.1 HW2.out.2.1).1 (ranges_ne HW2.out.2.2.2.1 HW2.out.2.1).2; have HW3 := Aside0.mk (And.intro hb5 (And.intro hown2 (And.intro (HW2.out.2.2.1.trans hbel) hr5))); have k5 : w5.cell? ⟨s, 0, none⟩ = some (.slice (some ⟨gr, 0, none⟩) ss.length c) := (blk_cell hb5 0).trans rfl; have f5 := blk_frozen hb5 0; clear hown hbel hgrow hat hown2 hg1b hb5 hr5 k2))
    · go_roundg cnt1
      case measure => exact HW2.out.2.2.2.2.1
      case rel => exact ⟨_, ss ++ [⟨tx, ct⟩], g1, c3, ⟨ranges_set HW3.out.2.2.2 HW3.out.1⟩, ⟨HC.out.1.step H.out.rel.nd HW2.out.2.2.2.2.2.1 HW2.out.2.2.2.2.2.2, by have := HC.out.2; have := HW2.out.2.2.2.2.1; simp; omega⟩, ⟨by rw [List.length_append]; exact blk_put HW3.out.1 0 _ rfl, own_setCell HW3.out.2.1 (own_ne HW3.out.2.1 HW3.out.1 (by decide)) _, Below.setCell HW3.out.2.2.1 HS.out _⟩⟩
    · have hperm := HC.out.1.done H.out.rel.nd HZ.out
      have hlen := hperm.length_eq
      obtain ⟨nn, hnn⟩ : ∃ nn, ss.length = nn := ⟨_, rfl⟩
      have hnn2 : nn ≤ 1000 := by have := HC.out.2; omega
      have hne : s ≠ gr := fun e => own_ne HW.out.2.1 HW.out.1 (by decide) (by rw [e]; rfl)
      have hh : HH w.heap.size wr s gr c ss := ⟨(blk_cell HW.out.1 0).trans rfl, HW.out.2.1, hne, blk_lt HW.out.1⟩
      refine (init_any w.heap.size s gr c nn wr ss hh hnn (by omega)).mono ?_
      rintro e w6 ⟨rfl, hh6, hc6⟩
      obtain ⟨q1, q2⟩ := ini_heap ez ilt_ord nn (nn / 2) ss hnn (fun j h1 h2 h3 => by omega)
      obtain ⟨l6, hl6⟩ : ∃ l6, ini ilt ez ss (nn / 2) = l6 := ⟨_, rfl⟩
      rw [hl6] at hh6 q1 q2
      have hl6n : l6.length = nn := by rw [q2.length_eq]; exact hnn
      have HPO : Aside0 (PO ez L [] l6) := ⟨PO.start (q2.trans hperm) (by rw [hl6n]; exact q1) H.out.rel.nd⟩
      have hc6' : Ch (fun i => w.heap.size ≤ i) wr w6 := hc6.mono (fun i _ e => by subst e; exact own_base HW.out.2.1 _ rfl)
      have hb6 : w6.heap[s]? = some (.cells #[.slice (some ⟨gr, 0, none⟩) nn c] 55 (0, 0)) := by have := hc6.blk HW.out.1 hne; rw [hnn] at this; exact this
      have hbel6 : Below w.heap.size w w6 := Ch.onto HW.out.2.2 hc6 HW.out.2.2.size (fun i e => by subst e; exact own_base HW.out.2.1 _ rfl)
      have H6 : Aside0 (w6.heap[s]? = some (.cells #[.slice (some ⟨gr, 0, none⟩) nn c] 55 (0, 0)) ∧ HR w.heap.size w6 gr c l6 ∧ Below w.heap.size w w6 ∧ s ≠ gr ∧ gr < w6.heap.size ∧ s < w6.heap.size ∧ l6.length = nn ∧ L.length = nn ∧ nn ≤ 1000) := ⟨hb6, hh6.row, hbel6, hne, own_lt hh6.row gr rfl, blk_lt hb6, hl6n, by rw [← hnn]; exact hlen.symm, hnn2⟩
      have k6 : w6.cell? ⟨s, 0, none⟩ = some (.slice (some ⟨gr, 0, none⟩) nn c) := (blk_cell hb6 0).trans rfl
      obtain ⟨m, hm⟩ : ∃ m : Nat, brI k 0 nn = m := ⟨(brI k 0 nn).toNat, by unfold brI; omega⟩
      have hmn : m ≤ nn := by have : brI k 0 nn ≤ nn := (by unfold brI; omega); omega
      have HMN := Aside0.mk (And.intro hm hmn)
      clear hperm hlen hnn hh hh6 hc6 q1 q2 hl6 hl6n hc6' hb6 hbel6 hne HC HW HRI HZ hmn
      go_wp2_with fail
      refine (hlen_any (some ⟨gr, 0, none⟩) nn c w6).mono ?_
      rintro e w7 ⟨rfl, rfl⟩
      go_wp2_with fail
      refine (brought_any k 0 nn w6).mono ?_
      rintro e w7 ⟨rfl, rfl⟩
      rw [hm]
      clear hm k6
      go_wp2_with fail
      go_loopg [8, 44] m (fun d x8 x44 wj => ∃ (o Hj : List It) (A : Option Addr) (c8 : Nat), Aside0 (o.length + d = m) ∧ x44 = .int .i64 (o.length : Nat) ∧ x8 = .slice A o.length c8 ∧ Aside0 (PO ez L o Hj) ∧ Aside0 (wj.heap[s]? = some (.cells #[.slice (some ⟨gr, 0, none⟩) Hj.length c] 55 (0, 0)) ∧ HR w.heap.size wj gr c Hj ∧ wj.ownsRow w6.heap.size 47 2 (.slice A o.length c8) o.length (ents o) ∧ Below w.heap.size w wj ∧ w6.heap.size ≤ wj.heap.size))
      case atStart => exact ⟨[], l6, none, 0, ⟨by simp⟩, rfl, rfl, HPO, ⟨by rw [H6.out.2.2.2.2.2.2.1]; exact H6.out.1, H6.out.2.1, own_nil _ _ _ _, H6.out.2.2.1, Nat.le_refl _⟩⟩
      case round =>
        clear HPO
        obtain ⟨o, Hj, A, c8, HJ, rfl, rfl, HP, HW⟩ := hrel
        by_cases hlt : o.length < m
        · have hHl : o.length + Hj.length = nn := by have := HP.out.perm.length_eq; rw [List.length_append] at this; have := H6.out.2.2.2.2.2.2.2.1; omega
          have hHp : 0 < Hj.length := by have := HMN.out.2; omega
          obtain ⟨m', hm'⟩ : ∃ m', Hj.length = m' + 1 := ⟨Hj.length - 1, by omega⟩
          obtain ⟨hst, hpl, hgd⟩ := HP.out.step hHp
          rw [hm', Nat.add_sub_cancel] at hpl hgd
          have hbx := HW.out.1
          rw [hm'] at hbx
          go_wp2_with fail
          refine (hpop_any w.heap.size s gr c m' 55 Hj wr hbx HW.out.2.1 H6.out.2.2.2.1 hm' (by have := H6.out.2.2.2.2.2.2.2.2; omega)).mono ?_
          rintro e w7 ⟨rfl, hb7, hr7, hc7⟩
          rw [hgd]
          obtain ⟨y, hy⟩ : ∃ y, Hj.getD 0 ez = y := ⟨_, rfl⟩
          rw [hy] at hst ⊢
          have hta := assert_ok y
          have hso : ∀ q, (Value.slice A o.length c8).ownBlock = some q → w6.heap.size ≤ q := fun q e => own_base HW.out.2.2.1 q e
          have ho7 : w7.ownsRow w6.heap.size 47 2 (.slice A o.length c8) o.length (ents o) := hc7.own HW.out.2.2.1 (fun q e => by have h1 := hso q e; have h2 := H6.out; rintro (e2 | e2) <;> omega)
          have hbel7 : Below w.heap.size w w7 := Ch.onto HW.out.2.2.2.1 hc7 HW.out.2.2.2.1.size (fun i e => by rcases e with rfl | rfl; exact HS.out; exact own_base HW.out.2.1 _ rfl)
          have hsz7 : w6.heap.size ≤ w7.heap.size + 1 := by have := hc7.size; have := HW.out.2.2.2.2; omega
          have hal : Below w7.heap.size w7 (w7.alloc (.cells #[.string y.t, .int .i64 y.c] 47)) := below_alloc (Below.refl _ _) _
          have H7 : Aside0 ((w7.alloc (.cells #[.string y.t, .int .i64 y.c] 47)).heap[s]? = some (.cells #[.slice (some ⟨gr, 0, none⟩) m' c] 55 (0, 0)) ∧ HR w.heap.size (w7.alloc (.cells #[.string y.t, .int .i64 y.c] 47)) gr c (pop ilt ez Hj) ∧ (w7.alloc (.cells #[.string y.t, .int .i64 y.c] 47)).ownsRow w6.heap.size 47 2 (.slice A o.length c8) o.length (ents o) ∧ Below w.heap.size w (w7.alloc (.cells #[.string y.t, .int .i64 y.c] 47)) ∧ (w7.alloc (.cells #[.string y.t, .int .i64 y.c] 47)).heap.size = w7.heap.size + 1) := ⟨blk_below hb7 hal, hr7.below hal, pw_own_below ho7 hal, below_step hbel7 hal, by simp⟩
          have HST := Aside0.mk (And.intro hst hpl)
          have HSZ7 := Aside0.mk hsz7
          have hol : o.length ≤ 1000 := by have := H6.out.2.2.2.2.2.2.2.2; have := HMN.out.2; omega
          clear hb7 hr7 hc7 hso ho7 hbel7 hal hst hpl hgd hbx hHl hHp hm' hy HW HP hsz7
          unfold enc
          go_wp2_with ((with_reducible refine gate_dst (N := 57) rfl ?_); refine app_cells (w0 := _) w6.heap.size rfl (.tmp 54) (.tmp 56) 33 47 (.agg #[.string ByteArray.empty, .int .i64 0]) 2 24 (w7.heap.size + 1) rfl Try.underlying33 infoI rfl (by decide) (by decide) (.slice A o.length c8) o.length (ents o) [.string y.t, .int .i64 y.c] rfl rfl H7.out.2.2.2.2 rfl (by simp [Value.oneCell']) H7.out.2.2.1 (Below.refl _ _) HSZ7.out (by omega) ?_; intro v1 w8 hown hbel hgrow hat; have HW8 := Aside0.mk (And.intro hown hbel); clear hown hbel hgrow hat)
          have hown2 : w8.ownsRow w6.heap.size 47 2 v1 (o ++ [y]).length (ents (o ++ [y])) := by rw [← ents_snoc, List.length_append]; exact HW8.out.1
          obtain ⟨g1, c3, rfl, _⟩ := own_someI hown2
          have HF : Aside0 (w8.heap[s]? = some (.cells #[.slice (some ⟨gr, 0, none⟩) (pop ilt ez Hj).length c] 55 (0, 0)) ∧ HR w.heap.size w8 gr c (pop ilt ez Hj) ∧ w8.ownsRow w6.heap.size 47 2 (.slice (some ⟨g1, 0, none⟩) (o ++ [y]).length c3) (o ++ [y]).length (ents (o ++ [y])) ∧ Below w.heap.size w w8 ∧ w6.heap.size ≤ w8.heap.size) := ⟨by rw [HST.out.2, HW8.out.2.block s H6.out.2.2.2.2.2.1]; exact H7.out.1, H7.out.2.1.ch (S := fun i => w6.heap.size ≤ i) ⟨HW8.out.2.os, HW8.out.2.tape, HW8.out.2.output, HW8.out.2.size, fun i hi hs => HW8.out.2.block i (by omega)⟩ (by have := H6.out.2.2.2.2.1; omega), hown2, below_low H7.out.2.2.2.1 HW8.out.2 H6.out.2.2.1.size, Nat.le_trans HSZ7.out (by have := HW8.out.2.size; have := H7.out.2.2.2.2; omega)⟩
          clear hown2 HW8 H7
          go_wp2
          go_roundg (gk - 1)
          case measure => have := HJ.out; omega
          case rel => exact ⟨o ++ [y], pop ilt ez Hj, _, _, ⟨by rw [List.length_append]; simp; have := HJ.out; omega⟩, by rw [List.length_append]; go_num, rfl, ⟨HST.out.1⟩, HF⟩
        · have hom : o.length = m := by have := HJ.out; omega
          have hmm : ¬ (o.length : Int) < m := by omega
          have HOM := Aside0.mk hom
          clear hom hlt
          go_wp2
          go_ret
          obtain ⟨p, c', e1, _, hrd, _, _⟩ := own_rdc HW.out.2.2.1
          refine ⟨p, c', o, Hj, by rw [← e1]; rfl, ?_, hrd, HP.out.perm, HP.out.srt, HP.out.low, HW.out.2.2.2.1⟩
          rw [HOM.out, H6.out.2.2.2.2.2.2.2.1]; exact HMN.out.1.symm
end
end Go.Proofs.Ytfijbhacobjjgah
