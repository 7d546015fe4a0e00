/- What counts of a text; the least cost, and the best steps: the program's. -/
import Derived.Test.YtfijbhacobjjgadProg
import Derived.Test.YtfijbhacobjjgadVals
import Derived.Test.YtfijbhacobjjgadWLast
import Derived.Test.YtfijbhacobjjgadWMore
import Derived.RegionTactic
import Derived.ChangeAlike
import Derived.BigRegion
import Derived.WalkLawsBesides
import Derived.WalkSpells
import Derived.Deep.LoopGhost
import Derived.Deep.QuietTactic
import Derived.BigQuiet
import Derived.OwnWalk
import Derived.Test.YtfijbhacobjjgadLeastA
import Derived.Test.YtfijbhacobjjgadSeqsA
import Derived.Test.YtfijbhacobjjgadLaw41b
namespace Go.Proofs.Ytfijbhacobjjgad
open Go.RowKit Go.Proofs.YtfijbhacobjjgadW.PrintWords Go.Proofs.YtfijbhacobjjgadW.PrintLast Go.Proofs.YtfijbhacobjjgadW.PrintMore Go.Proofs.Ytfijbhacobjjgad.Fr
set_option linter.unusedVariables false
set_option linter.unusedSimpArgs false
attribute [local go_sem] max2_int min2_int max_two min_two

open Pl
theorem info35 : (Try.prog.info? 35).map (fun i => (i.zero, i.size, i.bytes)) = some (some (.agg #[.int .i64 0, .int .i64 0, .int .i64 0]), 3, 24) := by kernel_rfl
theorem brought_any (D X : ByteArray) (hD : D.size ≤ 256) (hX : X.size ≤ 600) (w : World) : Calls Try.prog 18 #[.string D, .string X] w fun e w' => e = .returned (.tuple #[.string D, .string X]) ∧ Drawn0 w w' := by
  have e1 : D.extract 0 D.size = D := ByteArray.extract_zero_size
  have e2 : X.extract 0 X.size = X := ByteArray.extract_zero_size
  have h1 : (if (D.size : Int) - 256 < 0 then 0 else (D.size : Int) - 256) = 0 := by split <;> omega
  have h2 : (if (600 : Int) < (X.size : Int) then 600 else (X.size : Int)) = (X.size : Int) := by rw [if_neg (by omega)]
  have h3 : IntKind.i64.wrap ((D.size : Int) - 256) = (D.size : Int) - 256 := by rw [IntKind.wrap_i64]; omega
  go_enter Try.func18, Try.ntmps18
  go_wp2
  go_quiet (fail)
  go_wp2
  go_ret2
  exact ⟨rfl, Drawn0.step (Drawn0.refl _) _⟩
def lst (D X : ByteArray) : Int := ((tb (D ++ X) D.size X.size X.size).getD 0 zc).2.2
set_option maxRecDepth 100000 in
set_option maxHeartbeats 1000000 in
theorem least_any (D X : ByteArray) (hD : D.size ≤ 256) (hX : X.size ≤ 600) (w0 : World) : Calls Try.prog 10 #[.string D, .string X] w0 fun e w' => e = .returned (.int .i64 (lst D X)) ∧ Below w0.heap.size w0 w' := by
  have hlen := tb_len (D ++ X) D.size X.size X.size
  have hfg := (flat_get (tb (D ++ X) D.size X.size X.size) 0 (by omega)).2.2
  have HE : Aside0 (lst D X = ((tb (D ++ X) D.size X.size X.size).getD 0 zc).2.2) := ⟨rfl⟩
  have HC := choices_any D X (by omega) (by omega)
  obtain ⟨C, hC⟩ : ∃ C, tb (D ++ X) D.size X.size X.size = C := ⟨_, rfl⟩
  rw [hC] at hlen hfg HE HC
  rw [← HE.out] at hfg
  have HC := Aside0.mk HC
  have HL := Aside0.mk (And.intro hlen hfg)
  clear hlen hfg hC HE
  go_enter Try.func10, Try.ntmps10
  go_wp2_with fail
  refine (brought_any D X hD hX w0).mono ?_
  rintro e w1 ⟨rfl, hd⟩
  have HB1 := Aside0.mk (drawn_below (Below.refl w0.heap.size w0) hd)
  clear hd
  go_wp2_with fail
  refine (HC.out w1).mono ?_
  rintro e w2 ⟨g, rfl, hb, hg, hbel⟩
  have c2 := hb.cell 2 0 (by rw [flat_len, HL.out.1]; omega)
  have hz := HL.out.2
  simp only [Nat.zero_mul, Nat.zero_add] at hz
  rw [hz] at c2
  have HB2 := Aside0.mk (below_then HB1.out HB1.out.size hbel)
  rw [HL.out.1]
  clear hz hb hbel
  have hpos : (0 : Int) < ((X.size + 1 : Nat) : Int) := by omega
  go_wp2
  go_ret
  exact ⟨rfl, HB2.out⟩
theorem app_cells {P : Program} {ops : Array Oper} {rest : List Oper} {o : Oper} {a : Act} {Q : Exit → Act → World → Prop} {w0 W : World} (base : Nat) (hgd : o.guard = none) (s x : Operand) (t e : TypeId) (z : Value) (size bytes : Nat) (k : Nat)
    (ho : o.op = .call { callee := .builtin .append, args := #[s, x], argTypes := #[t, t] })
    (ht : P.underlying t = some (.slice e)) (hinfo : (P.info? e).map (fun i => (i.zero, i.size, i.bytes)) = some (some z, size, bytes)) (hz : z.cells.size = size) (hs0 : 0 < size) (hb0 : 0 < bytes)
    (v : Value) (n : Nat) (xs ys : List Value) (hs : a.eval s = v) (hx : a.eval x = .slice (some ⟨k, 0, none⟩) 1 1) (hk : W.heap.size = k) (hys : ys.length = size) (h1 : ∀ u ∈ ys, u.oneCell' = true)
    (HO : W.ownsRow base e size v n xs) (HB : Below base w0 W) (hbase : base ≤ W.heap.size) (hl : (n + 1) * bytes ≤ 140737488355328)
    (h : ∀ v1 w1, w1.ownsRow base e size v1 (n + 1) (xs ++ ys) → Below base w0 w1 → W.grownBy w1 v.ownBlock → (v1.ownBlock = v.ownBlock ∨ ∃ b, v1.ownBlock = some b ∧ W.heap.size ≤ b) → wpList P ops Q rest (a.put o.dst v1) w1) :
    wpList P ops Q (o :: rest) a (W.alloc (.cells ys.toArray e)) := by
  subst hk
  exact print_append_cells base hgd s x t e z size bytes ho ht hinfo hz hs0 hb0 v n xs ys hs hx hys h1 HO HB hbase hl h
theorem clip_any (A : Option Addr) (n c : Nat) (w : World) (h : n ≤ c) : Calls Try.prog 19 #[.slice A n c] w fun e w' => e = .returned (.slice A n n) ∧ w' = w := by
  have hn : n ≤ n := Nat.le_refl _
  go_enter Try.func19, Try.ntmps19
  go_wp2
  go_ret
  exact ⟨rfl, rfl⟩
/-- The best steps. -/
def bestS (D X : ByteArray) : List Stp := wk (fun i => (tb (D ++ X) D.size X.size X.size).getD i zc) X.size X.size 0 0
theorem wk_end (C : Nat → Chc) (n : Nat) : ∀ f l, wk C n f n l = []
  | 0, _ => rfl
  | f + 1, l => by simp only [wk]; rw [if_pos (Nat.le_refl _)]
theorem good_tb (D X : ByteArray) (a : Nat) (h : a < X.size) : Pl.Good (Sx (D ++ X) D.size) D.size X.size stN (fun i => (tb (D ++ X) D.size X.size X.size).getD i zc) a := Pl.bst_good stN (Sx (D ++ X) D.size) D.size X.size a h
theorem Sx_le (T : ByteArray) (d n : Nat) (hT : T.size = d + n) (a o : Nat) (h : a < n) : Sx T d a o ≤ n - a := by
  have := so_le T (d + a) o (by omega)
  unfold Sx; omega
set_option maxRecDepth 100000 in
set_option maxHeartbeats 4000000 in
theorem steps_any (D X : ByteArray) (hD : D.size ≤ 256) (hX : X.size ≤ 600) (w0 : World) : Calls Try.prog 7 #[.string D, .string X] w0 (StPost (bestS D X) w0) := by
  have hTs : (D ++ X).size = D.size + X.size := ByteArray.size_append ..
  have hlen := tb_len (D ++ X) D.size X.size X.size
  have HG := good_tb D X
  have HSX := Sx_le (D ++ X) D.size X.size hTs
  have HC := choices_any D X (by omega) (by omega)
  have HE : Aside0 (bestS D X = wk (fun i => (tb (D ++ X) D.size X.size X.size).getD i zc) X.size X.size 0 0) := ⟨rfl⟩
  obtain ⟨C, hC⟩ : ∃ C, tb (D ++ X) D.size X.size X.size = C := ⟨_, rfl⟩
  rw [hC] at hlen HC HG HE
  obtain ⟨n, hn⟩ : ∃ n, X.size = n := ⟨_, rfl⟩
  have HC := Aside0.mk HC
  have HL := Aside0.mk hlen
  have HGD : Aside0 (∀ a, a < n → ((C.getD a zc).1 = 0) ∨ (3 ≤ (C.getD a zc).1 ∧ a + (C.getD a zc).1 ≤ n ∧ (C.getD a zc).2.1 ≤ D.size + a)) := ⟨fun a ha => by
    rw [hn] at HG HSX
    rcases HG a ha with ⟨h, _⟩ | ⟨h1, h2, h3, h4, _⟩
    · exact .inl h
    · have := HSX a (C.getD a zc).2.1 ha
      simp only at h1 h2 h3 h4
      exact .inr ⟨h1, by omega, h4⟩⟩
  have hn2 : n ≤ 600 := by omega
  have HN := Aside0.mk hn
  clear hlen hC HG HSX hTs hn
  go_enter Try.func7, Try.ntmps7
  go_wp2_with fail
  refine (brought_any D X hD hX w0).mono ?_
  rintro e w1 ⟨rfl, hd⟩
  have HB1 := Aside0.mk (drawn_below (Below.refl w0.heap.size w0) hd)
  clear hd
  go_wp2_with fail
  refine (HC.out w1).mono ?_
  rintro e w2 ⟨g, rfl, hb, hg, hbel⟩
  have HBK := Aside0.mk hb
  have HB2 := Aside0.mk (below_then HB1.out HB1.out.size hbel)
  have HGS := Aside0.mk (Nat.le_trans HB1.out.size hg)
  rw [HL.out]
  rw [HN.out] at HL HE ⊢
  clear hb hbel hg HC HB1
  go_wp2
  have hcl : (C.length : Nat) = n + 1 := HL.out
  go_loopg [6, 7, 8] n (fun gk x y z wr => ∃ (a l c : Nat) (os : List Stp) (A : Option Addr), Aside0 (os ++ wk (fun i => C.getD i zc) n gk a l = wk (fun i => C.getD i zc) n n 0 0 ∧ n - a ≤ gk ∧ a ≤ n ∧ l ≤ a ∧ os.length ≤ a) ∧ x = .slice A os.length c ∧ y = .int .i64 l ∧ z = .int .i64 a ∧ Aside0 (Blk wr g 44 (Value.int .i64) (flat C) ∧ wr.ownsRow (g + 1) 35 3 (.slice A os.length c) os.length (sq os) ∧ Below w0.heap.size w0 wr))
  case atStart => exact ⟨0, 0, 0, [], none, ⟨rfl, by omega, by omega, by omega, by simp⟩, rfl, rfl, rfl, ⟨HBK.out, ⟨rfl, .inl ⟨rfl, rfl⟩⟩, HB2.out⟩⟩
  case round =>
    clear HBK HB2
    obtain ⟨a, l, c, os, A, HK, rfl, rfl, rfl, HI⟩ := hrel
    by_cases hlt : a < n
    · have hgl := HI.out.1.lt
      have hk := HK.out.1
      have hgk : 1 ≤ gk := by have := HK.out; omega
      obtain ⟨gk, rfl⟩ : ∃ g1, gk = g1 + 1 := ⟨gk - 1, by omega⟩
      rw [wk, if_neg (by omega)] at hk
      have HGA := HGD.out a hlt
      have hfg := flat_get C a (by omega)
      have c0 := HI.out.1.cell (a * 3) 0 (by rw [flat_len]; omega)
      have c1 := HI.out.1.cell (a * 3 + 1) 0 (by rw [flat_len]; omega)
      have c2 := HI.out.1.cell (a * 3 + 2) 0 (by rw [flat_len]; omega)
      rw [hfg.1] at c0
      rw [hfg.2.1] at c1
      rw [hfg.2.2] at c2
      have hbd := HK.out.2
      obtain ⟨m, hm⟩ : ∃ m, (C.getD a zc).1 = m := ⟨_, rfl⟩
      obtain ⟨o, ho⟩ : ∃ o, (C.getD a zc).2.1 = o := ⟨_, rfl⟩
      obtain ⟨q, hq⟩ : ∃ q, (C.getD a zc).2.2 = q := ⟨_, rfl⟩
      try simp only at hk
      rw [hm] at c0 HGA hk
      rw [ho] at c1 HGA hk
      rw [hq] at c2
      have HKK := Aside0.mk hk
      obtain ⟨b1, b2, b3, b4⟩ := hbd
      have hal : (a : Int) < ((n + 1 : Nat) : Int) := by omega
      clear hk hfg hm ho hq hcl
      by_cases h0 : m = 0
      · subst h0
        have HK2 : Aside0 (os ++ wk (fun i => C.getD i zc) n gk (a + 1) (l + 1) = wk (fun i => C.getD i zc) n n 0 0) := ⟨by have := HKK.out; rwa [if_pos rfl] at this⟩
        clear HKK HGA
        go_wp2
        go_roundg gk
        case measure => omega
        case rel => exact ⟨a + 1, l + 1, c, os, A, ⟨HK2.out, by omega, by omega, by omega, by omega⟩, rfl, by go_num, by go_num, ⟨HI.out.1.below (below_alloc (Below.refl _ _) _), HI.out.2.1.alloc _, below_alloc HI.out.2.2 _⟩⟩
      · have hg3 : 3 ≤ m ∧ a + m ≤ n ∧ o ≤ D.size + a := by rcases HGA with h | h; exact absurd h h0; exact h
        obtain ⟨g1, g2, g3⟩ := hg3
        have HK2 : Aside0 ((os ++ [((l : Int), (m : Int), (o : Int))]) ++ wk (fun i => C.getD i zc) n gk (a + m) 0 = wk (fun i => C.getD i zc) n n 0 0) := ⟨by have := HKK.out; rw [if_neg h0] at this; rw [List.append_assoc]; exact this⟩
        have hne : ((m : Int) == 0) = false := by simpa using h0
        have HSQ : Aside0 (sq (os ++ [((l : Int), (m : Int), (o : Int))]) = sq os ++ [.int .i64 l, .int .i64 m, .int .i64 o]) := ⟨sq_app _ _⟩
        have HLN : Aside0 ((os ++ [((l : Int), (m : Int), (o : Int))]).length = os.length + 1) := ⟨by simp⟩
        clear HKK HGA h0
        go_wp2_with ((with_reducible refine gate_dst (N := 40) rfl ?_); refine app_cells (w0 := _) (g + 1) rfl (.tmp 32) (.tmp 39) 23 35 (.agg #[.int .i64 0, .int .i64 0, .int .i64 0]) 3 24 _ rfl Try.underlying23 info35 rfl (by decide) (by decide) (.slice A os.length c) os.length (sq os) [.int .i64 l, .int .i64 m, .int .i64 o] rfl rfl (by simp) rfl (by simp [Value.oneCell']) (HI.out.2.1.alloc _) (Below.refl _ _) (by simp; omega) (by omega) ?_; intro v1 w1 hown hbel hgrow hat; rw [← HSQ.out, ← HLN.out] at hown; obtain ⟨A1, c1, rfl, hc1, hc2, _⟩ := own_steps hown; have HW := Aside0.mk (And.intro hown hbel); have hbk := blk_grown (blk_new wr _) hgrow (fun e => Nat.lt_irrefl _ (own_lt HI.out.2.1 _ e.symm)); have k0 : w1.cell? ⟨wr.heap.size, 0, none⟩ = some (.int .i64 m) := (blk_cell hbk 0).trans rfl; clear hown hbel hgrow hat hc1 hc2 hbk)
        go_roundg gk
        case measure => omega
        case rel =>
          refine ⟨a + m, 0, c1, os ++ [((l : Int), (m : Int), (o : Int))], A1, ⟨HK2.out, by omega, by omega, by omega, by rw [HLN.out]; omega⟩, by rw [HLN.out], rfl, by go_num, ⟨?_, ?_, ?_⟩⟩
          · refine (HW.out.2.block g (by omega)).trans ?_
            exact HI.out.1.below (below_alloc (Below.refl _ _) _)
          · exact HW.out.1
          · exact (below_alloc HI.out.2.2 _).trans (HW.out.2.mono (by have := HGS.out; omega))
    · have HKE : Aside0 (os = bestS D X) := ⟨by
        have h := HK.out.1
        obtain rfl : a = n := by have := HK.out; omega
        rw [wk_end, List.append_nil] at h
        rw [HE.out, h]⟩
      have hal : ¬ (a : Int) < (n : Int) := by omega
      obtain ⟨A0, c0, hA0, hc, hc2, hst⟩ := own_steps HI.out.2.1
      cases hA0
      have HST := Aside0.mk hst
      clear hst
      go_wp2_with fail
      refine (clip_any A os.length c _ hc).mono ?_
      rintro e w3 ⟨rfl, rfl⟩
      go_wp2
      go_ret
      rw [← HKE.out]
      exact ⟨A, os.length, rfl, Nat.le_refl _, by omega, HST.out, HI.out.2.2⟩
end Go.Proofs.Ytfijbhacobjjgad
