/- Contracts of the program's functions and plain laws for the law GainReads, several texts in one (part 6). Conditions: each theorem's own. -/
import Derived.Test.YtiabenmgbikllaaQGainReadse
-- The law of what is read of loudness answers true, at rates without lags; and at all rates. Conditions: bounds on the numbers.
namespace Go.Proofs.Ytiabenmgbikllaa.M
set_option linter.unusedVariables false
open Go.RowKit Go.Proofs.YtiabenmgbikllaaW.PrintWords Go.Proofs.YtiabenmgbikllaaW.PrintLast Go.Proofs.YtiabenmgbikllaaW.PrintMore Go.Proofs.Ytiabenmgbikllaa.PAll
attribute [local go_sem] max2_int min2_int max_two min_two max_three min_three max_four min_four

set_option maxHeartbeats 1000000 in
set_option maxRecDepth 100000 in
theorem rltp0_calls (w0 w : World) (g : Nat) (d : D) (rate : Int) (hL : gain_Lags.f rate = some (0, 0)) (h : DecAt w0 w g d) :
    Calls Try.prog 31 #[.pointer (some ⟨g, 0, none⟩), .int .i64 rate] w fun r w' => r = .returned (.agg #[.int .i64 0, .int .i64 0]) ∧ DecAt w0 w' g d ∧ Chg w w' (One g) := by
  have HH := Aside0.mk (And.intro h hL)
  clear h hL
  go_enter Try.func31, Try.ntmps31
  go_wp2_with (go_at_call 30; refine (gain_Lags.calls rate 0 0 _ HH.out.2).mono ?_; rintro r w1 ⟨rfl, hd1⟩; obtain ⟨n1, rfl⟩ := hd1.out)
  have HC : Aside0 (∀ S, Chg w ((((w.alloc (.cells #[.int .i64 0, .int .i64 0] 39)).drewN n1).setCell ⟨w.heap.size, 0, none⟩ (.int .i64 0)).setCell ⟨w.heap.size, 1, none⟩ (.int .i64 0)) S) := ⟨fun S => ((((Chg.refl w S).alloc _).drewN _).setCell (p := ⟨w.heap.size, 0, none⟩) (.inr (Nat.le_refl _)) _).setCell (p := ⟨w.heap.size, 1, none⟩) (.inr (Nat.le_refl _)) _⟩
  refine bodyPost_ret (v := .agg #[.int .i64 0, .int .i64 0]) ?_ rfl ⟨rfl, HH.out.1.chg (HC.out No) (fun h => h) (fun _ h => False.elim h), HC.out _⟩
  have hr := blk_put (blk_put (blk_drewN (heap_alloc_new w (.cells #[.int .i64 0, .int .i64 0] 39)) n1) 0 (.int .i64 0) rfl) 1 (.int .i64 0) rfl
  have f0 := blk_cell hr 0
  have f1 := blk_cell hr 1
  clear hr
  simp [results, Try.results31, go_sem, f0, f1]
set_option maxHeartbeats 800000 in
set_option maxRecDepth 100000 in
theorem gainReads_none (w : World) (s : Value) (b : List Int) (was rate g v : Int) (hL : gain_Lags.f rate = some (0, 0)) (h : Rd w .u8 s b) (hb : Bytes b) (hv0 : -9223372036854775808 ≤ v) (hv1 : v ≤ 9223372036854775807) :
    Calls Try.prog 4 #[s, .int .i64 was, .int .i64 rate, .int .i64 g, .int .i64 v] w fun e w' => e = .returned (.bool true) ∧ Below w.heap.size w w' := by
  obtain ⟨A, c, hs, hc, hrd⟩ := h.to
  subst hs
  by_cases hl : 200 < b.length
  · go_enter Try.func4, Try.ntmps4
    have b1 : decide (200 < (b.length : Int)) = true := decide_eq_true (by omega)
    go_wp2_with (go_at_call 18; refine (awake_calls w).mono ?_; rintro r w1 ⟨rfl, c1⟩)
    go_returns
    exact ⟨rfl, c1.below_no⟩
  have b1 : decide (200 < (b.length : Int)) = false := decide_eq_false (by omega)
  obtain ⟨N1, N2, N3⟩ := new_ok b hb (by omega)
  have HL := Aside0.mk (And.intro hL (show madrigalref6_Lags.f rate = some (0, 0) from hL))
  clear hL
  have HH := Aside0.mk (And.intro h (And.intro hb (And.intro N1 (And.intro (new_raw b) hrd))))
  clear h N1 N3 hrd
  go_enter Try.func4, Try.ntmps4
  go_wp2_with (first
    | (go_at_call 18; refine (awake_calls w).mono ?_; rintro r w1 ⟨rfl, c1⟩; have C1 := Aside0.mk c1; clear c1)
    | (go_at_call 21; refine (dnew_calls w1 _ b (HH.out.1.chg C1.out (fun _ _ hh => hh)) HH.out.2.1 (by omega)).mono ?_; rintro r w2 ⟨w0, gd, rfl, d1, d2, d3⟩; have D1 := Aside0.mk (And.intro d1 (And.intro d2 d3)); clear d1 d2 d3)
    | (go_at_call 22; refine (rnewB_calls w1 w2 A c b D1.out.2.1.below_no (HH.out.2.2.2.2.below C1.out.below_no) HH.out.2.1 (by omega)).mono ?_; rintro r w3 ⟨rfl, r1, r2⟩; have T0 : Aside0 (Two w w1 w0 w3 gd w2.heap.size (D.new b) (D.new b) ∧ w0.heap.size ≤ w2.heap.size) := ⟨⟨D1.out.1.chg r2 (fun h => h) (fun _ h => False.elim h), r1, (C1.out.trans D1.out.2.1 (Ext.refl _ _)).trans r2 (Ext.refl _ _), Nat.ne_of_lt D1.out.1.lt, C1.out.size, D1.out.2.2⟩, D1.out.1.2.size⟩; clear r1 r2))
  have hN1 := HH.out.2.2.1
  obtain ⟨S1, S2, S3, S4, S5⟩ := sym_ok (D.new b) hN1 (icdf 1) (icdf_ok 1 (by omega)) (icdf_pos 1) (by omega)
  obtain ⟨U1, U2, U3, U4, U5, U6⟩ := uint_ok ((D.new b).sym (icdf 1)) S1 (sym_raw _ HH.out.2.2.2.1 _) 8 (by omega) (by omega) (by omega)
  have SS := Aside0.mk (And.intro hN1 (And.intro S1 (And.intro U1 U6)))
  have S5' : (D.new b).symV (icdf 1) < 8 := S5
  clear hN1 S1 U1 U6 S3 U3 S5
  go_wp2_with (first
    | (go_at_call 24; refine (icdf3_calls w3 1 (by omega)).mono ?_; rintro r w4 ⟨v4, rfl, A4, c4, rfl, r4, l4, p4, q4⟩; have T4 := Aside0.mk (And.intro (T0.out.1.no q4) (And.intro r4 (And.intro l4 p4))); clear r4 l4 p4 q4)
    | (go_at_call 23; refine (rsym_calls w1 w4 w2.heap.size (D.new b) (icdf 1) A4 c4 T4.out.1.ref SS.out.1 (icdf_ok 1 (by omega)) (icdf3_good 1 (by omega)) (icdf_pos 1) T4.out.2.1 T4.out.2.2.1 (fun ad ha hh => by have h1 := T4.out.2.2.2 ad ha; have h2 := T0.out.1.ref.lt; omega) (by omega)).mono ?_; rintro r w5 ⟨rfl, r5, k5⟩; have T5 := Aside0.mk (T4.out.1.toRef T0.out.2 r5 k5); clear r5 k5)
    | (go_at_call 25; refine (ruint_calls w1 w5 w2.heap.size ((D.new b).sym (icdf 1)) 8 T5.out.ref SS.out.2.1 (sym_raw _ HH.out.2.2.2.1 _) (by omega) (by omega) (by omega)).mono ?_; rintro r w6 ⟨rfl, r6, k6⟩; have T6 := Aside0.mk (T5.out.toRef T0.out.2 r6 k6); clear r6 k6))
  have F0 : Aside0 ((D.new b).firstV = 8 * (D.new b).symV (icdf 1) + ((D.new b).sym (icdf 1)).uintV 8 ∧ (D.new b).firstD = ((D.new b).sym (icdf 1)).uintD 8) := ⟨rfl, rfl⟩
  obtain ⟨d1, hd1⟩ : ∃ d1, d1 = ((D.new b).sym (icdf 1)).uintD 8 := ⟨_, rfl⟩
  have c1 : d1.count ≤ 200 := by rw [hd1]; omega
  have HD1 : Aside0 (DOk d1 ∧ DRaw d1) := ⟨by rw [hd1]; exact ⟨SS.out.2.2.1, SS.out.2.2.2⟩⟩
  have T6' : Aside0 (Two w w1 w0 w6 gd w2.heap.size (D.new b) d1) := ⟨by rw [hd1]; exact T6.out⟩
  have F1 : Aside0 ((D.new b).firstD = d1) := ⟨by rw [hd1]; exact F0.out.2⟩
  obtain ⟨X, hX⟩ : ∃ X, X = 8 * (D.new b).symV (icdf 1) + ((D.new b).sym (icdf 1)).uintV 8 := ⟨_, rfl⟩
  have F2 : Aside0 ((D.new b).firstV = X) := ⟨by rw [hX]; exact F0.out.1⟩
  go_wp2_with (first
    | (go_at_call 26; refine (rfirst_calls w0 w6 gd (D.new b) T6'.out.dec SS.out.1 (by omega)).mono ?_; rintro r w7 ⟨rfl, r7, k7⟩; rw [F1.out] at r7; rw [F0.out.1]; have T7 := Aside0.mk (T6'.out.toDec r7 k7); clear r7 k7))
  clear hd1 hX
  obtain ⟨y0, y1⟩ := gcl_range was
  obtain ⟨Y, hY⟩ : ∃ Y, Y = gcl was := ⟨_, rfl⟩
  have HY := Aside0.mk hY
  rw [← hY] at y0 y1
  clear hY
  obtain ⟨P1, P2, P3, P4, P5⟩ := sym_ok d1 HD1.out.1 (icdf 2) (icdf_ok 2 (by omega)) (icdf_pos 2) (by omega)
  have P5' : d1.symV (icdf 2) < 17 := P5
  have PP := Aside0.mk (And.intro P1 (sym_raw d1 HD1.out.2 (icdf 2)))
  clear P1 P3 P5
  go_wp2_with (first
    | (go_at_call 27; refine (madrigalref1_Clamp.calls 1 was 0 63 _ _ (clamp3_f 0 was 0 63)).mono ?_; rintro r w8 ⟨rfl, n8⟩; rw [show clampI was 0 63 = Y from HY.out.symm]; have T8 : Aside0 (Two w w1 w0 w8 gd w2.heap.size d1 d1) := ⟨by obtain ⟨n, rfl⟩ := n8.out; exact T7.out.no ((Chg.refl w7 No).drewN n)⟩; clear n8))
  go_wp2_with (go_at_call 24; refine (icdf3_calls w8 2 (by omega)).mono ?_; rintro r w9 ⟨v9, rfl, A9, c9, rfl, r9, l9, p9, q9⟩; have T9 := Aside0.mk (And.intro (T8.out.no q9) (And.intro r9 (And.intro l9 p9))); clear r9 l9 p9 q9)
  have hne9 : ∀ ad, A9 = some ad → ad.block ≠ w2.heap.size := fun ad ha hh => by have h1 := T9.out.2.2.2 ad ha; have h2 := T8.out.ref.lt; omega
  refine (rsym_calls w1 w9 w2.heap.size d1 (icdf 2) A9 c9 T9.out.1.ref HD1.out.1 (icdf_ok 2 (by omega)) (icdf3_good 2 (by omega)) (icdf_pos 2) T9.out.2.1 T9.out.2.2.1 hne9 (by omega)).mono ?_
  rintro r wa ⟨rfl, ra, ka⟩
  have Ta := Aside0.mk (T9.out.1.toRef T0.out.2 ra ka)
  clear ra ka
  obtain ⟨Z, hZ⟩ : ∃ Z, Z = d1.symV (icdf 2) := ⟨_, rfl⟩
  have HZ := Aside0.mk hZ
  rw [← hZ] at P4 P5' ⊢
  clear hZ
  have C3 : Aside0 (clampI (Y + Z - 8) 0 63 = d1.nextV' was ∧ d1.nextD = d1.sym (icdf 2)) := ⟨by rw [HY.out, HZ.out]; rfl, rfl⟩
  obtain ⟨d2, hd2⟩ : ∃ d2, d2 = d1.sym (icdf 2) := ⟨_, rfl⟩
  have c2 : d2.count ≤ 300 := by rw [hd2]; omega
  have Ta' : Aside0 (Two w w1 w0 wa gd w2.heap.size d1 d2) := ⟨by rw [hd2]; exact Ta.out⟩
  have HD2 : Aside0 (DOk d2 ∧ DRaw d2) := ⟨by rw [hd2]; exact PP.out⟩
  have E2 : Aside0 (d1.nextD = d2) := ⟨by rw [hd2]; rfl⟩
  clear hd2 P2
  go_wp2_with (first
    | (go_at_call 27; refine (madrigalref1_Clamp.calls 1 (Y + Z - 8) 0 63 _ _ (clamp3_f 0 (Y + Z - 8) 0 63)).mono ?_; rintro r wb ⟨rfl, nb⟩; rw [C3.out.1]; have Tb : Aside0 (Two w w1 w0 wb gd w2.heap.size d1 d2) := ⟨by obtain ⟨n, rfl⟩ := nb.out; exact Ta'.out.no ((Chg.refl wa No).drewN n)⟩; clear nb)
    | (go_at_call 28; refine (rnext_calls w0 wb gd d1 was Tb.out.dec HD1.out.1 (by omega)).mono ?_; rintro r wc ⟨rfl, rc, kc⟩; rw [E2.out] at rc; have Tc := Aside0.mk (Tb.out.toDec rc kc); clear rc kc))
  have HLb : Aside0 ((wc.alloc (.cells #[.int .i64 0, .int .i64 0] 39)).heap[wc.heap.size]? = some (.cells #[.int .i64 0, .int .i64 0] 39 (0, 0))) := ⟨heap_alloc_new wc _⟩
  have Td : Aside0 (Two w w1 w0 (wc.alloc (.cells #[.int .i64 0, .int .i64 0] 39)) gd w2.heap.size d2 d2) := ⟨Tc.out.no ((Chg.refl wc No).alloc _)⟩
  have hLd : gd ≠ wc.heap.size ∧ w2.heap.size ≠ wc.heap.size := ⟨Nat.ne_of_lt Tc.out.dec.lt, Nat.ne_of_lt Tc.out.ref.lt⟩
  refine (madrigalref6_Lags.calls rate 0 0 _ HL.out.2).mono ?_
  rintro r we ⟨rfl, ne⟩
  obtain ⟨n, rfl⟩ := ne.out
  have Te := Aside0.mk (Td.out.no ((Chg.refl _ No).drewN n))
  have HLe := Aside0.mk (blk_drewN HLb.out n)
  clear ne HLb Td
  generalize ((wc.alloc (.cells #[.int .i64 0, .int .i64 0] 39)).drewN n) = wd at Te HLe ⊢
  obtain ⟨hLd1, hLd2⟩ := hLd
  generalize wc.heap.size = L at HLe hLd1 hLd2 ⊢
  go_wp2_with fail
  refine (gain_Lags.calls rate 0 0 _ HL.out.1).mono ?_
  rintro r wk ⟨rfl, nk⟩
  obtain ⟨n2, rfl⟩ := nk.out
  have HLk := Aside0.mk (blk_drewN HLe.out n2)
  have Tk := Aside0.mk (Te.out.no ((Chg.refl _ No).drewN n2))
  clear nk
  generalize wd.drewN n2 = W at HLk Tk ⊢
  have y0 : W.cell? ⟨L, 0, none⟩ = some (.int .i64 0) := blk_cell HLk.out 0
  have y1 : W.cell? ⟨L, 1, none⟩ = some (.int .i64 0) := blk_cell HLk.out 1
  go_wp2_with fail
  go_region_held3 (fun w' => w'.cell? ⟨L, 0, none⟩ = some (.int .i64 0) ∧ w'.cell? ⟨L, 1, none⟩ = some (.int .i64 0)) (first | go_keep | exact ⟨by assumption, by assumption⟩) (first
    | (go_at_call 31
       refine (rltp0_calls w0 _ gd d2 rate HL.out.1 (Tk.out.no (by repeat (first | exact Chg.refl _ _ | apply Chg.drew | apply Chg.drewN))).dec).mono ?_
       rintro r wl ⟨rfl, rl, kl⟩
       have kl' : Chg W wl (One gd) := Chg.trans (by repeat (first | exact Chg.refl _ _ | apply Chg.drew | apply Chg.drewN)) kl (Ext.refl _ _)
       have Tl := Aside0.mk (Tk.out.toDec rl kl')
       have HLl := Aside0.mk (kl'.blk HLk.out (fun hh => hLd1 (Eq.symm hh)))
       have yl0 : wl.cell? ⟨L, 0, none⟩ = some (.int .i64 0) := blk_cell HLl.out 0
       have yl1 : wl.cell? ⟨L, 1, none⟩ = some (.int .i64 0) := blk_cell HLl.out 1
       clear rl kl kl')
    | (go_at_call 32
       refine (dtell_calls w0 _ gd d2 Tl.out.dec HD2.out.1).mono ?_
       rintro r wm ⟨rfl, nm, rfl⟩)
    | (go_at_call 33
       refine (rtell_calls w1 _ w2.heap.size d2 (Tl.out.no ((Chg.refl _ No).drewN _)).ref HD2.out.1).mono ?_
       rintro r wp ⟨rfl, rp, kp⟩
       have Tp := Aside0.mk ((Tl.out.no ((Chg.refl _ No).drewN _)).toRef T0.out.2 rp kp).chg
       have HLp := Aside0.mk (kp.blk (blk_drewN HLl.out _) (fun hh => hLd2 (Eq.symm hh)))
       have yp0 : wp.cell? ⟨L, 0, none⟩ = some (.int .i64 0) := blk_cell HLp.out 0
       have yp1 : wp.cell? ⟨L, 1, none⟩ = some (.int .i64 0) := blk_cell HLp.out 1
       clear rp kp)
    | (go_at_call 20
       refine (loud_calls _ g).mono ?_
       rintro r wq ⟨rfl, kq⟩
       have HLq := Aside0.mk (And.intro (kq.blk HLp.out (fun h => h)) (Tp.out.trans kq (Ext.refl _ _)))
       have yq0 : wq.cell? ⟨L, 0, none⟩ = some (.int .i64 0) := blk_cell HLq.out.1 0
       have yq1 : wq.cell? ⟨L, 1, none⟩ = some (.int .i64 0) := blk_cell HLq.out.1 1
       clear kq)
    | (go_at_call 34
       refine (madrigalref6_Loud.calls 20 g (loud g) _ (loud3_f g)).mono ?_
       rintro r wr ⟨rfl, kr⟩
       have HLr := Aside0.mk (And.intro (blk_below HLq.out.1 kr) (HLq.out.2.trans (Chg.of_below kr No) (Ext.refl _ _)))
       have yr0 : wr.cell? ⟨L, 0, none⟩ = some (.int .i64 0) := blk_cell HLr.out.1 0
       have yr1 : wr.cell? ⟨L, 1, none⟩ = some (.int .i64 0) := blk_cell HLr.out.1 1
       clear kr)
    | (go_at_call 19
       refine (nearest_calls _ v).mono ?_
       rintro r ws ⟨rfl, ks⟩
       have HLs := Aside0.mk (And.intro (ks.blk HLr.out.1 (fun h => h)) (HLr.out.2.trans ks (Ext.refl _ _)))
       have ys0 : ws.cell? ⟨L, 0, none⟩ = some (.int .i64 0) := blk_cell HLs.out.1 0
       have ys1 : ws.cell? ⟨L, 1, none⟩ = some (.int .i64 0) := blk_cell HLs.out.1 1
       clear ks)
    | (go_at_call 35
       refine (madrigalref6_Nearest.calls 100 v (nearest v : Int) _ (near3_f v hv0 hv1)).mono ?_
       rintro r wt ⟨rfl, kt⟩
       have HLt := Aside0.mk (And.intro (blk_below HLs.out.1 kt) (HLs.out.2.trans (Chg.of_below kt No) (Ext.refl _ _)))
       have yt0 : wt.cell? ⟨L, 0, none⟩ = some (.int .i64 0) := blk_cell HLt.out.1 0
       have yt1 : wt.cell? ⟨L, 1, none⟩ = some (.int .i64 0) := blk_cell HLt.out.1 1
       clear kt))
  go_wp2_with fail
  go_returns
  exact ⟨rfl, HLt.out.2.below_no⟩
theorem lags_case (rate : Int) : gain_Lags.f rate = some (16, 144) ∨ gain_Lags.f rate = some (32, 288) ∨ gain_Lags.f rate = some (0, 0) := by
  unfold gain_Lags.f
  by_cases h1 : rate = 8000
  · subst h1; exact .inl (by decide +kernel)
  · by_cases h2 : rate = 16000
    · subst h2; exact .inr (.inl (by decide +kernel))
    · rw [if_neg h1, if_neg h2]; exact .inr (.inr rfl)
theorem gainReads_calls (w : World) (s : Value) (b : List Int) (was rate g v : Int) (h : Rd w .u8 s b) (hb : Bytes b) (hv0 : -9223372036854775808 ≤ v) (hv1 : v ≤ 9223372036854775807) :
    Calls Try.prog 4 #[s, .int .i64 was, .int .i64 rate, .int .i64 g, .int .i64 v] w fun e w' => e = .returned (.bool true) ∧ Below w.heap.size w w' := by
  rcases lags_case rate with hL | hL | hL
  · exact gainReads_some w s b was rate g v 16 144 129 hL (by omega) (by omega) (by omega) (by omega) ⟨by omega⟩ h hb hv0 hv1
  · exact gainReads_some w s b was rate g v 32 288 257 hL (by omega) (by omega) (by omega) (by omega) ⟨by omega⟩ h hb hv0 hv1
  · exact gainReads_none w s b was rate g v hL h hb hv0 hv1
theorem gainReads_row (w : World) (s : Value) (b : List Int) (was rate g v : Int) (h : Rd w .u8 s b) (hb : OfKind .u8 b) (hn : b.length * 1 ≤ 140737488351232) (h1 : (Lit.int .i64 was).wf = true) (h2 : (Lit.int .i64 rate).wf = true) (h3 : (Lit.int .i64 g).wf = true) (h4 : (Lit.int .i64 v).wf = true) :
    Calls Try.prog 4 #[s, .int .i64 was, .int .i64 rate, .int .i64 g, .int .i64 v] w fun e w' => e = .returned (.bool true) ∧ Below w.heap.size w w' :=
  gainReads_calls w s b was rate g v h hb.bytes (wf_i64 h4).1 (wf_i64 h4).2
end Go.Proofs.Ytiabenmgbikllaa.M
