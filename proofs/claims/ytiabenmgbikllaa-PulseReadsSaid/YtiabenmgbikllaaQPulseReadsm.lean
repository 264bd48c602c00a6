/- Contracts of the program's functions and plain laws for the law PulseReads, several texts in one (part 13); the program's functions as Lean functions came out of the kit's print. Conditions: each theorem's own. -/
import Derived.Test.YtiabenmgbikllaaQPulseReadsl
-- P5
namespace Go.Proofs.Ytiabenmgbikllaa.M
set_option linter.unusedVariables false
open Go.RowKit Go.Proofs.YtiabenmgbikllaaW.PrintWords Go.Proofs.YtiabenmgbikllaaW.PrintLast Go.Proofs.YtiabenmgbikllaaW.PrintMore Go.Proofs.Ytiabenmgbikllaa.PAll
attribute [local go_sem] max2_int min2_int max_two min_two max_three min_three max_four min_four

/-- The signs up to place j are read. -/
structure RSgnAt (w w0 wr : World) (g L : Nat) (xs S : List Int) (D0 : D) (a j : Nat) : Prop where
  dec : RefAt w0 wr g (signsR (S.take j) D0).2
  blk : Blk wr L (lay xs a ((signsR (S.take j) D0).1 ++ S.drop j))
  chg : Chg w wr (One g)
theorem RSgnAt.cell {w w0 wr : World} {g L : Nat} {xs S : List Int} {D0 : D} {a j : Nat} (h : RSgnAt w w0 wr g L xs S D0 a j) (hj : j < S.length) (ha : a + S.length ≤ xs.length) : wr.cell? ⟨L, a + j, none⟩ = some (.int .i64 (rd S j)) := by
  have hl : (signsR (S.take j) D0).1.length = j := by rw [signsR_length]; simp; omega
  have hll : ((signsR (S.take j) D0).1 ++ S.drop j).length = S.length := by rw [List.length_append, hl]; simp; omega
  rw [h.blk.cell (a + j) (by rw [lay_length _ _ _ (by omega)]; omega), lay_rd _ _ _ _ (by omega) (by omega)]
  have := mid_rd (signsR (S.take j) D0).1 S (by omega)
  rw [hl] at this
  rw [this]
theorem RSgnAt.keep {w w0 wr w1 : World} {g L : Nat} {xs S : List Int} {D0 : D} {a j : Nat} (h : RSgnAt w w0 wr g L xs S D0 a j) (hj : j < S.length) (hd : RefAt w0 w1 g (sgnD (signsR (S.take j) D0).2 (rd S j))) (hv : sgnV (signsR (S.take j) D0).2 (rd S j) = rd S j) (hb : Blk w1 L (lay xs a ((signsR (S.take j) D0).1 ++ S.drop j))) (hc : Chg w w1 (One g)) : RSgnAt w w0 w1 g L xs S D0 a (j + 1) := by
  have hl : (signsR (S.take j) D0).1.length = j := by rw [signsR_length]; simp; omega
  have hs := take_snoc_rd S j hj
  have e := signsR_snoc (S.take j) (rd S j) D0
  rw [← hs] at e
  have hm := mid_same (signsR (S.take j) D0).1 S (by omega)
  rw [hl] at hm
  refine ⟨by rw [e]; exact hd, ?_, hc⟩
  rw [e]
  show Blk w1 L (lay xs a (((signsR (S.take j) D0).1 ++ [sgnV (signsR (S.take j) D0).2 (rd S j)]) ++ S.drop (j + 1)))
  rw [hv, ← hm]
  exact hb
theorem RSgnAt.turn {w w0 wr w1 : World} {g L : Nat} {xs S : List Int} {D0 : D} {a j : Nat} {v : Int} (h : RSgnAt w w0 wr g L xs S D0 a j) (hj : j < S.length) (ha : a + S.length ≤ xs.length) (hne : g ≠ L) (hL : w.heap.size ≤ L) (hL0 : w0.heap.size ≤ L) (hd : RefAt w0 w1 g (sgnD (signsR (S.take j) D0).2 (rd S j))) (hv : sgnV (signsR (S.take j) D0).2 (rd S j) = v) (hb : Blk w1 L (lay xs a ((signsR (S.take j) D0).1 ++ S.drop j))) (hc : Chg w w1 (One g)) :
    RSgnAt w w0 (w1.setCell ⟨L, a + j, none⟩ (.int .i64 v)) g L xs S D0 a (j + 1) := by
  have hl : (signsR (S.take j) D0).1.length = j := by rw [signsR_length]; simp; omega
  have hll : ((signsR (S.take j) D0).1 ++ S.drop j).length = S.length := by rw [List.length_append, hl]; simp; omega
  have hs := take_snoc_rd S j hj
  have e := signsR_snoc (S.take j) (rd S j) D0
  rw [← hs] at e
  have hm := mid_set (signsR (S.take j) D0).1 S v (by omega)
  rw [hl] at hm
  have kc : Chg w1 (w1.setCell ⟨L, a + j, none⟩ (.int .i64 v)) (One L) := (Chg.refl w1 (One L)).setCell (p := ⟨L, a + j, none⟩) (.inl rfl) _
  refine ⟨?_, ?_, hc.setCell (p := ⟨L, a + j, none⟩) (.inr hL) _⟩
  · rw [e]; exact hd.chg kc (fun hh => hne hh) (fun i hi => by rw [show i = L from hi]; exact hL0)
  · rw [e]
    show Blk _ L (lay xs a (((signsR (S.take j) D0).1 ++ [sgnV (signsR (S.take j) D0).2 (rd S j)]) ++ S.drop (j + 1)))
    rw [hv, ← hm, ← lay_set _ _ _ _ _ (by omega) (by omega)]
    exact hb.set (a + j) v
theorem rsym_at (w0 w w1 : World) (g : Nat) (d : D) (i : Nat) (v : Value) (h : RefAt w0 w g d) (hd : DOk d) (hi : i < 7) (ht : TabAt w w1 (icdf i) v) (hk : d.count ≤ 900000000000000000) :
    Calls Try.prog 23 #[.pointer (some ⟨g, 0, none⟩), v] w1 fun r w' => r = .returned (.int .i64 (d.symV (icdf i))) ∧ RefAt w0 w' g (d.sym (icdf i)) ∧ Chg w w' (One g) := by
  obtain ⟨A, c, rfl, hr, hc, hb, hch⟩ := ht
  exact (rsym_calls w0 w1 g d (icdf i) A c (h.chg hch (fun hh => hh) (fun _ hh => hh.elim)) hd (icdf_ok i hi) (icdf3_good i hi) (icdf_pos i) hr hc (fun ad ha hh => by have := hb ad ha; have := h.lt; omega) hk).mono
    fun r w' ⟨h1, h2, h3⟩ => ⟨h1, h2, (hch.mono (fun _ h => False.elim h)).trans h3 (Ext.refl _ _)⟩
/-- The blocks up to i are read. -/
structure RRdAt (w w0 wr : World) (g : Nat) (d : D) (v : Value) (i : Nat) : Prop where
  ref : RefAt w0 wr g (pulsesR i d).2
  own : wr.ownsRow 0 2 1 v (pulsesR i d).1.length (nums .i64 (pulsesR i d).1)
  chg : Chg w wr (One g)
  ge : Ge w.heap.size (blkOf v)
set_option maxHeartbeats 4000000 in
set_option maxRecDepth 100000 in
theorem rpulses_calls (w0 w : World) (g : Nat) (d : D) (n N : Nat) (hN : n = 16 * N) (h1 : N ≤ 30) (h : RefAt w0 w g d) (hd : DOk d) (hr : DRaw d) (hc : d.count ≤ 1000000) :
    Calls Try.prog 46 #[.pointer (some ⟨g, 0, none⟩), .int .i64 n] w fun r w' => ∃ v, r = .returned v ∧ w'.ownsRow 0 2 1 v (pulsesR N d).1.length (nums .i64 (pulsesR N d).1) ∧ RefAt w0 w' g (pulsesR N d).2 ∧ Chg w w' (One g) ∧ Ge w.heap.size (blkOf v) := by
  have hn1 : n ≤ 480 := by omega
  have HH := Aside0.mk (And.intro h (And.intro hd hr))
  have hgl := h.lt
  have hg0 := h.ge
  have HN := Aside0.mk hN
  clear h hd hr hN
  have hmk : ∀ W : World, (Instr.makeSlice 45 (.int .i64 16) (.int .i64 16)).run Try.prog W = .ok (.slice (some ⟨W.heap.size, 0, none⟩) 16 16) (W.alloc (.cells (madeCells #[.int .i64 0] 16) 2)) := print_make (P := Try.prog) 45 2 .i64 8 Try.underlying45 info2 (by omega) 16 (by omega)
  have HS : Aside0 (RRdAt w w0 w g d (.slice none 0 0) 0) := ⟨HH.out.1, own_nil _ _ _ _, Chg.refl _ _, fun k hk => by cases hk⟩
  go_enter Try.func46, Try.ntmps46
  go_wp2_with fail
  go_loopg [5] N (fun k u5 wr => ∃ (i a c : Nat) (A : Option Addr), u5 = .slice A a c ∧ k + i = N ∧ Aside0 (a = 16 * i ∧ RRdAt w w0 wr g d (.slice A a c) i))
  case atStart => exact ⟨0, 0, 0, none, rfl, rfl, ⟨rfl, HS.out⟩⟩
  case round =>
    clear HS
    obtain ⟨i, a, c, A, rfl, hk, HR⟩ := hrel
    obtain ⟨wo, rfl⟩ : ∃ wo, wo = wr := ⟨_, rfl⟩
    by_cases hi : i < N
    · have ha : a + 16 ≤ n := by have := HR.out.1; have := HN.out; omega
      have P := pulses_ok d HH.out.2.1 HH.out.2.2 i (by omega)
      have hpc := P.cnt
      obtain ⟨s1, s2, s3, s4, s5, S⟩ := shareB_ok (pulsesR i d).2 P.ok P.raw (by omega)
      have hsc := S.cnt
      have HP := Aside0.mk (And.intro P (And.intro s1 (And.intro s2 S)))
      obtain ⟨k5, hk5⟩ : ∃ k5, k5 = (pulsesR i d).2.symV (icdf 5) := ⟨_, rfl⟩
      have HK := Aside0.mk hk5
      rw [← hk5] at s4 s5
      have hgw : g < wo.heap.size := HR.out.2.ref.lt
      have hws : w.heap.size ≤ wo.heap.size := HR.out.2.chg.size
      clear P S s1 s2 hk5
      obtain ⟨W, hW⟩ : ∃ W, W = wo.alloc (.cells (madeCells #[.int .i64 0] 16) 2) := ⟨_, rfl⟩
      obtain ⟨L, hL⟩ : ∃ L, L = wo.heap.size := ⟨_, rfl⟩
      have HB0 : Aside0 (Blk W L (List.replicate 16 0) ∧ Chg wo W No) := ⟨by rw [hW, hL]; exact blk_made wo 16, by rw [hW]; exact (Chg.refl wo No).alloc _⟩
      have hgL : g ≠ L := by omega
      have hL0 : w0.heap.size ≤ L := by omega
      have hLw : wo.heap.size ≤ L := by omega
      have HWL := Aside0.mk (And.intro hW hL)
      clear hW hL
      go_wp2_with fail
      rw [← HWL.out.1, ← HWL.out.2]
      refine (icdf3_calls W 5 (by omega)).mono ?_
      rintro r w2 ⟨v2, rfl, h2⟩
      have H2 := Aside0.mk h2
      clear h2
      go_wp2_with fail
      refine (rsym_at w0 W w2 g (pulsesR i d).2 5 v2 (HR.out.2.ref.chg HB0.out.2 (fun h => h) (fun _ h => False.elim h)) HP.out.1.ok (by omega) H2.out (by omega)).mono ?_
      rintro r w3 ⟨rfl, h3, c3⟩
      have H3 := Aside0.mk (And.intro h3 (And.intro (HB0.out.1.chg c3 (fun hh => hgL (Eq.symm hh))) c3))
      rw [← HK.out]
      clear h3 c3
      go_wp2_with fail
      refine (rshare16 w0 g L hgL hL0 w3 _ _ 0 _ k5 H3.out.1 H3.out.2.1 HP.out.2.1 HP.out.2.2.1 s4 s5 (by omega) (by simp) (by omega)).mono ?_
      rintro r w4 ⟨rfl, h4, b4, c4⟩
      have c4w : Chg wo w4 (One g) := ((HB0.out.2.mono (fun _ h => False.elim h) : Chg wo W (One g)).trans H3.out.2.2 (Ext.refl _ _)).trans c4 (fun k hk => by
        rcases hk with hk | hk
        · exact .inl hk
        · exact .inr (by omega))
      have hS4 : RSgnAt wo w0 w4 g L (List.replicate 16 0) (shareB (pulsesR i d).2).1 (shareB (pulsesR i d).2).2 0 0 := ⟨by rw [HK.out] at h4; exact h4, by rw [HK.out] at b4; exact b4, c4w⟩
      have H4 := Aside0.mk hS4
      have hS16' : (shareB (pulsesR i d).2).1.length = 16 := HP.out.2.2.2.len
      have hpos := HP.out.2.2.2.pos
      clear h4 b4 c4 hS4 c4w
      obtain ⟨S, hS⟩ : ∃ S, S = (shareB (pulsesR i d).2).1 := ⟨_, rfl⟩
      obtain ⟨D0, hD0⟩ : ∃ D0, D0 = (shareB (pulsesR i d).2).2 := ⟨_, rfl⟩
      obtain ⟨xs, hxs⟩ : ∃ xs, xs = List.replicate 16 (0 : Int) := ⟨_, rfl⟩
      have hxl : Aside0 (xs.length = 16) := ⟨by rw [hxs]; simp⟩
      have HD0 : Aside0 (DOk D0 ∧ DRaw D0 ∧ D0.count ≤ 100000 + d.count) := ⟨by rw [hD0]; exact ⟨HP.out.2.2.2.ok, HP.out.2.2.2.raw, by have := HP.out.2.2.2.cnt; omega⟩⟩
      rw [← hS, ← hD0, ← hxs] at H4
      rw [← hS] at hpos hS16'
      rw [← HK.out] at hpos
      have HSS := Aside0.mk (And.intro hS (And.intro hD0 hxs))
      have HPos := Aside0.mk (And.intro hpos hS16')
      have HWR : Aside0 (wo.ownsRow 0 2 1 (.slice A a c) (pulsesR i d).1.length (nums .i64 (pulsesR i d).1) ∧ ¬ blkOf (.slice A a c) g ∧ Ge w.heap.size (blkOf (.slice A a c)) ∧ Chg w wo (One g)) := ⟨HR.out.2.own, fun hh => by have := HR.out.2.ge g hh; omega, HR.out.2.ge, HR.out.2.chg⟩
      clear hS hD0 hxs hpos hS16' hpc hsc
      go_wp2_with fail
      go_loopg [7] 16 (fun k u7 wq => ∃ j : Nat, u7 = .int .i64 (j : Int) ∧ k + j = 16 ∧ Aside0 (RSgnAt wo w0 wq g L xs S D0 0 j))
      case atStart => exact ⟨0, rfl, rfl, H4⟩
      case round =>
        clear H4
        obtain ⟨j, rfl, hkj, HI⟩ := hrel
        by_cases hj : j < 16
        · have y0 := HI.out.cell (by rw [HPos.out.2]; exact hj) (by rw [HPos.out.2, hxl.out]; omega)
          rw [Nat.zero_add] at y0
          have z0 := HI.out.blk.frozen (j)
          have SO := signs_ok (S.take j) D0 HD0.out.1 HD0.out.2.1 (by have := HD0.out.2.2; have : (S.take j).length ≤ j := List.length_take_le _ _; omega)
          have hcq : (signsR (S.take j) D0).2.count ≤ 10000000 := by have := SO.cnt; have := HD0.out.2.2; have : (S.take j).length ≤ j := List.length_take_le _ _; omega
          have hxr : 0 ≤ rd S j ∧ rd S j ≤ k5 := HPos.out.1 _ (by rw [← rd_eq]; simp [List.getD, show j < S.length by rw [HPos.out.2]; exact hj])
          obtain ⟨x, hx⟩ : ∃ x, x = rd S j := ⟨_, rfl⟩
          obtain ⟨dq, hdq⟩ : ∃ dq, dq = (signsR (S.take j) D0).2 := ⟨_, rfl⟩
          rw [← hx] at y0 hxr
          rw [← hdq] at hcq
          have HX := Aside0.mk (And.intro hx hdq)
          have HQ : Aside0 (DOk dq ∧ DRaw dq ∧ RefAt w0 wr g dq) := ⟨by rw [hdq]; exact ⟨SO.ok, SO.raw, HI.out.dec⟩⟩
          clear hx hdq SO
          by_cases hp : 0 < x
          · obtain ⟨bv, hbv⟩ : ∃ bv, bv = dq.bitsV 1 := ⟨_, rfl⟩
            have HB := Aside0.mk hbv
            clear hbv
            go_wp2_with fail
            refine (rbits_calls w0 wr g dq 1 HQ.out.2.2 HQ.out.1 HQ.out.2.1 (by omega) (by omega) (by omega)).mono ?_
            rintro r w5 ⟨rfl, h5, c5⟩
            rw [← HB.out]
            have H5 := Aside0.mk (And.intro h5 (And.intro (HI.out.blk.chg c5 (fun hh => hgL (Eq.symm hh))) (HI.out.chg.trans c5 (Ext.refl _ _))))
            have y5 : w5.cell? ⟨L, j, none⟩ = some (.int .i64 x) := by
              have h7 : RSgnAt wo w0 wr g L xs S D0 0 j := HI.out
              have h8 : Blk w5 L (lay xs 0 ((signsR (S.take j) D0).1 ++ S.drop j)) := H5.out.2.1
              have hl : (signsR (S.take j) D0).1.length = j := by rw [signsR_length]; simp; rw [HPos.out.2]; omega
              have hll : ((signsR (S.take j) D0).1 ++ S.drop j).length = 16 := by rw [List.length_append, hl]; simp; rw [HPos.out.2]; omega
              have hm := mid_rd (signsR (S.take j) D0).1 S (by rw [hl, HPos.out.2]; exact hj)
              rw [hl] at hm
              have h9 := h8.cell (0 + j) (by rw [lay_length _ _ _ (by rw [hll, hxl.out]; omega), hxl.out]; omega)
              rw [lay_rd _ _ _ _ (by rw [hll]; omega) (by rw [hll, hxl.out]; omega), hm, ← HX.out.1, Nat.zero_add] at h9
              exact h9
            have z5 := H5.out.2.1.frozen (j)
            have hsD : sgnD (signsR (S.take j) D0).2 (rd S j) = dq.bits 1 := by rw [← HX.out.1, ← HX.out.2]; exact if_pos hp
            have hsV : sgnV (signsR (S.take j) D0).2 (rd S j) = if bv = 1 then -x else x := by rw [← HX.out.1, ← HX.out.2, HB.out]; exact if_pos hp
            have HSD := Aside0.mk (And.intro hsD hsV)
            clear h5 c5 hsD hsV y0 z0
            by_cases hb : bv = 1
            · have hT : RSgnAt wo w0 (w5.setCell ⟨L, j, none⟩ (.int .i64 (-x))) g L xs S D0 0 (j + 1) :=
                by
                  have hT0 := HI.out.turn (v := -x) (by rw [HPos.out.2]; exact hj) (by rw [HPos.out.2, hxl.out]; omega) hgL hLw hL0 (by rw [HSD.out.1]; exact H5.out.1) (by rw [HSD.out.2, if_pos hb]) H5.out.2.1 H5.out.2.2
                  rwa [Nat.zero_add] at hT0
              have HT := Aside0.mk hT
              clear hT HSD HB
              subst hb
              go_wp2_with fail
              go_roundg (gk - 1)
              case measure => omega
              case rel => exact ⟨j + 1, by go_num, by omega, HT⟩
            · have hT : RSgnAt wo w0 w5 g L xs S D0 0 (j + 1) := HI.out.keep (by rw [HPos.out.2]; exact hj) (by rw [HSD.out.1]; exact H5.out.1) (by rw [HSD.out.2, if_neg hb, HX.out.1]) H5.out.2.1 H5.out.2.2
              have HT := Aside0.mk hT
              have hbb : (bv == 1) = false := by simpa using hb
              clear hT HSD HB hb y5 z5
              go_wp2_with fail
              go_roundg (gk - 1)
              case measure => omega
              case rel => exact ⟨j + 1, by go_num, by omega, HT⟩
          · have hsD : sgnD (signsR (S.take j) D0).2 (rd S j) = dq := by rw [← HX.out.1, ← HX.out.2]; exact if_neg hp
            have hsV : sgnV (signsR (S.take j) D0).2 (rd S j) = rd S j := by rw [← HX.out.1, ← HX.out.2]; exact if_neg hp
            have hT : RSgnAt wo w0 wr g L xs S D0 0 (j + 1) := HI.out.keep (by rw [HPos.out.2]; exact hj) (by rw [hsD]; exact HQ.out.2.2) hsV HI.out.blk HI.out.chg
            have HT := Aside0.mk hT
            have hpb : decide (0 < x) = false := by simpa using hp
            clear hT hsD hsV
            go_wp2_with fail
            go_roundg (gk - 1)
            case measure => omega
            case rel => exact ⟨j + 1, by go_num, by omega, HT⟩
        · have hj16 : j = 16 := by omega
          have hb7 := HI.out.blk
          have hr7 := HI.out.dec
          rw [hj16, List.take_of_length_le (by rw [HPos.out.2]; omega), List.drop_eq_nil_of_le (by rw [HPos.out.2]; omega), List.append_nil] at hb7
          rw [hj16, List.take_of_length_le (by rw [HPos.out.2]; omega)] at hr7
          have hl16 : (signsR S D0).1.length = 16 := by rw [signsR_length]; exact HPos.out.2
          have e0 : lay xs 0 (signsR S D0).1 = (signsR S D0).1 := by
            unfold lay
            rw [List.take_zero, List.nil_append, List.drop_eq_nil_of_le (by rw [hl16, hxl.out]; omega), List.append_nil]
          rw [e0] at hb7
          have hrd := hb7.reads 0 16 (by omega) (by omega)
          rw [List.drop_zero, List.take_of_length_le (by omega)] at hrd
          have HE : Aside0 ((pulsesR (i + 1) d).1 = (pulsesR i d).1 ++ (signsR S D0).1 ∧ (pulsesR (i + 1) d).2 = (signsR S D0).2) := ⟨by rw [HSS.out.1, HSS.out.2.1]; exact ⟨rfl, rfl⟩⟩
          have HU := Aside0.mk (And.intro hr7 (And.intro hrd (And.intro (HI.out.chg.own HWR.out.1 (fun k hk hh => HWR.out.2.1 (by have h9 : k = g := hh; rw [← h9]; exact hk))) (HWR.out.2.2.2.trans HI.out.chg (Ext.refl _ _)))))
          have hbd : Aside0 ((pulsesR i d).1.length ≤ 480 ∧ (pulsesR i d).1.length = a ∧ (signsR S D0).1.length = 16) := ⟨by rw [HP.out.1.len]; omega, by rw [HP.out.1.len]; exact HR.out.1.symm, hl16⟩
          obtain ⟨q0, q1, q2⟩ := hbd.out
          subst hj16
          clear hb7 hr7 hl16 e0 hrd
          have hbd2 : ((pulsesR i d).1.length + 16) * 8 ≤ 140737488355328 := by omega
          have HB2 := Aside0.mk hbd2
          clear q1 q2 hbd2
          go_wp2_with (at_builtin; refine appRow rfl (.tmp 41) (.tmp 42) 45 2 .i64 8 rfl Try.underlying45 info2 (by omega) (.slice A a c) (pulsesR i d).1 (signsR S D0).1 (some ⟨L, 0, none⟩) 16 16 rfl rfl HU.out.2.2.1 HU.out.2.1 HB2.out ?_; intro v1 w5 ho5 hc5 hx5)
          obtain ⟨A5, c5, hv5⟩ := own_slice ho5
          subst hv5
          have hng : ¬ blkOf (.slice A a c) g := HWR.out.2.1
          have HT : Aside0 (RRdAt w w0 w5 g d (.slice A5 ((pulsesR i d).1 ++ (signsR S D0).1).length c5) (i + 1) ∧ ((pulsesR i d).1 ++ (signsR S D0).1).length = 16 * (i + 1)) := by
            refine ⟨⟨?_, ?_, ?_, ?_⟩, ?_⟩
            · rw [HE.out.2]; exact HU.out.1.chg hc5 hng (fun b hb => by have := HWR.out.2.2.1 b hb; omega)
            · rw [HE.out.1]; exact ho5
            · exact HU.out.2.2.2.trans hc5 (Ext.new HWR.out.2.2.1)
            · exact Ge.ext HWR.out.2.2.1 HU.out.2.2.2.size hx5
            · rw [List.length_append, hbd.out.2.2, HP.out.1.len]; omega
          clear ho5 hc5 hx5 hng
          go_wp2_with fail
          go_roundg (N - i - 1)
          case measure => omega
          case rel => exact ⟨i + 1, _, c5, A5, rfl, by omega, HT.out.2, HT.out.1⟩
    · have hiN : i = N := by omega
      have HF : Aside0 (wo.ownsRow 0 2 1 (.slice A a c) (pulsesR N d).1.length (nums .i64 (pulsesR N d).1) ∧ RefAt w0 wo g (pulsesR N d).2 ∧ Chg w wo (One g) ∧ Ge w.heap.size (blkOf (.slice A a c))) := by
        obtain ⟨q1, q2, q3, q4⟩ := HR.out.2
        rw [hiN] at q1 q2
        exact ⟨q2, q1, q3, q4⟩
      have han : n ≤ a := by have := HR.out.1; have := HN.out; omega
      clear HR
      go_wp2_with fail
      go_returns
      exact ⟨_, rfl, HF.out⟩
end Go.Proofs.Ytiabenmgbikllaa.M

-- Q8
namespace Go.Proofs.Ytiabenmgbikllaa.M
set_option linter.unusedVariables false
open Go.RowKit Go.Proofs.YtiabenmgbikllaaW.PrintWords Go.Proofs.YtiabenmgbikllaaW.PrintLast Go.Proofs.YtiabenmgbikllaaW.PrintMore Go.Proofs.Ytiabenmgbikllaa.PAll
attribute [local go_sem] max2_int min2_int max_two min_two max_three min_three max_four min_four

theorem same_l (l0 l1 : List Int) (hl : l0.length = l1.length) (hn : l0.length ≤ 1000000) (m : Nat) : ∀ (k i : Nat), i + m = l0.length → m < k → madrigallaw9_same.l0 k l0 l1 (i : Int) = some (decide (l0.drop i = l1.drop i)) := by
  induction m with
  | zero =>
    intro k i hi hk
    obtain ⟨k, rfl⟩ : ∃ m, k = m + 1 := ⟨k - 1, by omega⟩
    simp only [madrigallaw9_same.l0]
    rw [if_neg (by omega), List.drop_eq_nil_of_le (by omega), List.drop_eq_nil_of_le (by omega)]
    rfl
  | succ m ih =>
    intro k i hi hk
    obtain ⟨k, rfl⟩ : ∃ m, k = m + 1 := ⟨k - 1, by omega⟩
    have h0 : i < l0.length := by omega
    have h1 : i < l1.length := by omega
    have e0 : l0[i] = rd l0 i := by rw [← rd_eq]; simp [List.getD, h0]
    have e1 : l1[i] = rd l1 i := by rw [← rd_eq]; simp [List.getD, h1]
    simp only [madrigallaw9_same.l0]
    rw [if_pos (by omega), if_pos (by omega), if_pos (by omega), List.drop_eq_getElem_cons h0, List.drop_eq_getElem_cons h1, e0, e1]
    by_cases hc : rd l0 i = rd l1 i
    · rw [if_pos hc, show wrap64 ((i : Int) + 1) = ((i + 1 : Nat) : Int) from by unfold wrap64; omega, ih k (i + 1) (by omega) (by omega), hc]
      simp
    · rw [if_neg hc]
      simp [hc]
theorem same_f (l0 l1 : List Int) (hn : l0.length ≤ 1000000) (k : Nat) (hk : l0.length < k) : madrigallaw9_same.f k l0 l1 = some (decide (l0 = l1)) := by
  unfold madrigallaw9_same.f
  by_cases hl : (l0.length : Int) = (l1.length : Int)
  · rw [if_pos hl]
    have := same_l l0 l1 (by omega) hn l0.length k 0 (by omega) hk
    simpa using this
  · rw [if_neg hl]
    have : l0 ≠ l1 := fun hh => hl (by rw [hh])
    simp [this]
theorem same_calls (w : World) (s0 s1 : Value) (l0 l1 : List Int) (h0 : Rd w .i64 s0 l0) (h1 : Rd w .i64 s1 l1) (hn : l0.length ≤ 1000000) :
    Calls Try.prog 45 #[s0, s1] w fun r w' => r = .returned (.bool (decide (l0 = l1))) ∧ ∃ n, w' = w.drewN n := by
  obtain ⟨A0, c0, rfl, hc0, hr0⟩ := h0.to
  obtain ⟨A1, c1, rfl, hc1, hr1⟩ := h1.to
  exact (madrigallaw9_same.calls (l0.length + 1) A0 c0 l0 A1 c1 l1 _ w (Kd.C_of_reads (d := 0) (readsInt_of.1 hr0)) hc0 (Kd.C_of_reads (d := 0) (readsInt_of.1 hr1)) hc1 (same_f l0 l1 hn _ (by omega))).mono
    fun r w' ⟨h1, h2⟩ => ⟨h1, h2.out⟩
theorem Blk.rd_ {w : World} {b : Nat} {xs : List Int} (h : Blk w b xs) (hn : xs.length ≤ 1000000) : Rd w .i64 (.slice (some ⟨b, 0, none⟩) xs.length xs.length) xs :=
  .inr ⟨_, _, rfl, Nat.le_refl _, by
    have := h.reads 0 xs.length (by omega) (by omega)
    rw [List.drop_zero, List.take_of_length_le (Nat.le_refl _)] at this
    exact this⟩
theorem Blk.rdn {w : World} {b : Nat} {xs : List Int} (h : Blk w b xs) (n : Nat) (hn : xs.length = n) (h1 : n ≤ 1000000) : Rd w .i64 (.slice (some ⟨b, 0, none⟩) n n) xs := by
  subst hn
  exact h.rd_ h1

def l9 : List Int := [0, 0, 0, -2, 0, 0, 0, 0, 0, 1, 0, 0, 0, 0, 0, 0]
theorem l9_good : goodL l9 = true := by decide +kernel
theorem l9_at : GoodAt l9 1 := goodL_at l9 l9_good
def e9 : E := pulsesE E.new l9 1
theorem e9_good : EGood e9 500 := pulses_good E.new 0 EGood.new l9 1 l9_at 1 (by omega) (by omega)
theorem e9_tell : e9.tell ≤ 8 * ((20 : Nat) : Int) := by decide +kernel
def x9 : List Int := e9.done 20
theorem x9_bytes : Bytes x9 := (done_code e9 500 e9_good 20 e9_tell).2.1
theorem x9_len : x9.length = 20 := (done_code e9 500 e9_good 20 e9_tell).2.2
theorem x9_reads : (pulsesR 1 (D.new x9)).1 = l9 := by decide +kernel
theorem few9 : fewerL [3, -2, 1] 4 = [2, -1, 1] := by decide +kernel
end Go.Proofs.Ytiabenmgbikllaa.M

-- Q9
namespace Go.Proofs.Ytiabenmgbikllaa.M
set_option linter.unusedVariables false
open Go.RowKit Go.Proofs.YtiabenmgbikllaaW.PrintWords Go.Proofs.YtiabenmgbikllaaW.PrintLast Go.Proofs.YtiabenmgbikllaaW.PrintMore Go.Proofs.Ytiabenmgbikllaa.PAll
attribute [local go_sem] max2_int min2_int max_two min_two max_three min_three max_four min_four

set_option maxHeartbeats 1000000 in
set_option maxRecDepth 100000 in
theorem awake9_calls (w : World) : Calls Try.prog 36 #[] w fun r w' => r = .returned (.bool true) ∧ Chg w w' No := by
  have hmk : ∀ W : World, (Instr.makeSlice 45 (.int .i64 16) (.int .i64 16)).run Try.prog W = .ok (.slice (some ⟨W.heap.size, 0, none⟩) 16 16) (W.alloc (.cells (madeCells #[.int .i64 0] 16) 2)) := print_make (P := Try.prog) 45 2 .i64 8 Try.underlying45 info2 (by omega) 16 (by omega)
  obtain ⟨W1, hW⟩ : ∃ W1, W1 = w.alloc (.cells (((madeCells #[.int .i64 0] 16).setIfInBounds 3 (.int .i64 (-2))).setIfInBounds 9 (.int .i64 1)) 2) := ⟨_, rfl⟩
  obtain ⟨L, hL⟩ : ∃ L, L = w.heap.size := ⟨_, rfl⟩
  have HB : Aside0 (Blk W1 L l9 ∧ Chg w W1 No) := by
    refine ⟨?_, by rw [hW]; exact (Chg.refl w No).alloc _⟩
    have h := heap_alloc_new w (.cells (((madeCells #[.int .i64 0] 16).setIfInBounds 3 (.int .i64 (-2))).setIfInBounds 9 (.int .i64 1)) 2)
    unfold Blk
    rw [hW, hL, h]
    have e : ((madeCells #[.int .i64 0] 16).setIfInBounds 3 (.int .i64 (-2))).setIfInBounds 9 (.int .i64 1) = (nums .i64 l9).toArray := by
      apply Array.toList_inj.1
      rw [Array.toList_setIfInBounds, Array.toList_setIfInBounds, toList_madeCells_one]
      rfl
    rw [e]
  have HW := Aside0.mk (And.intro hW hL)
  have hLw : w.heap.size ≤ L := by omega
  have m3 : (madeCells #[.int .i64 0] 16)[3]? = some (.int .i64 0) := by rw [← Array.getElem?_toList, toList_madeCells_one]; rfl
  have m9 : (madeCells #[.int .i64 0] 16)[9]? = some (.int .i64 0) := by rw [← Array.getElem?_toList, toList_madeCells_one]; rfl
  clear hW hL
  go_enter Try.func36, Try.ntmps36
  go_wp2_with fail
  rw [← HW.out.1, ← HW.out.2]
  clear hmk m3 m9
  refine (enew_calls W1).mono ?_
  rintro r w1 ⟨rfl, h1, c1⟩
  obtain ⟨g, hg⟩ : ∃ g, g = W1.heap.size := ⟨_, rfl⟩
  have H1 : Aside0 (EncAt w1 (One g) g E.new ∧ Chg W1 w1 No ∧ Blk w1 L l9 ∧ w.heap.size ≤ g ∧ L ≠ g ∧ Chg w w1 No) := by
    rw [hg]
    exact ⟨h1, c1, HB.out.1.chg c1 (fun h => h), HB.out.2.size, Nat.ne_of_lt HB.out.1.lt, HB.out.2.trans c1 (Ext.refl _ _)⟩
  rw [← hg]
  clear h1 c1 hg
  go_wp2_with fail
  have HWr := write_calls w1 (One g) g E.new L 0 16 0 1 l9 H1.out.1 EGood.new (by omega) (by have := H1.out.2.2.1.rb 0 16 (by decide); exact this) (by decide) (by omega) (fun hh => H1.out.2.2.2.2.1 hh) l9_good l9_at
  rw [show l9.length = 16 from rfl] at HWr
  with_reducible refine HWr.mono ?_
  clear HWr
  rintro r w2 ⟨rfl, f2, h2, c2, x2⟩
  have H2 : Aside0 (EncAt w2 f2 g e9 ∧ Chg w w2 No ∧ Blk w2 L l9 ∧ Ge w.heap.size f2 ∧ ¬ f2 L) :=
    ⟨h2, H1.out.2.2.2.2.2.trans c2 (fun k hk => .inr (by rw [show k = g from hk]; exact H1.out.2.2.2.1)), H1.out.2.2.1.chg c2 (fun hh => H1.out.2.2.2.2.1 hh),
      fun k hk => (x2 k hk).elim (fun h9 => by rw [show k = g from h9]; exact H1.out.2.2.2.1) (fun h9 => Nat.le_trans H1.out.2.2.2.2.2.size h9), fun hh => (x2 L hh).elim (fun h9 => H1.out.2.2.2.2.1 h9) (fun h9 => by have := H1.out.2.2.1.lt; omega)⟩
  clear h2 c2 x2
  go_wp2_with fail
  refine (edone_calls w2 f2 g e9 20 H2.out.1 e9_good.ok e9_good.okr (by omega) e9_tell).mono ?_
  rintro r w3 ⟨v3, rfl, h3, c3, g3⟩
  have H3 : Aside0 (w3.ownsRow 0 5 1 v3 20 (nums .u8 x9) ∧ Chg w w3 No ∧ Blk w3 L l9) := ⟨h3, H2.out.2.1.trans c3 (Ext.refl _ _), H2.out.2.2.1.chg c3 (fun h => h)⟩
  clear h3 c3 g3
  go_wp2_with fail
  refine (dnew_calls w3 v3 x9 (Rd.own (by rw [x9_len]; exact H3.out.1)) x9_bytes (by rw [x9_len]; omega)).mono ?_
  rintro r w4 ⟨w0, d4, rfl, h4, c4, s4⟩
  obtain ⟨N1, N2, N3⟩ := new_ok x9 x9_bytes (by rw [x9_len]; omega)
  have H4 : Aside0 (DecAt w0 w4 d4 (D.new x9) ∧ Chg w w4 No ∧ Blk w4 L l9 ∧ w3.heap.size ≤ w0.heap.size ∧ DOk (D.new x9)) := ⟨h4, H3.out.2.1.trans c4 (Ext.refl _ _), H3.out.2.2.chg c4 (fun h => h), s4, N1⟩
  clear h4 c4 s4 N1 N3
  go_wp2_with fail
  refine (dread_calls w0 w4 d4 (D.new x9) 16 1 (by omega) (by omega) (by omega) H4.out.1 H4.out.2.2.2.2 (new_raw x9) (by omega)).mono ?_
  rintro r w5 ⟨L5, rfl, b5, h5, c5, s5⟩
  have H5 : Aside0 (Blk w5 L5 l9 ∧ Blk w5 L l9 ∧ Chg w w5 No) := by
    have q1 := H4.out.1.ge
    have q2 := H3.out.2.2.lt
    have q3 := H3.out.2.1.size
    refine ⟨by rw [← x9_reads]; exact b5, H4.out.2.2.1.chg c5 (fun hh => by have hh' : L = d4 := hh; have := H4.out.2.2.2.1; omega), H4.out.2.1.trans c5 (fun k hk => .inr (by rw [show k = d4 from hk]; have := H4.out.2.2.2.1; omega))⟩
  clear b5 h5 c5 s5
  go_wp2_with fail
  with_reducible refine (same_calls w5 _ _ l9 l9 (H5.out.1.rdn 16 rfl (by omega)) (H5.out.2.1.rdn 16 rfl (by omega)) (by decide)).mono ?_
  rintro r w6 ⟨rfl, m6, rfl⟩
  rw [show decide (l9 = l9) = true by simp]
  go_wp2_with fail
  have HG := good_calls (w5.drewN m6) (.slice (some ⟨L, 0, none⟩) 16 16) l9 ((H5.out.2.1.chg ((Chg.refl w5 No).drewN m6) (fun h => h)).rdn 16 rfl (by omega))
  rw [l9_good] at HG
  with_reducible refine HG.mono ?_
  clear HG
  rintro r w7 ⟨rfl, c7⟩
  have H7 : Aside0 (Chg w w7 No) := ⟨(H5.out.2.2.drewN m6).trans c7 (Ext.refl _ _)⟩
  clear c7
  go_wp2_with fail
  have HF := fewer_calls (w7.alloc (.cells #[.int .i64 3, .int .i64 (-2), .int .i64 1] 2)) (.slice (some ⟨w7.heap.size, 0, none⟩) 3 3) [3, -2, 1] 4 ((show Blk _ w7.heap.size [3, -2, 1] from heap_alloc_new w7 _).rdn 3 rfl (by omega)) (by decide)
  rw [few9] at HF
  with_reducible refine HF.mono ?_
  clear HF
  rintro r w8 ⟨L8, rfl, b8, c8, s8⟩
  have H8 : Aside0 (Blk w8 L8 [2, -1, 1] ∧ Chg w w8 No) := ⟨b8, (H7.out.alloc _).trans c8 (Ext.refl _ _)⟩
  clear b8 c8 s8
  go_wp2_with fail
  have HS := same_calls (w8.alloc (.cells #[.int .i64 2, .int .i64 (-1), .int .i64 1] 2)) (.slice (some ⟨L8, 0, none⟩) 3 3) (.slice (some ⟨w8.heap.size, 0, none⟩) 3 3) [2, -1, 1] [2, -1, 1] ((H8.out.1.chg ((Chg.refl w8 No).alloc _) (fun h => h)).rdn 3 rfl (by omega)) ((show Blk _ w8.heap.size [2, -1, 1] from heap_alloc_new w8 _).rdn 3 rfl (by omega)) (by decide)
  rw [show decide (([2, -1, 1] : List Int) = [2, -1, 1]) = true by simp] at HS
  with_reducible refine HS.mono ?_
  clear HS
  rintro r w9 ⟨rfl, m9, rfl⟩
  have H9 : Aside0 (Chg w ((w8.alloc (.cells #[.int .i64 2, .int .i64 (-1), .int .i64 1] 2)).drewN m9) No) := ⟨(H8.out.2.alloc _).drewN m9⟩
  go_wp2_with fail
  go_returns
  exact ⟨rfl, H9.out⟩
end Go.Proofs.Ytiabenmgbikllaa.M

-- QA
namespace Go.Proofs.Ytiabenmgbikllaa.M
set_option linter.unusedVariables false
open Go.RowKit Go.Proofs.YtiabenmgbikllaaW.PrintWords Go.Proofs.YtiabenmgbikllaaW.PrintLast Go.Proofs.YtiabenmgbikllaaW.PrintMore Go.Proofs.Ytiabenmgbikllaa.PAll
attribute [local go_sem] max2_int min2_int max_two min_two max_three min_three max_four min_four

theorem cnt_sgn (d : D) (x : Int) (h0 : 0 ≤ x) (h1 : x ≤ 16) : cnt1 (sgnV d x) = x := by
  unfold cnt1 sgnV absI
  by_cases hx : 0 < x
  · rw [if_pos hx]
    split
    · rw [clampI_id _ _ _ (by omega) (by omega), if_pos (by omega)]; omega
    · rw [clampI_id _ _ _ (by omega) (by omega), if_neg (by omega)]
  · rw [if_neg hx, clampI_id _ _ _ (by omega) (by omega), if_neg (by omega)]
theorem cnt_signs : ∀ (l : List Int) (d : D), (∀ x ∈ l, 0 ≤ x ∧ x ≤ 16) → cntL (signsR l d).1 = l.sum
  | [], d, _ => rfl
  | x :: l, d, h => by
    have hx := h x List.mem_cons_self
    show cntL (sgnV d x :: (signsR l (sgnD d x)).1) = _
    rw [cntL_cons, cnt_sgn d x hx.1 hx.2, cnt_signs l _ (fun y hy => h y (List.mem_cons_of_mem _ hy)), List.sum_cons]
theorem block_cnt (d : D) (h : DOk d) (hr : DRaw d) (hc : d.count ≤ 700000000000000000) : cntL (blockR d).1 ≤ 16 := by
  obtain ⟨s1, s2, s3, s4, s5, S⟩ := shareB_ok d h hr hc
  unfold blockR
  rw [cnt_signs _ _ (fun x hx => by have := S.pos x hx; omega), S.sum]
  exact s5
theorem pulses_blk (d : D) (h : DOk d) (hr : DRaw d) : ∀ N : Nat, d.count + 1000 * N ≤ 700000000000000000 → ∀ i, i < N → blk16 (pulsesR N d).1 i = (blockR (pulsesR i d).2).1
  | 0, _, i, hi => absurd hi (by omega)
  | N + 1, hc, i, hi => by
    have P := pulses_ok d h hr N (by omega)
    have B := block_ok (pulsesR N d).2 P.ok P.raw (by have := P.cnt; omega)
    have e : (pulsesR (N + 1) d).1 = (pulsesR N d).1 ++ (blockR (pulsesR N d).2).1 := rfl
    unfold blk16
    rw [e]
    by_cases hc2 : i = N
    · rw [hc2, List.drop_left' P.len]
      exact List.take_of_length_le (by rw [B.len]; omega)
    · have ih := pulses_blk d h hr N (by omega) i (by omega)
      unfold blk16 at ih
      rw [List.drop_append_of_le_length (by rw [P.len]; omega), List.take_append_of_le_length (by rw [List.length_drop, P.len]; omega)]
      exact ih
theorem pulses_goodL (d : D) (h : DOk d) (hr : DRaw d) (N : Nat) (h0 : 1 ≤ N) (h1 : N ≤ 30) (hc : d.count ≤ 1000000) : goodL (pulsesR N d).1 = true := by
  have P := pulses_ok d h hr N (by omega)
  unfold goodL
  rw [P.len]
  simp only [Bool.and_eq_true, decide_eq_true_eq]
  refine ⟨by omega, ?_⟩
  rw [goodFrom_iff]
  intro j hj hm
  rw [pulses_blk d h hr N (by omega) j (by omega)]
  have Q := pulses_ok d h hr j (by omega)
  exact block_cnt _ Q.ok Q.raw (by have := Q.cnt; omega)
theorem may_int (n : Int) : pulse_may.f n = some (decide (16 ≤ n ∧ n ≤ 480 ∧ Int.tmod n 16 = 0)) := by
  unfold pulse_may.f
  by_cases h1 : n ≥ 16
  · rw [if_pos h1]
    by_cases h2 : n ≤ 480
    · rw [if_pos h2]
      congr 1
      rw [Bool.eq_iff_iff]
      simp
      omega
    · rw [if_neg h2]; simp; omega
  · rw [if_neg h1]; simp; omega
set_option maxHeartbeats 400000 in
set_option maxRecDepth 100000 in
theorem dread_bad_calls (w : World) (g : Nat) (n : Int) (h : pulse_may.f n = some false) : Calls Try.prog 37 #[.pointer (some ⟨g, 0, none⟩), .int .i64 n] w fun r w' => r = .returned (.tuple #[.slice none 0 0, .int .i64 1]) ∧ ∃ m, w' = w.drewN m := by
  have HM := Aside0.mk h
  clear h
  go_enter Try.func37, Try.ntmps37
  go_wp2_with (go_at_call 85; refine (pulse_may.calls n false _ HM.out).mono ?_; rintro r w1 ⟨rfl, hd1⟩; obtain ⟨n1, rfl⟩ := hd1.out)
  go_returns
  exact ⟨rfl, _, rfl⟩
end Go.Proofs.Ytiabenmgbikllaa.M

-- RowA
namespace Go.Proofs.Ytiabenmgbikllaa.M
set_option linter.unusedVariables false
open Go.ChangeShapes Go.WideShapes Go.ChangeAt Go.RowKit Go.Proofs.YtiabenmgbikllaaW.PrintWords Go.Proofs.YtiabenmgbikllaaW.PrintLast Go.Proofs.YtiabenmgbikllaaW.PrintMore
theorem laidOut : laidOutB Try.prog = true := by kernel_rfl
/-- Each number is of the kind. -/
def OfKind (k : IntKind) (l : List Int) : Prop := ∀ x ∈ l, (Lit.int k x).wf = true
theorem open_row {H : Type} {enc : TypeId × Value → H} {W : World} {base : Nat} {held : Bool} {t e : TypeId} {k : IntKind} {a : Option Addr} {len cap : Nat} {d : DataW H} {ps : List MemPlace}
    (hu : Try.prog.underlying t = some (.slice e)) (he : Try.prog.underlying e = some (.int k)) (hc : Try.prog.cellsOf e = 1)
    (h : DataW.Trod enc Try.prog W base (fun _ => true) held t (.slice a len cap) d ps) (hlen : len ≤ 9223372036854775807) :
    ∃ b : List Int, b.length = len ∧ Rd W k (.slice a len cap) b ∧ OfKind k b := by
  obtain ⟨fuel, hf⟩ := h
  rcases open_ints hu he hc hf with ⟨hcs, _⟩ | ⟨x, l, c, zs, hcs, _, hl, hm, hz, _, hcell, hwz⟩
  · simp [Value.cells] at hcs
    obtain ⟨rfl, rfl, rfl⟩ := hcs
    exact ⟨[], rfl, .inl ⟨rfl, rfl⟩, fun _ h => by simp at h⟩
  · simp [Value.cells] at hcs
    obtain ⟨rfl, rfl, rfl⟩ := hcs
    have hz' : zs.length = cap := by simpa using hz
    have hb : (zs.take len).length = len := by simp; omega
    refine ⟨zs.take len, hb, .inr ⟨x, cap, by rw [hb], by omega, rfl, by omega, fun hn => ⟨x, rfl, fun j hj => ?_⟩⟩, fun y hy => hwz y (List.mem_of_mem_take hy)⟩
    rw [hb] at hj
    rw [hcell j (by omega), show (zs.take len).getD j 0 = zs.getD j 0 from by simp [List.getD, hj]]
theorem OfKind.bytes {l : List Int} (h : OfKind .u8 l) : Bytes l := fun x hx => by
  have := h x hx
  simp only [Lit.wf, Bool.and_eq_true, decide_eq_true_eq] at this
  have e1 : IntKind.u8.min = 0 := by decide
  have e2 : IntKind.u8.max = 255 := by decide
  omega
theorem OfKind.i64 {l : List Int} (h : OfKind .i64 l) : ∀ x ∈ l, -9223372036854775808 ≤ x ∧ x ≤ 9223372036854775807 := fun x hx => by
  have := h x hx
  simp only [Lit.wf, Bool.and_eq_true, decide_eq_true_eq] at this
  exact this
end Go.Proofs.Ytiabenmgbikllaa.M

-- QB
namespace Go.Proofs.Ytiabenmgbikllaa.M
set_option linter.unusedVariables false
open Go.RowKit Go.Proofs.YtiabenmgbikllaaW.PrintWords Go.Proofs.YtiabenmgbikllaaW.PrintLast Go.Proofs.YtiabenmgbikllaaW.PrintMore Go.Proofs.Ytiabenmgbikllaa.PAll
attribute [local go_sem] max2_int min2_int max_two min_two max_three min_three max_four min_four

theorem new_tell (b : List Int) : (D.new b).tell = 1 := by
  have e : D.new b = (D.first b).step.step.step := by
    show D.normL 3 (D.first b) = _
    show (if (128 : Int) ≤ 8388608 then D.normL 2 (D.first b).step else _) = _
    rw [if_pos (by omega)]
    show (if (128 * 256 : Int) ≤ 8388608 then D.normL 1 (D.first b).step.step else _) = _
    rw [if_pos (by omega)]
    show (if (128 * 256 * 256 : Int) ≤ 8388608 then D.normL 0 (D.first b).step.step.step else _) = _
    rw [if_pos (by omega)]
    rfl
  rw [e]
  show (33 : Int) - (Lib.bitLen (2147483648 : Int).toNat : Int) = 1
  decide +kernel
theorem DecAt.drewN {w0 w : World} {g : Nat} {d : D} (h : DecAt w0 w g d) (n : Nat) : DecAt w0 (w.drewN n) g d := h.chg ((Chg.refl w No).drewN n) (fun h => h) (fun _ h => False.elim h)
set_option maxHeartbeats 1000000 in
set_option maxRecDepth 100000 in
theorem pulseReads_bad (w : World) (s : Value) (b : List Int) (n : Int) (h : Rd w .u8 s b) (hb : Bytes b) (hn : b.length ≤ 1000) (hbad : n < 16 ∨ 480 < n ∨ (16 ≤ n ∧ n ≤ 480 ∧ n % 16 ≠ 0)) :
    Calls Try.prog 10 #[s, .int .i64 n] w fun r w' => r = .returned (.bool true) ∧ Below w.heap.size w w' := by
  obtain ⟨A, c, hs, hc, hrd⟩ := h.to
  subst hs
  have HH := Aside0.mk (And.intro h (And.intro hb (show pulse_may.f n = some false by
    rw [may_int]
    congr 1
    rw [decide_eq_false_iff_not]
    intro hh
    rw [Int.tmod_eq_emod_of_nonneg (by omega)] at hh
    omega)))
  obtain ⟨m, hm⟩ : ∃ m, m = b.length := ⟨_, rfl⟩
  have HM := Aside0.mk hm
  rw [← hm] at hn HH hc ⊢
  clear h hb hrd hm
  rcases hbad with h1 | h1 | ⟨h1, h2, h3⟩
  case' inr.inr =>
    have h3b : (n % 16 != 0) = true := by simpa using h3
  all_goals
    go_enter Try.func10, Try.ntmps10
    go_wp2_with fail
    refine (awake9_calls w).mono ?_
    rintro r w1 ⟨rfl, c1⟩
    have H1 := Aside0.mk c1
    clear c1
    go_wp2_with fail
    refine (dnew_calls w1 _ b (HH.out.1.chg H1.out (fun _ _ h => h)) HH.out.2.1 (by rw [← HM.out]; omega)).mono ?_
    rintro r w2 ⟨w0, g, rfl, d2, c2, s2⟩
    have H2 := Aside0.mk (And.intro d2 (And.intro (H1.out.trans c2 (Ext.refl _ _)) (new_ok b HH.out.2.1 (by rw [← HM.out]; omega)).1))
    clear d2 c2 s2
    go_wp2_with fail
    refine (dread_bad_calls w2 g n HH.out.2.2).mono ?_
    rintro r w3 ⟨rfl, m3, rfl⟩
    go_wp2_with fail
    refine (dtell_calls w0 _ g (D.new b) (H2.out.1.drewN m3) H2.out.2.2).mono ?_
    rintro r w4 ⟨rfl, m4, rfl⟩
    rw [new_tell]
    have H4 : Aside0 (Chg w ((w2.drewN m3).drewN m4) No) := ⟨(H2.out.2.1.drewN m3).drewN m4⟩
    go_wp2_with fail
    go_returns
    exact ⟨rfl, by have := H4.out.below_no; simpa using this⟩
set_option maxHeartbeats 1000000 in
set_option maxRecDepth 100000 in
theorem pulseReads_good (w : World) (s : Value) (b : List Int) (n N : Nat) (h : Rd w .u8 s b) (hb : Bytes b) (hn : b.length ≤ 1000) (hN : n = 16 * N) (h0 : 1 ≤ N) (h1 : N ≤ 30) :
    Calls Try.prog 10 #[s, .int .i64 n] w fun r w' => r = .returned (.bool true) ∧ Below w.heap.size w w' := by
  obtain ⟨A, c, hs, hc, hrd⟩ := h.to
  subst hs
  obtain ⟨N1, N2, N3⟩ := new_ok b hb (by omega)
  have P := pulses_ok (D.new b) N1 (new_raw b) N (by omega)
  have HH := Aside0.mk (And.intro h (And.intro hb (And.intro hrd (And.intro N1 (And.intro P (pulses_goodL (D.new b) N1 (new_raw b) N h0 h1 (by omega)))))))
  obtain ⟨m, hm⟩ : ∃ m, m = b.length := ⟨_, rfl⟩
  have HM := Aside0.mk hm
  have HNN := Aside0.mk hN
  have n16 : 16 ≤ n := by omega
  have n480 : n ≤ 480 := by omega
  have hmod : ((n : Int) % 16 != 0) = false := by simp; omega
  rw [← hm] at hn HH hc ⊢
  clear h hb hrd hm N1 N3 P hN
  go_enter Try.func10, Try.ntmps10
  go_wp2_with fail
  refine (awake9_calls w).mono ?_
  rintro r w1 ⟨rfl, c1⟩
  have H1 := Aside0.mk c1
  clear c1
  go_wp2_with fail
  refine (dnew_calls w1 _ b (HH.out.1.chg H1.out (fun _ _ h => h)) HH.out.2.1 (by rw [← HM.out]; omega)).mono ?_
  rintro r w2 ⟨w0, g, rfl, d2, c2, s2⟩
  have H2 := Aside0.mk (And.intro d2 (And.intro c2 s2))
  clear d2 c2 s2
  go_wp2_with fail
  refine (dread_calls w0 w2 g (D.new b) n N HNN.out h0 h1 H2.out.1 HH.out.2.2.2.1 (new_raw b) (by omega)).mono ?_
  rintro r w3 ⟨L, rfl, b3, d3, c3, s3⟩
  have hg1 : w1.heap.size ≤ g := by have := H2.out.1.ge; have := H2.out.2.2; omega
  have hLg : L ≠ g := by have := H2.out.1.lt; omega
  have H3 : Aside0 (Blk w3 L (pulsesR N (D.new b)).1 ∧ DecAt w0 w3 g (pulsesR N (D.new b)).2 ∧ Chg w1 w3 No ∧ w0.heap.size ≤ L) := ⟨b3, d3, H2.out.2.1.trans c3 (fun k hk => .inr (by rw [show k = g from hk]; exact hg1)), by have := H2.out.1.2.size; omega⟩
  clear b3 d3 c3 s3
  go_wp2_with fail
  have hrd1 : ReadsInt w1 .u8 A b.length b := by have := HH.out.2.2.1.below H1.out.below_no; rw [HM.out] at this; exact this
  have HRN := rnewB_calls w1 w3 A c b H3.out.2.2.1.below_no hrd1 HH.out.2.1 (by rw [← HM.out]; omega)
  rw [← HM.out] at HRN
  with_reducible refine HRN.mono ?_
  clear HRN hrd1
  rintro r w4 ⟨rfl, r4, c4⟩
  obtain ⟨gr, hgr⟩ : ∃ gr, gr = w3.heap.size := ⟨_, rfl⟩
  rw [← hgr] at r4 ⊢
  have H4 : Aside0 (RefAt w1 w4 gr (D.new b) ∧ DecAt w0 w4 g (pulsesR N (D.new b)).2 ∧ Blk w4 L (pulsesR N (D.new b)).1 ∧ Chg w1 w4 No ∧ g ≠ gr ∧ L ≠ gr ∧ w0.heap.size ≤ gr) :=
    ⟨r4, H3.out.2.1.chg c4 (fun h => h) (fun _ h => False.elim h), H3.out.1.chg c4 (fun h => h), H3.out.2.2.1.trans c4 (Ext.refl _ _), by have := H3.out.2.1.lt; omega, by have := H3.out.1.lt; omega, by have := H3.out.2.1.2.size; omega⟩
  clear r4 c4 hgr
  go_wp2_with fail
  refine (rpulses_calls w1 w4 gr (D.new b) n N HNN.out h1 H4.out.1 HH.out.2.2.2.1 (new_raw b) (by omega)).mono ?_
  rintro r w5 ⟨v5, rfl, o5, r5, c5, g5⟩
  have H5 : Aside0 (Rd w5 .i64 v5 (pulsesR N (D.new b)).1 ∧ RefAt w1 w5 gr (pulsesR N (D.new b)).2 ∧ DecAt w0 w5 g (pulsesR N (D.new b)).2 ∧ Blk w5 L (pulsesR N (D.new b)).1 ∧ Chg w1 w5 No) :=
    ⟨Rd.own o5, r5, H4.out.2.1.chg c5 (fun hh => H4.out.2.2.2.2.1 hh) (fun k hk => by rw [show k = gr from hk]; exact H4.out.2.2.2.2.2.2), H4.out.2.2.1.chg c5 (fun hh => H4.out.2.2.2.2.2.1 hh), H4.out.2.2.2.1.trans c5 (fun k hk => .inr (by rw [show k = gr from hk]; exact H4.out.1.ge))⟩
  clear o5 r5 c5 g5
  have hlen : Aside0 ((pulsesR N (D.new b)).1.length = n) := ⟨by rw [HH.out.2.2.2.2.1.len]; exact HNN.out.symm⟩
  go_wp2_with fail
  have HS := same_calls w5 (.slice (some ⟨L, 0, none⟩) n n) v5 _ _ (H5.out.2.2.2.1.rdn n hlen.out (by omega)) H5.out.1 (by rw [hlen.out]; omega)
  rw [show decide ((pulsesR N (D.new b)).1 = (pulsesR N (D.new b)).1) = true by simp] at HS
  with_reducible refine HS.mono ?_
  clear HS
  rintro r w6 ⟨rfl, m6, rfl⟩
  go_wp2_with fail
  refine (dtell_calls w0 _ g (pulsesR N (D.new b)).2 (H5.out.2.2.1.drewN m6) HH.out.2.2.2.2.1.ok).mono ?_
  rintro r w7 ⟨rfl, m7, rfl⟩
  have H7 : Aside0 (RefAt w1 ((w5.drewN m6).drewN m7) gr (pulsesR N (D.new b)).2) := ⟨H5.out.2.1.chg (((Chg.refl w5 No).drewN m6).drewN m7) (fun h => h) (fun _ h => False.elim h)⟩
  go_wp2_with fail
  have HT := rtell_calls w1 ((w5.drewN m6).drewN m7) gr (pulsesR N (D.new b)).2 H7.out HH.out.2.2.2.2.1.ok
  try rw [World.drewN_drewN] at HT
  refine HT.mono ?_
  clear HT
  rintro r w8 ⟨rfl, r8, c8⟩
  have H8 : Aside0 (Blk w8 L (pulsesR N (D.new b)).1 ∧ Chg w w8 No) := by
    have k7 : Chg w5 (w5.drewN (m6 + m7)) No := (Chg.refl w5 No).drewN _
    refine ⟨(H5.out.2.2.2.1.chg k7 (fun h => h)).chg c8 (fun hh => H4.out.2.2.2.2.2.1 hh), ?_⟩
    exact H1.out.trans ((H5.out.2.2.2.2.trans k7 (Ext.refl _ _)).trans c8 (fun k hk => .inr (by rw [show k = gr from hk]; exact H4.out.1.ge))) (Ext.refl _ _)
  clear r8 c8
  go_wp2_with fail
  have HG := good_calls w8 (.slice (some ⟨L, 0, none⟩) n n) (pulsesR N (D.new b)).1 (H8.out.1.rdn n hlen.out (by omega))
  rw [HH.out.2.2.2.2.2] at HG
  with_reducible refine HG.mono ?_
  clear HG
  rintro r w9 ⟨rfl, c9⟩
  have H9 : Aside0 (Chg w w9 No) := ⟨H8.out.2.trans c9 (Ext.refl _ _)⟩
  clear c9
  go_wp2_with fail
  go_returns
  exact ⟨rfl, H9.out.below_no⟩
set_option maxHeartbeats 400000 in
set_option maxRecDepth 100000 in
theorem pulseReads_long (w : World) (A : Option Addr) (m c : Nat) (n : Int) (hn : 1000 < m) (hm : m ≤ 9223372036854775807) : Calls Try.prog 10 #[.slice A m c, .int .i64 n] w fun r w' => r = .returned (.bool true) ∧ Below w.heap.size w w' := by
  have hb : decide (1000 < (m : Int)) = true := decide_eq_true (by omega)
  go_enter Try.func10, Try.ntmps10
  go_wp2_with fail
  refine (awake9_calls w).mono ?_
  rintro r w1 ⟨rfl, c1⟩
  have H1 := Aside0.mk c1
  clear c1
  go_wp2_with fail
  go_returns
  exact ⟨rfl, H1.out.below_no⟩
theorem pulseReads_row (w : World) (s : Value) (b : List Int) (n : Int) (h : Rd w .u8 s b) (hb : OfKind .u8 b) (hn : b.length * 1 ≤ 140737488351232) (h1 : (Lit.int .i64 n).wf = true) :
    Calls Try.prog 10 #[s, .int .i64 n] w fun r w' => r = .returned (.bool true) ∧ Below w.heap.size w w' := by
  by_cases hl : b.length ≤ 1000
  · by_cases hg : 16 ≤ n ∧ n ≤ 480 ∧ n % 16 = 0
    · obtain ⟨N, hN⟩ : ∃ N : Nat, n = ((16 * N : Nat) : Int) := ⟨(n / 16).toNat, by omega⟩
      rw [hN]
      exact pulseReads_good w s b (16 * N) N h hb.bytes hl rfl (by omega) (by omega)
    · exact pulseReads_bad w s b n h hb.bytes hl (by omega)
  · obtain ⟨A, c, rfl, hc, hr⟩ := h.to
    exact pulseReads_long w A b.length c n (by omega) (by omega)
end Go.Proofs.Ytiabenmgbikllaa.M
