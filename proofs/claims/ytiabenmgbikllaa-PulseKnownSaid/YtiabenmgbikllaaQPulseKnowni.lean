/- Contracts of the program's functions and plain laws for the law PulseKnown, several texts in one (part 9); the program's functions as Lean functions came out of the kit's print. Conditions: each theorem's own. -/
import Derived.Test.YtiabenmgbikllaaQPulseKnownh
-- P4
namespace Go.Proofs.Ytiabenmgbikllaa.M
set_option linter.unusedVariables false
open Go.RowKit Go.Proofs.YtiabenmgbikllaaW.PrintWords Go.Proofs.YtiabenmgbikllaaW.PrintLast Go.Proofs.YtiabenmgbikllaaW.PrintMore Go.Proofs.Ytiabenmgbikllaa.PAll
attribute [local go_sem] max2_int min2_int max_two min_two max_three min_three max_four min_four

theorem lay_rd (xs : List Int) (a : Nat) (ys : List Int) (j : Nat) (hj : j < ys.length) (h : a + ys.length ≤ xs.length) : rd (lay xs a ys) ((a + j : Nat) : Int) = rd ys (j : Int) := by
  rw [← rd_eq, ← rd_eq]
  unfold lay
  have h1 : (xs.take a).length = a := by simp; omega
  simp only [List.getD]
  rw [List.getElem?_append_right (by omega), h1, show a + j - a = j by omega, List.getElem?_append_left hj]
theorem lay_set (xs : List Int) (a : Nat) (ys : List Int) (j : Nat) (v : Int) (hj : j < ys.length) (h : a + ys.length ≤ xs.length) : (lay xs a ys).set (a + j) v = lay xs a (ys.set j v) := by
  unfold lay
  have h1 : (xs.take a).length = a := by simp; omega
  rw [List.set_append_right _ _ (by omega), h1, show a + j - a = j by omega, List.set_append_left _ _ hj, List.length_set]
theorem mid_set (A S : List Int) (v : Int) (h : A.length < S.length) : (A ++ S.drop A.length).set A.length v = (A ++ [v]) ++ S.drop (A.length + 1) := by
  rw [List.set_append_right _ _ (Nat.le_refl _), Nat.sub_self, List.drop_eq_getElem_cons h]
  simp only [List.set_cons_zero, List.append_assoc, List.cons_append, List.nil_append]
theorem mid_same (A S : List Int) (h : A.length < S.length) : A ++ S.drop A.length = (A ++ [rd S A.length]) ++ S.drop (A.length + 1) := by
  rw [List.drop_eq_getElem_cons h, ← rd_eq]
  simp [List.getD, h]
theorem mid_rd (A S : List Int) (h : A.length < S.length) : rd (A ++ S.drop A.length) (A.length : Int) = rd S (A.length : Int) := by
  rw [← rd_eq, ← rd_eq, List.getD, List.getD, List.getElem?_append_right (Nat.le_refl _), Nat.sub_self, List.getElem?_drop, Nat.add_zero]
theorem take_snoc_rd (S : List Int) (j : Nat) (h : j < S.length) : S.take (j + 1) = S.take j ++ [rd S j] := by
  rw [List.take_succ_eq_append_getElem h, ← rd_eq]
  simp [List.getD, h]
/-- The signs up to place j are read. -/
structure SgnAt (w w0 wr : World) (g L : Nat) (xs S : List Int) (D0 : D) (a j : Nat) : Prop where
  dec : DecAt w0 wr g (signsR (S.take j) D0).2
  blk : Blk wr L (lay xs a ((signsR (S.take j) D0).1 ++ S.drop j))
  chg : Chg w wr (One g)
theorem SgnAt.cell {w w0 wr : World} {g L : Nat} {xs S : List Int} {D0 : D} {a j : Nat} (h : SgnAt w w0 wr g L xs S D0 a j) (hj : j < S.length) (ha : a + S.length ≤ xs.length) : wr.cell? ⟨L, a + j, none⟩ = some (.int .i64 (rd S j)) := by
  have hl : (signsR (S.take j) D0).1.length = j := by rw [signsR_length]; simp; omega
  have hll : ((signsR (S.take j) D0).1 ++ S.drop j).length = S.length := by rw [List.length_append, hl]; simp; omega
  rw [h.blk.cell (a + j) (by rw [lay_length _ _ _ (by omega)]; omega), lay_rd _ _ _ _ (by omega) (by omega)]
  have := mid_rd (signsR (S.take j) D0).1 S (by omega)
  rw [hl] at this
  rw [this]
theorem SgnAt.keep {w w0 wr w1 : World} {g L : Nat} {xs S : List Int} {D0 : D} {a j : Nat} (h : SgnAt w w0 wr g L xs S D0 a j) (hj : j < S.length) (hd : DecAt w0 w1 g (sgnD (signsR (S.take j) D0).2 (rd S j))) (hv : sgnV (signsR (S.take j) D0).2 (rd S j) = rd S j) (hb : Blk w1 L (lay xs a ((signsR (S.take j) D0).1 ++ S.drop j))) (hc : Chg w w1 (One g)) : SgnAt w w0 w1 g L xs S D0 a (j + 1) := by
  have hl : (signsR (S.take j) D0).1.length = j := by rw [signsR_length]; simp; omega
  have hs := take_snoc_rd S j hj
  have e := signsR_snoc (S.take j) (rd S j) D0
  rw [← hs] at e
  have hm := mid_same (signsR (S.take j) D0).1 S (by omega)
  rw [hl] at hm
  refine ⟨by rw [e]; exact hd, ?_, hc⟩
  rw [e]
  show Blk w1 L (lay xs a (((signsR (S.take j) D0).1 ++ [sgnV (signsR (S.take j) D0).2 (rd S j)]) ++ S.drop (j + 1)))
  rw [hv, ← hm]
  exact hb
theorem SgnAt.turn {w w0 wr w1 : World} {g L : Nat} {xs S : List Int} {D0 : D} {a j : Nat} {v : Int} (h : SgnAt w w0 wr g L xs S D0 a j) (hj : j < S.length) (ha : a + S.length ≤ xs.length) (hne : g ≠ L) (hL : w.heap.size ≤ L) (hL0 : w0.heap.size ≤ L) (hd : DecAt w0 w1 g (sgnD (signsR (S.take j) D0).2 (rd S j))) (hv : sgnV (signsR (S.take j) D0).2 (rd S j) = v) (hb : Blk w1 L (lay xs a ((signsR (S.take j) D0).1 ++ S.drop j))) (hc : Chg w w1 (One g)) :
    SgnAt w w0 (w1.setCell ⟨L, a + j, none⟩ (.int .i64 v)) g L xs S D0 a (j + 1) := by
  have hl : (signsR (S.take j) D0).1.length = j := by rw [signsR_length]; simp; omega
  have hll : ((signsR (S.take j) D0).1 ++ S.drop j).length = S.length := by rw [List.length_append, hl]; simp; omega
  have hs := take_snoc_rd S j hj
  have e := signsR_snoc (S.take j) (rd S j) D0
  rw [← hs] at e
  have hm := mid_set (signsR (S.take j) D0).1 S v (by omega)
  rw [hl] at hm
  have kc : Chg w1 (w1.setCell ⟨L, a + j, none⟩ (.int .i64 v)) (One L) := (Chg.refl w1 (One L)).setCell (p := ⟨L, a + j, none⟩) (.inl rfl) _
  refine ⟨?_, ?_, hc.setCell (p := ⟨L, a + j, none⟩) (.inr hL) _⟩
  · rw [e]; exact hd.chg kc (fun hh => hne hh) (fun i hi => by rw [show i = L from hi]; exact hL0)
  · rw [e]
    show Blk _ L (lay xs a (((signsR (S.take j) D0).1 ++ [sgnV (signsR (S.take j) D0).2 (rd S j)]) ++ S.drop (j + 1)))
    rw [hv, ← hm, ← lay_set _ _ _ _ _ (by omega) (by omega)]
    exact hb.set (a + j) v
theorem may_yes (n : Nat) (N : Nat) (h : n = 16 * N) (h0 : 1 ≤ N) (h1 : N ≤ 30) : pulse_may.f (n : Int) = some true := by
  unfold pulse_may.f
  rw [if_pos (by omega), if_pos (by omega), Int.tmod_eq_emod_of_nonneg (by omega)]
  simp; omega
theorem info2 : (Try.prog.info? 2).map (fun i => (i.zero, i.size, i.bytes)) = some (some (.int .i64 0), 1, 8) := by kernel_rfl
/-- The blocks up to i are read. -/
structure RdAt (w w0 wr : World) (g L : Nat) (d : D) (n i : Nat) : Prop where
  dec : DecAt w0 wr g (pulsesR i d).2
  blk : Blk wr L ((pulsesR i d).1 ++ List.replicate (n - 16 * i) 0)
  chg : Chg w wr (One g)
theorem blk_made (w : World) (n : Nat) : Blk (w.alloc (.cells (madeCells #[.int .i64 0] n) 2)) w.heap.size (List.replicate n 0) := by
  have := heap_alloc_new w (.cells (madeCells #[.int .i64 0] n) 2)
  unfold Blk
  rw [this]
  have e : madeCells #[.int .i64 0] n = (nums .i64 (List.replicate n 0)).toArray := by
    apply Array.toList_inj.1
    rw [toList_madeCells_one]
    simp [nums]
  rw [e]
theorem RdAt.start (w0 w W : World) (g L : Nat) (d : D) (n : Nat) (h : DecAt w0 W g d) (hb : Blk W L (List.replicate n 0)) (hc : Chg w W (One g)) : RdAt w w0 W g L d n 0 := ⟨h, hb, hc⟩
theorem RdAt.next {w w0 wr w1 : World} {g L : Nat} {d : D} {n i : Nat} (h : RdAt w w0 wr g L d n i) (hs : SgnAt w w0 w1 g L ((pulsesR i d).1 ++ List.replicate (n - 16 * i) 0) (shareB (pulsesR i d).2).1 (shareB (pulsesR i d).2).2 (16 * i) 16) (hlen : (shareB (pulsesR i d).2).1.length = 16) (hp : (pulsesR i d).1.length = 16 * i) (hn : 16 * i + 16 ≤ n) : RdAt w w0 w1 g L d n (i + 1) := by
  obtain ⟨s1, s2, s3⟩ := hs
  have e16 : (shareB (pulsesR i d).2).1.take 16 = (shareB (pulsesR i d).2).1 := List.take_of_length_le (by omega)
  have d16 : (shareB (pulsesR i d).2).1.drop 16 = [] := List.drop_eq_nil_of_le (by omega)
  rw [e16] at s1 s2
  rw [d16, List.append_nil] at s2
  have e1 : (pulsesR (i + 1) d).2 = (signsR (shareB (pulsesR i d).2).1 (shareB (pulsesR i d).2).2).2 := rfl
  have e2 : (pulsesR (i + 1) d).1 = (pulsesR i d).1 ++ (signsR (shareB (pulsesR i d).2).1 (shareB (pulsesR i d).2).2).1 := rfl
  have hl : (signsR (shareB (pulsesR i d).2).1 (shareB (pulsesR i d).2).2).1.length = 16 := by rw [signsR_length]; exact hlen
  refine ⟨by rw [e1]; exact s1, ?_, s3⟩
  rw [e2]
  have e3 : lay ((pulsesR i d).1 ++ List.replicate (n - 16 * i) 0) (16 * i) (signsR (shareB (pulsesR i d).2).1 (shareB (pulsesR i d).2).2).1 = ((pulsesR i d).1 ++ (signsR (shareB (pulsesR i d).2).1 (shareB (pulsesR i d).2).2).1) ++ List.replicate (n - 16 * (i + 1)) 0 := by
    unfold lay
    rw [List.take_left' hp, hl, List.drop_append, hp, List.drop_eq_nil_of_le (by omega), List.nil_append, List.drop_replicate, List.append_assoc]
    congr 3
    omega
  rw [← e3]
  exact s2
set_option maxHeartbeats 4000000 in
set_option maxRecDepth 100000 in
theorem dread_calls (w0 w : World) (g : Nat) (d : D) (n N : Nat) (hN : n = 16 * N) (h0 : 1 ≤ N) (h1 : N ≤ 30) (h : DecAt w0 w g d) (hd : DOk d) (hr : DRaw d) (hc : d.count ≤ 1000000) :
    Calls Try.prog 37 #[.pointer (some ⟨g, 0, none⟩), .int .i64 n] w fun r w' => ∃ L, r = .returned (.tuple #[.slice (some ⟨L, 0, none⟩) n n, .int .i64 0]) ∧ Blk w' L (pulsesR N d).1 ∧ DecAt w0 w' g (pulsesR N d).2 ∧ Chg w w' (One g) ∧ w.heap.size ≤ L := by
  have hn1 : n ≤ 480 := by omega
  have hn0 : 16 ≤ n := by omega
  have HH := Aside0.mk (And.intro h (And.intro hd hr))
  have hgl := h.lt
  have hg0 := h.ge
  have HM := Aside0.mk (may_yes n N hN h0 h1)
  have HN := Aside0.mk hN
  clear h hd hr hN
  have hmk := print_make (P := Try.prog) 45 2 .i64 8 Try.underlying45 info2 (by omega) n (by omega)
  go_enter Try.func37, Try.ntmps37
  go_wp2_with (go_at_call 85; refine (pulse_may.calls n true _ HM.out).mono ?_; rintro r w1 ⟨rfl, hd1⟩; obtain ⟨n1, rfl⟩ := hd1.out)
  obtain ⟨W, hW⟩ : ∃ W, W = (w.drewN n1).alloc (.cells (madeCells #[.int .i64 0] n) 2) := ⟨_, rfl⟩
  obtain ⟨L, hL⟩ : ∃ L, L = w.heap.size := ⟨_, rfl⟩
  have hc0 : Chg w W (One g) := by rw [hW]; exact ((Chg.refl w (One g)).drewN n1).alloc _
  have hWs : Aside0 (W.heap.size = w.heap.size + 1) := ⟨by rw [hW]; simp⟩
  have HS : Aside0 (RdAt w w0 W g L d n 0) := ⟨RdAt.start w0 w W g L d n (HH.out.1.chg (by rw [hW]; exact ((Chg.refl w No).drewN n1).alloc _) (fun h => h) (fun _ h => False.elim h)) (by rw [hW, hL]; exact blk_made (w.drewN n1) n) hc0⟩
  have hgL : g ≠ L := by omega
  have hL0 : w0.heap.size ≤ L := by omega
  have hLw : w.heap.size ≤ L := by omega
  rw [show (w.drewN n1).alloc (.cells (madeCells #[.int .i64 0] n) 2) = W from hW.symm]
  rw [show w.heap.size = L from hL.symm]
  clear hmk hc0 hd1 hW hL
  go_loopg [7] N (fun k u7 wr => ∃ i a : Nat, u7 = .int .i64 (a : Int) ∧ k + i = N ∧ Aside0 (a = 16 * i ∧ RdAt w w0 wr g L d n i))
  case atStart => exact ⟨0, 0, rfl, rfl, ⟨rfl, HS.out⟩⟩
  case round =>
    clear HS
    obtain ⟨i, a, rfl, hk, HR⟩ := hrel
    by_cases hi : i < N
    · have ha : a + 16 ≤ n := by have := HR.out.1; have := HN.out; omega
      have P := pulses_ok d HH.out.2.1 HH.out.2.2 i (by omega)
      have hpc := P.cnt
      obtain ⟨s1, s2, s3, s4, s5, S⟩ := shareB_ok (pulsesR i d).2 P.ok P.raw (by omega)
      have hsc := S.cnt
      have HP := Aside0.mk (And.intro P (And.intro s1 (And.intro s2 S)))
      obtain ⟨k5, hk5⟩ : ∃ k5, k5 = (pulsesR i d).2.symV (icdf 5) := ⟨_, rfl⟩
      have HK := Aside0.mk hk5
      rw [← hk5] at s4 s5
      have hmid : ∀ W : World, (Instr.slice 45 (.slice (some ⟨L, 0, none⟩) n n) (some (.int .i64 (a : Int))) (some (.int .i64 ((a : Int) + 16))) none).run Try.prog W = .ok (.slice (some ⟨L, a, none⟩) 16 (n - a)) W := by
        intro W
        obtain ⟨i2, hi2, hz⟩ := Option.map_eq_some_iff.1 info2
        simp only [Prod.mk.injEq] at hz
        have := slice_mid 45 2 Try.underlying45 hi2 hz.2.1 L n n (a : Int) ((a : Int) + 16) (by omega) (by omega) (by omega) (by omega) W (by omega)
        rw [this]
        simp
        omega
      clear P S s1 s2 hk5
      go_wp2_with fail
      refine (icdf_calls wr 5 (by omega)).mono ?_
      rintro r w2 ⟨v2, rfl, h2⟩
      have H2 := Aside0.mk h2
      clear h2
      go_wp2_with fail
      refine (dsym_at w0 wr w2 g (pulsesR i d).2 5 v2 HR.out.2.dec HP.out.1.ok (by omega) H2.out (by omega)).mono ?_
      rintro r w3 ⟨rfl, h3, c3⟩
      have H3 := Aside0.mk (And.intro h3 (And.intro (HR.out.2.blk.chg c3 (fun hh => hgL (Eq.symm hh))) c3))
      rw [← HK.out]
      clear h3 c3
      go_wp2_with fail
      refine (share16 w0 g L hgL hL0 w3 _ _ a _ k5 H3.out.1 H3.out.2.1 HP.out.2.1 HP.out.2.2.1 s4 s5 (by omega) (by rw [List.length_append, List.length_replicate, HP.out.1.len]; have := HR.out.1; omega) (by omega)).mono ?_
      rintro r w4 ⟨rfl, h4, b4, c4⟩
      have c4' : Chg w w4 (One g) := (HR.out.2.chg.trans H3.out.2.2 (Ext.refl _ _)).trans c4 (fun k hk => by
        rcases hk with hk | hk
        · exact .inl hk
        · exact .inr (by omega))
      have hS4 : SgnAt w w0 w4 g L ((pulsesR i d).1 ++ List.replicate (n - 16 * i) 0) (shareB (pulsesR i d).2).1 (shareB (pulsesR i d).2).2 a 0 := ⟨by rw [HK.out] at h4; exact h4, by rw [HK.out] at b4; exact b4, c4'⟩
      have H4 := Aside0.mk hS4
      have hS16 := HP.out.2.2.2.len
      have hS16' : (shareB (pulsesR i d).2).1.length = 16 := hS16
      have hpos := HP.out.2.2.2.pos
      clear h4 b4 c4 c4' hS4 hS16
      obtain ⟨S, hS⟩ : ∃ S, S = (shareB (pulsesR i d).2).1 := ⟨_, rfl⟩
      obtain ⟨D0, hD0⟩ : ∃ D0, D0 = (shareB (pulsesR i d).2).2 := ⟨_, rfl⟩
      obtain ⟨xs, hxs⟩ : ∃ xs, xs = (pulsesR i d).1 ++ List.replicate (n - 16 * i) 0 := ⟨_, rfl⟩
      have hxl : Aside0 (xs.length = n) := ⟨by rw [hxs, List.length_append, List.length_replicate, HP.out.1.len]; have := HR.out.1; omega⟩
      have HD0 : Aside0 (DOk D0 ∧ DRaw D0 ∧ D0.count ≤ 100000 + d.count) := ⟨by rw [hD0]; exact ⟨HP.out.2.2.2.ok, HP.out.2.2.2.raw, by have := HP.out.2.2.2.cnt; omega⟩⟩
      rw [← hS, ← hD0, ← hxs] at H4
      rw [← hS] at hpos hS16'
      rw [← HK.out] at hpos
      have HSS := Aside0.mk (And.intro hS (And.intro hD0 hxs))
      have HPos := Aside0.mk (And.intro hpos hS16')
      clear hS hD0 hxs hpos hS16' hmid hpc hsc
      go_wp2_with fail
      go_loopg [33] 16 (fun k u33 wq => ∃ j : Nat, u33 = .int .i64 (j : Int) ∧ k + j = 16 ∧ Aside0 (SgnAt w w0 wq g L xs S D0 a j))
      case atStart => exact ⟨0, rfl, rfl, H4⟩
      case round =>
        clear H4
        obtain ⟨j, rfl, hkj, HI⟩ := hrel
        by_cases hj : j < 16
        · have y0 := HI.out.cell (by rw [HPos.out.2]; exact hj) (by rw [HPos.out.2, hxl.out]; omega)
          have z0 := HI.out.blk.frozen (a + j)
          have SO := signs_ok (S.take j) D0 HD0.out.1 HD0.out.2.1 (by have := HD0.out.2.2; have : (S.take j).length ≤ j := List.length_take_le _ _; omega)
          have hcq : (signsR (S.take j) D0).2.count ≤ 10000000 := by have := SO.cnt; have := HD0.out.2.2; have : (S.take j).length ≤ j := List.length_take_le _ _; omega
          have hxr : 0 ≤ rd S j ∧ rd S j ≤ k5 := HPos.out.1 _ (by rw [← rd_eq]; simp [List.getD, show j < S.length by rw [HPos.out.2]; exact hj])
          obtain ⟨x, hx⟩ : ∃ x, x = rd S j := ⟨_, rfl⟩
          obtain ⟨dq, hdq⟩ : ∃ dq, dq = (signsR (S.take j) D0).2 := ⟨_, rfl⟩
          rw [← hx] at y0 hxr
          rw [← hdq] at hcq
          have HX := Aside0.mk (And.intro hx hdq)
          have HQ : Aside0 (DOk dq ∧ DRaw dq ∧ DecAt w0 wr g dq) := ⟨by rw [hdq]; exact ⟨SO.ok, SO.raw, HI.out.dec⟩⟩
          clear hx hdq SO
          by_cases hp : 0 < x
          · obtain ⟨bv, hbv⟩ : ∃ bv, bv = dq.bitsV 1 := ⟨_, rfl⟩
            have HB := Aside0.mk hbv
            clear hbv
            go_wp2_with fail
            refine (dbits_calls w0 wr g dq 1 HQ.out.2.2 HQ.out.1 HQ.out.2.1 (by omega) (by omega) (by omega)).mono ?_
            rintro r w5 ⟨rfl, h5, c5⟩
            rw [← HB.out]
            have H5 := Aside0.mk (And.intro h5 (And.intro (HI.out.blk.chg c5 (fun hh => hgL (Eq.symm hh))) (HI.out.chg.trans c5 (Ext.refl _ _))))
            have y5 : w5.cell? ⟨L, a + j, none⟩ = some (.int .i64 x) := by
              have h7 : SgnAt w w0 wr g L xs S D0 a j := HI.out
              have h8 : Blk w5 L (lay xs a ((signsR (S.take j) D0).1 ++ S.drop j)) := H5.out.2.1
              have hl : (signsR (S.take j) D0).1.length = j := by rw [signsR_length]; simp; rw [HPos.out.2]; omega
              have hll : ((signsR (S.take j) D0).1 ++ S.drop j).length = 16 := by rw [List.length_append, hl]; simp; rw [HPos.out.2]; omega
              have hm := mid_rd (signsR (S.take j) D0).1 S (by rw [hl, HPos.out.2]; exact hj)
              rw [hl] at hm
              rw [h8.cell (a + j) (by rw [lay_length _ _ _ (by rw [hll, hxl.out]; omega), hxl.out]; omega), lay_rd _ _ _ _ (by rw [hll]; omega) (by rw [hll, hxl.out]; omega), hm, HX.out.1]
            have z5 := H5.out.2.1.frozen (a + j)
            have hsD : sgnD (signsR (S.take j) D0).2 (rd S j) = dq.bits 1 := by rw [← HX.out.1, ← HX.out.2]; exact if_pos hp
            have hsV : sgnV (signsR (S.take j) D0).2 (rd S j) = if bv = 1 then -x else x := by rw [← HX.out.1, ← HX.out.2, HB.out]; exact if_pos hp
            have HSD := Aside0.mk (And.intro hsD hsV)
            clear h5 c5 hsD hsV y0 z0
            by_cases hb : bv = 1
            · have hT : SgnAt w w0 (w5.setCell ⟨L, a + j, none⟩ (.int .i64 (-x))) g L xs S D0 a (j + 1) :=
                HI.out.turn (by rw [HPos.out.2]; exact hj) (by rw [HPos.out.2, hxl.out]; omega) hgL hLw hL0 (by rw [HSD.out.1]; exact H5.out.1) (by rw [HSD.out.2, if_pos hb]) H5.out.2.1 H5.out.2.2
              have HT := Aside0.mk hT
              clear hT HSD HB
              subst hb
              go_wp2_with fail
              go_roundg (gk - 1)
              case measure => omega
              case rel => exact ⟨j + 1, by go_num, by omega, HT⟩
            · have hT : SgnAt w w0 w5 g L xs S D0 a (j + 1) := HI.out.keep (by rw [HPos.out.2]; exact hj) (by rw [HSD.out.1]; exact H5.out.1) (by rw [HSD.out.2, if_neg hb, HX.out.1]) H5.out.2.1 H5.out.2.2
              have HT := Aside0.mk hT
              have hbb : (bv == 1) = false := by simpa using hb
              clear hT HSD HB hb y5 z5
              go_wp2_with fail
              go_roundg (gk - 1)
              case measure => omega
              case rel => exact ⟨j + 1, by go_num, by omega, HT⟩
          · have hsD : sgnD (signsR (S.take j) D0).2 (rd S j) = dq := by rw [← HX.out.1, ← HX.out.2]; exact if_neg hp
            have hsV : sgnV (signsR (S.take j) D0).2 (rd S j) = rd S j := by rw [← HX.out.1, ← HX.out.2]; exact if_neg hp
            have hT : SgnAt w w0 wr g L xs S D0 a (j + 1) := HI.out.keep (by rw [HPos.out.2]; exact hj) (by rw [hsD]; exact HQ.out.2.2) hsV HI.out.blk HI.out.chg
            have HT := Aside0.mk hT
            have hpb : decide (0 < x) = false := by simpa using hp
            clear hT hsD hsV
            go_wp2_with fail
            go_roundg (gk - 1)
            case measure => omega
            case rel => exact ⟨j + 1, by go_num, by omega, HT⟩
        · have hj16 : j = 16 := by omega
          have hT : RdAt w w0 wr g L d n (i + 1) := by
            have h7 := HI.out
            rw [hj16, HSS.out.1, HSS.out.2.1, HSS.out.2.2, HR.out.1] at h7
            exact HR.out.2.next h7 (by rw [← HSS.out.1]; exact HPos.out.2) HP.out.1.len (by have := HR.out.1; omega)
          have HT := Aside0.mk (And.intro (show a + 16 = 16 * (i + 1) by have := HR.out.1; omega) hT)
          subst hj16
          clear hT
          go_wp2_with fail
          go_roundg (N - i - 1)
          case measure => omega
          case rel => exact ⟨i + 1, a + 16, by go_num, by omega, HT⟩
    · have hiN : i = N := by omega
      have HF : Aside0 (Blk wr L (pulsesR N d).1 ∧ DecAt w0 wr g (pulsesR N d).2 ∧ Chg w wr (One g)) := by
        obtain ⟨q1, q2, q3⟩ := HR.out.2
        rw [hiN] at q1 q2
        rw [show n - 16 * N = 0 by have := HN.out; omega] at q2
        simp only [List.replicate_zero, List.append_nil] at q2
        exact ⟨q2, q1, q3⟩
      have han : n ≤ a := by have := HR.out.1; have := HN.out; omega
      clear HR
      go_wp2_with fail
      go_returns
      exact ⟨L, rfl, HF.out.1, HF.out.2.1, HF.out.2.2, hLw⟩
end Go.Proofs.Ytiabenmgbikllaa.M

-- PAllx5
namespace Go.Proofs.Ytiabenmgbikllaa.PAll
open Go.RowKit Go.Proofs.YtiabenmgbikllaaW.PrintWords Go.Proofs.YtiabenmgbikllaaW.PrintLast Go.Proofs.YtiabenmgbikllaaW.PrintMore
attribute [local go_sem] max2_int min2_int max_two min_two max_three min_three max_four min_four   -- for this text's walks alone
set_option linter.unusedVariables false
set_option linter.unusedSimpArgs false

mutual
def madrigalref17_GoodPulses.j0 : Nat → List Int → Bool → Option (Bool)
  | 0, _, _ => none
  | k + 1, x0, x19 => if x19 = true then (some false) else (madrigalref17_GoodPulses.l0 k x0 0)
def madrigalref17_GoodPulses.l0 : Nat → List Int → Int → Option (Bool)
  | 0, _, _ => none
  | k + 1, x0, x3 => if x3 < (x0.length : Int) then (madrigalref17_GoodPulses.l1 k x0 x3 0 x3) else (some true)
def madrigalref17_GoodPulses.l1 : Nat → List Int → Int → Int → Int → Option (Bool)
  | 0, _, _, _, _ => none
  | k + 1, x0, x3, x4, x5 => if x5 < (wrap64 (x3 + 16)) then (if 0 ≤ x5 then (if x5 < (x0.length : Int) then (if (rd x0 x5) < (-16) then (some false) else (if (rd x0 x5) > 16 then (some false) else ((madrigalref17_size.f (rd x0 x5)).bind fun t542 => (madrigalref17_GoodPulses.l1 k x0 x3 (wrap64 (x4 + t542)) (wrap64 (x5 + 1)))))) else (none)) else (none)) else (if x4 > 16 then (some false) else (madrigalref17_GoodPulses.l0 k x0 (wrap64 (x3 + 16))))
end
def madrigalref17_GoodPulses.f (k : Nat) (l0 : List Int) : Option (Bool) := if (l0.length : Int) < 16 then (madrigalref17_GoodPulses.j0 k l0 true) else (if (l0.length : Int) > 480 then (madrigalref17_GoodPulses.j0 k l0 true) else (madrigalref17_GoodPulses.j0 k l0 (((l0.length : Int) % 16) != 0)))
theorem madrigalref17_GoodPulses.mono_l : ∀ k, (∀ y0 y1, LeO (madrigalref17_GoodPulses.j0 k y0 y1) (madrigalref17_GoodPulses.j0 (k + 1) y0 y1)) ∧ (∀ y0 y1, LeO (madrigalref17_GoodPulses.l0 k y0 y1) (madrigalref17_GoodPulses.l0 (k + 1) y0 y1)) ∧ (∀ y0 y1 y2 y3, LeO (madrigalref17_GoodPulses.l1 k y0 y1 y2 y3) (madrigalref17_GoodPulses.l1 (k + 1) y0 y1 y2 y3))
  | 0 => ⟨fun _ _ r h => by simp [madrigalref17_GoodPulses.j0] at h, fun _ _ r h => by simp [madrigalref17_GoodPulses.l0] at h, fun _ _ _ _ r h => by simp [madrigalref17_GoodPulses.l1] at h⟩
  | k + 1 => by
    obtain ⟨ih0, ih1, ih2⟩ := madrigalref17_GoodPulses.mono_l k
    refine ⟨?_, ?_, ?_⟩
    · intro y0 y1
      unfold madrigalref17_GoodPulses.j0
      repeat' first
      | (with_reducible exact ih0 _ _)
      | (with_reducible exact ih1 _ _)
      | (with_reducible exact ih2 _ _ _ _)
      | (with_reducible exact LeO.refl _)
      | (with_reducible exact LeO.none _)
      | (with_reducible refine LeO.ite ?_ ?_)
      | (with_reducible refine LeO.bind ?_ (fun _ => ?_))
      | exact ih0 _ _
      | exact ih1 _ _
      | exact ih2 _ _ _ _
      | exact LeO.none _
      | refine LeO.ite ?_ ?_
      | refine LeO.bind ?_ (fun _ => ?_)
    · intro y0 y1
      unfold madrigalref17_GoodPulses.l0
      repeat' first
      | (with_reducible exact ih0 _ _)
      | (with_reducible exact ih1 _ _)
      | (with_reducible exact ih2 _ _ _ _)
      | (with_reducible exact LeO.refl _)
      | (with_reducible exact LeO.none _)
      | (with_reducible refine LeO.ite ?_ ?_)
      | (with_reducible refine LeO.bind ?_ (fun _ => ?_))
      | exact ih0 _ _
      | exact ih1 _ _
      | exact ih2 _ _ _ _
      | exact LeO.none _
      | refine LeO.ite ?_ ?_
      | refine LeO.bind ?_ (fun _ => ?_)
    · intro y0 y1 y2 y3
      unfold madrigalref17_GoodPulses.l1
      repeat' first
      | (with_reducible exact ih0 _ _)
      | (with_reducible exact ih1 _ _)
      | (with_reducible exact ih2 _ _ _ _)
      | (with_reducible exact LeO.refl _)
      | (with_reducible exact LeO.none _)
      | (with_reducible refine LeO.ite ?_ ?_)
      | (with_reducible refine LeO.bind ?_ (fun _ => ?_))
      | exact ih0 _ _
      | exact ih1 _ _
      | exact ih2 _ _ _ _
      | exact LeO.none _
      | refine LeO.ite ?_ ?_
      | refine LeO.bind ?_ (fun _ => ?_)
theorem madrigalref17_GoodPulses.mono : ∀ a0 k, LeO (madrigalref17_GoodPulses.f k a0) (madrigalref17_GoodPulses.f (k + 1) a0) := by
  intro a0 k
  obtain ⟨ih0, ih1, ih2⟩ := madrigalref17_GoodPulses.mono_l k
  unfold madrigalref17_GoodPulses.f
  repeat' first
      | (with_reducible exact ih0 _ _)
      | (with_reducible exact ih1 _ _)
      | (with_reducible exact ih2 _ _ _ _)
      | (with_reducible exact LeO.refl _)
      | (with_reducible exact LeO.none _)
      | (with_reducible refine LeO.ite ?_ ?_)
      | (with_reducible refine LeO.bind ?_ (fun _ => ?_))
      | exact ih0 _ _
      | exact ih1 _ _
      | exact ih2 _ _ _ _
      | exact LeO.none _
      | refine LeO.ite ?_ ?_
      | refine LeO.bind ?_ (fun _ => ?_)
-- NOT PRINTED: function 100 (madrigalref17_share)

-- NOT PRINTED: function 46 (madrigalref17_Pulses)

-- NOT PRINTED: function 6 (madrigallaw9_PulseBack)

def fix_Sqrt.l0 : Nat → Int → Int → Int → Option (Int)
  | 0, _, _, _ => none
  | k + 1, x3, x4, x5 => if x5 > 0 then (if x3 ≥ (IntKind.u64.wrap (x4 + x5)) then (fix_Sqrt.l0 k (IntKind.u64.wrap (x3 - (IntKind.u64.wrap (x4 + x5)))) (IntKind.u64.wrap ((x4 / 2) + x5)) (x5 / 4)) else (fix_Sqrt.l0 k x3 (x4 / 2) (x5 / 4))) else (some (wrap64 (x4)))
def fix_Sqrt.f (k : Nat) (a0 : Int) : Option (Int) := if a0 < 0 then (some 0) else (fix_Sqrt.l0 k (IntKind.u64.wrap (a0)) 0 4611686018427387904)
theorem fix_Sqrt.mono_l : ∀ k, (∀ y0 y1 y2, LeO (fix_Sqrt.l0 k y0 y1 y2) (fix_Sqrt.l0 (k + 1) y0 y1 y2))
  | 0 => fun _ _ _ r h => by simp [fix_Sqrt.l0] at h
  | k + 1 => by
    have ih0 := fix_Sqrt.mono_l k
    · intro y0 y1 y2
      unfold fix_Sqrt.l0
      repeat' first
      | (with_reducible exact ih0 _ _ _)
      | (with_reducible exact LeO.refl _)
      | (with_reducible exact LeO.none _)
      | (with_reducible refine LeO.ite ?_ ?_)
      | (with_reducible refine LeO.bind ?_ (fun _ => ?_))
      | exact ih0 _ _ _
      | exact LeO.none _
      | refine LeO.ite ?_ ?_
      | refine LeO.bind ?_ (fun _ => ?_)
theorem fix_Sqrt.mono : ∀ a0 k, LeO (fix_Sqrt.f k a0) (fix_Sqrt.f (k + 1) a0) := by
  intro a0 k
  have ih0 := fix_Sqrt.mono_l k
  unfold fix_Sqrt.f
  repeat' first
      | (with_reducible exact ih0 _ _ _)
      | (with_reducible exact LeO.refl _)
      | (with_reducible exact LeO.none _)
      | (with_reducible refine LeO.ite ?_ ?_)
      | (with_reducible refine LeO.bind ?_ (fun _ => ?_))
      | exact ih0 _ _ _
      | exact LeO.none _
      | refine LeO.ite ?_ ?_
      | refine LeO.bind ?_ (fun _ => ?_)
end Go.Proofs.Ytiabenmgbikllaa.PAll

-- P7
namespace Go.Proofs.Ytiabenmgbikllaa.M
set_option linter.unusedVariables false
open Go.RowKit Go.Proofs.YtiabenmgbikllaaW.PrintWords Go.Proofs.YtiabenmgbikllaaW.PrintLast Go.Proofs.YtiabenmgbikllaaW.PrintMore Go.Proofs.Ytiabenmgbikllaa.PAll

def absI (x : Int) : Int := if x < 0 then -x else x
def cnt1 (x : Int) : Int := absI (clampI x (-32) 32)
def cntL (l : List Int) : Int := (l.map cnt1).sum
theorem clampK_f (k : Nat) (a lo hi : Int) : fix_Clamp.f (k + 1) a lo hi = some (clampI a lo hi) := by
  unfold fix_Clamp.f clampI
  by_cases h1 : lo > hi
  · rw [if_pos h1, if_pos h1]; simp [fix_Clamp.j0]
  · rw [if_neg h1, if_neg h1]
    by_cases h2 : a < lo
    · rw [if_pos h2]; simp [fix_Clamp.j0, h2]
    · rw [if_neg h2]; simp only [fix_Clamp.j0, h2, decide_false]
      by_cases h3 : a > hi
      · rw [if_pos h3]; simp [h3]
      · rw [if_neg h3]; simp [h3]
theorem clampP_f (k : Nat) (a lo hi : Int) (h : 0 < k) : fix_Clamp.f k a lo hi = some (clampI a lo hi) := by
  obtain ⟨m, rfl⟩ : ∃ m, k = m + 1 := ⟨k - 1, by omega⟩
  exact clampK_f m a lo hi
theorem cnt1_range (x : Int) : 0 ≤ cnt1 x ∧ cnt1 x ≤ 32 := by
  have := clampI_range x (-32) 32 (by omega)
  unfold cnt1 absI
  split <;> omega
theorem cntL_nil : cntL [] = 0 := rfl
theorem cntL_cons (x : Int) (l : List Int) : cntL (x :: l) = cnt1 x + cntL l := by simp [cntL]
theorem cntL_app (a b : List Int) : cntL (a ++ b) = cntL a + cntL b := by simp [cntL]
theorem cntL_range (l : List Int) : 0 ≤ cntL l ∧ cntL l ≤ 32 * l.length := by
  induction l with
  | nil => simp [cntL]
  | cons x l ih =>
    have := cnt1_range x
    rw [cntL_cons, List.length_cons]
    omega
theorem abs_f (x : Int) (h0 : -32 ≤ x) (h1 : x ≤ 32) : pulse_abs.f x = some (absI x) := by
  unfold pulse_abs.f absI mx
  rw [show wrap64 (-x) = -x from by unfold wrap64; omega]
  congr 1
  split <;> split <;> omega
theorem count_l (l : List Int) (hl : l.length ≤ 1000000) (m : Nat) : ∀ (k i : Nat) (acc : Int), i + m = l.length → m + 1 < k → 0 ≤ acc → acc ≤ 32 * i → pulse_count.l0 k acc l (l.length : Int) (i : Int) = some (acc + cntL (l.drop i)) := by
  induction m with
  | zero =>
    intro k i acc hi hk h0 h1
    obtain ⟨k, rfl⟩ : ∃ m, k = m + 1 := ⟨k - 1, by omega⟩
    simp only [pulse_count.l0]
    rw [if_neg (by omega), List.drop_eq_nil_of_le (by omega), cntL_nil]
    simp
  | succ m ih =>
    intro k i acc hi hk h0 h1
    obtain ⟨k, rfl⟩ : ∃ m, k = m + 1 := ⟨k - 1, by omega⟩
    have hlt : i < l.length := by omega
    have hr := cnt1_range (rd l i)
    have hc := clampI_range (rd l i) (-32) 32 (by omega)
    simp only [pulse_count.l0]
    rw [if_pos (by omega), if_pos (by omega), if_pos (by omega), clampP_f k _ _ _ (by omega)]
    simp only [Option.bind_some]
    rw [abs_f _ hc.1 hc.2]
    simp only [Option.bind_some]
    rw [show absI (clampI (rd l i) (-32) 32) = cnt1 (rd l i) from rfl, show wrap64 (acc + cnt1 (rd l i)) = acc + cnt1 (rd l i) from by unfold wrap64; omega, show wrap64 ((i : Int) + 1) = ((i + 1 : Nat) : Int) from by unfold wrap64; omega]
    rw [ih k (i + 1) _ (by omega) (by omega) (by omega) (by omega), List.drop_eq_getElem_cons hlt, cntL_cons]
    have : l[i] = rd l i := by rw [← rd_eq]; simp [List.getD, hlt]
    rw [this]
    congr 1
    omega
theorem count_f (l : List Int) (hl : l.length ≤ 1000000) (k : Nat) (hk : l.length + 1 < k) : pulse_count.f k l = some (cntL l) := by
  have := count_l l hl l.length k 0 0 (by omega) hk (by omega) (by omega)
  simpa [pulse_count.f] using this
/-- A block of sixteen. -/
def blk16 (l : List Int) (i : Nat) : List Int := (l.drop (16 * i)).take 16
def goodFrom (l : List Int) : Nat → Nat → Bool
  | 0, _ => true
  | m + 1, i => decide (cntL (blk16 l i) ≤ 16) && goodFrom l m (i + 1)
/-- May these pulses be? -/
def goodL (l : List Int) : Bool := decide (16 ≤ l.length ∧ l.length ≤ 480 ∧ l.length % 16 = 0) && goodFrom l (l.length / 16) 0
theorem good_l (l : List Int) (hl : l.length ≤ 480) (m : Nat) : ∀ (k i : Nat), 16 * (i + m) = l.length → m + 20 < k → pulse_Good.l0 k l ((16 * i : Nat) : Int) = some (goodFrom l m i) := by
  induction m with
  | zero =>
    intro k i hi hk
    obtain ⟨k, rfl⟩ : ∃ m, k = m + 1 := ⟨k - 1, by omega⟩
    simp only [pulse_Good.l0]
    rw [if_neg (by omega)]
    rfl
  | succ m ih =>
    intro k i hi hk
    obtain ⟨k, rfl⟩ : ∃ m, k = m + 1 := ⟨k - 1, by omega⟩
    have e1 : wrap64 (((16 * i : Nat) : Int) + 16) = ((16 * (i + 1) : Nat) : Int) := by unfold wrap64; omega
    have e2 : (l.take (16 * (i + 1))).drop (16 * i) = blk16 l i := by
      unfold blk16
      rw [List.drop_take]
      congr 1; omega
    simp only [pulse_Good.l0]
    rw [e1, if_pos (by omega), if_pos (by omega), if_pos (by omega), if_pos (by omega)]
    simp only [Int.toNat_natCast]
    rw [e2, count_f _ (by unfold blk16; simp; omega) k (by unfold blk16; simp; omega)]
    simp only [Option.bind_some]
    rw [ih k (i + 1) (by omega) (by omega)]
    show _ = some (decide (cntL (blk16 l i) ≤ 16) && goodFrom l m (i + 1))
    by_cases hc : cntL (blk16 l i) > 16
    · rw [if_pos hc]; simp; omega
    · rw [if_neg hc]; simp [show cntL (blk16 l i) ≤ 16 by omega]
theorem may_f (n : Nat) : pulse_may.f (n : Int) = some (decide (16 ≤ n ∧ n ≤ 480 ∧ n % 16 = 0)) := by
  unfold pulse_may.f
  by_cases h1 : (n : Int) ≥ 16
  · rw [if_pos h1]
    by_cases h2 : (n : Int) ≤ 480
    · rw [if_pos h2, Int.tmod_eq_emod_of_nonneg (by omega)]
      congr 1
      rw [Bool.eq_iff_iff]
      simp
      omega
    · rw [if_neg h2]; simp; omega
  · rw [if_neg h1]; simp; omega
theorem good_f (l : List Int) : pulse_Good.f 100 l = some (goodL l) := by
  unfold pulse_Good.f goodL
  rw [may_f]
  simp only [Option.bind_some]
  by_cases h : 16 ≤ l.length ∧ l.length ≤ 480 ∧ l.length % 16 = 0
  · have e : decide (16 ≤ l.length ∧ l.length ≤ 480 ∧ l.length % 16 = 0) = true := by simpa using h
    rw [e]
    simp only [if_true, Bool.true_and]
    exact good_l l h.2.1 (l.length / 16) 100 0 (by omega) (by omega)
  · have e : decide (16 ≤ l.length ∧ l.length ≤ 480 ∧ l.length % 16 = 0) = false := by simpa using h
    rw [e]
    simp
theorem goodFrom_iff (l : List Int) : ∀ (m i : Nat), goodFrom l m i = true ↔ ∀ j, i ≤ j → j < i + m → cntL (blk16 l j) ≤ 16
  | 0, i => by simp [goodFrom]; intro j; omega
  | m + 1, i => by
    simp only [goodFrom, Bool.and_eq_true, decide_eq_true_eq, goodFrom_iff l m (i + 1)]
    constructor
    · intro ⟨h1, h2⟩ j hj hm
      by_cases e : j = i
      · rw [e]; exact h1
      · exact h2 j (by omega) (by omega)
    · intro h
      exact ⟨h i (by omega) (by omega), fun j hj hm => h j (by omega) (by omega)⟩
/-- What may be, in words of numbers. -/
structure GoodAt (l : List Int) (N : Nat) : Prop where
  len : l.length = 16 * N
  n0 : 1 ≤ N
  n1 : N ≤ 30
  cnt : ∀ i, i < N → cntL (blk16 l i) ≤ 16
theorem goodL_at (l : List Int) (h : goodL l = true) : GoodAt l (l.length / 16) := by
  unfold goodL at h
  simp only [Bool.and_eq_true, decide_eq_true_eq] at h
  have := (goodFrom_iff l (l.length / 16) 0).1 h.2
  exact ⟨by omega, by omega, by omega, fun i hi => this i (by omega) (by omega)⟩
end Go.Proofs.Ytiabenmgbikllaa.M

-- Q0
namespace Go.Proofs.Ytiabenmgbikllaa.M
set_option linter.unusedVariables false
open Go.RowKit Go.Proofs.YtiabenmgbikllaaW.PrintWords Go.Proofs.YtiabenmgbikllaaW.PrintLast Go.Proofs.YtiabenmgbikllaaW.PrintMore Go.Proofs.Ytiabenmgbikllaa.PAll

def swapL (at_ : List Int) (i j : Nat) : List Int := (at_.set i (rd at_ j)).set j (rd at_ i)
def par (j : Nat) : Nat := (j - 1) / 2
def upL (f : Int → Int) : Nat → List Int → Nat → List Int
  | 0, at_, _ => at_
  | k + 1, at_, j => if par j = j ∨ ¬ f (rd at_ (par j)) < f (rd at_ j) then at_ else upL f k (swapL at_ (par j) j) (par j)
def big (f : Int → Int) (at_ : List Int) (m i : Nat) : Nat := if 2 * i + 2 < m ∧ f (rd at_ (2 * i + 1 : Nat)) < f (rd at_ (2 * i + 2 : Nat)) then 2 * i + 2 else 2 * i + 1
def downL (f : Int → Int) (m : Nat) : Nat → List Int → Nat → List Int × Nat
  | 0, at_, i => (at_, i)
  | k + 1, at_, i => if m ≤ 2 * i + 1 then (at_, i) else if ¬ f (rd at_ i) < f (rd at_ (big f at_ m i)) then (at_, i) else downL f m k (swapL at_ i (big f at_ m i)) (big f at_ m i)
theorem rd_set (l : List Int) (i c : Nat) (v : Int) (hi : i < l.length) : rd (l.set i v) c = if c = i then v else rd l c := by
  rw [← rd_eq, ← rd_eq]
  simp only [List.getD, List.getElem?_set]
  by_cases h : i = c
  · subst h; simp [hi]
  · rw [if_neg h, if_neg (fun hh => h hh.symm)]
theorem rd_swap (l : List Int) (i j c : Nat) (hi : i < l.length) (hj : j < l.length) : rd (swapL l i j) c = if c = j then rd l i else if c = i then rd l j else rd l c := by
  unfold swapL
  rw [rd_set _ _ _ _ (by simpa using hj), rd_set _ _ _ _ hi]
theorem swapL_length (l : List Int) (i j : Nat) : (swapL l i j).length = l.length := by simp [swapL]
/-- Numbers below m, each once. -/
structure Each (l : List Int) (m : Nat) : Prop where
  len : l.length = m
  rng : ∀ i : Nat, i < m → 0 ≤ rd l i ∧ rd l i < m
  inj : ∀ i j : Nat, i < m → j < m → rd l i = rd l j → i = j
theorem Each.swap {l : List Int} {m : Nat} (h : Each l m) (i j : Nat) (hi : i < m) (hj : j < m) : Each (swapL l i j) m := by
  have hl := h.len
  have hs : ∀ c : Nat, rd (swapL l i j) c = if c = j then rd l i else if c = i then rd l j else rd l c := fun c => rd_swap l i j c (by omega) (by omega)
  refine ⟨by rw [swapL_length]; exact hl, ?_, ?_⟩
  · intro c hc
    rw [hs]
    split
    · exact h.rng i hi
    · split
      · exact h.rng j hj
      · exact h.rng c hc
  · intro a b ha hb
    rw [hs, hs]
    intro hab
    have key : ∀ x y : Nat, x < m → y < m → rd l x = rd l y → x = y := h.inj
    split at hab
    · split at hab
      · omega
      · split at hab
        · have := key _ _ hi hj hab; omega
        · have := key _ _ hi hb hab; omega
    · split at hab
      · split at hab
        · have := key _ _ hj hi hab; omega
        · split at hab
          · omega
          · have := key _ _ hj hb hab; omega
      · split at hab
        · have := key _ _ ha hi hab; omega
        · split at hab
          · have := key _ _ ha hj hab; omega
          · exact key _ _ ha hb hab
theorem Each.up {f : Int → Int} {m : Nat} : ∀ (k : Nat) {l : List Int} (j : Nat), Each l m → j < m → Each (upL f k l j) m
  | 0, l, j, h, hj => h
  | k + 1, l, j, h, hj => by
    unfold upL
    split
    · exact h
    · exact Each.up k (par j) (h.swap (par j) j (by unfold par; omega) hj) (by unfold par; omega)
theorem Each.down {f : Int → Int} {m : Nat} : ∀ (k : Nat) {l : List Int} (j : Nat), Each l m → j < m → Each (downL f m k l j).1 m
  | 0, l, j, h, hj => h
  | k + 1, l, j, h, hj => by
    unfold downL
    split
    · exact h
    · split
      · exact h
      · have hb : big f l m j < m := by unfold big; split <;> omega
        exact Each.down k _ (h.swap j _ hj hb) hb
/-- No one is greater than the one above. -/
def Heap (f : Int → Int) (l : List Int) (m : Nat) : Prop := ∀ c : Nat, 1 ≤ c → c < m → f (rd l c) ≤ f (rd l (par c : Nat))
theorem par_lt (c : Nat) (h : 1 ≤ c) : par c < c := by unfold par; omega
theorem up_heap (f : Int → Int) (m : Nat) : ∀ (k : Nat) (l : List Int) (j : Nat), l.length = m → j ≤ k → j < m → (∀ c : Nat, 1 ≤ c → c < m → c ≠ j → f (rd l c) ≤ f (rd l (par c : Nat))) →
    (∀ c : Nat, 1 ≤ c → c < m → par c = j → 1 ≤ j → f (rd l c) ≤ f (rd l (par j : Nat))) → Heap f (upL f k l j) m
  | 0, l, j, hl, hk, hj, h1, h2 => fun c hc hm => h1 c hc hm (by omega)
  | k + 1, l, j, hl, hk, hj, h1, h2 => by
    unfold upL
    by_cases hz : j = 0
    · rw [if_pos (.inl (by rw [hz]; rfl))]
      exact fun c hc hm => h1 c hc hm (by omega)
    · have hp := par_lt j (by omega)
      by_cases hc : f (rd l (par j : Nat)) < f (rd l j)
      · rw [if_neg (by simp only [not_or, Classical.not_not]; exact ⟨by omega, hc⟩)]
        have hs : ∀ c : Nat, rd (swapL l (par j) j) c = if c = j then rd l (par j : Nat) else if c = par j then rd l j else rd l c := fun c => rd_swap l (par j) j c (by omega) (by omega)
        refine up_heap f m k _ (par j) (by rw [swapL_length]; exact hl) (by omega) (by omega) ?_ ?_
        · intro c c1 cm cn
          rw [hs, hs]
          have hpc := par_lt c c1
          by_cases e1 : c = j
          · rw [if_pos e1, e1, if_neg (by omega), if_pos rfl]; omega
          · rw [if_neg e1, if_neg cn]
            by_cases e2 : par c = j
            · rw [if_pos e2]; exact h2 c c1 cm e2 (by omega)
            · rw [if_neg e2]
              have h9 := h1 c c1 cm e1
              by_cases e3 : par c = par j
              · rw [if_pos e3]; rw [e3] at h9; omega
              · rw [if_neg e3]; exact h9
        · intro c c1 cm cp pj
          rw [hs, hs]
          have hpp := par_lt (par j) pj
          rw [if_neg (show ¬ par (par j) = j by omega), if_neg (show ¬ par (par j) = par j by omega)]
          have h9 := h1 (par j) pj (by omega) (by omega)
          by_cases e1 : c = j
          · rw [if_pos e1]; exact h9
          · rw [if_neg e1, if_neg (by have := par_lt c c1; omega)]
            have h8 := h1 c c1 cm e1
            rw [cp] at h8
            omega
      · rw [if_pos (.inr hc)]
        intro c c1 cm
        by_cases e1 : c = j
        · rw [e1]; omega
        · exact h1 c c1 cm e1
theorem big_max (f : Int → Int) (l : List Int) (m i : Nat) (h : 2 * i + 1 < m) : big f l m i < m ∧ par (big f l m i) = i ∧ i < big f l m i ∧ ∀ c : Nat, 1 ≤ c → c < m → par c = i → f (rd l c) ≤ f (rd l (big f l m i : Nat)) := by
  unfold big
  split
  · rename_i hc
    refine ⟨by omega, by unfold par; omega, by omega, fun c c1 cm cp => ?_⟩
    have : c = 2 * i + 1 ∨ c = 2 * i + 2 := by unfold par at cp; omega
    rcases this with rfl | rfl <;> omega
  · rename_i hc
    refine ⟨by omega, by unfold par; omega, by omega, fun c c1 cm cp => ?_⟩
    have : c = 2 * i + 1 ∨ c = 2 * i + 2 := by unfold par at cp; omega
    rcases this with rfl | rfl <;> omega
theorem down_heap (f : Int → Int) (m : Nat) : ∀ (k : Nat) (l : List Int) (i : Nat), l.length = m → m ≤ i + k → i < m → (∀ c : Nat, 1 ≤ c → c < m → par c ≠ i → f (rd l c) ≤ f (rd l (par c : Nat))) →
    (1 ≤ i → ∀ c : Nat, 1 ≤ c → c < m → par c = i → f (rd l c) ≤ f (rd l (par i : Nat))) → Heap f (downL f m k l i).1 m
  | 0, l, i, hl, hk, hi, h1, h2 => by omega
  | k + 1, l, i, hl, hk, hi, h1, h2 => by
    unfold downL
    by_cases hm : m ≤ 2 * i + 1
    · rw [if_pos hm]
      intro c c1 cm
      exact h1 c c1 cm (by unfold par; omega)
    · rw [if_neg hm]
      obtain ⟨b1, b2, b3, b4⟩ := big_max f l m i (by omega)
      by_cases hc : f (rd l i) < f (rd l (big f l m i : Nat))
      · rw [if_neg (by simpa using hc)]
        generalize big f l m i = j at *
        have hs : ∀ c : Nat, rd (swapL l i j) c = if c = j then rd l i else if c = i then rd l j else rd l c := fun c => rd_swap l i j c (by omega) (by omega)
        refine down_heap f m k _ j (by rw [swapL_length]; exact hl) (by omega) b1 ?_ ?_
        · intro c c1 cm cn
          rw [hs, hs]
          have hpc := par_lt c c1
          rw [if_neg cn]
          by_cases e1 : c = j
          · rw [if_pos e1, e1, if_pos b2]; omega
          · rw [if_neg e1]
            by_cases e2 : c = i
            · rw [if_pos e2, if_neg (by omega), e2]
              exact h2 (by omega) j (by omega) b1 b2
            · rw [if_neg e2]
              by_cases e3 : par c = i
              · rw [if_pos e3]; exact b4 c c1 cm e3
              · rw [if_neg e3]; exact h1 c c1 cm e3
        · intro j1 c c1 cm cp
          rw [hs, hs]
          have hpc := par_lt c c1
          rw [if_neg (show ¬ c = j by omega), if_neg (show ¬ c = i by omega), b2, if_neg (show ¬ i = j by omega), if_pos rfl]
          have := h1 c c1 cm (by omega)
          rw [cp] at this
          exact this
      · rw [if_pos (by simpa using hc)]
        intro c c1 cm
        show f (rd l c) ≤ f (rd l (par c : Nat))
        by_cases e : par c = i
        · rw [e]; have := b4 c c1 cm e; omega
        · exact h1 c c1 cm e
theorem heap_top (f : Int → Int) (l : List Int) (m : Nat) (h : Heap f l m) : ∀ (n j : Nat), j ≤ n → j < m → f (rd l j) ≤ f (rd l (0 : Nat))
  | 0, j, hj, hm => by rw [show j = 0 by omega]; omega
  | n + 1, j, hj, hm => by
    by_cases hz : j = 0
    · rw [hz]; omega
    · have h1 := h j (by omega) hm
      have hp := par_lt j (by omega)
      have h2 := heap_top f l m h n (par j) (by omega) (by omega)
      omega
theorem pigeons : ∀ (m : Nat) (g : Nat → Nat), (∀ i, i ≤ m → g i < m) → ∃ i j, i < j ∧ j ≤ m ∧ g i = g j
  | 0, g, h => absurd (h 0 (by omega)) (by omega)
  | m + 1, g, h => by
    have ha := h (m + 1) (by omega)
    by_cases hx : ∃ i, i ≤ m ∧ g i = g (m + 1)
    · obtain ⟨i, hi, he⟩ := hx
      exact ⟨i, m + 1, by omega, by omega, he⟩
    · have hne : ∀ i, i ≤ m → g i ≠ g (m + 1) := fun i hi he => hx ⟨i, hi, he⟩
      obtain ⟨i, j, hij, hj, he⟩ := pigeons m (fun i => if g i = m then g (m + 1) else g i) (fun i hi => by
        have h1 := h i (by omega)
        have h2 := hne i hi
        show (if g i = m then g (m + 1) else g i) < m
        split <;> omega)
      refine ⟨i, j, hij, by omega, ?_⟩
      have h1 := hne i (by omega)
      have h2 := hne j hj
      split at he <;> split at he <;> omega
/-- Each number below m stands somewhere. -/
theorem Each.onto {l : List Int} {m : Nat} (h : Each l m) (v : Nat) (hv : v < m) : ∃ i : Nat, i < m ∧ rd l i = v := by
  by_cases hh : ∃ i : Nat, i < m ∧ rd l i = v
  · exact hh
  · exfalso
    have hne : ∀ i : Nat, i < m → rd l i ≠ v := fun i hi he => hh ⟨i, hi, he⟩
    obtain ⟨n, rfl⟩ : ∃ n, m = n + 1 := ⟨m - 1, by omega⟩
    obtain ⟨i, j, hij, hj, he⟩ := pigeons n (fun i => if rd l i < v then (rd l i).toNat else (rd l i).toNat - 1) (fun i hi => by
      have h1 := h.rng i (by omega)
      have h2 := hne i (by omega)
      show (if rd l i < v then (rd l i).toNat else (rd l i).toNat - 1) < n
      split <;> omega)
    have h1 := h.rng i (by omega)
    have h2 := h.rng j (by omega)
    have h3 := hne i (by omega)
    have h4 := hne j (by omega)
    have := h.inj i j (by omega) (by omega) (by
      split at he <;> split at he <;> omega)
    omega
end Go.Proofs.Ytiabenmgbikllaa.M

-- P6
namespace Go.Proofs.Ytiabenmgbikllaa.M
set_option linter.unusedVariables false
open Go.RowKit Go.Proofs.YtiabenmgbikllaaW.PrintWords Go.Proofs.YtiabenmgbikllaaW.PrintLast Go.Proofs.YtiabenmgbikllaaW.PrintMore Go.Proofs.Ytiabenmgbikllaa.PAll
attribute [local go_sem] max2_int min2_int max_two min_two max_three min_three max_four min_four

/-- Room for a bit more. -/
def E.room (e : E) : List Int := if e.rawBits % 8 = 0 then e.raw ++ [0] else e.raw
/-- A bit x is laid behind those for the end. -/
def E.bit1 (e : E) (x : Int) : E := { e with raw := e.room.set (e.rawBits / 8).toNat (rd e.room (e.rawBits / 8) + x * 2 ^ (e.rawBits % 8).toNat), rawBits := e.rawBits + 1 }
def E.bitsL (e : E) (v : Int) : Nat → E
  | 0 => e
  | i + 1 => (E.bitsL e v i).bit1 (v / 2 ^ i % 2)
def E.bits (e : E) (v n : Int) : E := { E.bitsL e v n.toNat with count := e.count + n }
/-- What holds of the bits for the end. -/
structure ERaw (e : E) : Prop where
  b0 : 0 ≤ e.rawBits
  len : (e.raw.length : Int) = (e.rawBits + 7) / 8
  rb : Bytes e.raw
  lt : numR e.raw < 2 ^ e.rawBits.toNat
theorem numR_snoc (l : List Int) (x : Int) : numR (l ++ [x]) = numR l + x * 256 ^ l.length := by
  unfold numR
  rw [List.reverse_append]
  simp only [List.reverse_cons, List.reverse_nil, List.nil_append, List.cons_append, num, List.length_reverse]
  omega
theorem numR_cons (x : Int) (l : List Int) : numR (x :: l) = numR l * 256 + x := by
  unfold numR
  rw [List.reverse_cons, num_append]
  simp [num]
theorem numR_set (l : List Int) : ∀ (i : Nat) (y : Int), i < l.length → numR (l.set i y) = numR l + (y - rd l i) * 256 ^ i := by
  induction l with
  | nil => intro i y h; simp at h
  | cons x l ih =>
    intro i y h
    cases i with
    | zero =>
      have e : rd (x :: l) ((0 : Nat) : Int) = x := by simp [rd]
      rw [e, List.set_cons_zero, numR_cons, numR_cons]
      simp; omega
    | succ i =>
      have e : rd (x :: l) ((i + 1 : Nat) : Int) = rd l (i : Int) := by simp [rd]
      rw [e, List.set_cons_succ, numR_cons, numR_cons, ih i y (by simpa using h), Int.pow_succ, Int.add_mul, Int.mul_assoc]
      omega
theorem room_ok (e : E) (h : ERaw e) : Bytes e.room ∧ e.rawBits / 8 < e.room.length ∧ numR e.room = numR e.raw ∧ (e.room.length : Int) = (e.rawBits + 8) / 8 ∧ 0 ≤ rd e.room (e.rawBits / 8) ∧ rd e.room (e.rawBits / 8) < 2 ^ (e.rawBits % 8).toNat := by
  obtain ⟨b0, len, rb, lt⟩ := h
  unfold E.room
  by_cases hc : e.rawBits % 8 = 0
  · rw [if_pos hc]
    have hl : e.rawBits / 8 = e.raw.length := by omega
    refine ⟨rb.app (fun x hx => by simp at hx; omega), by simp; omega, by rw [numR_snoc]; omega, by simp; omega, ?_⟩
    have e0 : rd (e.raw ++ [0]) (e.rawBits / 8) = 0 := by rw [hl, ← rd_eq]; simp
    rw [e0, hc]
    decide
  · rw [if_neg hc]
    have h8 := rb.at_ (e.rawBits / 8) (by omega) (by omega)
    refine ⟨rb, by omega, rfl, by omega, h8.1, ?_⟩
    have hby := numR_byte e.raw rb (e.rawBits / 8).toNat (by omega)
    rw [show ((e.rawBits / 8).toNat : Int) = e.rawBits / 8 by omega] at hby
    rw [hby]
    have e1 : (2 : Int) ^ e.rawBits.toNat = 2 ^ (e.rawBits % 8).toNat * 256 ^ (e.rawBits / 8).toNat := by
      rw [show (256 : Int) = 2 ^ 8 by decide, ← Int.pow_mul, ← Int.pow_add]; congr 1; omega
    rw [e1] at lt
    have h9 := Int.ediv_lt_of_lt_mul (p256 (e.rawBits / 8).toNat) lt
    have h10 : 0 ≤ numR e.raw := by
      have := num_range e.raw.reverse (fun x hx => rb x (List.mem_reverse.1 hx))
      exact this.1
    have h11 : 0 ≤ numR e.raw / 256 ^ (e.rawBits / 8).toNat := Int.ediv_nonneg h10 (by have := p256 (e.rawBits / 8).toNat; omega)
    have h12 : (2 : Int) ^ (e.rawBits % 8).toNat ≤ 2 ^ 8 := by exact_mod_cast Nat.pow_le_pow_right (by decide) (show (e.rawBits % 8).toNat ≤ 8 by omega)
    rw [Int.emod_eq_of_lt h11 (by omega)]
    exact h9
theorem pow8 (e : E) (h : 0 ≤ e.rawBits) : (1 : Int) ≤ 2 ^ (e.rawBits % 8).toNat ∧ (2 : Int) ^ (e.rawBits % 8).toNat ≤ 128 := by
  have h12 : (2 : Int) ^ (e.rawBits % 8).toNat ≤ 2 ^ 7 := by exact_mod_cast Nat.pow_le_pow_right (by decide) (show (e.rawBits % 8).toNat ≤ 7 by omega)
  have := p2 (e.rawBits % 8).toNat
  omega
theorem bit1_ok (e : E) (x : Int) (h : ERaw e) (x0 : 0 ≤ x) (x1 : x ≤ 1) : ERaw (e.bit1 x) ∧ numR (e.bit1 x).raw = numR e.raw + x * 2 ^ e.rawBits.toNat := by
  obtain ⟨r1, r2, r3, r4, r5, r6⟩ := room_ok e h
  obtain ⟨p1, p2'⟩ := pow8 e h.b0
  have hb0 := h.b0
  have hx : x * 2 ^ (e.rawBits % 8).toNat ≤ 2 ^ (e.rawBits % 8).toNat ∧ 0 ≤ x * 2 ^ (e.rawBits % 8).toNat := by
    rcases (show x = 0 ∨ x = 1 by omega) with rfl | rfl <;> omega
  have e1 : (2 : Int) ^ e.rawBits.toNat = 2 ^ (e.rawBits % 8).toNat * 256 ^ (e.rawBits / 8).toNat := by
    rw [show (256 : Int) = 2 ^ 8 by decide, ← Int.pow_mul, ← Int.pow_add]; congr 1; omega
  have hn : numR (e.bit1 x).raw = numR e.raw + x * 2 ^ e.rawBits.toNat := by
    show numR (e.room.set _ _) = _
    rw [numR_set _ _ _ (by omega), r3, show ((e.rawBits / 8).toNat : Int) = e.rawBits / 8 by omega, show ∀ a c : Int, a + c - a = c from fun a c => by omega, e1, Int.mul_assoc]
  refine ⟨⟨?_, ?_, ?_, ?_⟩, hn⟩
  · show 0 ≤ e.rawBits + 1; omega
  · show ((e.room.set _ _).length : Int) = (e.rawBits + 1 + 7) / 8
    rw [List.length_set, r4]; omega
  · exact r1.set _ _ (by omega)
  · rw [hn]
    show _ < 2 ^ (e.rawBits + 1).toNat
    rw [show (e.rawBits + 1).toNat = e.rawBits.toNat + 1 by omega, Int.pow_succ]
    have hlt := h.lt
    rcases (show x = 0 ∨ x = 1 by omega) with rfl | rfl
    · have := p2 e.rawBits.toNat; omega
    · omega
structure BitsOk (e e' : E) (v : Int) (i : Nat) : Prop where
  ok : ERaw e'
  num : numR e'.raw = numR e.raw + v % 2 ^ i * 2 ^ e.rawBits.toNat
  rb : e'.rawBits = e.rawBits + i
  told : e'.told = e.told
  val : e'.val = e.val
  rng : e'.rng = e.rng
  cnt : e'.count = e.count
theorem bitsL_ok (e : E) (v : Int) (h : ERaw e) (v0 : 0 ≤ v) : ∀ i : Nat, BitsOk e (E.bitsL e v i) v i
  | 0 => ⟨h, by simp [E.bitsL, Int.emod_one], by simp [E.bitsL], rfl, rfl, rfl, rfl⟩
  | i + 1 => by
    obtain ⟨h1, h2, h3, h4, h5, h6, h7⟩ := bitsL_ok e v h v0 i
    obtain ⟨k1, k2⟩ := bit1_ok (E.bitsL e v i) (v / 2 ^ i % 2) h1 (by omega) (by omega)
    have hb0 := h.b0
    refine ⟨k1, ?_, ?_, h4, h5, h6, h7⟩
    · show numR ((E.bitsL e v i).bit1 (v / 2 ^ i % 2)).raw = _
      rw [k2, h2, h3, emod_succ, show (e.rawBits + (i : Int)).toNat = i + e.rawBits.toNat by omega, Int.pow_add, Int.add_mul, Int.mul_assoc]
      omega
    · show (E.bitsL e v i).rawBits + 1 = _
      rw [h3]; omega

/-- The row for the end grows, or is made anew. -/
theorem EAt.rawn {w w1 : World} {f : Nat → Prop} {g : Nat} {e : E} {vt vr v1 : Value} {l : List Int} (h : EAt w f g e vt vr) (ho : w1.ownsRow 0 5 1 v1 l.length (nums .u8 l)) (hc : Chg w w1 (blkOf vr)) (hx : Ext w (blkOf vr) (blkOf v1)) :
    EAt (w1.setCell ⟨g, 3, none⟩ v1) (fun b => f b ∨ blkOf v1 b) g { e with raw := l } vt v1 := by
  have hb1 : w1.heap[g]? = some (.cells (ecells vt vr e) 107 (0, 0)) := hc.blk h.blk h.rne
  have hr1 : w1.ownsRow 0 5 1 vt e.told.length (nums .u8 e.told) := hc.own h.ot (fun k hk hh => h.ne k hk hh)
  have n1 : v1.ownBlock ≠ some g := fun k => own_ne ho hb1 (by decide) k.symm
  have n2 : vt.ownBlock ≠ some g := h.tne
  refine ⟨blk_put hb1 3 v1 rfl, own_setCell hr1 (fun hh => n2 hh.symm) _, own_setCell ho (fun hh => n1 hh.symm) _, ?_, .inl h.hg, fun k hk => .inl (h.ht k hk), fun k hk => .inr hk, ?_⟩
  · intro k hk hk'
    rcases hx k hk' with hh | hh
    · exact h.ne k hk hh
    · have := h.lt k (h.ht k hk); omega
  · intro b hb
    have hs : w1.heap.size = (w1.setCell ⟨g, 3, none⟩ v1).heap.size := by simp [World.setCell]
    rw [← hs]
    rcases hb with hb | hb
    · exact Nat.lt_of_lt_of_le (h.lt b hb) hc.size
    · exact own_lt ho b hb
theorem EAt.rset {w : World} {f : Nat → Prop} {g b n cap : Nat} {e : E} {vt : Value} (h : EAt w f g e vt (.slice (some ⟨b, 0, none⟩) n cap)) (hl : e.raw.length = n) (k : Nat) (x : Int) :
    EAt (w.setCell ⟨b, k, none⟩ (.int .u8 x)) f g { e with raw := e.raw.set k x } vt (.slice (some ⟨b, 0, none⟩) n cap) := by
  have hbg : b ≠ g := fun hh => h.rne (by rw [hh]; rfl)
  have ho := h.orw
  rw [hl] at ho
  have hs := (own_store ho (k : Int) x).1
  simp only [Int.toNat_natCast] at hs
  refine ⟨blk_far h.blk (fun hh => hbg hh.symm) _, own_setCell h.ot (fun hh => h.ne b hh.symm rfl) _, ?_, h.ne, h.hg, h.ht, h.hr, ?_⟩
  · show World.ownsRow _ 0 5 1 _ (e.raw.set k x).length _
    rw [List.length_set, hl]
    exact hs
  · intro b' hb'
    have := h.lt b' hb'
    simpa [World.setCell] using this
theorem own_pos {w : World} {e : TypeId} {n : Nat} {z : Value} {xs : List Value} (h : w.ownsRow 0 e 1 z n xs) (hn : 0 < n) : ∃ b cap, z = .slice (some ⟨b, 0, none⟩) n cap := by
  obtain ⟨m, rfl⟩ : ∃ m, n = m + 1 := ⟨n - 1, by omega⟩
  exact own_two h
theorem wraps_i64 (n : Int) (h₀ : 0 ≤ n) (h₁ : n < 2 ^ 62) : IntKind.i64.wrap n = n := IntWalk.i64_in _ (by omega)
theorem and_one (x : Int) (h0 : 0 ≤ x) (h1 : x < 2 ^ 62) : bits .and .i64 x 1 = x % 2 := bits_mask .i64 62 (by decide) wraps_i64 1 (by decide) x h0 h1
theorem byte_or2 : ∀ y : Fin 256, ∀ j : Fin 8, ∀ c : Fin 2, ((y : Nat) : Int) < 2 ^ (j : Nat) → bits .or .u8 ((y : Nat) : Int) (((c : Nat) : Int) * 2 ^ (j : Nat) % 256) = ((y : Nat) : Int) + ((c : Nat) : Int) * 2 ^ (j : Nat) := by decide +kernel
theorem or_bit (y x : Int) (j : Nat) (y0 : 0 ≤ y) (y1 : y < 2 ^ j) (hj : j < 8) (x0 : 0 ≤ x) (x1 : x < 2 ^ 62) : bits .or .u8 y (bits .and .i64 x 1 % 256 * 2 ^ j % 256) = y + x % 2 * 2 ^ j := by
  have h12 : (2 : Int) ^ j ≤ 2 ^ 7 := by exact_mod_cast Nat.pow_le_pow_right (by decide) (show j ≤ 7 by omega)
  rw [and_one x x0 x1, Int.emod_eq_of_lt (a := x % 2) (b := 256) (by omega) (by omega)]
  obtain ⟨fy, hy⟩ := fin256 y y0 (by omega)
  obtain ⟨fj, rfl⟩ := fin8 j hj
  obtain ⟨c, hc⟩ : ∃ c : Fin 2, ((c : Nat) : Int) = x % 2 := ⟨⟨(x % 2).toNat, by omega⟩, by simp; omega⟩
  rw [← hc, ← hy]
  exact byte_or2 fy fj c (by rw [hy]; exact y1)
/-- What the loop of the writer's Bits keeps. -/
structure BInv (w wr : World) (f : Nat → Prop) (g : Nat) (e er : E) (f' : Nat → Prop) (vt vr : Value) : Prop where
  at_ : EAt wr f' g er vt vr
  chg : Chg w wr f
  ext : Ext w f f'
set_option maxHeartbeats 2000000 in
set_option maxRecDepth 100000 in
theorem ebits_calls (w : World) (f : Nat → Prop) (g : Nat) (e : E) (v n : Int) (h : EncAt w f g e) (hk : EOk e) (hr : ERaw e) (v0 : 0 ≤ v) (n0 : 0 ≤ n) (n1 : n ≤ 24) (v1 : v < 2 ^ n.toNat) (hb : e.rawBits ≤ 1000000000) :
    Calls Try.prog 130 #[.pointer (some ⟨g, 0, none⟩), .int .i64 v, .int .i64 n] w fun r w' => r = .returned (.int .i64 0) ∧ ∃ f', EncAt w' f' g (e.bits v n) ∧ Chg w w' f ∧ Ext w f f' := by
  have HH := Aside0.mk (And.intro h (And.intro hk hr))
  obtain ⟨vt, vr, hE⟩ := h
  have HI : Aside0 (BInv w w f g e e f vt vr) := ⟨⟨hE, Chg.refl _ _, Ext.refl _ _⟩⟩
  have hp1 : (1 : Int) ≤ 2 ^ n.toNat := by exact_mod_cast Nat.one_le_two_pow
  have hp2 : (2 : Int) ^ n.toNat ≤ 2 ^ 24 := by exact_mod_cast Nat.pow_le_pow_right (by decide) (show n.toNat ≤ 24 by omega)
  have m1 : IntKind.i64.wrap (1 * 2 ^ n.toNat) = 2 ^ n.toNat := by rw [Int.one_mul]; exact IntWalk.i64_in _ (by omega)
  have b1 : decide (n < 0) = false := decide_eq_false (by omega)
  have b2 : decide (24 < n) = false := decide_eq_false (by omega)
  have b3 : decide (v < 0) = false := decide_eq_false (by omega)
  have b4 : decide (2 ^ n.toNat ≤ v) = false := decide_eq_false (by omega)
  clear hE hk hr
  go_enter Try.func130, Try.ntmps130
  go_wp2_with fail
  go_loopg [25] n.toNat (fun k u25 wr => ∃ (i : Nat) (f' : Nat → Prop) (vt' vr' : Value), u25 = .int .i64 (i : Int) ∧ k + i = n.toNat ∧ Aside0 (BInv w wr f g e (E.bitsL e v i) f' vt' vr'))
  case atStart => exact ⟨0, f, vt, vr, rfl, rfl, HI⟩
  case round =>
    clear HI m1 b1 b2 b3 b4
    obtain ⟨i, f', vt', vr', rfl, hki, HR⟩ := hrel
    by_cases hi : i < n.toNat
    · have hin : (i : Int) < n := by omega
      have B := bitsL_ok e v HH.out.2.2 v0 i
      have hrb0 := B.rb
      have hb0 := HH.out.2.2.b0
      have HB := Aside0.mk B
      have RO := room_ok _ B.ok
      have HRO := Aside0.mk RO
      obtain ⟨ei, hei⟩ : ∃ ei, ei = E.bitsL e v i := ⟨_, rfl⟩
      rw [← hei] at HB HRO HR hrb0
      obtain ⟨rb, hrb⟩ : ∃ rb, rb = ei.rawBits := ⟨_, rfl⟩
      rw [← hrb] at hrb0
      have rb0 : 0 ≤ rb := by omega
      have rb1 : rb ≤ 1000000024 := by omega
      have HRB := Aside0.mk hrb0
      clear hrb0
      have HN := Aside0.mk (And.intro hei hrb)
      clear B RO hei hrb
      have k4 : wr.cell? ⟨g, 4, none⟩ = some (.int .i64 rb) := by rw [HN.out.2]; exact HR.out.at_.c4
      have k3 := HR.out.at_.c3
      have z3 := HR.out.at_.fz 3
      have hraw : ei.raw.length ≤ 1000000000 := by have := HB.out.ok.len; have := HN.out.2; omega
      by_cases hc : rb % 8 = 0
      case' pos =>
        have HO := Aside0.mk HR.out.at_.orw
        have hgs : g < wr.heap.size := HR.out.at_.lt g HR.out.at_.hg
        go_wp2_with (at_builtin; refine app1 rfl (.tmp 38) (.tmp 39) 26 5 .u8 1 rfl Try.underlying26 info5 (by omega) vr' ei.raw 0 rfl rfl HO.out (by omega) ?_; intro v1 w1 ho hc1 hx1; obtain ⟨b, cap, hv1⟩ := own_pos ho (by simp); rw [List.length_append, List.length_singleton] at hv1; subst hv1; have hb1 := hc1.blk HR.out.at_.blk HR.out.at_.rne; obtain ⟨_, _, _, q3, q4, _, qf⟩ := ecell hb1; have q3f := qf 3; have HA := Aside0.mk (HR.out.at_.rawn ho hc1 hx1); clear qf)
        have hroom : ei.room = ei.raw ++ [0] := by unfold E.room; rw [← HN.out.2, if_pos hc]
        have hm : ei.raw.length + 1 = ei.room.length := by rw [hroom]; simp
        have hcf := HR.out.ext
        have HW : Aside0 (EAt (w1.setCell ⟨g, 3, none⟩ (.slice (some ⟨b, 0, none⟩) (ei.raw.length + 1) cap)) (fun k => f' k ∨ blkOf (.slice (some ⟨b, 0, none⟩) (ei.raw.length + 1) cap) k) g { ei with raw := ei.room } vt' (.slice (some ⟨b, 0, none⟩) (ei.raw.length + 1) cap)
            ∧ Chg w (w1.setCell ⟨g, 3, none⟩ (.slice (some ⟨b, 0, none⟩) (ei.raw.length + 1) cap)) f ∧ Ext w f (fun k => f' k ∨ blkOf (.slice (some ⟨b, 0, none⟩) (ei.raw.length + 1) cap) k)) := by
          refine ⟨by rw [hroom]; exact HA.out, ?_, ?_⟩
          · refine Chg.setCell ?_ (p := ⟨g, 3, none⟩) (hcf g HR.out.at_.hg) _
            exact HR.out.chg.trans hc1 (fun k hk => hcf k (HR.out.at_.hr k hk))
          · intro k hk
            rcases hk with hk | hk
            · exact hcf k hk
            · rcases hx1 k hk with h9 | h9
              · exact hcf k (HR.out.at_.hr k h9)
              · exact .inr (Nat.le_trans HR.out.chg.size h9)
        generalize w1.setCell ⟨g, 3, none⟩ (.slice (some ⟨b, 0, none⟩) (ei.raw.length + 1) cap) = W at HW ⊢
        generalize (fun k => f' k ∨ blkOf (.slice (some ⟨b, 0, none⟩) (ei.raw.length + 1) cap) k) = f2 at HW
        rw [hm] at HW ⊢
        clear HA HO hb1 q3 q4 q3f hc1 hx1 ho hroom hcf k3 k4 z3 hc
      case' neg =>
        have hroom : ei.room = ei.raw := by unfold E.room; rw [← HN.out.2, if_neg hc]
        have hpos : 0 < ei.raw.length := by have := HB.out.ok.len; have := HN.out.2; omega
        obtain ⟨b, cap, hv1⟩ := own_pos HR.out.at_.orw hpos
        have hcb : (rb % 8 == 0) = false := by simpa using hc
        have hm : ei.raw.length = ei.room.length := by rw [hroom]
        have HW : Aside0 (EAt wr f' g { ei with raw := ei.room } vt' (.slice (some ⟨b, 0, none⟩) ei.room.length cap) ∧ Chg w wr f ∧ Ext w f f') := ⟨by rw [hroom, ← hv1]; exact HR.out.at_, HR.out.chg, HR.out.ext⟩
        subst hv1
        clear hc
        go_wp2_with fail
        rw [hm] at k3
        clear k3 k4 z3 hroom hcb
        obtain ⟨f2, hf2⟩ : ∃ f2, f2 = f' := ⟨_, rfl⟩
        rw [← hf2] at HW
        clear hf2
        obtain ⟨W, rfl⟩ : ∃ W, W = wr := ⟨_, rfl⟩
      all_goals
        have q0 := HRO.out.2.1
        rw [← HN.out.2] at q0
        have c3 := HW.out.1.c3
        have c4 : W.cell? ⟨g, 4, none⟩ = some (.int .i64 rb) := by have := HW.out.1.c4; rw [HN.out.2]; exact this
        have z4 := HW.out.1.fz 4
        obtain ⟨cr, zr⟩ := own_at HW.out.1.orw (rb / 8) (by omega) (by omega)
        have hq : 0 ≤ v / 2 ^ i ∧ v / 2 ^ i ≤ v := ⟨Int.ediv_nonneg v0 (by have := p2 i; omega), Int.ediv_le_self _ v0⟩
        have HV : Aside0 (bits .or .u8 (rd ei.room (rb / 8)) (bits .and .i64 (v / 2 ^ i) 1 % 256 * 2 ^ (rb % 8).toNat % 256) = rd ei.room (rb / 8) + v / 2 ^ i % 2 * 2 ^ (rb % 8).toNat) :=
          ⟨or_bit _ _ _ (by rw [HN.out.2]; exact HRO.out.2.2.2.2.1) (by rw [HN.out.2]; exact HRO.out.2.2.2.2.2) (by omega) hq.1 (by omega)⟩
        obtain ⟨q, hqq⟩ : ∃ q : Nat, q = (rb / 8).toNat := ⟨_, rfl⟩
        have HQ := Aside0.mk hqq
        have HX : Aside0 (EAt ((W.setCell ⟨b, (rb / 8).toNat, none⟩ (.int .u8 (rd ei.room (rb / 8) + v / 2 ^ i % 2 * 2 ^ (rb % 8).toNat))).drew) f2 g { ei with raw := ei.room.set (rb / 8).toNat (rd ei.room (rb / 8) + v / 2 ^ i % 2 * 2 ^ (rb % 8).toNat) } vt' (.slice (some ⟨b, 0, none⟩) ei.room.length cap)
            ∧ Chg w ((W.setCell ⟨b, (rb / 8).toNat, none⟩ (.int .u8 (rd ei.room (rb / 8) + v / 2 ^ i % 2 * 2 ^ (rb % 8).toNat))).drew) f ∧ Ext w f f2) := by
          refine ⟨(HW.out.1.rset rfl _ _).drew, ?_, HW.out.2.2⟩
          refine Chg.drew ?_
          exact HW.out.2.1.setCell (p := ⟨b, (rb / 8).toNat, none⟩) (HW.out.2.2 b (HW.out.1.hr b rfl)) _
        clear hqq
        go_region
        rw [HV.out]
        clear c3 c4 z4 cr zr hq
        generalize (W.setCell ⟨b, (rb / 8).toNat, none⟩ (.int .u8 (rd ei.room (rb / 8) + v / 2 ^ i % 2 * 2 ^ (rb % 8).toNat))).drew = W2 at HX ⊢
        have c4 : W2.cell? ⟨g, 4, none⟩ = some (.int .i64 rb) := by have := HX.out.1.c4; rw [HN.out.2]; exact this
        have z4 := HX.out.1.fz 4
        have HF : Aside0 (BInv w (W2.setCell ⟨g, 4, none⟩ (.int .i64 (rb + 1))) f g e (E.bitsL e v (i + 1)) f2 vt' (.slice (some ⟨b, 0, none⟩) ei.room.length cap)) := by
          have e9 : E.bitsL e v (i + 1) = { ei with raw := ei.room.set (rb / 8).toNat (rd ei.room (rb / 8) + v / 2 ^ i % 2 * 2 ^ (rb % 8).toNat), rawBits := rb + 1 } := by
            show (E.bitsL e v i).bit1 (v / 2 ^ i % 2) = _
            rw [← HN.out.1, HN.out.2]; rfl
          rw [e9]
          exact ⟨HX.out.1.pbits _, HX.out.2.1.setCell (p := ⟨g, 4, none⟩) (HX.out.2.2 g HX.out.1.hg) _, HX.out.2.2⟩
        clear HX HW HV
        go_wp2_with fail
        go_roundg (gk - 1)
        case measure => omega
        case rel => exact ⟨i + 1, f2, vt', _, by go_num, by omega, HF⟩
    · have hin : i = n.toNat := by omega
      have c5 := HR.out.at_.c5
      have z5 := HR.out.at_.fz 5
      have B := bitsL_ok e v HH.out.2.2 v0 i
      have k0 := HH.out.2.1.c0
      have k1 := HH.out.2.1.c1
      rw [B.cnt] at c5
      have HF : Aside0 (∃ f', EncAt (wr.setCell ⟨g, 5, none⟩ (.int .i64 (e.count + n))) f' g (e.bits v n) ∧ Chg w (wr.setCell ⟨g, 5, none⟩ (.int .i64 (e.count + n))) f ∧ Ext w f f') := by
        refine ⟨f', ⟨vt', vr', ?_⟩, HR.out.chg.setCell (p := ⟨g, 5, none⟩) (HR.out.ext g HR.out.at_.hg) _, HR.out.ext⟩
        have := HR.out.at_.pcount (e.count + n)
        unfold E.bits
        rw [← hin]
        exact this
      have hni : n ≤ i := by omega
      clear HR B hin
      go_wp2_with fail
      go_returns
      exact ⟨rfl, HF.out⟩
end Go.Proofs.Ytiabenmgbikllaa.M

-- R4
namespace Go.Proofs.Ytiabenmgbikllaa.M
set_option linter.unusedVariables false
open Go.RowKit Go.Proofs.YtiabenmgbikllaaW.PrintWords Go.Proofs.YtiabenmgbikllaaW.PrintLast Go.Proofs.YtiabenmgbikllaaW.PrintMore Go.Proofs.Ytiabenmgbikllaa.PAll

/-- What holds of a writer that wrote little. -/
structure EGood (e : E) (m : Nat) : Prop where
  ok : EOk e
  w : EW e
  raw : ERaw e
  cnt : e.count = 33 + 8 * e.told.length + e.rawBits
  t : e.told.length ≤ m
  r : e.rawBits ≤ m
theorem EGood.okr {e : E} {m : Nat} (h : EGood e m) : EOkR e := ⟨h.raw.b0, h.raw.len, h.cnt, h.w.tb, h.raw.rb⟩
theorem EGood.mono {e : E} {m n : Nat} (h : EGood e m) (k : m ≤ n) : EGood e n := ⟨h.ok, h.w, h.raw, h.cnt, Nat.le_trans h.t k, by have := h.r; omega⟩
theorem EGood.new : EGood E.new 0 := ⟨EOk.new, ⟨fun x hx => by simp [E.new] at hx, by decide⟩, ⟨by decide, by decide, fun x hx => by simp [E.new] at hx, by decide⟩, by decide, by decide, by decide⟩
theorem take_good (e : E) (m : Nat) (h : EGood e m) (fl fh ft : Int) (h0 : 0 ≤ fl) (h1 : fl < fh) (h2 : fh ≤ ft) (h3 : ft ≤ 32768) (hm : m ≤ 1000000000) : EGood (e.take fl fh ft) (m + 3) := by
  obtain ⟨w, ew, r1, r2⟩ := etake_facts e h.ok h.w fl fh ft h0 h1 h2 h3
  obtain ⟨q1, q2, q3, q4, q5, q6⟩ := take0_low e fl fh ft
  have hs := steps_le 3 (take0 e fl fh ft).rng
  have hlen := w.len
  have hcnt := w.cnt
  rw [q3] at hlen
  rw [q4] at hcnt
  have ht := h.t
  have hr := h.r
  have hc := h.cnt
  have hb0 := h.raw.b0
  refine ⟨⟨r1, r2, w.v0, by have := w.v1; omega, by omega, by omega, by omega⟩, ew, ?_, ?_, by omega, ?_⟩
  · obtain ⟨b0, bl, bb, blt⟩ := h.raw
    exact ⟨by rw [w.rb, q6]; exact b0, by rw [w.raw, w.rb, q5, q6]; exact bl, by rw [w.raw, q5]; exact bb, by rw [w.raw, w.rb, q5, q6]; exact blt⟩
  · rw [w.rb, q6]; omega
  · rw [w.rb, q6]; omega
theorem bits_good (e : E) (m : Nat) (h : EGood e m) (v n : Int) (v0 : 0 ≤ v) (n0 : 0 ≤ n) (n1 : n ≤ 24) (hm : m ≤ 1000000000) : EGood (e.bits v n) (m + 24) := by
  obtain ⟨b1, b2, b3, b4, b5, b6, b7⟩ := bitsL_ok e v h.raw v0 n.toNat
  obtain ⟨o1, o2, o3, o4, o5, o6, o7⟩ := h.ok
  have ht := h.t
  have hr := h.r
  have hc := h.cnt
  have e1 : (e.bits v n).told = e.told := b4
  have e2 : (e.bits v n).val = e.val := b5
  have e3 : (e.bits v n).rng = e.rng := b6
  have e4 : (e.bits v n).count = e.count + n := rfl
  have e5 : (e.bits v n).rawBits = e.rawBits + n.toNat := b3
  have hb0 := h.raw.b0
  have hlow : (e.bits v n).low = e.low := by unfold E.low; rw [e1, e2]
  refine ⟨⟨by rw [e3]; exact o1, by rw [e3]; exact o2, by rw [e2]; exact o3, by rw [e2]; exact o4, by rw [e1]; exact o5, by rw [e4]; omega, by rw [e4]; omega⟩, ⟨by rw [e1]; exact h.w.tb, by rw [hlow, e1, e3]; exact h.w.top⟩, ?_, by rw [e4, e1, e5]; omega, by rw [e1]; omega, by rw [e5]; omega⟩
  obtain ⟨c1, c2, c3, c4⟩ := b1
  exact ⟨c1, c2, c3, c4⟩
/-- The bytes are a code of what the writer wrote. -/
structure Code (b : List Int) (e : E) : Prop where
  inn : In b e
  raw : num b % 2 ^ e.rawBits.toNat = numR e.raw
theorem done_code (e : E) (m : Nat) (h : EGood e m) (n : Nat) (hfit : e.tell ≤ 8 * n) : Code (e.done n) e ∧ Bytes (e.done n) ∧ (e.done n).length = n := by
  obtain ⟨d1, d2, d3, d4⟩ := done_ok e h.ok h.okr h.w n hfit
  refine ⟨⟨d3, ?_⟩, d1, d2⟩
  rw [d4]
  refine Int.emod_eq_of_lt ?_ h.raw.lt
  exact (num_range e.raw.reverse (fun x hx => h.raw.rb x (List.mem_reverse.1 hx))).1
end Go.Proofs.Ytiabenmgbikllaa.M
